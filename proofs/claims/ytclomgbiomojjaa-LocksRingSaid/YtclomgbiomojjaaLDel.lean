/- The walk of slices.DeleteFunc at rows of api.Hold of the call's own, for any predicate that lays no more than new memory. -/
import Derived.Test.YtclomgbiomojjaaQx0
import Derived.Test.YtclomgbiomojjaaNHold
import Derived.Laws.NewBlocks
import Derived.Test.YtclomgbiomojjaaIHold
import Derived.Lib.SliceRun
import Derived.WalkLawsBesides
import Derived.Lib.Hide
import Derived.Deep.LoopGhost
/- Rows of one's own of api.Hold: slices.Insert in rows' words, a store of a whole element. -/
namespace Go.Proofs.Ytclomgbiomojjaa.OHold
open Go Go.RowKit Go.Shelf Go.Proofs Go.Proofs.Ytclomgbiomojjaa.Q Go.Proofs.YtclomgbiomojjaaW.PrintWords Go.Proofs.YtclomgbiomojjaaW.PrintLast Go.Proofs.YtclomgbiomojjaaW.PrintMore

theorem stepH {W w' : World} {k : Nat} {o : Obj} (h : W.heap[k]? = some o) (hb : Below W.heap.size W w') : w'.heap[k]? = some o := (hb.block k (blk_lt h)).trans h
abbrev enc (x : S34) : List Value := [.string x.f0, .int .i64 x.f1, .int .i64 x.f2]
theorem M_any {w w' : World} {b b' : Nat} {ok ok' : Nat → Prop} {x : S34} {cs : List Value} (h : k34.M w b ok x cs) : k34.M w' b' ok' x cs := by
  have := k34_openM h
  rw [this]
  exact k34_mkM w' b' ok' x
theorem reps_one {R : S34 → List Value → Prop} {x : S34} {cs : List Value} (h : R x cs) (hl : cs.length = 3) : Reps R 3 [x] cs := by
  refine ⟨by simp [hl], fun j p hj => ?_⟩
  cases j with
  | zero =>
    simp at hj
    subst hj
    rw [Nat.zero_mul, List.drop_zero, List.take_of_length_le (by omega)]
    exact h
  | succ j => simp at hj
theorem inner_one {w : World} {b : Nat} {ok : Nat → Prop} {xs : List S34} {inner : List Value} (h : Reps (k34.M w b ok) 3 xs inner) : ∀ u ∈ inner, u.oneCell' = true := by
  intro u hu
  obtain ⟨q, hq, rfl⟩ := List.mem_iff_getElem.1 hu
  have hql : q / 3 < xs.length := by have := h.1; omega
  have hc := h.2 (q / 3) _ (List.getElem?_eq_getElem hql)
  refine k34.K_one (k34.K_of_M hc) _ ?_
  rw [List.mem_iff_getElem?]
  refine ⟨q % 3, ?_⟩
  rw [List.getElem?_take, if_pos (Nat.mod_lt _ (by omega)), List.getElem?_drop, Nat.mul_comm, Nat.div_add_mod, List.getElem?_eq_getElem hq]
theorem R_form {w : World} {base : Nat} {v : Value} {xs : List S34} (h : Kd.R k34 34 w base (fun _ => True) v xs) (hp : 0 < xs.length) : ∃ g cap cur, v = .slice (some ⟨g, 0, none⟩) xs.length cap ∧ base ≤ g ∧ xs.length ≤ cap ∧ cap ≤ 9223372036854775807 ∧ w.heap[g]? = some (.cells cur 34 (0, 0)) := by
  obtain ⟨_, inner, ⟨h1, h2⟩, _⟩ := h
  rcases h2 with ⟨_, h3⟩ | ⟨g, cap, cur, hv, hg, hh, hn, hm, _⟩
  · omega
  · exact ⟨g, cap, cur, hv, hg, hn, by unfold maxLen at hm; omega, hh⟩
/-- slices.Insert, in rows' words. -/
theorem insert_R (base : Nat) (v : Value) (xs : List S34) (x : S34) (i vb vc : Nat) (w : World) (hR : Kd.R k34 34 w base (fun _ => True) v xs) (hbase : base ≤ w.heap.size) (hi : i ≤ xs.length) (hn : xs.length ≤ 1000)
    (hv : w.heap[vb]? = some (.cells (enc x).toArray 34 (0, 0))) (hne : some vb ≠ v.ownBlock) :
    Calls Try.prog 33 #[v, .int .i64 i, .slice (some ⟨vb, 0, none⟩) 1 vc] w fun e w' => ∃ v', e = .returned v' ∧ Kd.R k34 34 w' base (fun _ => True) v' (xs.take i ++ [x] ++ xs.drop i) ∧ Below base w w' := by
  obtain ⟨_, inner, hown, hreps⟩ := hR
  have h1v : ∀ u ∈ enc x, u.oneCell' = true := fun u hu => k34.K_one (k34_mk w x) u hu
  refine (NHold.insert_calls base v xs.length i vb vc inner (enc x) 34 w hown hbase hi (by omega) rfl hv hne (inner_one hreps) h1v).mono ?_
  rintro e w' ⟨v', rfl, ho, hb⟩
  refine ⟨v', rfl, ⟨fun _ _ => trivial, inner.take (i * 3) ++ enc x ++ inner.drop (i * 3), ?_, ?_⟩, hb⟩
  · have : (xs.take i ++ [x] ++ xs.drop i).length = xs.length + 1 := by simp; omega
    rw [this]; exact ho
  · have r1 := (Kd.reps_take (m := i) hreps hi).imp_ (fun _ _ h => M_any (w' := w') (b' := base) (ok' := fun k => True ∧ some k ≠ v'.ownBlock) h)
    have r2 := (Kd.reps_drop (m := i) hreps).imp_ (fun _ _ h => M_any (w' := w') (b' := base) (ok' := fun k => True ∧ some k ≠ v'.ownBlock) h)
    exact Kd.reps_append (Kd.reps_append r1 (reps_one (k34_mkM _ _ _ x) rfl)) r2
theorem list_store {α : Type} (cur inner e : List α) (n a : Nat) (hct : cur.take n = inner) (hl : e.length = 3) (hin : inner.length = n) (ha : a + 3 ≤ n) :
    (cur.take a ++ e ++ cur.drop (a + e.length)).take n = inner.take a ++ e ++ inner.drop (a + 3) := by
  have e2 : cur.take a = inner.take a := by rw [← hct, List.take_take]; congr 1; omega
  have hA : (inner.take a ++ e).length = a + 3 := by rw [List.length_append, List.length_take, hin, hl]; omega
  have e3 : inner.drop (a + 3) = (cur.drop (a + 3)).take (n - (a + 3)) := by rw [← hct, List.drop_take]
  rw [e2, e3, hl, List.take_append, hA, List.take_of_length_le (by omega)]
theorem own_store {base g n cap i m : Nat} {inner e : List Value} {w : World} (h : w.ownsRow base 34 3 (.slice (some ⟨g, 0, none⟩) n cap) m inner) (hi : i < m) (he : e.length = 3) :
    (w.setCells g (i * 3) e).ownsRow base 34 3 (.slice (some ⟨g, 0, none⟩) n cap) m (inner.take (i * 3) ++ e ++ inner.drop (i * 3 + 3)) := by
  obtain ⟨hl, h2⟩ := h
  rcases h2 with ⟨h3, _⟩ | ⟨g', cap', cur, hv, hg, hh, hn, hm, hcz, hct⟩
  · cases h3
  · cases hv
    obtain ⟨c1, k1, k2, k3⟩ := setCells_row e (i * 3) w cur hh (by omega)
    refine ⟨?_, .inr ⟨g, cap, c1, rfl, hg, k1, hn, hm, by rw [k2, hcz], ?_⟩⟩
    · rw [List.length_append, List.length_append, List.length_take, List.length_drop, hl, he]; omega
    · rw [k3]
      exact list_store cur.toList inner e _ (i * 3) hct he hl (by omega)
/-- A store of a whole element into a row of one's own. -/
theorem store_R {base g n cap i : Nat} {xs : List S34} (x : S34) {w : World} (hR : Kd.R k34 34 w base (fun _ => True) (.slice (some ⟨g, 0, none⟩) n cap) xs) (hi : i < xs.length) :
    Kd.R k34 34 (w.setCells g (i * 3) (enc x)) base (fun _ => True) (.slice (some ⟨g, 0, none⟩) n cap) (xs.set i x) := by
  obtain ⟨_, inner, hown, hreps0⟩ := hR
  have hreps : Reps (k34.M w base (fun k => True ∧ some k ≠ (Value.slice (some ⟨g, 0, none⟩) n cap).ownBlock)) 3 xs inner := hreps0
  clear hreps0
  have e1 : xs.set i x = xs.take i ++ [x] ++ xs.drop (i + 1) := by rw [List.set_eq_take_append_cons_drop, if_pos hi]; simp
  have ho := own_store (e := enc x) hown hi rfl
  have r1 := (Kd.reps_take (m := i) hreps (by omega)).imp_ (fun _ _ h => M_any (w' := w.setCells g (i * 3) (enc x)) (b' := base) (ok' := fun k => True ∧ some k ≠ (Value.slice (some ⟨g, 0, none⟩) n cap).ownBlock) h)
  have r2 := (Kd.reps_drop (m := i + 1) hreps).imp_ (fun _ _ h => M_any (w' := w.setCells g (i * 3) (enc x)) (b' := base) (ok' := fun k => True ∧ some k ≠ (Value.slice (some ⟨g, 0, none⟩) n cap).ownBlock) h)
  have r3 := Kd.reps_append (Kd.reps_append r1 (reps_one (k34_mkM (w.setCells g (i * 3) (enc x)) base (fun k => True ∧ some k ≠ (Value.slice (some ⟨g, 0, none⟩) n cap).ownBlock) x) rfl)) r2
  rw [← e1, show (i + 1) * 3 = i * 3 + 3 by omega] at r3
  refine ⟨fun _ _ => trivial, inner.take (i * 3) ++ enc x ++ inner.drop (i * 3 + 3), ?_, r3⟩
  rw [List.length_set]
  exact ho

theorem ins_set {α : Type} (l : List α) (i : Nat) (x : α) (h : i ≤ l.length) : (l.take i ++ [x] ++ l.drop i).set i x = l.take i ++ x :: l.drop i := by
  rw [List.append_assoc, List.set_append_right _ _ (by rw [List.length_take]; omega), List.length_take, Nat.min_eq_left h, Nat.sub_self]
  rfl

end Go.Proofs.Ytclomgbiomojjaa.OHold
namespace Go.Proofs.Ytclomgbiomojjaa.LDel
open Go Go.RowKit Go.Shelf Go.Proofs Go.Proofs.Ytclomgbiomojjaa.Q Go.Proofs.Ytclomgbiomojjaa.IHold Go.Proofs.Ytclomgbiomojjaa.OHold Go.Proofs.YtclomgbiomojjaaW.PrintWords Go.Proofs.YtclomgbiomojjaaW.PrintLast Go.Proofs.YtclomgbiomojjaaW.PrintMore
set_option linter.unusedVariables false

abbrev zH : Value := .agg #[.string ⟨#[]⟩, .int .i64 0, .int .i64 0]
def zs : Nat → List Value
  | 0 => []
  | n + 1 => .string ⟨#[]⟩ :: .int .i64 0 :: .int .i64 0 :: zs n
theorem zs_len (n : Nat) : (zs n).length = n * 3 := by
  induction n with
  | zero => rfl
  | succ n ih => unfold zs; simp only [List.length_cons, ih]; omega
theorem zs_one (n : Nat) : ∀ v ∈ zs n, v.oneCell' = true := by
  induction n with
  | zero => intro v h; cases h
  | succ n ih =>
    intro v h
    unfold zs at h
    rcases List.mem_cons.1 h with rfl | h
    · rfl
    rcases List.mem_cons.1 h with rfl | h
    · rfl
    rcases List.mem_cons.1 h with rfl | h
    · rfl
    exact ih v h
theorem zs_get : ∀ (n j : Nat), j < n * 3 → (zs n)[j]? = #[Value.string ⟨#[]⟩, .int .i64 0, .int .i64 0][j % 3]?
  | 0, j, h => by omega
  | n + 1, 0, _ => rfl
  | n + 1, 1, _ => rfl
  | n + 1, 2, _ => rfl
  | n + 1, j + 3, h => by
    have := zs_get n j (by omega)
    rw [show (j + 3) % 3 = j % 3 by omega, ← this]
    rfl
theorem zeros_is (n : Nat) : (Builtin.zeroCells (Value.cells zH) n).toList = zs n := by
  apply List.ext_getElem?
  intro j
  rcases Nat.lt_or_ge j (n * 3) with h | h
  · rw [zs_get n j h]
    have h2 : j % 3 < 3 := Nat.mod_lt _ (by omega)
    have hz : Value.cells zH = #[Value.string ⟨#[]⟩, .int .i64 0, .int .i64 0] := rfl
    have hs : (Builtin.zeroCells (Value.cells zH) n).size = n * 3 := by simp [Builtin.zeroCells, hz]
    rw [Array.getElem?_toList, Array.getElem?_eq_getElem (by rw [hs]; exact h)]
    simp only [Builtin.zeroCells, hz]
    simp
    rw [List.getElem?_eq_getElem (by simpa using h2)]
    rfl
  · rw [List.getElem?_eq_none (l := zs n) (by rw [zs_len]; omega), List.getElem?_eq_none]
    have hz : Value.cells zH = #[Value.string ⟨#[]⟩, .int .i64 0, .int .i64 0] := rfl
    rw [Array.length_toList]
    simp [Builtin.zeroCells, hz]
    omega
theorem run_clear3 (w : World) (ty : TypeId) (g o n c : Nat) (hn : 0 < n) (hc : ∀ j, j < n * 3 → (w.cell? ⟨g, o + j, none⟩).isSome = true) (hf : ∀ j, j < n * 3 → w.frozen? ⟨g, o + j, none⟩ = false) :
    (Builtin.clear_ #[22] ty #[.slice (some ⟨g, o, none⟩) n c]).run Try.prog w = .ok (.tuple #[]) (w.setCells g o (zs n)) := by
  have hst := run_storeCells_cells (P := Try.prog) g o (zs n) 0 w (by rw [zs_len]; simpa using hc) (by rw [zs_len]; simpa using hf) (zs_one n)
  simp only [Nat.add_zero] at hst
  have hv : ∀ w, (zeroValue 34).run Try.prog w = .ok zH w := fun w => by kernel_rfl
  obtain ⟨m, rfl⟩ : ∃ m, n = m + 1 := ⟨n - 1, by omega⟩
  simp [Builtin.clear_, run_underlying Try.underlying22, hv, zeros_is, hst]
/-- Behind a clear of its end a row's beginning is a row of one's own. -/
theorem cut_R {base g n cap i : Nat} {xs : List S34} {w : World} (hR : Kd.R k34 34 w base (fun _ => True) (.slice (some ⟨g, 0, none⟩) n cap) xs) (hi : i ≤ xs.length) (hn : xs.length = n) :
    Kd.R k34 34 (w.setCells g (i * 3) (zs (n - i))) base (fun _ => True) (.slice (some ⟨g, 0, none⟩) i cap) (xs.take i) := by
  subst hn
  obtain ⟨_, inner, hown, hreps0⟩ := hR
  have hreps : Reps (k34.M w base (fun k => True ∧ some k ≠ (Value.slice (some ⟨g, 0, none⟩) xs.length cap).ownBlock)) 3 xs inner := hreps0
  clear hreps0
  have r1 := (Kd.reps_take (m := i) hreps (by omega)).imp_ (fun _ _ h => M_any (w' := w.setCells g (i * 3) (zs (xs.length - i))) (b' := base) (ok' := fun k => True ∧ some k ≠ (Value.slice (some ⟨g, 0, none⟩) i cap).ownBlock) h)
  refine ⟨fun _ _ => trivial, inner.take (i * 3), ?_, r1⟩
  have hown2 : w.ownsRow base 34 3 (.slice (some ⟨g, 0, none⟩) xs.length cap) xs.length inner := hown
  show (w.setCells g (i * 3) (zs (xs.length - i))).ownsRow base 34 3 (.slice (some ⟨g, 0, none⟩) i cap) (xs.take i).length (inner.take (i * 3))
  obtain ⟨hl, h2⟩ := hown2
  rcases h2 with ⟨h3, _⟩ | ⟨g', cap', cur, hv, hg, hh, hn', hm, hcz, hct⟩
  · cases h3
  · cases hv
    obtain ⟨c1, k1, k2, k3⟩ := setCells_row (zs (xs.length - i)) (i * 3) w cur hh (by rw [zs_len, hcz]; omega)
    have hlen : (xs.take i).length = i := by rw [List.length_take]; omega
    refine ⟨?_, .inr ⟨g, cap, c1, by rw [hlen], hg, k1, by rw [hlen]; omega, hm, by rw [k2, hcz], ?_⟩⟩
    · rw [List.length_take, hl, hlen]; omega
    · rw [k3, hlen, ← hct, List.take_take, Nat.min_eq_left (by omega)]
      have : (cur.toList.take (i * 3)).length = i * 3 := by rw [List.length_take, Array.length_toList, hcz]; omega
      rw [List.append_assoc, List.take_append_of_le_length (by omega), List.take_of_length_le (by omega)]
def F (p : S34 → Bool) (l : List S34) (j : Nat) : List S34 := (l.take j).filter (fun x => !p x)
theorem F_le (p : S34 → Bool) (l : List S34) (j : Nat) : (F p l j).length ≤ j := by
  have h1 := List.length_filter_le (fun x => !p x) (l.take j)
  have h2 := List.length_take_le j l
  unfold F
  omega
theorem F_next (p : S34 → Bool) (l : List S34) (j : Nat) (h : j < l.length) : F p l (j + 1) = F p l j ++ (if p (rd_T34 l (j : Int)) = true then [] else [rd_T34 l (j : Int)]) := by
  unfold F
  rw [List.take_succ_eq_append_getElem h, List.filter_append, rd_is l j h]
  congr 1
  cases e : p l[j] <;> simp [e]
def cur (p : S34 → Bool) (l : List S34) (j : Nat) : List S34 := F p l j ++ l.drop (F p l j).length
theorem cur_len (p : S34 → Bool) (l : List S34) (j : Nat) (h : j ≤ l.length) : (cur p l j).length = l.length := by
  have := F_le p l j
  unfold cur
  rw [List.length_append, List.length_drop]
  omega
theorem cur_at (p : S34 → Bool) (l : List S34) (j : Nat) (h : j < l.length) : rd_T34 (cur p l j) (j : Int) = rd_T34 l (j : Int) := by
  have hf := F_le p l j
  rw [rd_is _ j (by rw [cur_len p l j (by omega)]; exact h), rd_is l j h]
  unfold cur
  rw [List.getElem_append_right hf, List.getElem_drop]
  congr 1
  omega
theorem cur_keep (p : S34 → Bool) (l : List S34) (j : Nat) (h : j < l.length) (hp : p (rd_T34 l (j : Int)) = false) :
    (cur p l j).set (F p l j).length (rd_T34 l (j : Int)) = cur p l (j + 1) ∧ (F p l (j + 1)).length = (F p l j).length + 1 := by
  have hf := F_le p l j
  have e := F_next p l j h
  rw [hp, if_neg (by simp)] at e
  refine ⟨?_, by rw [e]; simp⟩
  unfold cur
  rw [e, List.set_append_right _ _ (Nat.le_refl _), Nat.sub_self, List.length_append]
  rw [List.drop_eq_getElem_cons (show (F p l j).length < l.length by omega), List.set_cons_zero, List.append_assoc]
  rfl
theorem cur_skip (p : S34 → Bool) (l : List S34) (j : Nat) (h : j < l.length) (hp : p (rd_T34 l (j : Int)) = true) : cur p l (j + 1) = cur p l j ∧ (F p l (j + 1)).length = (F p l j).length := by
  have e := F_next p l j h
  rw [hp, if_pos rfl, List.append_nil] at e
  unfold cur
  rw [e]
  exact ⟨rfl, rfl⟩
theorem cur_start (p : S34 → Bool) (l : List S34) (h : l.any p = true) : cur p l (l.findIdx p + 1) = l ∧ (F p l (l.findIdx p + 1)).length = l.findIdx p ∧ l.findIdx p < l.length := by
  have hlt := List.findIdx_lt_length_of_exists (List.any_eq_true.1 h)
  have hp : p (rd_T34 l ((l.findIdx p : Nat) : Int)) = true := by rw [rd_is l _ hlt]; exact List.findIdx_getElem
  have e := F_next p l (l.findIdx p) hlt
  rw [hp, if_pos rfl, List.append_nil] at e
  have e2 : F p l (l.findIdx p) = l.take (l.findIdx p) := by
    unfold F
    rw [List.filter_eq_self]
    intro x hx
    obtain ⟨k, hk, rfl⟩ := List.getElem_of_mem hx
    rw [List.length_take] at hk
    rw [List.getElem_take]
    have := List.not_of_lt_findIdx (p := p) (xs := l) (i := k) (by omega)
    simpa using this
  have e3 : (F p l (l.findIdx p + 1)).length = l.findIdx p := by rw [e, e2, List.length_take]; omega
  refine ⟨?_, e3, hlt⟩
  unfold cur
  rw [e3, e, e2, List.take_append_drop]
theorem F_all (p : S34 → Bool) (l : List S34) : F p l l.length = l.filter (fun x => !p x) ∧ (cur p l l.length).take (F p l l.length).length = l.filter (fun x => !p x) := by
  have e : F p l l.length = l.filter (fun x => !p x) := by unfold F; rw [List.take_length]
  refine ⟨e, ?_⟩
  unfold cur
  rw [List.take_left, e]
theorem F_none (p : S34 → Bool) (l : List S34) (h : l.any p = false) : l.filter (fun x => !p x) = l := by
  rw [List.filter_eq_self]
  intro x hx
  have := List.any_eq_false.1 h x hx
  simpa using this
end Go.Proofs.Ytclomgbiomojjaa.LDel
