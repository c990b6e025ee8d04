/- Rows of one's own of api.Hold: slices.Insert in rows' words, a store of a whole element. -/
import Derived.Test.YtclomgbiomojjaaQx0
import Derived.Test.YtclomgbiomojjaaNHold
import Derived.Laws.NewBlocks
namespace Go.Proofs.Ytclomgbiomojjaa.OHold
open Go Go.RowKit Go.Shelf Go.Proofs Go.Proofs.Ytclomgbiomojjaa.Q Go.Proofs.YtclomgbiomojjaaW.PrintWords Go.Proofs.YtclomgbiomojjaaW.PrintLast Go.Proofs.YtclomgbiomojjaaW.PrintMore

theorem stepH {W w' : World} {k : Nat} {o : Obj} (h : W.heap[k]? = some o) (hb : Below W.heap.size W w') : w'.heap[k]? = some o := (hb.block k (blk_lt h)).trans h
abbrev enc (x : S34) : List Value := [.string x.f0, .int .i64 x.f1, .int .i64 x.f2]
theorem M_any {w w' : World} {b b' : Nat} {ok ok' : Nat → Prop} {x : S34} {cs : List Value} (h : k34.M w b ok x cs) : k34.M w' b' ok' x cs := by
  have := k34_openM h
  rw [this]
  exact k34_mkM w' b' ok' x
theorem reps_one {R : S34 → List Value → Prop} {x : S34} {cs : List Value} (h : R x cs) (hl : cs.length = 3) : Reps R 3 [x] cs := by
  refine ⟨by simp [hl], fun j p hj => ?_⟩
  cases j with
  | zero =>
    simp at hj
    subst hj
    rw [Nat.zero_mul, List.drop_zero, List.take_of_length_le (by omega)]
    exact h
  | succ j => simp at hj
theorem inner_one {w : World} {b : Nat} {ok : Nat → Prop} {xs : List S34} {inner : List Value} (h : Reps (k34.M w b ok) 3 xs inner) : ∀ u ∈ inner, u.oneCell' = true := by
  intro u hu
  obtain ⟨q, hq, rfl⟩ := List.mem_iff_getElem.1 hu
  have hql : q / 3 < xs.length := by have := h.1; omega
  have hc := h.2 (q / 3) _ (List.getElem?_eq_getElem hql)
  refine k34.K_one (k34.K_of_M hc) _ ?_
  rw [List.mem_iff_getElem?]
  refine ⟨q % 3, ?_⟩
  rw [List.getElem?_take, if_pos (Nat.mod_lt _ (by omega)), List.getElem?_drop, Nat.mul_comm, Nat.div_add_mod, List.getElem?_eq_getElem hq]
theorem R_form {w : World} {base : Nat} {v : Value} {xs : List S34} (h : Kd.R k34 34 w base (fun _ => True) v xs) (hp : 0 < xs.length) : ∃ g cap cur, v = .slice (some ⟨g, 0, none⟩) xs.length cap ∧ base ≤ g ∧ xs.length ≤ cap ∧ cap ≤ 9223372036854775807 ∧ w.heap[g]? = some (.cells cur 34 (0, 0)) := by
  obtain ⟨_, inner, ⟨h1, h2⟩, _⟩ := h
  rcases h2 with ⟨_, h3⟩ | ⟨g, cap, cur, hv, hg, hh, hn, hm, _⟩
  · omega
  · exact ⟨g, cap, cur, hv, hg, hn, by unfold maxLen at hm; omega, hh⟩
/-- slices.Insert, in rows' words. -/
theorem insert_R (base : Nat) (v : Value) (xs : List S34) (x : S34) (i vb vc : Nat) (w : World) (hR : Kd.R k34 34 w base (fun _ => True) v xs) (hbase : base ≤ w.heap.size) (hi : i ≤ xs.length) (hn : xs.length ≤ 1000)
    (hv : w.heap[vb]? = some (.cells (enc x).toArray 34 (0, 0))) (hne : some vb ≠ v.ownBlock) :
    Calls Try.prog 33 #[v, .int .i64 i, .slice (some ⟨vb, 0, none⟩) 1 vc] w fun e w' => ∃ v', e = .returned v' ∧ Kd.R k34 34 w' base (fun _ => True) v' (xs.take i ++ [x] ++ xs.drop i) ∧ Below base w w' := by
  obtain ⟨_, inner, hown, hreps⟩ := hR
  have h1v : ∀ u ∈ enc x, u.oneCell' = true := fun u hu => k34.K_one (k34_mk w x) u hu
  refine (NHold.insert_calls base v xs.length i vb vc inner (enc x) 34 w hown hbase hi (by omega) rfl hv hne (inner_one hreps) h1v).mono ?_
  rintro e w' ⟨v', rfl, ho, hb⟩
  refine ⟨v', rfl, ⟨fun _ _ => trivial, inner.take (i * 3) ++ enc x ++ inner.drop (i * 3), ?_, ?_⟩, hb⟩
  · have : (xs.take i ++ [x] ++ xs.drop i).length = xs.length + 1 := by simp; omega
    rw [this]; exact ho
  · have r1 := (Kd.reps_take (m := i) hreps hi).imp_ (fun _ _ h => M_any (w' := w') (b' := base) (ok' := fun k => True ∧ some k ≠ v'.ownBlock) h)
    have r2 := (Kd.reps_drop (m := i) hreps).imp_ (fun _ _ h => M_any (w' := w') (b' := base) (ok' := fun k => True ∧ some k ≠ v'.ownBlock) h)
    exact Kd.reps_append (Kd.reps_append r1 (reps_one (k34_mkM _ _ _ x) rfl)) r2
theorem list_store {α : Type} (cur inner e : List α) (n a : Nat) (hct : cur.take n = inner) (hl : e.length = 3) (hin : inner.length = n) (ha : a + 3 ≤ n) :
    (cur.take a ++ e ++ cur.drop (a + e.length)).take n = inner.take a ++ e ++ inner.drop (a + 3) := by
  have e2 : cur.take a = inner.take a := by rw [← hct, List.take_take]; congr 1; omega
  have hA : (inner.take a ++ e).length = a + 3 := by rw [List.length_append, List.length_take, hin, hl]; omega
  have e3 : inner.drop (a + 3) = (cur.drop (a + 3)).take (n - (a + 3)) := by rw [← hct, List.drop_take]
  rw [e2, e3, hl, List.take_append, hA, List.take_of_length_le (by omega)]
theorem own_store {base g n cap i m : Nat} {inner e : List Value} {w : World} (h : w.ownsRow base 34 3 (.slice (some ⟨g, 0, none⟩) n cap) m inner) (hi : i < m) (he : e.length = 3) :
    (w.setCells g (i * 3) e).ownsRow base 34 3 (.slice (some ⟨g, 0, none⟩) n cap) m (inner.take (i * 3) ++ e ++ inner.drop (i * 3 + 3)) := by
  obtain ⟨hl, h2⟩ := h
  rcases h2 with ⟨h3, _⟩ | ⟨g', cap', cur, hv, hg, hh, hn, hm, hcz, hct⟩
  · cases h3
  · cases hv
    obtain ⟨c1, k1, k2, k3⟩ := setCells_row e (i * 3) w cur hh (by omega)
    refine ⟨?_, .inr ⟨g, cap, c1, rfl, hg, k1, hn, hm, by rw [k2, hcz], ?_⟩⟩
    · rw [List.length_append, List.length_append, List.length_take, List.length_drop, hl, he]; omega
    · rw [k3]
      exact list_store cur.toList inner e _ (i * 3) hct he hl (by omega)
/-- A store of a whole element into a row of one's own. -/
theorem store_R {base g n cap i : Nat} {xs : List S34} (x : S34) {w : World} (hR : Kd.R k34 34 w base (fun _ => True) (.slice (some ⟨g, 0, none⟩) n cap) xs) (hi : i < xs.length) :
    Kd.R k34 34 (w.setCells g (i * 3) (enc x)) base (fun _ => True) (.slice (some ⟨g, 0, none⟩) n cap) (xs.set i x) := by
  obtain ⟨_, inner, hown, hreps0⟩ := hR
  have hreps : Reps (k34.M w base (fun k => True ∧ some k ≠ (Value.slice (some ⟨g, 0, none⟩) n cap).ownBlock)) 3 xs inner := hreps0
  clear hreps0
  have e1 : xs.set i x = xs.take i ++ [x] ++ xs.drop (i + 1) := by rw [List.set_eq_take_append_cons_drop, if_pos hi]; simp
  have ho := own_store (e := enc x) hown hi rfl
  have r1 := (Kd.reps_take (m := i) hreps (by omega)).imp_ (fun _ _ h => M_any (w' := w.setCells g (i * 3) (enc x)) (b' := base) (ok' := fun k => True ∧ some k ≠ (Value.slice (some ⟨g, 0, none⟩) n cap).ownBlock) h)
  have r2 := (Kd.reps_drop (m := i + 1) hreps).imp_ (fun _ _ h => M_any (w' := w.setCells g (i * 3) (enc x)) (b' := base) (ok' := fun k => True ∧ some k ≠ (Value.slice (some ⟨g, 0, none⟩) n cap).ownBlock) h)
  have r3 := Kd.reps_append (Kd.reps_append r1 (reps_one (k34_mkM (w.setCells g (i * 3) (enc x)) base (fun k => True ∧ some k ≠ (Value.slice (some ⟨g, 0, none⟩) n cap).ownBlock) x) rfl)) r2
  rw [← e1, show (i + 1) * 3 = i * 3 + 3 by omega] at r3
  refine ⟨fun _ _ => trivial, inner.take (i * 3) ++ enc x ++ inner.drop (i * 3 + 3), ?_, r3⟩
  rw [List.length_set]
  exact ho

theorem ins_set {α : Type} (l : List α) (i : Nat) (x : α) (h : i ≤ l.length) : (l.take i ++ [x] ++ l.drop i).set i x = l.take i ++ x :: l.drop i := by
  rw [List.append_assoc, List.set_append_right _ _ (by rw [List.length_take]; omega), List.length_take, Nat.min_eq_left h, Nat.sub_self]
  rfl

end Go.Proofs.Ytclomgbiomojjaa.OHold
