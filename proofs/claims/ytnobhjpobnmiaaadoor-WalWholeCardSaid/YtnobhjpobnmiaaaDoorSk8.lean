/- A disk in memory: the walk of Write's closure: its loop. -/
import Derived.Test.YtnobhjpobnmiaaaDoorSk7
import Derived.StillTailTactics
import Derived.Outline
namespace Go.Proofs.YtnobhjpobnmiaaaDoor.Sk
open Go Go.RowKit Go.Maps Go.Proofs Go.Proofs.YtnobhjpobnmiaaaDoorW.PrintWords Go.Proofs.YtnobhjpobnmiaaaDoorW.PrintLast Go.Proofs.YtnobhjpobnmiaaaDoorW.PrintMore
set_option linter.unusedVariables false
set_option linter.unusedSimpArgs false

/-- the marks of the sectors below one -/
def marksTo (wet : List Bool) (k n i : Nat) : List Bool := wet.mapIdx fun j w => w || (touched k n j && decide (j < i))
theorem marksTo_len (wet : List Bool) (k n i : Nat) : (marksTo wet k n i).length = wet.length := by unfold marksTo; rw [List.length_mapIdx]
theorem marksTo_get (wet : List Bool) (k n i j : Nat) (h : j < wet.length) : (marksTo wet k n i).getD j false = (wet.getD j false || (touched k n j && decide (j < i))) := by
  unfold marksTo
  rw [List.getD_eq_getElem?_getD, List.getElem?_mapIdx, List.getD_eq_getElem?_getD, List.getElem?_eq_getElem h]
  rfl
theorem ext_getD {a b : List Bool} (hl : a.length = b.length) (h : ∀ j, j < a.length → a.getD j false = b.getD j false) : a = b := by
  apply List.ext_getElem hl
  intro j h1 h2
  have := h j h1
  rw [List.getD_eq_getElem?_getD, List.getD_eq_getElem?_getD, List.getElem?_eq_getElem h1, List.getElem?_eq_getElem h2] at this
  exact this
theorem marksTo_start (wet : List Bool) (k n : Nat) : marksTo wet k n (k / 16) = wet := by
  refine ext_getD (marksTo_len _ _ _ _) fun j hj => ?_
  rw [marksTo_len] at hj
  rw [marksTo_get _ _ _ _ _ hj]
  have : (touched k n j && decide (j < k / 16)) = false := by
    unfold touched
    by_cases c : j < k / 16
    · rw [show decide (k / 16 ≤ j) = false from decide_eq_false (by omega)]; simp
    · rw [show decide (j < k / 16) = false from decide_eq_false c]; simp
  rw [this, Bool.or_false]
theorem marksTo_end (wet : List Bool) (k n i : Nat) (h : k + n ≤ i * 16) : marksTo wet k n i = marks wet k n := by
  refine ext_getD (by rw [marksTo_len, marks_len]) fun j hj => ?_
  rw [marksTo_len] at hj
  rw [marksTo_get _ _ _ _ _ hj, marks_get _ _ _ _ hj]
  congr 1
  unfold touched
  by_cases c : j < i
  · rw [decide_eq_true c, Bool.and_true]
  · rw [show decide (j * 16 < k + n) = false from decide_eq_false (by omega)]; simp
theorem marksTo_same (wet : List Bool) (k n i : Nat) (hi : i < wet.length) (h : wet.getD i false = true ∨ n = 0) : marksTo wet k n (i + 1) = marksTo wet k n i := by
  refine ext_getD (by rw [marksTo_len, marksTo_len]) fun j hj => ?_
  rw [marksTo_len] at hj
  rw [marksTo_get _ _ _ _ _ hj, marksTo_get _ _ _ _ _ hj]
  rcases h with h | h
  · by_cases e : j = i
    · subst e; rw [h]; rfl
    · congr 2
      rw [decide_eq_decide]; omega
  · have : touched k n j = false := by unfold touched; rw [h]; rfl
    rw [this]; rfl
theorem marksTo_set (wet : List Bool) (k n i : Nat) (hi : i < wet.length) (hn : 0 < n) (h1 : k / 16 ≤ i) (h2 : i * 16 < k + n) : (marksTo wet k n i).set i true = marksTo wet k n (i + 1) := by
  refine ext_getD (by rw [List.length_set, marksTo_len, marksTo_len]) fun j hj => ?_
  rw [List.length_set, marksTo_len] at hj
  rw [set_getD _ _ _ _ _ (by rw [marksTo_len]; exact hi), marksTo_get _ _ _ _ _ hj, marksTo_get _ _ _ _ _ hj]
  split
  · next e =>
    subst e
    have : touched k n j = true := by unfold touched; rw [decide_eq_true hn, decide_eq_true h1, decide_eq_true h2]; rfl
    rw [this, decide_eq_true (by omega)]; simp
  · next e =>
    congr 2
    rw [decide_eq_decide]; omega
theorem info5 : (Tryd.prog.info? 5).map (·.size) = some 1 := by kernel_rfl
theorem infoP : (Tryd.prog.info? 72).map (·.size) = some 16 := by kernel_rfl
/-- a part is laid into a block of its own -/
theorem store_part {ops : Array Oper} {rest : List Oper} {o : Oper} {a : Act} {w : World} {Q : Exit → Act → World → Prop} (hgd : o.guard = none) (x y : Operand) (ho : o.op = .store 72 x y)
    {old cells : Array Value} (hx : a.eval x = .pointer (some ⟨w.heap.size, 0, none⟩)) (hy : a.eval y = .agg cells) (hs : cells.size = 16) (hold : old.size = 16) (h1 : cells.all (·.oneCell') = true)
    (h : ∀ w2, Below w.heap.size w w2 → wpList Tryd.prog ops Q rest (a.put o.dst undef) w2) : wpList Tryd.prog ops Q (o :: rest) a (w.alloc (.cells old 72)) := by
  refine wpList_store_row hgd 72 x y ho w.heap.size cells hx hy 72 old (blk_new w _) (by rw [hs]; exact infoP) (by rw [hold, hs]) h1 (h _ ?_)
  have hb := below_alloc (Below.refl w.heap.size w) (.cells old 72)
  exact ⟨hb.os, hb.tape, hb.output, by simp [World.setRow], fun k hk => (setRow_other _ _ k _ (by omega)).trans (hb.block k hk)⟩
/-- one block is as it was not -/
structure But (w w' : World) (g : Nat) : Prop where
  size : w'.heap.size = w.heap.size
  block : ∀ k, k ≠ g → w'.heap[k]? = w.heap[k]?
  os : w'.os = w.os
  tape : w'.tape = w.tape
  output : w'.output = w.output
/-- a row is copied into another one, met by a law -/
theorem copy_row {ops : Array Oper} {rest : List Oper} {o : Oper} {a : Act} {w : World} {Q : Exit → Act → World → Prop} (hgd : o.guard = none) (d s : Operand)
    (ho : o.op = .call { callee := .builtin .copy, args := #[d, s], argTypes := #[22, 22] }) {g off dLen dCap : Nat} {sp : Option Addr} {sLen sCap : Nat} (hd : a.eval d = .slice (some ⟨g, off, none⟩) dLen dCap) (hs : a.eval s = .slice sp sLen sCap)
    {cur : Array Value} {t : TypeId} (hg : w.heap[g]? = some (.cells cur t (0, 0))) (x : By) (hn : x.length = Nat.min sLen dLen) (hx : CB w sp x.length x) (hfit : off + x.length ≤ cur.size) {r : List Value} (hr : r = cur.toList.take off ++ (enc x ++ cur.toList.drop (off + x.length)))
    (h : ∀ w', w'.heap[g]? = some (.cells r.toArray t (0, 0)) → But w w' g → wpList Tryd.prog ops Q rest (a.put o.dst (goInt x.length)) w') : wpList Tryd.prog ops Q (o :: rest) a w := by
  have he : (enc x).length = x.length := by unfold enc; rw [List.length_map]
  by_cases h0 : x.length = 0
  · obtain rfl : x = [] := List.eq_nil_of_length_eq_zero h0
    refine wpList_copy_nothing hgd d s 22 22 ho 5 Tryd.underlying22 info5 _ _ _ _ _ _ hd hs (by simpa using hn.symm) (h w ?_ ⟨rfl, fun _ _ => rfl, rfl, rfl, rfl⟩)
    rw [hg, hr]
    simp [enc]
  · obtain ⟨ad, rfl, hc⟩ := hx.2.2 (by omega)
    refine wpList_copy_own hgd d s 22 22 ho 5 Tryd.underlying22 info5 g off dLen dCap ad sLen sCap hd hs cur t hg (enc x) (by rw [he]; exact hn) (fun j v hv => ?_) (by rw [he]; exact hfit) (fun v hv => ?_) ?_
    · rw [enc_get] at hv
      obtain ⟨y, hy, rfl⟩ := Option.map_eq_some_iff.1 hv
      obtain ⟨cs, k1, k2, k3⟩ := hc j y hy
      have k2 : cs = [.int .u8 y] := k2
      have := k3 0 (.int .u8 y) (by rw [k2]; rfl)
      have e : j * (Kd.int .u8).sz + 0 = j := by show j * 1 + 0 = j; omega
      rw [e] at this
      exact this
    · unfold enc at hv
      obtain ⟨y, _, rfl⟩ := List.mem_map.1 hv
      rfl
    · have e2 : goInt (enc x).length = goInt x.length := by rw [he]
      rw [e2]
      refine h _ ?_ ⟨by simp [World.setRow], fun k hk => setRow_other _ _ k _ hk, rfl, rfl, rfl⟩
      rw [hr, ← he]
      exact setRow_heap w g _ _ t _ hg
section
variable {W : World} {p g cap m : Nat} {s : D}
/-- what Write's closure has caught -/
structure Cap (W : World) (p qa qb qd k : Nat) (A : Option Addr) (n c : Nat) : Prop where
  a : W.heap[qa]? = some (.cells #[.int .i64 (k : Int)] 3 (0, 0))
  b : W.heap[qb]? = some (.cells #[.slice A n c] 22 (0, 0))
  d : W.heap[qd]? = some (.cells #[.pointer (some ⟨p, 0, none⟩)] 24 (0, 0))
theorem Cap.below {w' : World} {qa qb qd k : Nat} {A : Option Addr} {n c : Nat} (h : Cap W p qa qb qd k A n c) (hb : Below W.heap.size W w') : Cap w' p qa qb qd k A n c := ⟨blk_below h.a hb, blk_below h.b hb, blk_below h.d hb⟩
theorem Cap.fr {w' : World} {qa qb qd k : Nat} {A : Option Addr} {n c : Nat} (h : Cap W p qa qb qd k A n c) (hs : SR W p g cap m s) (hf : Fr W w' p g m) : Cap w' p qa qb qd k A n c := by
  obtain ⟨ext, hr, _⟩ := hs.row
  obtain ⟨n, D, hm, _⟩ := hs.map
  obtain ⟨es, cl, hk⟩ := own_kind hm.own
  have key : ∀ (q : Nat) (cs : Array Value) (t : TypeId), W.heap[q]? = some (.cells cs t (0, 0)) → t ≠ 55 → t ≠ 5 → w'.heap[q]? = some (.cells cs t (0, 0)) := fun q cs t hq h1 h2 =>
    (hf.block q (blk_lt hq) (blk_ne hq hs.blk h1) (blk_ne hq hr h2) (fun e => by subst e; rw [hq] at hk; cases hk)).trans hq
  exact ⟨key _ _ _ h.a (by decide) (by decide), key _ _ _ h.b (by decide) (by decide), key _ _ _ h.d (by decide) (by decide)⟩
theorem zero_of {x : By} (h : x.length = 16) : ∃ x0 x1 x2 x3 x4 x5 x6 x7 x8 x9 x10 x11 x12 x13 x14 x15, x = [x0, x1, x2, x3, x4, x5, x6, x7, x8, x9, x10, x11, x12, x13, x14, x15] := by
  rcases x with _ | ⟨x0, _ | ⟨x1, _ | ⟨x2, _ | ⟨x3, _ | ⟨x4, _ | ⟨x5, _ | ⟨x6, _ | ⟨x7, _ | ⟨x8, _ | ⟨x9, _ | ⟨x10, _ | ⟨x11, _ | ⟨x12, _ | ⟨x13, _ | ⟨x14, _ | ⟨x15, _ | ⟨x16, r⟩⟩⟩⟩⟩⟩⟩⟩⟩⟩⟩⟩⟩⟩⟩⟩⟩ <;> simp at h
  · exact ⟨_, _, _, _, _, _, _, _, _, _, _, _, _, _, _, _, rfl⟩
theorem CB.keep {w w' : World} {A : Option Addr} {n : Nat} {x : By} (h : CB w A n x) (hk : ∀ ad, A = some ad → 0 < n → w'.heap[ad.block]? = w.heap[ad.block]?) : CB w' A n x := by
  obtain ⟨h1, h2, h3⟩ := h
  refine ⟨h1, h2, fun hp => ?_⟩
  obtain ⟨ad, e, hc⟩ := h3 hp
  refine ⟨ad, e, fun j q hj => ?_⟩
  obtain ⟨cs, k1, k2, k3⟩ := hc j q hj
  refine ⟨cs, k1, k2, fun i u hu => ?_⟩
  have := k3 i u hu
  have hblk : (ad.add (j * (Kd.int .u8).sz + i)).block = ad.block := by unfold Addr.add; split <;> rfl
  rw [← this]
  unfold World.cell?
  rw [hblk, hk ad e hp]
theorem CB.fr {w' : World} {A : Option Addr} {n : Nat} {x : By} (h : CB W A n x) (hf : Fr W w' p g m) (hA : ∀ ad, A = some ad → 0 < n → ad.block ≠ p ∧ ad.block ≠ g ∧ ad.block ≠ m) (hlt : ∀ ad, A = some ad → 0 < n → ad.block < W.heap.size) : CB w' A n x :=
  CB.keep h fun ad e hp => hf.block _ (hlt ad e hp) (hA ad e hp).1 (hA ad e hp).2.1 (hA ad e hp).2.2
end
end Go.Proofs.YtnobhjpobnmiaaaDoor.Sk
