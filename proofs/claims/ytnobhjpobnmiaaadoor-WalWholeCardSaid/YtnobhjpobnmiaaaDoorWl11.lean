/- A log in memory: the walk of Open. -/
import Derived.Test.YtnobhjpobnmiaaaDoorWl10
import Derived.Test.YtnobhjpobnmiaaaDoorWlB
import Derived.Test.YtnobhjpobnmiaaaDoorWlQ
import Derived.Deep.Cut
import Derived.Deep.CutBlock
namespace Go.Proofs.YtnobhjpobnmiaaaDoor.Wl
open Go Go.RowKit Go.Maps Go.Proofs Go.Proofs.YtnobhjpobnmiaaaDoor.Sk Go.Proofs.YtnobhjpobnmiaaaDoorW.PrintWords Go.Proofs.YtnobhjpobnmiaaaDoorW.PrintLast Go.Proofs.YtnobhjpobnmiaaaDoorW.PrintMore
set_option linter.unusedVariables false
set_option linter.unusedSimpArgs false

theorem Row.of_R {W : World} {base n c : Nat} {ok : Nat → Prop} {A : Option Addr} {b : By} (h : Kd.R (Kd.int .u8) 5 W base ok (.slice A n c) b) (hb : 0 < b.length) : ∃ g, A = some ⟨g, 0, none⟩ ∧ base ≤ g ∧ n = b.length ∧ Row W g c b ∧ c ≤ 9223372036854775807 := by
  have ho := Kd.own_of_R (enc := Value.int .u8) (h1 := fun _ => rfl) h
  rcases ho.2 with ⟨_, hz⟩ | ⟨g, cap, cur, e, hg, hh, hc1, hc2, hc3, hc4⟩
  · omega
  · cases e
    refine ⟨g, rfl, hg, rfl, ⟨cur.toList.drop b.length, ?_, ?_⟩, hc2⟩
    · rw [hh]
      congr 2
      rw [Nat.mul_one] at hc4
      change _ = enc b at hc4
      rw [← hc4, List.take_append_drop, Array.toArray_toList]
    · have hcl : cur.toList.length = c := by simpa using hc3
      rw [List.length_drop, hcl]
      omega
/-- a log in memory: its block, its records' rows -/
structure LB (W : World) (q p : Nat) (G : LS) (v : Value) (ok : Nat → Prop) : Prop where
  blk : W.heap[q]? = some (.cells #[.pointer (some ⟨p, 0, none⟩), .int .i64 (G.area : Int), v, .int .i64 (G.t : Int)] 57 (0, 0))
  rows : RB W 0 ok v G.l
def OpenPost (W : World) (p g cap m : Nat) (r : Option LS × Int × D) (e : Ending) (w' : World) : Prop :=
  SR w' p g cap m r.2.2 ∧ Fr W w' p g m ∧ match r.1 with
    | none => e = .returned (.tuple #[.pointer none, .int .i64 r.2.1])
    | some G => ∃ q v, e = .returned (.tuple #[.pointer (some ⟨q, 0, none⟩), .int .i64 0]) ∧ W.heap.size ≤ q ∧ LB w' q p G v (fun k => W.heap.size ≤ k)
section
variable {W W' w : World} {p g cap m : Nat} {s : D}
set_option maxHeartbeats 1000000 in
set_option maxRecDepth 100000 in
theorem trim_nil (A : Option Addr) (c : Nat) (W : World) : Calls Tryd.prog 27 #[.slice A 0 c, .string ⟨#[0]⟩] W fun e w' => (∃ A k c', k = 0 ∧ e = .returned (.slice A k c')) ∧ Below W.heap.size W w' := by
  go_enter Tryd.func27, Tryd.ntmps27
  go_wp2_with fail
  go_ret
  exact ⟨⟨_, 0, _, rfl, rfl⟩, Below.refl _ _⟩
theorem read_first (o : Ok s) (hd : s.down = false) : s.read 0 16 = (s.b.take 16, 0) := by
  have := o.bl
  have := o.n1
  unfold D.read
  rw [if_neg (by rw [hd]; decide), if_pos (by unfold within; simp; omega)]
  rfl
theorem read_area (o : Ok s) (hd : s.down = false) (hl : 48 ≤ s.b.length) {a : Nat} (ha : a ≤ 1) : s.read (((1 + a * half s.b.length + 0) * 16 : Nat) : Int) ((half s.b.length : Int) * 16) = (ar s.b a, 0) := by
  have := base_le ha hl
  unfold base at this
  unfold D.read
  rw [if_neg (by rw [hd]; decide), if_pos (by unfold within; simp; omega)]
  unfold ar base
  congr 2 <;> omega
theorem scan_t (b : By) (hb : b.length ≤ 65536) : (scan 5000 [] 0 b).2 * 16 ≤ b.length := by
  obtain ⟨l, e, r, h1, h2, _, h4⟩ := scan_finds 5000 [] 0 b (by omega)
  rw [h4]
  have := enc_len h2
  rw [h1, List.length_append, this]
  show (0 + needs l) * 16 ≤ _
  omega
theorem openD_small (hd : s.down = false) (h : s.b.length < 48) : openD s = (none, 1, s) := by
  unfold openD
  rw [if_neg (by rw [hd]; decide), if_pos h]
theorem openD_bad (hd : s.down = false) (h : ¬ s.b.length < 48) (hs : signOf s.b = none) : openD s = (none, 3, s) := by
  unfold openD
  rw [if_neg (by rw [hd]; decide), if_neg h, hs]
theorem openD_still (hd : s.down = false) (h : ¬ s.b.length < 48) {a t : Nat} {l : List By} (hs : signOf s.b = some a) (hr : scan 5000 [] 0 (ar s.b a) = (l, t)) (hz : ¬ nz ((ar s.b a).drop (t * 16))) : openD s = (some ⟨a, l, t⟩, 0, s) := by
  unfold openD
  rw [if_neg (by rw [hd]; decide), if_neg h, hs]
  show (if nz ((ar s.b a).drop ((scan 5000 [] 0 (ar s.b a)).2 * 16)) then _ else _) = _
  rw [hr, if_neg hz]
theorem openD_clean (hd : s.down = false) (h : ¬ s.b.length < 48) {a t : Nat} {l : List By} (hs : signOf s.b = some a) (hr : scan 5000 [] 0 (ar s.b a) = (l, t)) (hz : nz ((ar s.b a).drop (t * 16))) :
    openD s = if (cleanD s (base s.b.length a + t * 16) ((ar s.b a).length - t * 16)).2 = 0 then (some ⟨a, l, t⟩, 0, (cleanD s (base s.b.length a + t * 16) ((ar s.b a).length - t * 16)).1) else (none, (cleanD s (base s.b.length a + t * 16) ((ar s.b a).length - t * 16)).2, (cleanD s (base s.b.length a + t * 16) ((ar s.b a).length - t * 16)).1) := by
  unfold openD
  rw [if_neg (by rw [hd]; decide), if_neg h, hs]
  show (if nz ((ar s.b a).drop ((scan 5000 [] 0 (ar s.b a)).2 * 16)) then (if (cleanD s (base s.b.length a + (scan 5000 [] 0 (ar s.b a)).2 * 16) ((ar s.b a).length - (scan 5000 [] 0 (ar s.b a)).2 * 16)).2 = 0 then _ else _) else _) = _
  rw [hr, if_pos hz]
set_option maxHeartbeats 4000000 in
set_option maxRecDepth 100000 in
theorem open_down (h : SR W p g cap m s) (o : Ok s) (hd : s.down = true) : Calls Tryd.prog 11 #[.pointer (some ⟨p, 0, none⟩)] W (OpenPost W p g cap m (openD s)) := by
  have hr := read_calls h o 0 16
  have e : s.read 0 16 = ([], 31) := by unfold D.read; rw [if_pos hd]
  have e2 : openD s = (none, 31, s) := by unfold openD; rw [if_pos hd]
  rw [e] at hr
  rw [e2]
  have HR := Lib.hid hr
  have H := Lib.hid h
  clear hr h o hd e e2
  go_enter Tryd.func11, Tryd.ntmps11
  go_wp2_with (go_at_call 22; refine HR.out.mono ?_; rintro e w1 ⟨A', c', rfl, _, hb⟩; have HB := Lib.hid hb; clear hb)
  go_ret2
  have hb := below_step HB.out (below_alloc (Below.refl _ _) (.cells #[.pointer (some ⟨p, 0, none⟩), .int .i64 0, .slice none 0 0, .int .i64 0] 57))
  exact ⟨H.out.below hb, Fr.of_below hb, rfl⟩
end
end Go.Proofs.YtnobhjpobnmiaaaDoor.Wl
