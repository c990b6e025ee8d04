/- The walk of the laws' loops over writes: what they keep. -/
import Derived.Test.YtpchobikpamfcaaSk15
import Derived.StillTailTactics
import Derived.Outline
namespace Go.Proofs.Ytpchobikpamfcaa.Sk
open Go Go.RowKit Go.Maps Go.Proofs Go.Proofs.Ytpchobikpamfcaa.Q Go.Proofs.YtpchobikpamfcaaW.PrintWords Go.Proofs.YtpchobikpamfcaaW.PrintLast Go.Proofs.YtpchobikpamfcaaW.PrintMore
set_option linter.unusedVariables false
set_option linter.unusedSimpArgs false

/-- a call that writes, or none -/
def wr1 (s : D) (o : Op) : D := if 0 ≤ o.f0 ∧ o.f0 < 3 then (s.write o.f1 o.f2).1 else s
/-- what calls that write keep -/
structure Inv (s : D) (first : By) (i : Nat) : Prop where
  ok : Ok s
  old : s.old = first
  acts : s.acts ≤ i
  fuse : s.fuse = -1
  down : s.down = false
theorem inv0 {first : By} (h : okLen first.length = true) (hb : ∀ y ∈ first, 0 ≤ y ∧ y ≤ 255) : Inv (made first) first 0 := ⟨ok_made h hb, rfl, Nat.le_refl _, rfl, rfl⟩
theorem Inv.off {s : D} {first : By} {i : Nat} (h : Inv s first i) : s.off = false := by
  unfold D.off
  rw [h.down, h.fuse]
  rfl
theorem inv_write {s : D} {first : By} {i : Nat} (h : Inv s first i) (a : Int) (x : By) (hx : ∀ y ∈ x, 0 ≤ y ∧ y ≤ 255) : Inv (s.write a x).1 first (i + 1) := by
  refine ⟨ok_write h.ok a x hx, ?_, ?_, ?_, ?_⟩ <;> unfold D.write <;> rw [if_neg (by rw [h.off]; decide)] <;> split
  · exact h.old
  · exact h.old
  · show s.acts + 1 ≤ _; have := h.acts; omega
  · show s.acts ≤ _; have := h.acts; omega
  · show tick s.fuse = -1; rw [h.fuse]; rfl
  · exact h.fuse
  · rfl
  · exact h.down
theorem inv_step {s : D} {first : By} {i : Nat} (h : Inv s first i) (o : Op) (hx : ∀ y ∈ o.f2, 0 ≤ y ∧ y ≤ 255) : Inv (wr1 s o) first (i + 1) := by
  unfold wr1
  split
  · exact inv_write h _ _ hx
  · exact ⟨h.ok, h.old, by have := h.acts; omega, h.fuse, h.down⟩
theorem op_at2 {W wr : World} {A : Option Addr} {ops : List Op} (h : Kd.C k30 W A ops.length ops) (hb : Below W.heap.size W wr) {i : Nat} {o : Op} (hi : ops[i]? = some o) :
    ∃ (ad : Addr) (A2 : Option Addr) (c2 : Nat) (A4 : Option Addr) (c4 : Nat), A = some ad ∧
      wr.cell? (ad.add (i * 5)) = some (.int .i64 o.f0) ∧
      wr.cell? ⟨(ad.add (i * 5)).block, (ad.add (i * 5)).off + 1, none⟩ = some (.int .i64 o.f1) ∧
      wr.cell? ⟨(ad.add (i * 5)).block, (ad.add (i * 5)).off + 2, none⟩ = some (.slice A2 o.f2.length c2) ∧
      wr.cell? ⟨(ad.add (i * 5)).block, (ad.add (i * 5)).off + 3, none⟩ = some (.int .i64 o.f3) ∧
      wr.cell? ⟨(ad.add (i * 5)).block, (ad.add (i * 5)).off + 4, none⟩ = some (.slice A4 o.f4.length c4) ∧
      CB W A2 o.f2.length o.f2 ∧ CBool W A4 o.f4.length o.f4 := by
  obtain ⟨hl, e⟩ := List.getElem?_eq_some_iff.1 hi
  subst e
  exact op_at h hb i hl
section
variable {W wr w : World} {p g cap m : Nat}
theorem C_arg {α : Type} {d : Kd α} {A : Option Addr} {n : Nat} {x : List α} (h : d.C W A n x) (hb : Below W.heap.size W wr) : d.C wr A n x := Kd.C_below h hb
/-- an argument's bytes lie in no block of the disk -/
theorem arg_lt {A : Option Addr} {n : Nat} {x : By} (h : CB W A n x) : ∀ ad, A = some ad → 0 < n → ad.block < W.heap.size := cb_lt h
theorem arg_off {A : Option Addr} {n : Nat} (h : ∀ ad, A = some ad → 0 < n → ad.block < W.heap.size) (hp : W.heap.size ≤ p ∧ W.heap.size ≤ g ∧ W.heap.size ≤ m) : ∀ ad, A = some ad → 0 < n → ad.block ≠ p ∧ ad.block ≠ g ∧ ad.block ≠ m := fun ad e hn => by
  have := h ad e hn
  omega
end
end Go.Proofs.Ytpchobikpamfcaa.Sk
