/- A disk in memory: the walk of Crash. -/
import Derived.Test.YtnobhjpobnmiaaaDoorSk10
namespace Go.Proofs.YtnobhjpobnmiaaaDoor.Sk
open Go Go.RowKit Go.Maps Go.Proofs Go.Proofs.YtnobhjpobnmiaaaDoorW.PrintWords Go.Proofs.YtnobhjpobnmiaaaDoorW.PrintLast Go.Proofs.YtnobhjpobnmiaaaDoorW.PrintMore
set_option linter.unusedVariables false
set_option linter.unusedSimpArgs false

/-- bools as they are read -/
abbrev CBool (W : World) (A : Option Addr) (n : Nat) (l : List Bool) : Prop := Kd.C Kd.bool W A n l
theorem CBool.keep {w w' : World} {A : Option Addr} {n : Nat} {x : List Bool} (h : CBool w A n x) (hk : ∀ ad, A = some ad → 0 < n → w'.heap[ad.block]? = w.heap[ad.block]?) : CBool w' A n x := by
  obtain ⟨h1, h2, h3⟩ := h
  refine ⟨h1, h2, fun hp => ?_⟩
  obtain ⟨ad, e, hc⟩ := h3 hp
  refine ⟨ad, e, fun j q hj => ?_⟩
  obtain ⟨cs, k1, k2, k3⟩ := hc j q hj
  refine ⟨cs, k1, k2, fun i u hu => ?_⟩
  have := k3 i u hu
  have hblk : (ad.add (j * Kd.bool.sz + i)).block = ad.block := by unfold Addr.add; split <;> rfl
  rw [← this]
  unfold World.cell?
  rw [hblk, hk ad e hp]
theorem CBool.get {w : World} {A : Option Addr} {n : Nat} {x : List Bool} (h : CBool w A n x) (i : Nat) (hi : i < n) : ∃ ad, A = some ad ∧ w.cell? (ad.add i) = some (.bool (x.getD i false)) := by
  obtain ⟨h1, h2, h3⟩ := h
  obtain ⟨ad, e, hc⟩ := h3 (by omega)
  refine ⟨ad, e, ?_⟩
  obtain ⟨cs, k1, k2, k3⟩ := hc i (x.getD i false) (by rw [List.getD_eq_getElem?_getD, List.getElem?_eq_getElem (by omega)]; rfl)
  have k2 : cs = [.bool (x.getD i false)] := k2
  subst k2
  have := k3 0 _ rfl
  rwa [show i * Kd.bool.sz + 0 = i by show i * 1 + 0 = i; omega] at this
theorem cbool_lt {w : World} {A : Option Addr} {n : Nat} {x : List Bool} (h : CBool w A n x) : ∀ ad, A = some ad → 0 < n → ad.block < w.heap.size := by
  intro ad e hp
  obtain ⟨ad2, e2, hc⟩ := h.get 0 hp
  rw [e] at e2; cases e2
  have hb : (ad.add 0).block = ad.block := by unfold Addr.add; split <;> rfl
  have := cell_lt hc
  rwa [hb] at this
/-- what one loose sector does -/
def back (s : D) (keep : List Bool) (i n : Nat) (b : By) : By := if keep.getD i false then b else splice b (n * 16) (sec s.old n)
section
variable {W W' : World} {p g cap m : Nat} {s t : D}
theorem looseI_get {wet : List Bool} {i : Nat} (hi : i < (looseI wet).length) : ∃ n, (loose wet)[i]? = some n ∧ rd (looseI wet) (i : Int) = (n : Int) ∧ n < wet.length ∧ wet.getD n false = true := by
  have hl : i < (loose wet).length := by unfold looseI at hi; simpa using hi
  refine ⟨(loose wet)[i], List.getElem?_eq_getElem hl, ?_, ?_⟩
  · unfold looseI rd
    simp [List.getElem?_map, List.getElem?_eq_getElem hl]
  · exact loose_mem (List.getElem_mem hl)
theorem crash_end (h : SR W p g cap m s) (b : By) (hb : b.length = s.b.length) (hs : SR W p g cap m { s with b := b }) :
    ∃ W', (∀ ty, (Builtin.clear_ #[53] ty #[.map (some m)]).run Tryd.prog W = .ok (.tuple #[]) W') ∧ (W'.frozen? ⟨p, 3, none⟩ = false ∧ W'.frozen? ⟨p, 4, none⟩ = false ∧ W'.cell? ⟨p, 3, none⟩ = some (.int .i64 s.fuse) ∧ W'.cell? ⟨p, 4, none⟩ = some (.bool s.down)) ∧ SR ((W'.setCell ⟨p, 3, none⟩ (.int .i64 (-1))).setCell ⟨p, 4, none⟩ (.bool false)) p g cap m { s with b := b, old := b, wet := List.replicate s.wet.length false, fuse := -1, down := false } ∧ Fr W ((W'.setCell ⟨p, 3, none⟩ (.int .i64 (-1))).setCell ⟨p, 4, none⟩ (.bool false)) p g m := by
  obtain ⟨W', h1, h2, h3⟩ := sr_clear hs b
  refine ⟨W', h1, ⟨blk_frozen h2.blk 3, blk_frozen h2.blk 4, (cells5 h2.blk).2.2.2.1, (cells5 h2.blk).2.2.2.2⟩, ?_⟩
  have k1 := sr_put (t := { s with b := b, old := b, wet := List.replicate s.wet.length false, fuse := -1 }) h2 3 (.int .i64 (-1)) (blk_put h2.blk 3 _ rfl) rfl rfl rfl
  have k2 := sr_lit k1.1 false
  exact ⟨k2.1, h3.trans (k1.2.trans k2.2)⟩
end
end Go.Proofs.YtnobhjpobnmiaaaDoor.Sk
