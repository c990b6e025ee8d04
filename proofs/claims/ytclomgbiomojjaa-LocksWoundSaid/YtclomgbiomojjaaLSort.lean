/- slices.Sort and slices.Compact at own rows of strings, in rows' words (over the shelf). -/
import Derived.Test.YtclomgbiomojjaaShelf
import Derived.Test.YtclomgbiomojjaaQx0
import Derived.Lib.OwnBridge
import Derived.Lib.RowBridge
import Derived.WalkLawsBesides
namespace Go.Proofs.Ytclomgbiomojjaa.LSort
open Go Go.RowKit Go.Sort Go.Lib Go.Proofs Go.Proofs.Ytclomgbiomojjaa.Q Go.Proofs.YtclomgbiomojjaaW.PrintWords Go.Proofs.YtclomgbiomojjaaW.PrintLast Go.Proofs.YtclomgbiomojjaaW.PrintMore
set_option linter.unusedVariables false

def ofL (l : List UInt8) : ByteArray := ⟨l.toArray⟩
theorem enc_ofL (l : List UInt8) : encStr l = Value.string (ofL l) := rfl
theorem map_ofL (l : List (List UInt8)) : l.map encStr = (l.map ofL).map Value.string := by
  rw [List.map_map]; rfl
def sortS (xs : List ByteArray) : List ByteArray := ((xs.map (·.data.toList)).mergeSort fun x y => decide (x ≤ y)).map ofL
def compS (xs : List ByteArray) : List ByteArray := (Lib.compact (xs.map (·.data.toList))).map ofL
theorem own_str {w : World} {base : Nat} {ok : Nat → Prop} {v : Value} {xs : List ByteArray} (h : Kd.R Kd.string 9 w base ok v xs) : w.ownsRow base 9 1 v xs.length ((xs.map (·.data.toList)).map encStr) := by
  have := Kd.own_of_R (enc := Value.string) (h1 := fun _ => rfl) h
  rw [map_encStr]
  exact this
theorem R_str {w : World} {base : Nat} {v : Value} {ys : List (List UInt8)} (h : w.ownsRow base 9 1 v ys.length (ys.map encStr)) : Kd.R Kd.string 9 w base (fun _ => True) v (ys.map ofL) := by
  rw [map_ofL] at h
  have h2 : w.ownsRow base 9 1 v (ys.map ofL).length ((ys.map ofL).map Value.string) := by rw [List.length_map]; exact h
  exact Kd.R_of_own h2 (fun _ _ => trivial)
theorem below_grow (w : World) (os : Array Obj) : Below w.heap.size w (grow w os) :=
  ⟨rfl, rfl, rfl, by simp [grow], fun k hk => by simp [grow, Array.getElem?_append, hk]⟩
theorem not_nil {w : World} {base : Nat} {v : Value} {xs : List ByteArray} (h : Kd.R Kd.string 9 w base (fun _ => True) v xs) (hx : xs ≠ []) : v ≠ .slice none 0 0 := by
  obtain ⟨A, cap, rfl⟩ := Kd.R_slice h
  intro e
  injection e with _ e2 _
  exact hx (List.eq_nil_of_length_eq_zero e2)
theorem sort_R (base : Nat) (v : Value) (xs : List ByteArray) (w : World) (hR : Kd.R Kd.string 9 w base (fun _ => True) v xs) (hl : xs.length ≤ 1000000) (hbase : base ≤ w.heap.size) :
    Calls Try.prog 38 #[v] w fun e w' => e = .returned (.tuple #[]) ∧ Kd.R Kd.string 9 w' base (fun _ => True) v (sortS xs) ∧ Below base w w' := by
  by_cases hx : xs = []
  · subst hx
    obtain ⟨A, cap, rfl⟩ := Kd.R_slice hR
    refine (Try.slices_Sort_string_none A cap w).mono ?_
    rintro e w' ⟨rfl, rfl⟩
    exact ⟨rfl, by simpa [sortS] using hR, Below.refl _ _⟩
  · have ho := own_str hR
    obtain ⟨g, cap, rfl, hg, hgl, hnc, hcm, hzl, hH⟩ := holds_of_ownsRow ho (not_nil hR hx)
    have hs := Try.slices_Sort_string g 0 cap (xs.map (·.data.toList)) w hH hgl (by rw [List.length_map]; omega)
    rw [List.length_map] at hs
    refine hs.mono ?_
    rintro e w' ⟨rfl, n, os, rfl⟩
    obtain ⟨ys, hys⟩ : ∃ ys, ((xs.map (·.data.toList)).mergeSort fun x y => decide (x ≤ y)) = ys := ⟨_, rfl⟩
    have hlen : ys.length = xs.length := by rw [← hys, List.length_mergeSort, List.length_map]
    have h1 := ownsRow_putRow (q := n) (k := xs.length) ho hlen (Nat.le_refl _)
    rw [List.take_of_length_le (by omega)] at h1
    have h2 : (putRow encStr (Sort.ahead w n) g 0 ys.toArray).ownsRow base 9 1 (.slice (some ⟨g, 0, none⟩) xs.length cap) ys.length (ys.map encStr) := by rw [hlen]; exact h1
    rw [hys]
    have hb1 : Below base w (putRow encStr (Sort.ahead w n) g 0 ys.toArray) := below_putRow (Below.refl _ _) hg
    refine ⟨rfl, ?_, hb1.trans ((below_grow _ os).mono (Nat.le_trans hbase hb1.size))⟩
    unfold sortS
    rw [hys]
    exact Kd.R_below (R_str h2) (below_grow _ os)
theorem comp_R (base : Nat) (v : Value) (xs : List ByteArray) (w : World) (hR : Kd.R Kd.string 9 w base (fun _ => True) v xs) (hl : xs.length ≤ 1000000) (hbase : base ≤ w.heap.size) :
    Calls Try.prog 39 #[v] w fun e w' => ∃ v', e = .returned v' ∧ Kd.R Kd.string 9 w' base (fun _ => True) v' (compS xs) ∧ Below base w w' := by
  by_cases hx : xs = []
  · subst hx
    obtain ⟨A, cap, rfl⟩ := Kd.R_slice hR
    refine (Try.slices_Compact_string_empty A cap w).mono ?_
    rintro e w' ⟨rfl, rfl⟩
    exact ⟨_, rfl, hR, Below.refl _ _⟩
  · have ho := own_str hR
    obtain ⟨g, cap, rfl, hg, hgl, hnc, hcm, hzl, hH⟩ := holds_of_ownsRow ho (not_nil hR hx)
    have hs := Try.slices_Compact_string g 0 cap (xs.map (·.data.toList)) w hH (by rw [List.length_map]; omega) (by rw [List.length_map]; exact hnc)
    rw [List.length_map] at hs
    refine hs.mono ?_
    rintro e w' ⟨rfl, n, rfl⟩
    obtain ⟨ys, hys⟩ : ∃ ys, Lib.compact (xs.map (·.data.toList)) = ys := ⟨_, rfl⟩
    have hlen : ys.length ≤ xs.length := by rw [← hys]; exact Nat.le_trans (Lib.compact_length_le _) (by rw [List.length_map]; exact Nat.le_refl _)
    rw [hys]
    have h1 := ownsRow_putRow (q := n) (k := ys.length) (ys := ys ++ List.replicate (xs.length - ys.length) []) ho (by rw [List.length_append, List.length_replicate]; omega) hlen
    rw [List.take_left] at h1
    refine ⟨_, rfl, ?_, below_putRow (Below.refl _ _) hg⟩
    unfold compS
    rw [hys]
    exact R_str h1
end Go.Proofs.Ytclomgbiomojjaa.LSort
