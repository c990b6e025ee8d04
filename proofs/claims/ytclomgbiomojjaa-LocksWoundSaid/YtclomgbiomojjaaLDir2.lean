/- locks.Dirs in closed words. -/
import Derived.Test.YtclomgbiomojjaaLDirs
import Derived.Test.YtclomgbiomojjaaLTk1
namespace Go.Proofs.Ytclomgbiomojjaa.LDir2
open Go Go.RowKit Go.Proofs.Ytclomgbiomojjaa.Q Go.Proofs.Ytclomgbiomojjaa.LSort Go.Proofs.Ytclomgbiomojjaa.LDirs Go.Proofs.YtclomgbiomojjaaW.PrintWords Go.Proofs.YtclomgbiomojjaaW.PrintLast
set_option linter.unusedVariables false

theorem rd_at {l : List S44} {i : Nat} {x : S44} {t : List S44} (h : l.drop i = x :: t) : rd_T44 l (i : Int) = x ∧ i < l.length ∧ l.drop (i + 1) = t := by
  have h1 : i < l.length := by
    rcases Nat.lt_or_ge i l.length with h1 | h1
    · exact h1
    · rw [List.drop_eq_nil_of_le h1] at h; cases h
  rw [List.drop_eq_getElem_cons h1] at h
  cases h
  refine ⟨?_, h1, rfl⟩
  unfold rd_T44
  simp [h1]
theorem l0_is (l : List S44) (hl : l.length ≤ 1000000) : ∀ (rest : List S44) (i : Nat) (acc : List ByteArray) (k : Nat), l.drop i = rest → rest.length < k → acc.length + rest.length ≤ 1000000 →
    LDirs.locks_Dirs.l0 k acc l (l.length : Int) (i : Int) = some (acc ++ rest.map (fun x => x.f1.f1))
  | [], i, acc, 0, _, hk, _ => absurd hk (by simp)
  | [], i, acc, k + 1, h, _, _ => by
    have h1 : l.length ≤ i := by
      rcases Nat.lt_or_ge i l.length with h1 | h1
      · rw [List.drop_eq_getElem_cons h1] at h; cases h
      · exact h1
    unfold LDirs.locks_Dirs.l0
    rw [if_neg (by omega)]
    simp
  | x :: t, i, acc, 0, _, hk, _ => absurd hk (by simp)
  | x :: t, i, acc, k + 1, h, hk, ha => by
    obtain ⟨hx, h1, h2⟩ := rd_at h
    simp only [List.length_cons] at hk ha
    have ih := l0_is l hl t (i + 1) (acc ++ [x.f1.f1]) k h2 (by omega) (by rw [List.length_append, List.length_singleton]; omega)
    have hw : wrap64 ((i : Int) + 1) = ((i + 1 : Nat) : Int) := by unfold wrap64; omega
    unfold LDirs.locks_Dirs.l0
    rw [if_pos (by omega), if_pos (by omega), if_pos (by omega), if_pos (by omega), hx, hw, ih]
    simp
theorem comp_is (xs : List ByteArray) : compS (sortS xs) = LSet.setU LSet.ltB xs := by
  have h1 : (sortS xs).map (·.data.toList) = (xs.map Split.L).mergeSort fun x y => decide (x ≤ y) := by
    unfold sortS
    rw [List.map_map]
    show List.map id _ = _
    rw [List.map_id]
    rfl
  have h2 : (LSet.setU LSet.ltB xs).map Split.L = LSet.setU LSet.ltL (xs.map Split.L) := LSet.setU_L xs
  unfold compS
  rw [h1, LSet.comp_sort, ← h2, List.map_map]
  show List.map id _ = _
  rw [List.map_id]
/-- the directories of pieces -/
def dirsL (l : List S44) : List ByteArray := LSet.setU LSet.ltB (l.map (fun x => x.f1.f1))
def locks_Dirs.f (l0 : List (S44)) : Option (List ByteArray) := if l0.length ≤ 1000000 then some (dirsL l0) else none
theorem locks_Dirs.calls (A0 : Option Addr) (c0 : Nat) (l0 : List (S44)) (r : List ByteArray) (w : World) (hr0 : Kd.C k44 w A0 l0.length l0) (hc0 : l0.length ≤ c0) (h : locks_Dirs.f l0 = some r) :
    Calls Try.prog 15 #[.slice A0 l0.length c0] w fun e w' => ∃ v0_ : Value, e = .returned (v0_) ∧ Kd.R Kd.string 9 w' w.heap.size (fun _ => True) v0_ r ∧ Below w.heap.size w w' := by
  unfold locks_Dirs.f at h
  split at h
  · next hl =>
    have hr : dirsL l0 = r := Option.some.inj h
    have h0 := l0_is l0 hl l0 0 [] (l0.length + 1) rfl (by omega) (by simpa using hl)
    rw [List.nil_append, show ((0 : Nat) : Int) = 0 from rfl] at h0
    have h1 : LDirs.locks_Dirs.f (l0.length + 1) l0 = some (l0.map (fun x => x.f1.f1)) := by unfold LDirs.locks_Dirs.f; exact h0
    have H := LDirs.locks_Dirs.calls (l0.length + 1) A0 c0 l0 (l0.map (fun x => x.f1.f1)) w hr0 hc0 (by rw [List.length_map]; exact hl) h1
    unfold dirsL at hr
    rw [comp_is, hr] at H
    exact H
  · cases h
end Go.Proofs.Ytclomgbiomojjaa.LDir2
-- GIVEN 15 LDir2 locks_Dirs ps=sl44:st:44 rs=sl9:str rounds=0 making=1
