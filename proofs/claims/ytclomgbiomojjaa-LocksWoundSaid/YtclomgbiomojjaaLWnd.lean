/- The walk of LocksWound: its loop keeps the holds that it was handed, and others. -/
import Derived.Test.YtclomgbiomojjaaLRef
import Derived.WalkLawsBesides
import Derived.Lib.Hide
import Derived.Deep.LoopGhost
import Derived.Deep.QuietTactic
import Derived.BigQuiet
import Derived.Test.YtclomgbiomojjaaQx2b
import Derived.Test.YtclomgbiomojjaaQx4
/- Small words for the laws of locks. -/
namespace Go.Proofs.Ytclomgbiomojjaa.LLaw
open Go Go.RowKit Go.Proofs.Ytclomgbiomojjaa.Split Go.Proofs.Ytclomgbiomojjaa.PathF Go.Proofs.Ytclomgbiomojjaa.Q Go.Proofs.Ytclomgbiomojjaa.LTh Go.Proofs.Ytclomgbiomojjaa.LRef Go.Proofs.Ytclomgbiomojjaa.LTake Go.Proofs.Ytclomgbiomojjaa.LHeld Go.Proofs.Ytclomgbiomojjaa.LFree Go.Proofs.Ytclomgbiomojjaa.LRight Go.Proofs.YtclomgbiomojjaaW.PrintWords
open Go.Proofs.Ytclomgbiomojjaa.LRgt (num rightB)
open Go.Proofs.Ytclomgbiomojjaa.LSet (Up ltI)
set_option linter.unusedVariables false

theorem wsucc (i : Nat) (h : i < 1000000000) : wrap64 ((i : Int) + 1) = ((i + 1 : Nat) : Int) := by unfold wrap64; omega
theorem wf_num {n : Int} (h : 0 ≤ n ∧ n ≤ 281474976710656) : (Lit.int .i64 n).wf = true := WalkArith.wf_i64 ⟨by omega, by omega⟩
theorem wf_right {l : List S} (h : RightH l) : l.all wfB = true := List.all_eq_true.2 fun x hx => by
  obtain ⟨_, h1, h2⟩ := (okE_iff x).1 (h.ok x hx)
  unfold wfB
  rw [wf_num h1, wf_num h2]; rfl
theorem size_right {l : List S} (h : RightH l) : ∀ x ∈ l, x.f0.size ≤ 10000 := fun x hx => by
  obtain ⟨h0, _⟩ := (okE_iff x).1 (h.ok x hx)
  unfold isP at h0
  rcases path_cases x.f0 with c | ⟨ls, c, hp⟩
  · rw [c] at h0; cases h0
  · have := size_of c hp; omega
theorem take_f {l : List S} (h : RightH l) {a1 a2 : Int} (h1 : (Lit.int .i64 a1).wf = true) (h2 : (Lit.int .i64 a2).wf = true) {ds : List ByteArray} (hl : l.length + ds.length ≤ 1000) : locks_Take.f l a1 a2 ds = some (takeP l a1 a2 ds) := by
  unfold locks_Take.f
  rw [if_pos ⟨hl, wf_right h, h1, h2⟩]
theorem held_f {l : List S} (hl : l.length ≤ 1000000) (d : ByteArray) : locks_Held.f l d = some (heldT l d, heldB l d) := by
  unfold locks_Held.f; rw [if_pos hl]
theorem free_f {l : List S} (hl : l.length ≤ 1000000) (t : Int) : locks_Free.f l t = some (freeP l t) := by
  unfold locks_Free.f; rw [if_pos hl]
theorem right_f {l : List S} (h : RightH l) (hl : l.length ≤ 1000) (k : Nat) (hk : 2100000 ≤ k) : cantonref10_Right.f k l = some true := by
  rw [LRef.right_is l hl (size_right h) k hk, (right_iff l).2 h]
theorem insA_len {l : List S} {a1 a2 : Int} {ds : List ByteArray} : (LTk0.insAll a1 a2 l ds).length ≤ l.length + ds.length := LTk0.insAll_len a1 a2 ds l
/-- what is taken, taken once more, or a part of it -/
theorem again {l m : List S} {a1 a2 : Int} {ds ds' : List ByteArray} (h : Ok l a1 a2 ds) (hf : ∀ x ∈ l, x.f0 ∈ ds → x.f1 = a1) (hm : InsA l a1 a2 ds m) (hr : RightH m) (hsub : ∀ d ∈ ds', d ∈ ds) : takeP m a1 a2 ds' = (m, [], true) := by
  have hin : ∀ x ∈ m, x.f0 ∈ ds → x.f1 = a1 := fun x hx hd => by
    rcases (hm.mem x).1 hx with g | g
    · exact hf x g hd
    · exact g.2.1
  have hok : Ok m a1 a2 ds' := ⟨hr, h.n1, h.n2, fun d hd => h.dirs d (hsub d hd), fun x hx e => by
    rcases (hm.mem x).1 hx with g | g
    · exact h.own x g e
    · exact g.2.2.1⟩
  have hall : ∀ d ∈ ds, ∃ x ∈ m, x.f0 = d := fun d hd => by
    by_cases c : ∃ x ∈ l, x.f0 = d
    · obtain ⟨x, hx, e⟩ := c
      exact ⟨x, (hm.mem x).2 (.inl hx), e⟩
    · exact ⟨⟨d, a1, a2⟩, (hm.mem _).2 (.inr ⟨hd, rfl, rfl, fun x hx e => c ⟨x, hx, e⟩⟩), rfl⟩
  rcases took m a1 a2 ds' with ⟨g, _⟩ | ⟨g, g2, m', e, hm', _⟩ | ⟨g, x, hx, hd, hn, _⟩
  · exact absurd hok g
  · rw [e]
    have : m' = m := up_eq hm'.up hr.up (fun y => by
      rw [hm'.mem]
      refine ⟨fun h => h.elim id fun ⟨k1, _, _, k4⟩ => ?_, .inl⟩
      obtain ⟨x, hx, e⟩ := hall _ (hsub _ k1)
      exact absurd e (k4 x hx))
    rw [this]
  · exact absurd (hin x hx (hsub _ hd)) hn
/-- what Take answers, and what its length is -/
theorem got_len {l m : List S} {a1 a2 : Int} {ds : List ByteArray} {W : List Int} (e : takeP l a1 a2 ds = (m, W, true)) : m.length ≤ l.length + ds.length := by
  unfold takeP at e
  split at e
  · cases e
  · split at e
    · cases e; exact insA_len
    · cases e
end Go.Proofs.Ytclomgbiomojjaa.LLaw
namespace Go.Proofs.Ytclomgbiomojjaa.LWnd
open Go Go.RowKit Go.Proofs.Ytclomgbiomojjaa.Split Go.Proofs.Ytclomgbiomojjaa.Q Go.Proofs.Ytclomgbiomojjaa.PathF Go.Proofs.Ytclomgbiomojjaa.LTh Go.Proofs.Ytclomgbiomojjaa.LRef Go.Proofs.Ytclomgbiomojjaa.LLaw Go.Proofs.Ytclomgbiomojjaa.LTake Go.Proofs.YtclomgbiomojjaaW.PrintWords Go.Proofs.YtclomgbiomojjaaW.PrintLast Go.Proofs.YtclomgbiomojjaaW.PrintMore
open Go.Proofs.Ytclomgbiomojjaa.LRgt (num rightB)
open Go.Proofs.Ytclomgbiomojjaa.LSet (Up ltI ordI)
set_option linter.unusedVariables false

/-! ### any of the pairs so far -/
def anyTo (P : S → ByteArray → Bool) (m : List S) (ds : List ByteArray) (k j : Nat) : Bool := (m.take k).any (fun x => ds.any (P x)) || (ds.take j).any (P (rd m (k : Int)))
theorem any_in (P : S → ByteArray → Bool) (m : List S) (ds : List ByteArray) (k j : Nat) (hj : j < ds.length) : anyTo P m ds k (j + 1) = (anyTo P m ds k j || P (rd m (k : Int)) (rdOf ByteArray.empty ds (j : Int))) := by
  unfold anyTo
  rw [List.take_succ_eq_append_getElem hj, List.any_append, LTk0.rdS ds j hj]
  simp [Bool.or_assoc]
theorem any_out (P : S → ByteArray → Bool) (m : List S) (ds : List ByteArray) (k : Nat) (hk : k < m.length) : anyTo P m ds (k + 1) 0 = anyTo P m ds k ds.length := by
  unfold anyTo
  rw [List.take_succ_eq_append_getElem hk, List.any_append, List.take_length, rd_get m k hk]
  simp
theorem any_all (P : S → ByteArray → Bool) (m : List S) (ds : List ByteArray) : anyTo P m ds m.length 0 = m.any (fun x => ds.any (P x)) := by
  unfold anyTo; simp
def P1 (t a1 a2 : Int) (x : S) (d : ByteArray) : Bool := (x.f1 == t) && ((x.f0.toList == d.toList) && (decide (x.f2 > a2) || ((x.f2 == a2) && decide (x.f1 > a1))))
def P2 (a1 : Int) (x : S) (d : ByteArray) : Bool := (x.f0.toList == d.toList) && (x.f1 != a1)
/-! ### all the wounded let go -/
def freeAll (l : List S) (W : List Int) : List S := W.foldl freeP l
theorem mem_freeAll : ∀ (W : List Int) (l : List S) (y : S), y ∈ freeAll l W ↔ y ∈ l ∧ y.f1 ∉ W
  | [], l, y => by simp [freeAll]
  | t :: W, l, y => by
    show y ∈ freeAll (freeP l t) W ↔ _
    rw [mem_freeAll W, mem_free]
    simp [and_assoc]
theorem right_freeAll : ∀ (W : List Int) {l : List S}, RightH l → RightH (freeAll l W)
  | [], _, h => h
  | t :: W, _, h => right_freeAll W (right_free h t)
theorem len_freeAll : ∀ (W : List Int) (l : List S), (freeAll l W).length ≤ l.length
  | [], _ => Nat.le_refl _
  | t :: W, l => Nat.le_trans (len_freeAll W (freeP l t)) (List.length_filter_le _ _)
theorem freeAll_snoc (l : List S) (W : List Int) (i : Nat) (h : i < W.length) : freeAll l (W.take (i + 1)) = freeP (freeAll l (W.take i)) (W[i]) := by
  rw [List.take_succ_eq_append_getElem h]
  unfold freeAll
  rw [List.foldl_append]; rfl
/-- what is known once somebody waits -/
structure Wait (l : List S) (a1 a2 : Int) (ds : List ByteArray) (W : List Int) : Prop where
  ok : Ok l a1 a2 ds
  up : Up ltI W
  mem : ∀ t, t ∈ W ↔ ∃ y ∈ l, y.f0 ∈ ds ∧ y.f1 ≠ a1 ∧ (a2 < y.f2 ∨ (y.f2 = a2 ∧ a1 < y.f1)) ∧ y.f1 = t
theorem Wait.own {l : List S} {a1 a2 : Int} {ds : List ByteArray} {W : List Int} (h : Wait l a1 a2 ds W) {t : Int} (ht : t ∈ W) : anyTo (P1 t a1 a2) l ds l.length 0 = true := by
  rw [any_all]
  obtain ⟨y, hy, h1, h2, h3, rfl⟩ := (h.mem t).1 ht
  refine List.any_eq_true.2 ⟨y, hy, List.any_eq_true.2 ⟨y.f0, h1, ?_⟩⟩
  unfold P1
  simp only [beq_self_eq_true, Bool.true_and, Bool.or_eq_true, decide_eq_true_eq, Bool.and_eq_true, beq_iff_eq]
  omega
theorem Wait.last {l : List S} {a1 a2 : Int} {ds : List ByteArray} {W : List Int} (h : Wait l a1 a2 ds W) : ∃ r now, takeP (freeAll l W) a1 a2 ds = (r, [], now) ∧ anyTo (P2 a1) (freeAll l W) ds (freeAll l W).length 0 = !now := by
  have hok : Ok (freeAll l W) a1 a2 ds := ⟨right_freeAll W h.ok.right, h.ok.n1, h.ok.n2, h.ok.dirs, fun x hx e => h.ok.own x ((mem_freeAll W l x).1 hx).1 e⟩
  rcases took (freeAll l W) a1 a2 ds with ⟨g, _⟩ | ⟨g, gf, r, e, _⟩ | ⟨g, x, hx, hd, hn, V, e, hu, hV⟩
  · exact absurd hok g
  · refine ⟨r, true, e, ?_⟩
    rw [any_all, Bool.not_true, List.any_eq_false]
    intro x hx hc
    obtain ⟨d, hd, hp⟩ := List.any_eq_true.1 hc
    unfold P2 at hp
    simp only [Bool.and_eq_true, beq_iff_eq, bne_iff_ne] at hp
    have : x.f0 = d := L_inj (by rw [← toL, ← toL]; exact hp.1)
    exact hp.2 (gf x hx (by rw [this]; exact hd))
  · have hV0 : V = [] := by
      cases V with
      | nil => rfl
      | cons t V =>
        obtain ⟨y, hy, h1, h2, h3, h4⟩ := (hV t).1 List.mem_cons_self
        obtain ⟨g1, g2⟩ := (mem_freeAll W l y).1 hy
        exact absurd ((h.mem y.f1).2 ⟨y, g1, h1, h2, h3, rfl⟩) g2
    subst hV0
    refine ⟨_, false, e, ?_⟩
    rw [any_all, Bool.not_false]
    refine List.any_eq_true.2 ⟨x, hx, List.any_eq_true.2 ⟨x.f0, hd, ?_⟩⟩
    unfold P2
    simp [hn]
/-! ### the contracts, as rows that are read -/
def PostT (w : World) (r1 : List S) (r2 : List Int) (r3 : Bool) (e : Ending) (w' : World) : Prop :=
  ∃ (A : Option Addr) (c : Nat) (A2 : Option Addr) (c2 : Nat), e = .returned (.tuple #[.slice A r1.length c, .slice A2 r2.length c2, .bool r3]) ∧ Hid (r1.length ≤ c) ∧ Hid (Kd.C k34 w' A r1.length r1) ∧ Hid (r2.length ≤ c2) ∧ Hid (Kd.C (Kd.int .i64) w' A2 r2.length r2) ∧ Hid (Below w.heap.size w w')
theorem take_C (A : Option Addr) (c : Nat) (l : List S) (a1 a2 : Int) (A3 : Option Addr) (c3 : Nat) (ds : List ByteArray) (r1 : List S) (r2 : List Int) (r3 : Bool) (h : locks_Take.f l a1 a2 ds = some (r1, r2, r3)) (hc : l.length ≤ c) (hc3 : ds.length ≤ c3) (w : World) (hr : Kd.C k34 w A l.length l) (hr3 : Kd.C Kd.string w A3 ds.length ds) :
    Calls Try.prog 11 #[.slice A l.length c, .int .i64 a1, .int .i64 a2, .slice A3 ds.length c3] w (PostT w r1 r2 r3) := by
  refine (locks_Take.calls (fun k_ => k_ < w.heap.size) A c l a1 a2 A3 c3 ds r1 r2 r3 w (Kd.V_mk hc (Kd.C_F k34_heap hr)) hr3 hc3 h).mono ?_
  rintro e w' ⟨v, v2, rfl, hv, hv2, hb⟩
  obtain ⟨A1, c1, rfl⟩ := Kd.V_slice hv
  have h2 := Kd.V_reads' hv
  obtain ⟨A2, c2, rfl, h3, h4⟩ := Kd.R_reads hv2
  exact ⟨A1, c1, A2, c2, rfl, h2.2.1, h2.2.2, h3, h4, hb⟩
def PostF (w : World) (r1 : List S) (e : Ending) (w' : World) : Prop :=
  ∃ (A : Option Addr) (c : Nat), e = .returned (.slice A r1.length c) ∧ Hid (r1.length ≤ c) ∧ Hid (Kd.C k34 w' A r1.length r1) ∧ Hid (Below w.heap.size w w')
theorem free_C (A : Option Addr) (c : Nat) (l : List S) (t : Int) (hl : l.length ≤ 1000000) (hc : l.length ≤ c) (w : World) (hr : Kd.C k34 w A l.length l) :
    Calls Try.prog 14 #[.slice A l.length c, .int .i64 t] w (PostF w (freeP l t)) := by
  refine (LFree.locks_Free.calls A c l t (freeP l t) w hr hc (free_f hl t)).mono ?_
  rintro e w' ⟨v, rfl, hv, hb⟩
  obtain ⟨A2, c2, rfl, h3, h4⟩ := Kd.R_reads hv
  exact ⟨A2, c2, rfl, h3, h4, hb⟩
end Go.Proofs.Ytclomgbiomojjaa.LWnd
