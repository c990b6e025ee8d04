/- mounts.Flip's contract, joined. -/
import Derived.Test.YtpkaedpgpncgpaaMFlip
namespace Go.Proofs.Ytpkaedpgpncgpaa.MBegin
open Go Go.RowKit Go.Shelf Go.Proofs Go.Proofs.Ytpkaedpgpncgpaa.Q Go.Proofs.YtpkaedpgpncgpaaW.PrintWords Go.Proofs.YtpkaedpgpncgpaaW.PrintLast Go.Proofs.YtpkaedpgpncgpaaW.PrintMore

theorem mounts_Flip.calls (P0_ : Nat → Prop) (A0 : Option Addr) (c0 : Nat) (l0 : List S27) (a1 : ByteArray) (a2 a3 : Int) (r1 : List S27) (r2 : Int) (w : World)
    (hs0 : Kd.V k27 27 w w.heap.size P0_ (.slice A0 l0.length c0) l0) (h : mounts_Flip.f l0 a1 a2 a3 = some (r1, r2)) :
    Calls Try.prog 13 #[.slice A0 l0.length c0, .string a1, .int .i64 a2, .int .i64 a3] w fun e w' => ∃ v0_ : Value, e = .returned (.tuple #[v0_, .int .i64 r2]) ∧ Kd.V k27 27 w' w.heap.size (fun k_ => P0_ k_ ∨ w.heap.size ≤ k_) v0_ r1 ∧ Below w.heap.size w w' := by
  obtain ⟨_, hc, hr⟩ := Kd.V_reads' hs0
  show Calls Try.prog 13 _ w (PostF w P0_ r1 r2)
  unfold mounts_Flip.f at h
  cases e1 : mounts_Right.f (l0.length + 10) l0 with
  | none => rw [e1] at h; cases h
  | some r =>
  cases e2 : path_Right.f a1 with
  | none => rw [e1, e2] at h; cases h
  | some q =>
  cases e3 : mounts_group.f a3 with
  | none => rw [e1, e2, e3] at h; cases h
  | some g =>
  rw [e1, e2, e3, Option.bind_some, Option.bind_some, Option.bind_some] at h
  by_cases hb : (r && (q && g)) = false
  · rw [if_pos hb] at h
    cases h
    exact flip_bad P0_ A0 c0 l0 a1 a2 a3 r q g w hr hc e1 e2 e3 hb
  · rw [if_neg hb] at h
    have hb2 : r = true ∧ q = true ∧ g = true := by cases r <;> cases q <;> cases g <;> simp at hb ⊢
    obtain ⟨rfl, rfl, rfl⟩ := hb2
    by_cases h32 : 32 < l0.length
    · rw [if_pos h32] at h; cases h
    · rw [if_neg h32] at h
      have h32' : l0.length ≤ 32 := by omega
      cases ho : own_ a1 l0 with
      | false =>
        simp only [if_pos ho] at h
        cases h
        exact flip_none P0_ A0 c0 l0 a1 a2 a3 w hs0 hr hc e1 e2 e3 h32' ho
      | true =>
        have ho2 : ¬ own_ a1 l0 = false := by rw [ho]; simp
        simp only [if_neg ho2] at h
        by_cases hq : (rd_T27 l0 (at_ a1 l0 : Nat)).f3 ≠ a3
        · rw [if_pos hq] at h
          cases h
          exact flip_other P0_ A0 c0 l0 a1 a2 a3 w hs0 hr hc e1 e2 e3 h32' ho (bne_iff_ne.2 hq)
        · rw [if_neg hq] at h
          have hq' : ((rd_T27 l0 (at_ a1 l0 : Nat)).f3 != a3) = false := by
            have : (rd_T27 l0 (at_ a1 l0 : Nat)).f3 = a3 := Decidable.not_not.1 hq
            rw [this]; simp
          cases hm : movB (rd_T27 l0 (at_ a1 l0 : Nat)) with
          | true =>
            rw [if_pos hm] at h
            by_cases he : (rd_T27 l0 (at_ a1 l0 : Nat)).f2 = a2
            · by_cases hu : a2 < 281474976710656
              · rw [if_pos ⟨he, hu⟩] at h
                cases h
                exact flip_new P0_ A0 c0 l0 a1 a2 a3 w hs0 hr hc e1 e2 e3 h32' ho hq' hm (beq_iff_eq.2 he) (decide_eq_true hu)
              · rw [if_neg (fun hx => hu hx.2)] at h
                cases h
                exact flip_m_b P0_ A0 c0 l0 a1 a2 a3 w hs0 hr hc e1 e2 e3 h32' ho hq' hm (beq_iff_eq.2 he) (decide_eq_false hu)
            · rw [if_neg (fun hx => he hx.1)] at h
              cases h
              exact flip_m_a P0_ A0 c0 l0 a1 a2 a3 w hs0 hr hc e1 e2 e3 h32' ho hq' hm (beq_eq_false_iff_ne.2 he)
          | false =>
            have hm2 : ¬ movB (rd_T27 l0 (at_ a1 l0 : Nat)) = true := by rw [hm]; simp
            rw [if_neg hm2] at h
            by_cases he : (rd_T27 l0 (at_ a1 l0 : Nat)).f2 < 1
            · rw [if_pos he] at h
              cases h
              exact flip_s_a P0_ A0 c0 l0 a1 a2 a3 w hs0 hr hc e1 e2 e3 h32' ho hq' hm (decide_eq_true he)
            · rw [if_neg he] at h
              by_cases hu : wrap64 ((rd_T27 l0 (at_ a1 l0 : Nat)).f2 - 1) ≠ a2
              · rw [if_pos hu] at h
                cases h
                exact flip_s_b P0_ A0 c0 l0 a1 a2 a3 w hs0 hr hc e1 e2 e3 h32' ho hq' hm (decide_eq_false he) (bne_iff_ne.2 hu)
              · rw [if_neg hu] at h
                cases h
                have : wrap64 ((rd_T27 l0 (at_ a1 l0 : Nat)).f2 - 1) = a2 := Decidable.not_not.1 hu
                exact flip_s_c P0_ A0 c0 l0 a1 a2 a3 w hs0 hr hc e1 e2 e3 h32' ho hq' hm (decide_eq_false he) (by rw [this]; simp)
end Go.Proofs.Ytpkaedpgpncgpaa.MBegin
-- GIVEN 13 MBegin mounts_Flip ps=sl27:st:27;str;i64;i64 rs=sl27:st:27;i64 rounds=0 making=1 share=0:0 res=0:V
