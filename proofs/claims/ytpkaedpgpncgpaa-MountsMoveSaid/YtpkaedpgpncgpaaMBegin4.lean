/- mounts.Begin's and mounts.find's contracts, joined. -/
import Derived.Test.YtpkaedpgpncgpaaMBegin3
namespace Go.Proofs.Ytpkaedpgpncgpaa.MBegin
open Go Go.RowKit Go.Shelf Go.Proofs Go.Proofs.Ytpkaedpgpncgpaa.Q Go.Proofs.YtpkaedpgpncgpaaW.PrintWords Go.Proofs.YtpkaedpgpncgpaaW.PrintLast Go.Proofs.YtpkaedpgpncgpaaW.PrintMore

theorem mounts_Begin.calls (P0_ : Nat → Prop) (A0 : Option Addr) (c0 : Nat) (l0 : List S27) (a1 : ByteArray) (a2 : Int) (r1 : List S27) (r2 : ByteArray) (r3 r4 r5 r6 : Int) (w : World)
    (hs0 : Kd.V k27 27 w w.heap.size P0_ (.slice A0 l0.length c0) l0) (h : mounts_Begin.f l0 a1 a2 = some (r1, r2, r3, r4, r5, r6)) :
    Calls Try.prog 12 #[.slice A0 l0.length c0, .string a1, .int .i64 a2] w fun e w' => ∃ v0_ : Value, e = .returned (.tuple #[v0_, .agg #[.string r2, .int .i64 r3, .int .i64 r4, .int .i64 r5], .int .i64 r6]) ∧ Kd.V k27 27 w' w.heap.size (fun k_ => P0_ k_ ∨ w.heap.size ≤ k_) v0_ r1 ∧ Below w.heap.size w w' := by
  obtain ⟨_, hc, hr⟩ := Kd.V_reads' hs0
  show Calls Try.prog 12 _ w (Post w P0_ r1 r2 r3 r4 r5 r6)
  unfold mounts_Begin.f at h
  cases e1 : mounts_Right.f (l0.length + 10) l0 with
  | none => rw [e1] at h; cases h
  | some r =>
  cases e2 : path_Right.f a1 with
  | none => rw [e1, e2] at h; cases h
  | some q =>
  cases e3 : mounts_group.f a2 with
  | none => rw [e1, e2, e3] at h; cases h
  | some g =>
  rw [e1, e2, e3, Option.bind_some, Option.bind_some, Option.bind_some] at h
  by_cases hb : (r && (q && g)) = false
  · rw [if_pos hb] at h
    cases h
    exact begin_bad P0_ A0 c0 l0 a1 a2 r q g w hr hc e1 e2 e3 hb
  · rw [if_neg hb] at h
    have hb2 : r = true ∧ q = true ∧ g = true := by cases r <;> cases q <;> cases g <;> simp at hb ⊢
    obtain ⟨rfl, rfl, rfl⟩ := hb2
    by_cases h32 : 32 < l0.length
    · rw [if_pos h32] at h; cases h
    · rw [if_neg h32] at h
      have h32' : l0.length ≤ 32 := by omega
      by_cases hs : (own_ a1 l0 && (movB (rd_T27 l0 (at_ a1 l0 : Nat)) && decide ((rd_T27 l0 (at_ a1 l0 : Nat)).f3 = a2))) = true
      · have h' : some (l0, (rd_T27 l0 (at_ a1 l0 : Nat)).f0, (rd_T27 l0 (at_ a1 l0 : Nat)).f1, (rd_T27 l0 (at_ a1 l0 : Nat)).f2, (rd_T27 l0 (at_ a1 l0 : Nat)).f3, (0 : Int)) = some (r1, r2, r3, r4, r5, r6) := by
          have h2 := h
          simp only [if_pos hs] at h2
          exact h2
        cases h'
        simp only [Bool.and_eq_true] at hs
        exact begin_same P0_ A0 c0 l0 a1 a2 w hs0 hr hc e1 e2 e3 h32' hs.1 (by simp only [Bool.and_eq_true]; exact hs.2)
      · simp only [if_neg hs] at h
        by_cases hall : l0.all (inOk a1) = false
        · rw [if_pos hall] at h; cases h
        · rw [if_neg hall] at h
          have hall' : l0.all (inOk a1) = true := by simpa using hall
          cases e4 : mounts_Of.f (kOf l0) l0 a1 with
          | none => rw [e4] at h; cases h
          | some a =>
          rw [e4, Option.bind_some] at h
          by_cases ha : 0 ≤ a ∧ a < (l0.length : Int)
          · rw [if_pos ha] at h
            obtain ⟨j, rfl⟩ : ∃ j : Nat, a = (j : Int) := ⟨a.toNat, by omega⟩
            have hj : j < l0.length := by omega
            -- which way its own mount goes
            have way : own_ a1 l0 = false ∨ (own_ a1 l0 = true ∧ movB (rd_T27 l0 (at_ a1 l0 : Nat)) = false) ∨ (own_ a1 l0 = true ∧ movB (rd_T27 l0 (at_ a1 l0 : Nat)) = true ∧ ((rd_T27 l0 (at_ a1 l0 : Nat)).f3 == a2) = false) := by
              cases ho : own_ a1 l0 with
              | false => exact .inl rfl
              | true =>
                cases hm : movB (rd_T27 l0 (at_ a1 l0 : Nat)) with
                | false => exact .inr (.inl ⟨rfl, rfl⟩)
                | true =>
                  refine .inr (.inr ⟨rfl, rfl, ?_⟩)
                  rw [ho, hm] at hs
                  simp only [Bool.true_and, decide_eq_true_eq] at hs
                  exact beq_eq_false_iff_ne.2 hs
            by_cases hbu : l0.any (busyB a1) = true
            · have h' := h
              simp only [if_pos hbu] at h'
              cases h'
              rcases way with ho | ⟨ho, hm⟩ | ⟨ho, hm, hq⟩
              · exact begin_busy_A P0_ A0 c0 l0 a1 a2 j w hs0 hr hc e1 e2 e3 h32' hall' e4 hj ho hbu
              · exact begin_busy_B P0_ A0 c0 l0 a1 a2 j w hs0 hr hc e1 e2 e3 h32' hall' e4 hj ho hm hbu
              · exact begin_busy_C P0_ A0 c0 l0 a1 a2 j w hs0 hr hc e1 e2 e3 h32' hall' e4 hj ho hm hq hbu
            · have hbu' : l0.any (busyB a1) = false := by simpa using hbu
              simp only [if_neg hbu] at h
              by_cases ht : (rd_T27 l0 (j : Nat)).f1 = a2
              · rw [if_pos ht] at h
                cases h
                have ht' := beq_iff_eq.2 ht
                rcases way with ho | ⟨ho, hm⟩ | ⟨ho, hm, hq⟩
                · exact begin_there_A P0_ A0 c0 l0 a1 a2 j w hs0 hr hc e1 e2 e3 h32' hall' e4 hj ho hbu' ht'
                · exact begin_there_B P0_ A0 c0 l0 a1 a2 j w hs0 hr hc e1 e2 e3 h32' hall' e4 hj ho hm hbu' ht'
                · exact begin_there_C P0_ A0 c0 l0 a1 a2 j w hs0 hr hc e1 e2 e3 h32' hall' e4 hj ho hm hq hbu' ht'
              · rw [if_neg ht] at h
                have ht' : ((rd_T27 l0 (j : Nat)).f1 == a2) = false := beq_eq_false_iff_ne.2 ht
                by_cases hn : (!own_ a1 l0 && decide (l0.length = 32)) = true
                · rw [if_pos hn] at h
                  cases h
                  simp only [Bool.and_eq_true, Bool.not_eq_true', decide_eq_true_eq] at hn
                  exact begin_many_A P0_ A0 c0 l0 a1 a2 j w hs0 hr hc e1 e2 e3 h32' hall' e4 hj hn.1 hbu' ht' (beq_iff_eq.2 (by omega))
                · rw [if_neg hn] at h
                  have hlen : own_ a1 l0 = false → (((l0.length : Int) == 32) = false) := fun ho => by
                    rw [ho] at hn
                    simp only [Bool.not_false, Bool.true_and, decide_eq_true_eq] at hn
                    exact beq_eq_false_iff_ne.2 (by omega)
                  by_cases hm2 : (rd_T27 l0 (j : Nat)).f2 = 281474976710656
                  · rw [if_pos hm2] at h
                    cases h
                    have hm2' := beq_iff_eq.2 hm2
                    rcases way with ho | ⟨ho, hm⟩ | ⟨ho, hm, hq⟩
                    · exact begin_most_A P0_ A0 c0 l0 a1 a2 j w hs0 hr hc e1 e2 e3 h32' hall' e4 hj ho hbu' ⟨ht', hm2'⟩ (hlen ho)
                    · exact begin_most_B P0_ A0 c0 l0 a1 a2 j w hs0 hr hc e1 e2 e3 h32' hall' e4 hj ho hm hbu' ⟨ht', hm2'⟩
                    · exact begin_most_C P0_ A0 c0 l0 a1 a2 j w hs0 hr hc e1 e2 e3 h32' hall' e4 hj ho hm hq hbu' ⟨ht', hm2'⟩
                  · rw [if_neg hm2] at h
                    have hm2' : ((rd_T27 l0 (j : Nat)).f2 == 281474976710656) = false := beq_eq_false_iff_ne.2 hm2
                    rcases way with ho | ⟨ho, hm⟩ | ⟨ho, hm, hq⟩
                    · rw [if_neg (by rw [ho]; simp)] at h
                      cases h
                      exact begin_new_A P0_ A0 c0 l0 a1 a2 j w hs0 hr hc e1 e2 e3 h32' hall' e4 hj ho hbu' ⟨ht', hm2'⟩ (hlen ho)
                    · rw [if_pos ho] at h
                      cases h
                      exact begin_new_B P0_ A0 c0 l0 a1 a2 j w hs0 hr hc e1 e2 e3 h32' hall' e4 hj ho hm hbu' ⟨ht', hm2'⟩
                    · rw [if_pos ho] at h
                      cases h
                      exact begin_new_C P0_ A0 c0 l0 a1 a2 j w hs0 hr hc e1 e2 e3 h32' hall' e4 hj ho hm hq hbu' ⟨ht', hm2'⟩
          · rw [if_neg ha] at h; cases h
end Go.Proofs.Ytpkaedpgpncgpaa.MBegin
-- GIVEN 12 MBegin mounts_Begin ps=sl27:st:27;str;i64 rs=sl27:st:27;st:27;i64 rounds=0 making=1 share=0:0 res=0:V
