/- The row of the law WalRoom, over its walk and its pure statement. -/
import Derived.Test.YtnobhjpobnmiaaaDoorWlRoom
import Derived.Test.YtnobhjpobnmiaaaDoorOpens
import Derived.LaidMore
import Derived.Stop.Joined
import Derived.Stop.LaidErr
import Derived.MakeChecks
import Derived.Lay
import Derived.SevenTiedAt
import Derived.Test.YtnobhjpobnmiaaaDoorCards
import Derived.Test.YtnobhjpobnmiaaaDoorTie
import Derived.Test.YtnobhjpobnmiaaaDoorRows
import Derived.WalkKit
import Derived.ProofKit
import Derived.OpenShut
import Derived.ShutString
import Derived.ChangeOld
import Derived.Below
import Derived.SizedLaws
import Derived.Carry
/- What the law WalRoom asks, without memory; how its arguments open. -/
namespace Go.Proofs.YtnobhjpobnmiaaaDoor.OpensWalRoom
open Go Go.RowKit Go.Proofs.YtnobhjpobnmiaaaDoor.Opens Go.Proofs.YtnobhjpobnmiaaaDoor.Q Go.Proofs.YtnobhjpobnmiaaaDoorW.PrintWords Go.Proofs.YtnobhjpobnmiaaaDoor.Wl
/-- THE ONE PURE STATEMENT. -/
def Pure : Prop := ∀ (a0 : Int) (a1 : Int), ((Lit.int .u16 a0).wf = true) → ((Lit.int .u16 a1).wf = true) → cantonlaw05_WalRoom.f a0 a1 = some true
end Go.Proofs.YtnobhjpobnmiaaaDoor.OpensWalRoom
/- WalRoom, without memory: the walk shows it true. -/
namespace Go.Proofs.YtnobhjpobnmiaaaDoor.Pure
open Go Go.RowKit Go.Proofs.YtnobhjpobnmiaaaDoor.Wl Go.Proofs.YtnobhjpobnmiaaaDoor.OpensWalRoom
theorem u16_range {y : Int} (h : (Lit.int .u16 y).wf = true) : 0 ≤ y ∧ y ≤ 65535 := by
  simp only [Lit.wf, Bool.and_eq_true, decide_eq_true_eq] at h
  exact ⟨Int.le_trans (by decide) h.1, Int.le_trans h.2 (by decide)⟩
theorem WalRoom : OpensWalRoom.Pure := by
  intro a0 a1 h0 h1
  have e0 := u16_range h0
  have e1 := u16_range h1
  unfold cantonlaw05_WalRoom.f
  rw [if_pos ⟨e0.1, e0.2, e1.1, e1.2⟩]
end Go.Proofs.YtnobhjpobnmiaaaDoor.Pure
namespace Go.Proofs.YtnobhjpobnmiaaaDoor.walRoom
open Go.ChangeShapes Go.WideShapes Go.ChangeAt Go.RowKit
open Go.ChangeMaps (open_string shut_string)
set_option linter.unusedVariables false
theorem own : ownKnob Tryd.prog.godebug = none := by kernel_rfl
theorem laidOut : laidOutB Tryd.prog = true := by kernel_rfl
def laidAll : List (String × DataW Unit) := [("unicode/utf8.acceptRanges", Rows.laid_unicode_utf8_acceptRanges), ("unicode/utf8.first", Rows.laid_unicode_utf8_first)]
set_option maxRecDepth 100000 in
theorem lifted (os : Os) (started : os.Started) (H : Type) (enc : TypeId × Value → H) :
    ReturnsInHanded {} Tryd.checked os 4 .any (fun w args => (Rows.walRoomSpec.pre enc Tryd.prog Tryd.f4 [] false w args ∧ laidMetH Tryd.prog laidAll w) ∧ sizedMet enc Tryd.prog Tryd.f4 (OpenSpec.ofChange Rows.walRoomSpec) false w args) (Rows.walRoomSpec.post enc Tryd.prog Tryd.f4 false true false false) := by
  refine returnsInHanded_of_change_and (C := Tryd.checked) (X := fun w _ => laidMetH Tryd.prog laidAll w) (fun _ _ _ hh h => h.of_heap hh) own started (by kernel_rfl) Tryd.func4
    (ChangeSpec.witness_shaped (enc := enc) (C := Tryd.checked) (os := os) (X := fun w _ => laidMetH Tryd.prog laidAll w) false (World.laidAll Tryd.prog os laidAll) #[.int .u16 0, .int .u16 0] 8 (World.laidAll_os _ _ _)
      (World.shaped_of_ZipB (by kernel_rfl) (by kernel_rfl)) (by kernel_rfl) (by kernel_rfl) (by kernel_rfl)
      (by rw [MakeChecks.laidMetH_plain _ _ _ (by kernel_rfl)]; exact laidMet_laidAll _ (by kernel_rfl) (by kernel_rfl))) ?_
  intro W base args ds gs before hval0 hW hcnd hsz0 hL _
  have hsz : (DataW.weightsEach Tryd.prog (Tryd.f4.params.toList ++ Rows.walRoomSpec.plain.varTypes Tryd.prog) (ds ++ gs)).all (· ≤ reachBytes) = true := hsz0
  have hval : ∀ (j : Nat) t v, Tryd.f4.params[j]? = some t → args[j]? = some v → Value.okWide Tryd.prog W .any base t v := hval0
  have hW' := hW
  obtain ⟨p, q, hA0, hV, rfl, hfz, hnd⟩ := hW
  have hA : DataW.TrodAll enc Tryd.prog W 0 (fun _ => true) true Tryd.f4.params.toList args.toList ds p := hA0
  rw [Tryd.params4] at hA hval hsz
  obtain ⟨v0, vs0, d0, ds0, p0, q0, hargs, rfl, rfl, h0, r0⟩ := trodAll_cons hA
  obtain ⟨v1, vs1, d1, ds1, p1, q1, rfl, rfl, rfl, h1, r1⟩ := trodAll_cons r0
  obtain ⟨rfl, rfl, rfl⟩ := trodAll_nil r1
  obtain rfl : args = #[v0, v1] := by cases args; simp_all
  obtain ⟨rfl, rfl⟩ := trodVars_none hV
  obtain ⟨a0, rfl, rfl, rfl, w0⟩ := open_int Tryd.underlying35 (hval 0 35 v0 rfl rfl) h0
  obtain ⟨a1, rfl, rfl, rfl, w1⟩ := open_int Tryd.underlying35 (hval 1 35 v1 rfl rfl) h1
  clear hA0 hval0 hsz0 hsz
  have hk := Pure.WalRoom a0 a1 w0 w1
  refine (Wl.cantonlaw05_WalRoom.calls a0 a1 true W hk).mono fun e W' ⟨he, bel⟩ => ?_
  subst he
  exact ⟨_, rfl, _, _, _, [], _, [], hW', trodAll_mk1 (shut_bool Tryd.underlying4 _), (trodAll_cons_mk (shut_int Tryd.underlying35 w0) (trodAll_cons_mk (shut_int Tryd.underlying35 w1) trodAll_mk0)), rfl, bel.frame _, fun h => by cases h⟩
theorem over : Rows.walRoomRow.holds Tryd.pinned (OpenSpec.ofChange Rows.walRoomSpec) :=
  OpenClaim.holds_of_wide 4 Tryd.f4 rfl rfl rfl rfl rfl rfl rfl ⟨rfl, rfl, rfl, rfl, rfl⟩ rfl rfl rfl rfl rfl (by kernel_rfl) Tryd.func4 (by kernel_rfl)
    (of_decide_eq_true (by kernel_rfl)) (by unfold Func.isWrapper; first | (rw [if_pos (by decide +kernel)]; kernel_rfl) | (rw [if_neg (by decide +kernel)]; exact ⟨rfl, rfl⟩))
    (fun os started H enc _ => lifted os started H enc)
theorem proved : Rows.WalRoomSaid := over
#print axioms proved
end Go.Proofs.YtnobhjpobnmiaaaDoor.walRoom
namespace Go.Proofs.YtnobhjpobnmiaaaDoor
/-- The tied card. -/
theorem walRoom_holds : Rows.WalRoomCardSaid :=
  Claim7.holds_tied_plain_at .later [] [.data, .pinned] true (true, "442549d042403de336290946dd194b9b92c6199860f7f60e934d9152cb5298f0") false
    walRoom.proved (fun _ h => by cases h) (by kernel_rfl) (fun _ h => by cases h) walRoom_row_tie rfl ⟨rfl, rfl⟩ (by kernel_rfl) rfl
    (fun f fn hf hfn => by
      obtain rfl : f = 4 := Option.some.inj ((show Tryd.prog.funcNamed "canton/cantonlaw05.WalRoom" = some 4 by kernel_rfl).symm.trans hf) |>.symm
      obtain rfl : fn = Tryd.f4 := (Option.some.inj (Tryd.func4.symm.trans hfn)).symm
      exact ⟨by kernel_rfl, fun j t ht => by
        rw [Tryd.params4] at ht
        have hm : t ∈ [35, 35] := by simpa using Array.mem_of_getElem? ht
        have hall : ([35, 35].all fun u => !Tryd.prog.wantsStandIn u) = true := by kernel_rfl
        exact (show Tryd.prog.wantsStandIn t = false by simpa using List.all_eq_true.1 hall t hm)⟩)
    (by kernel_rfl)
#print axioms walRoom_holds
end Go.Proofs.YtnobhjpobnmiaaaDoor
