/- The row of the law ViewsStay, over its walk and its pure statement. -/
import Derived.Test.YtndnjmgmdkkifaaOpens
import Derived.Test.YtndnjmgmdkkifaaRows
import Derived.WalkKit
import Derived.ProofKit
import Derived.OpenShut
import Derived.ShutString
import Derived.ChangeOld
import Derived.Below
import Derived.SizedLaws
import Derived.Carry
/- What the law ViewsStay asks, without memory; how its arguments open. -/
namespace Go.Proofs.Ytndnjmgmdkkifaa.OpensViewsStay
open Go Go.RowKit Go.Proofs.Ytndnjmgmdkkifaa.Opens Go.Proofs.Ytndnjmgmdkkifaa.Q Go.Proofs.YtndnjmgmdkkifaaW.PrintWords Go.Proofs.Ytndnjmgmdkkifaa.Vw1
def wf55 (x : S55) : Prop := ((Lit.int .i64 x.f0).wf = true) ∧ ((Lit.int .i64 x.f1).wf = true) ∧ ((Lit.int .i64 x.f2).wf = true) ∧ ((Lit.int .i64 x.f3).wf = true) ∧ (x.f4.size ≤ 140737488351232) ∧ (True)
theorem op55 : Opens.Op Try.prog 55 k55 wf55 := op_imp (op_iso (fun x : S55 => (x.f0, x.f1, x.f2, x.f3, x.f4, x.f5)) (fun p => ⟨p.1, p.2.1, p.2.2.1, p.2.2.2.1, p.2.2.2.2.1, p.2.2.2.2.2⟩) (fun _ => rfl) (op_struct Try.underlying55 (by kernel_rfl) (opF_cons rfl (by kernel_rfl) (op_int Try.underlying3) (opF_cons rfl (by kernel_rfl) (op_int Try.underlying3) (opF_cons rfl (by kernel_rfl) (op_int Try.underlying3) (opF_cons rfl (by kernel_rfl) (op_int Try.underlying3) (opF_cons rfl (by kernel_rfl) (op_string Try.underlying9) (opF_one rfl (by kernel_rfl) (op_bool Try.underlying4))))))))) (fun _ h => h)
theorem opArg1 : Opens.Op Try.prog 49 (Kd.slice 55 k55) (fun x => x.length ≤ 9223372036854775807 ∧ x.length * 56 ≤ 140737488351232 ∧ ∀ y ∈ x, wf55 y) := (op_slice 55 Try.underlying49 (by kernel_rfl) (by kernel_rfl) op55)
/-- THE ONE PURE STATEMENT. -/
def Pure : Prop := ∀ (a0 : Int) (l1 : (List S55)), ((Lit.int .u8 a0).wf = true) → (l1.length ≤ 9223372036854775807 ∧ l1.length * 56 ≤ 140737488351232 ∧ ∀ y ∈ l1, wf55 y) → cantonlaw16_ViewsStay.f a0 l1 = some true
end Go.Proofs.Ytndnjmgmdkkifaa.OpensViewsStay
/- ViewsStay, without memory: the walk shows it true wherever its arguments are of their kinds. -/
namespace Go.Proofs.Ytndnjmgmdkkifaa.Pure
open Go Go.RowKit Go.Proofs.Ytndnjmgmdkkifaa.Vw1 Go.Proofs.Ytndnjmgmdkkifaa.Q Go.Proofs.Ytndnjmgmdkkifaa.OpensViewsStay

theorem u8_range {y : Int} (h : (Lit.int .u8 y).wf = true) : 0 ≤ y ∧ y ≤ 255 := by
  simp only [Lit.wf, Bool.and_eq_true, decide_eq_true_eq] at h
  exact ⟨h.1, h.2⟩
theorem ViewsStay : OpensViewsStay.Pure := by
  intro a0 l1 h0 h1
  obtain ⟨_, hz1, hw⟩ := h1
  unfold cantonlaw16_ViewsStay.f
  rw [if_pos ⟨u8_range h0, by omega, fun y hy => by have := (hw y hy).2.2.2.2.1; omega⟩]
end Go.Proofs.Ytndnjmgmdkkifaa.Pure
namespace Go.Proofs.Ytndnjmgmdkkifaa.viewsStay
open Go.ChangeShapes Go.WideShapes Go.ChangeAt Go.RowKit
open Go.ChangeMaps (open_string shut_string)
set_option linter.unusedVariables false
theorem own : ownKnob Try.prog.godebug = none := by kernel_rfl
theorem laidOut : laidOutB Try.prog = true := by kernel_rfl
set_option maxRecDepth 100000 in
theorem lifted (os : Os) (started : os.Started) (H : Type) (enc : TypeId × Value → H) :
    ReturnsInHanded {} Try.checked os 4 .any (Rows.viewsStaySpec.pre6 enc Try.prog Try.f4 Rows.viewsStayRow.domain false) (Rows.viewsStaySpec.post enc Try.prog Try.f4 false true false false) := by
  refine returnsInHanded_of_change_sized (C := Try.checked) own started (by kernel_rfl) Try.func4
    (ChangeSpec.witness6 (enc := enc) (C := Try.checked) false ⟨#[], #[.int .u8 0, .slice none 0 0], []⟩ 8 (by kernel_rfl) (by kernel_rfl) (by kernel_rfl) (by kernel_rfl)) ?_
  intro W base args ds gs before hval0 hW hcnd hsz0 _
  have hsz : (DataW.weightsEach Try.prog (Try.f4.params.toList ++ Rows.viewsStaySpec.plain.varTypes Try.prog) (ds ++ gs)).all (· ≤ reachBytes) = true := hsz0
  have hval : ∀ (j : Nat) t v, Try.f4.params[j]? = some t → args[j]? = some v → Value.okWide Try.prog W .any base t v := hval0
  have hW' := hW
  obtain ⟨p, q, hA0, hV, rfl, hfz, hnd⟩ := hW
  have hA : DataW.TrodAll enc Try.prog W 0 (fun _ => true) true Try.f4.params.toList args.toList ds p := hA0
  rw [Try.params4] at hA hval hsz
  obtain ⟨v0, vs0, d0, ds0, p0, q0, hargs, rfl, rfl, h0, r0⟩ := trodAll_cons hA
  obtain ⟨v1, vs1, d1, ds1, p1, q1, rfl, rfl, rfl, h1, r1⟩ := trodAll_cons r0
  obtain ⟨rfl, rfl, rfl⟩ := trodAll_nil r1
  obtain rfl : args = #[v0, v1] := by cases args; simp_all
  obtain ⟨rfl, rfl⟩ := trodVars_none hV
  obtain ⟨a0, rfl, rfl, rfl, w0⟩ := open_int Try.underlying5 (hval 0 5 v0 rfl rfl) h0
  have k1 := h1
  have lt1 : ∀ x ∈ p1, x.block < W.heap.size := by obtain ⟨m, hm⟩ := k1; exact DataW.trod_lt m _ _ _ hm
  obtain ⟨ad1, len1, cap1, rfl⟩ := okWide_slice Try.underlying49 (hval 1 49 v1 rfl rfl)
  obtain ⟨l1, ⟨A1, c1, he1, hc1, hr1⟩, w1⟩ := Opens.arg_open OpensViewsStay.opArg1 h1 (Opens.own_weights hsz (j := 1) (t := 49) rfl rfl)
  simp [Value.cells] at he1
  obtain ⟨rfl, rfl, rfl⟩ := he1
  clear hA0 hval0 hsz0 hsz
  have hk := Pure.ViewsStay a0 l1 w0 w1
  refine (Vw1.cantonlaw16_ViewsStay.calls a0 _ _ l1 true W hr1 hk).mono fun e W' ⟨he, bel⟩ => ?_
  subst he
  exact ⟨_, rfl, _, _, _, [], _, [], hW', trodAll_mk1 (shut_bool Try.underlying4 _), (trodAll_cons_mk (shut_int Try.underlying5 w0) (trodAll_cons_mk (Below.trod laidOut (by kernel_rfl) (of_decide_eq_true (by kernel_rfl)) k1 bel lt1) trodAll_mk0)), rfl, bel.frame _, fun h => by cases h⟩
theorem over : Rows.viewsStayRow.holds Try.pinned (OpenSpec.ofChange Rows.viewsStaySpec) :=
  OpenClaim.holds_of_wide 4 Try.f4 rfl rfl rfl rfl rfl rfl rfl ⟨rfl, rfl, rfl, rfl, rfl⟩ rfl rfl rfl rfl rfl (by kernel_rfl) Try.func4 (by kernel_rfl)
    (of_decide_eq_true (by kernel_rfl)) (by unfold Func.isWrapper; first | (rw [if_pos (by decide +kernel)]; kernel_rfl) | (rw [if_neg (by decide +kernel)]; exact ⟨rfl, rfl⟩))
    (fun os started H enc _ => lifted os started H enc)
theorem proved : Rows.ViewsStaySaid := over
#print axioms proved
end Go.Proofs.Ytndnjmgmdkkifaa.viewsStay
namespace Go.Proofs.Ytndnjmgmdkkifaa
/-- The row, under a short name, for the claim. -/
theorem viewsStay_holds : Rows.ViewsStaySaid := viewsStay.proved
end Go.Proofs.Ytndnjmgmdkkifaa
