/- The row of the law LocksMore, over its walk and its pure statement. -/
import Derived.Test.YtclomgbiomojjaaLRef
import Derived.Test.YtclomgbiomojjaaAskLocksMore
import Derived.Test.YtclomgbiomojjaaRows
import Derived.Test.YtclomgbiomojjaaQx9
import Derived.WalkKit
import Derived.ProofKit
import Derived.OpenShut
import Derived.ShutString
import Derived.ChangeOld
import Derived.Below
import Derived.SizedLaws
import Derived.Carry
/- Small words for the laws of locks. -/
namespace Go.Proofs.Ytclomgbiomojjaa.LLaw
open Go Go.RowKit Go.Proofs.Ytclomgbiomojjaa.Split Go.Proofs.Ytclomgbiomojjaa.PathF Go.Proofs.Ytclomgbiomojjaa.Q Go.Proofs.Ytclomgbiomojjaa.LTh Go.Proofs.Ytclomgbiomojjaa.LRef Go.Proofs.Ytclomgbiomojjaa.LTake Go.Proofs.Ytclomgbiomojjaa.LHeld Go.Proofs.Ytclomgbiomojjaa.LFree Go.Proofs.Ytclomgbiomojjaa.LRight Go.Proofs.YtclomgbiomojjaaW.PrintWords
open Go.Proofs.Ytclomgbiomojjaa.LRgt (num rightB)
open Go.Proofs.Ytclomgbiomojjaa.LSet (Up ltI)
set_option linter.unusedVariables false

theorem wsucc (i : Nat) (h : i < 1000000000) : wrap64 ((i : Int) + 1) = ((i + 1 : Nat) : Int) := by unfold wrap64; omega
theorem wf_num {n : Int} (h : 0 ≤ n ∧ n ≤ 281474976710656) : (Lit.int .i64 n).wf = true := WalkArith.wf_i64 ⟨by omega, by omega⟩
theorem wf_right {l : List S} (h : RightH l) : l.all wfB = true := List.all_eq_true.2 fun x hx => by
  obtain ⟨_, h1, h2⟩ := (okE_iff x).1 (h.ok x hx)
  unfold wfB
  rw [wf_num h1, wf_num h2]; rfl
theorem size_right {l : List S} (h : RightH l) : ∀ x ∈ l, x.f0.size ≤ 10000 := fun x hx => by
  obtain ⟨h0, _⟩ := (okE_iff x).1 (h.ok x hx)
  unfold isP at h0
  rcases path_cases x.f0 with c | ⟨ls, c, hp⟩
  · rw [c] at h0; cases h0
  · have := size_of c hp; omega
theorem take_f {l : List S} (h : RightH l) {a1 a2 : Int} (h1 : (Lit.int .i64 a1).wf = true) (h2 : (Lit.int .i64 a2).wf = true) {ds : List ByteArray} (hl : l.length + ds.length ≤ 1000) : locks_Take.f l a1 a2 ds = some (takeP l a1 a2 ds) := by
  unfold locks_Take.f
  rw [if_pos ⟨hl, wf_right h, h1, h2⟩]
theorem held_f {l : List S} (hl : l.length ≤ 1000000) (d : ByteArray) : locks_Held.f l d = some (heldT l d, heldB l d) := by
  unfold locks_Held.f; rw [if_pos hl]
theorem free_f {l : List S} (hl : l.length ≤ 1000000) (t : Int) : locks_Free.f l t = some (freeP l t) := by
  unfold locks_Free.f; rw [if_pos hl]
theorem right_f {l : List S} (h : RightH l) (hl : l.length ≤ 1000) (k : Nat) (hk : 2100000 ≤ k) : cantonref10_Right.f k l = some true := by
  rw [LRef.right_is l hl (size_right h) k hk, (right_iff l).2 h]
theorem insA_len {l : List S} {a1 a2 : Int} {ds : List ByteArray} : (LTk0.insAll a1 a2 l ds).length ≤ l.length + ds.length := LTk0.insAll_len a1 a2 ds l
/-- what is taken, taken once more, or a part of it -/
theorem again {l m : List S} {a1 a2 : Int} {ds ds' : List ByteArray} (h : Ok l a1 a2 ds) (hf : ∀ x ∈ l, x.f0 ∈ ds → x.f1 = a1) (hm : InsA l a1 a2 ds m) (hr : RightH m) (hsub : ∀ d ∈ ds', d ∈ ds) : takeP m a1 a2 ds' = (m, [], true) := by
  have hin : ∀ x ∈ m, x.f0 ∈ ds → x.f1 = a1 := fun x hx hd => by
    rcases (hm.mem x).1 hx with g | g
    · exact hf x g hd
    · exact g.2.1
  have hok : Ok m a1 a2 ds' := ⟨hr, h.n1, h.n2, fun d hd => h.dirs d (hsub d hd), fun x hx e => by
    rcases (hm.mem x).1 hx with g | g
    · exact h.own x g e
    · exact g.2.2.1⟩
  have hall : ∀ d ∈ ds, ∃ x ∈ m, x.f0 = d := fun d hd => by
    by_cases c : ∃ x ∈ l, x.f0 = d
    · obtain ⟨x, hx, e⟩ := c
      exact ⟨x, (hm.mem x).2 (.inl hx), e⟩
    · exact ⟨⟨d, a1, a2⟩, (hm.mem _).2 (.inr ⟨hd, rfl, rfl, fun x hx e => c ⟨x, hx, e⟩⟩), rfl⟩
  rcases took m a1 a2 ds' with ⟨g, _⟩ | ⟨g, g2, m', e, hm', _⟩ | ⟨g, x, hx, hd, hn, _⟩
  · exact absurd hok g
  · rw [e]
    have : m' = m := up_eq hm'.up hr.up (fun y => by
      rw [hm'.mem]
      refine ⟨fun h => h.elim id fun ⟨k1, _, _, k4⟩ => ?_, .inl⟩
      obtain ⟨x, hx, e⟩ := hall _ (hsub _ k1)
      exact absurd e (k4 x hx))
    rw [this]
  · exact absurd (hin x hx (hsub _ hd)) hn
/-- what Take answers, and what its length is -/
theorem got_len {l m : List S} {a1 a2 : Int} {ds : List ByteArray} {W : List Int} (e : takeP l a1 a2 ds = (m, W, true)) : m.length ≤ l.length + ds.length := by
  unfold takeP at e
  split at e
  · cases e
  · split at e
    · cases e; exact insA_len
    · cases e
end Go.Proofs.Ytclomgbiomojjaa.LLaw
/- LocksMore, without memory: who holds directories, and takes them once more, or some of them, holds what it held; taking none is always done. -/
namespace Go.Proofs.Ytclomgbiomojjaa.Pure
open Go Go.RowKit Go.Proofs.Ytclomgbiomojjaa.Q Go.Proofs.Ytclomgbiomojjaa.PathF Go.Proofs.Ytclomgbiomojjaa.LTh Go.Proofs.Ytclomgbiomojjaa.LRef Go.Proofs.Ytclomgbiomojjaa.LLaw Go.Proofs.Ytclomgbiomojjaa.LTake Go.Proofs.YtclomgbiomojjaaW.PrintWords Go.Proofs.YtclomgbiomojjaaW.PrintLast Go.Proofs.Ytclomgbiomojjaa.OpensLocksMore
open Go.Proofs.Ytclomgbiomojjaa.LRgt (rightB)

theorem LocksMore : OpensLocksMore.Pure := by
  intro l a1 a2 ds hl h1 h2 hd
  obtain ⟨hl0, hl1, hw⟩ := hl
  obtain ⟨hd0, hd1, hdw⟩ := hd
  obtain ⟨K, hK⟩ : ∃ K, K = l.length + ds.length + 3000000 := ⟨_, rfl⟩
  refine ⟨K + 1, ?_⟩
  unfold cantonlaw10_LocksMore.f
  rw [cantonlaw10_head.is, Option.bind_some]
  obtain ⟨b, hb, hg⟩ := great_is l ds (by omega) (by omega) (fun x hx => by have := (hw x hx).1; omega) (fun x hx => by have := hdw x hx; omega) (K + 1) (by omega)
  rw [hb, Option.bind_some]
  have stop : cantonlaw10_LocksMore.j0 (K + 1) l a1 a2 ds true true = some true := by rw [cantonlaw10_LocksMore.j0, if_pos rfl]
  by_cases c1 : b = true
  · rw [if_pos c1, stop]
  · rw [if_neg c1]
    obtain ⟨g1, g2, g3, g4⟩ := hg (by simpa using c1)
    rw [LRef.right_is l (by omega) (fun x hx => by have := g3 x hx; omega) (K + 1) (by omega), Option.bind_some]
    cases c2 : rightB l with
    | false => exact stop
    | true =>
      have hR := (right_iff l).1 c2
      rw [Bool.not_true, cantonlaw10_LocksMore.j0, if_neg (by simp), take_f hR h1 h2 (by omega), Option.bind_some]
      rcases took l a1 a2 ds with ⟨g, e⟩ | ⟨g, gf, m, e, hm, hr⟩ | ⟨g, x, hx, hdx, hn, W, e, _⟩
      · rw [e, if_neg (by simp)]
      · have hlen := got_len e
        have htk : (ds.take (ds.length / 2)).length ≤ ds.length := by simp; omega
        have hh : wrap64 ((ds.length : Int) / 2) = ((ds.length / 2 : Nat) : Int) := by unfold wrap64; omega
        rw [e, if_pos rfl]
        dsimp only
        rw [take_f hr h1 h2 (by omega), Option.bind_some, hh, if_pos (by omega), if_pos (by omega), take_f hr h1 h2 (by simp only [Int.toNat_natCast]; omega), Option.bind_some, take_f hr h1 h2 (by simp; omega), Option.bind_some,
          again g gf hm hr (fun d h => h), again g gf hm hr (ds' := ds.take _) (fun d h => List.mem_of_mem_take h), again g gf hm hr (ds' := []) (fun d h => by cases h)]
        simp only [if_true, List.length_nil]
        rw [if_pos (by rfl), same_self m (by omega) K (by omega), Option.bind_some, if_pos rfl, Option.bind_some, if_pos rfl]
        rfl
      · rw [e, if_neg (by simp)]
end Go.Proofs.Ytclomgbiomojjaa.Pure
namespace Go.Proofs.Ytclomgbiomojjaa.locksMore
open Go.ChangeShapes Go.WideShapes Go.ChangeAt Go.RowKit
open Go.ChangeMaps (open_string shut_string)
set_option linter.unusedVariables false
theorem own : ownKnob Try.prog.godebug = none := by kernel_rfl
theorem laidOut : laidOutB Try.prog = true := by kernel_rfl
set_option maxRecDepth 100000 in
theorem lifted (os : Os) (started : os.Started) (H : Type) (enc : TypeId × Value → H) :
    ReturnsInHanded {} Try.checked os 6 .any (Rows.locksMoreSpec.pre6 enc Try.prog Try.f6 Rows.locksMoreRow.domain false) (Rows.locksMoreSpec.post enc Try.prog Try.f6 false true false false) := by
  refine returnsInHanded_of_change_sized (C := Try.checked) own started (by kernel_rfl) Try.func6
    (ChangeSpec.witness6 (enc := enc) (C := Try.checked) false ⟨#[], #[.slice none 0 0, .int .i64 0, .int .i64 0, .slice none 0 0], []⟩ 8 (by kernel_rfl) (by kernel_rfl) (by kernel_rfl) (by kernel_rfl)) ?_
  intro W base args ds gs before hval0 hW hcnd hsz0 _
  have hsz : (DataW.weightsEach Try.prog (Try.f6.params.toList ++ Rows.locksMoreSpec.plain.varTypes Try.prog) (ds ++ gs)).all (· ≤ reachBytes) = true := hsz0
  have hval : ∀ (j : Nat) t v, Try.f6.params[j]? = some t → args[j]? = some v → Value.okWide Try.prog W .any base t v := hval0
  have hW' := hW
  obtain ⟨p, q, hA0, hV, rfl, hfz, hnd⟩ := hW
  have hA : DataW.TrodAll enc Try.prog W 0 (fun _ => true) true Try.f6.params.toList args.toList ds p := hA0
  rw [Try.params6] at hA hval hsz
  obtain ⟨v0, vs0, d0, ds0, p0, q0, hargs, rfl, rfl, h0, r0⟩ := trodAll_cons hA
  obtain ⟨v1, vs1, d1, ds1, p1, q1, rfl, rfl, rfl, h1, r1⟩ := trodAll_cons r0
  obtain ⟨v2, vs2, d2, ds2, p2, q2, rfl, rfl, rfl, h2, r2⟩ := trodAll_cons r1
  obtain ⟨v3, vs3, d3, ds3, p3, q3, rfl, rfl, rfl, h3, r3⟩ := trodAll_cons r2
  obtain ⟨rfl, rfl, rfl⟩ := trodAll_nil r3
  obtain rfl : args = #[v0, v1, v2, v3] := by cases args; simp_all
  obtain ⟨rfl, rfl⟩ := trodVars_none hV
  have k0 := h0
  have lt0 : ∀ x ∈ p0, x.block < W.heap.size := by obtain ⟨m, hm⟩ := k0; exact DataW.trod_lt m _ _ _ hm
  obtain ⟨ad0, len0, cap0, rfl⟩ := okWide_slice Try.underlying22 (hval 0 22 v0 rfl rfl)
  obtain ⟨l0, ⟨A0, c0, he0, hc0, hr0⟩, w0⟩ := Opens.arg_open OpensLocksMore.opArg0 h0 (Opens.own_weights hsz (j := 0) (t := 22) rfl rfl)
  simp [Value.cells] at he0
  obtain ⟨rfl, rfl, rfl⟩ := he0
  obtain ⟨a1, rfl, rfl, rfl, w1⟩ := open_int Try.underlying2 (hval 1 2 v1 rfl rfl) h1
  obtain ⟨a2, rfl, rfl, rfl, w2⟩ := open_int Try.underlying2 (hval 2 2 v2 rfl rfl) h2
  have k3 := h3
  have lt3 : ∀ x ∈ p3, x.block < W.heap.size := by obtain ⟨m, hm⟩ := k3; exact DataW.trod_lt m _ _ _ hm
  obtain ⟨ad3, len3, cap3, rfl⟩ := okWide_slice Try.underlying23 (hval 3 23 v3 rfl rfl)
  obtain ⟨l3, ⟨A3, c3, he3, hc3, hr3⟩, w3⟩ := Opens.arg_open OpensLocksMore.opArg3 h3 (Opens.own_weights hsz (j := 3) (t := 23) rfl rfl)
  simp [Value.cells] at he3
  obtain ⟨rfl, rfl, rfl⟩ := he3
  clear hA0 hval0 hsz0 hsz
  obtain ⟨k, hk⟩ := Pure.LocksMore l0 a1 a2 l3 w0 w1 w2 w3
  refine (Q.cantonlaw10_LocksMore.calls k _ _ l0 a1 a2 _ _ l3 true W hr0 hc0 hr3 hc3 hk).mono fun e W' ⟨he, bel⟩ => ?_
  subst he
  exact ⟨_, rfl, _, _, _, [], _, [], hW', trodAll_mk1 (shut_bool Try.underlying4 _), (trodAll_cons_mk (Below.trod laidOut (by kernel_rfl) (of_decide_eq_true (by kernel_rfl)) k0 bel lt0) (trodAll_cons_mk (shut_int Try.underlying2 w1) (trodAll_cons_mk (shut_int Try.underlying2 w2) (trodAll_cons_mk (Below.trod laidOut (by kernel_rfl) (of_decide_eq_true (by kernel_rfl)) k3 bel lt3) trodAll_mk0)))), rfl, bel.frame _, fun h => by cases h⟩
theorem over : Rows.locksMoreRow.holds Try.pinned (OpenSpec.ofChange Rows.locksMoreSpec) :=
  OpenClaim.holds_of_wide 6 Try.f6 rfl rfl rfl rfl rfl rfl rfl ⟨rfl, rfl, rfl, rfl, rfl⟩ rfl rfl rfl rfl rfl (by kernel_rfl) Try.func6 (by kernel_rfl)
    (of_decide_eq_true (by kernel_rfl)) (by unfold Func.isWrapper; first | (rw [if_pos (by decide +kernel)]; kernel_rfl) | (rw [if_neg (by decide +kernel)]; exact ⟨rfl, rfl⟩))
    (fun os started H enc _ => lifted os started H enc)
theorem proved : Rows.LocksMoreSaid := over
#print axioms proved
end Go.Proofs.Ytclomgbiomojjaa.locksMore
namespace Go.Proofs.Ytclomgbiomojjaa
/-- The row, under a short name, for the claim. -/
theorem locksMore_holds : Rows.LocksMoreSaid := locksMore.proved
end Go.Proofs.Ytclomgbiomojjaa
