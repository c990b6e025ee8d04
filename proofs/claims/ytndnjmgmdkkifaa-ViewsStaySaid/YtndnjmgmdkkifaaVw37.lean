/- The region of team.step in which a letter is cut out of the row of letters. -/
import Derived.Test.YtndnjmgmdkkifaaVw35
import Derived.Outline
import Derived.Deep.DrawnRows
namespace Go.Proofs.Ytndnjmgmdkkifaa.Vw1
open Go Go.RowKit Go.Maps Go.Proofs Go.Proofs.Ytndnjmgmdkkifaa.New Go.Proofs.Ytndnjmgmdkkifaa.Vw Go.Proofs.Ytndnjmgmdkkifaa.Vw0 Go.Proofs.Ytndnjmgmdkkifaa.Q Go.Proofs.YtndnjmgmdkkifaaW.PrintWords Go.Proofs.YtndnjmgmdkkifaaW.PrintLast Go.Proofs.YtndnjmgmdkkifaaW.PrintMore
set_option linter.unusedVariables false
set_option linter.unusedSimpArgs false
/-- the region of a number in a code -/
def findR (id : Nat) : Code → Option Code
  | .region i ops b => if i == id then some (.region i ops b) else none
  | .seq a b => (findR id a).orElse fun _ => findR id b
  | .cond _ a b => (findR id a).orElse fun _ => findR id b
  | .block _ a => findR id a
  | .loop a => findR id a
  | _ => none
def codeR (id : Nat) (f : Func) : Code := ((f.body).bind (findR id)).getD .skip
attribute [local go_sem ↓] Go.wp_at_zero Go.wp_at_succ
set_option maxHeartbeats 8000000 in
set_option maxRecDepth 100000 in
theorem reg23 {B : Nat} {tb k n gw cw : Nat} {p : Nat → Nat} {r : Nat → V} {sv : Nat → Sv} {way : List St.Fly} {gl1 cl1 : Nat} {csl1 : Array Value} {gs1 cs1 : Nat} {css1 : Array Value} {rows1 : List (List Value)} {wc : World} {t1 t2 t3 t4 t5 t6 t7 t8 t10 t11 t12 t13 t14 t15 t16 t17 t18 t19 t20 t21 t22 t23 t24 t25 t26 t27 t28 t29 t30 t31 t32 t33 t34 t35 t36 t37 t38 t39 t40 t41 t42 t43 t44 t45 t46 t47 t48 t49 t50 t51 t52 t53 t54 t55 t56 t57 t58 t59 t60 t61 t62 t63 t64 t65 t66 t67 t68 t69 t70 t71 t72 t73 t74 t75 t76 t77 t78 t79 t80 t81 t82 t83 t84 t85 t86 t87 t88 t89 t90 t91 t92 t93 t94 t95 t96 t97 t98 t99 t100 t101 t102 t103 t104 t105 t106 t107 t108 t109 t110 t111 t112 t113 t114 t115 t116 t117 t118 t119 t120 t121 t122 t123 t124 t125 t126 t127 t128 t129 t130 t131 t132 t133 t134 t135 t136 t137 t138 t139 t140 t141 t142 t143 t144 t145 t146 t147 t148 t149 t150 t151 t152 t153 t154 t155 t156 t157 t158 t159 t160 t161 t162 t163 t164 t165 t166 t167 t168 t169 t170 t171 t172 t173 t174 t175 t176 t177 t178 t179 t180 t181 t182 t183 t184 t185 t186 t187 t188 t189 t190 t191 t192 t193 t194 t195 t196 t197 t198 t199 t200 t201 t202 t203 t204 t205 t206 : Value} {Q : Exit → Act → World → Prop}
    (HX : Hid (TX B wc tb n p r sv way gl1 cl1 csl1 gs1 cs1 css1 (.slice (some ⟨gw, 0, none⟩) way.length cw) rows1)) (hkn : k < way.length) (hwl : way.length ≤ 200)
    (HCW : Hid (Kd.C (Kd.raw 10) wc (some ⟨gw, 0, none⟩) way.length rows1))
    (hQ : ∀ (u116 u117 u118 u119 u120 u121 u122 u123 u124 u125 u126 u127 u128 u129 u130 u131 u132 u133 u134 : Value) A5 N5 c5 w5, Kd.R (Kd.raw 10) 84 w5 wc.heap.size (fun _ => True) (.slice A5 N5 c5) (rows1.take k ++ rows1.drop (k + 1)) → Below wc.heap.size wc w5 → Q .normal ⟨(List.toArray (.pointer (some ⟨tb, 0, none⟩) :: t1 :: t2 :: t3 :: t4 :: t5 :: t6 :: t7 :: t8 :: .int .i64 (k : Int) :: t10 :: t11 :: t12 :: t13 :: t14 :: t15 :: t16 :: t17 :: t18 :: t19 :: t20 :: t21 :: t22 :: t23 :: t24 :: t25 :: t26 :: t27 :: t28 :: t29 :: t30 :: t31 :: t32 :: t33 :: t34 :: t35 :: t36 :: t37 :: t38 :: t39 :: t40 :: t41 :: t42 :: t43 :: t44 :: t45 :: t46 :: t47 :: t48 :: t49 :: t50 :: t51 :: t52 :: t53 :: t54 :: t55 :: t56 :: t57 :: t58 :: t59 :: t60 :: t61 :: t62 :: t63 :: t64 :: t65 :: t66 :: t67 :: t68 :: t69 :: t70 :: t71 :: t72 :: t73 :: t74 :: t75 :: t76 :: t77 :: t78 :: t79 :: t80 :: t81 :: t82 :: t83 :: t84 :: t85 :: t86 :: t87 :: t88 :: t89 :: t90 :: t91 :: t92 :: t93 :: t94 :: t95 :: t96 :: t97 :: t98 :: t99 :: t100 :: t101 :: t102 :: t103 :: t104 :: t105 :: t106 :: t107 :: t108 :: t109 :: t110 :: t111 :: t112 :: t113 :: t114 :: t115 :: u116 :: u117 :: u118 :: u119 :: u120 :: u121 :: u122 :: u123 :: u124 :: u125 :: u126 :: u127 :: u128 :: u129 :: u130 :: u131 :: u132 :: u133 :: u134 :: t135 :: t136 :: t137 :: t138 :: t139 :: t140 :: t141 :: t142 :: t143 :: t144 :: t145 :: t146 :: t147 :: t148 :: t149 :: t150 :: t151 :: t152 :: t153 :: t154 :: t155 :: t156 :: t157 :: t158 :: t159 :: t160 :: t161 :: t162 :: t163 :: t164 :: t165 :: t166 :: t167 :: t168 :: t169 :: t170 :: t171 :: t172 :: t173 :: t174 :: t175 :: t176 :: t177 :: t178 :: t179 :: t180 :: t181 :: t182 :: t183 :: t184 :: t185 :: t186 :: t187 :: t188 :: t189 :: t190 :: t191 :: t192 :: t193 :: t194 :: t195 :: t196 :: t197 :: t198 :: t199 :: t200 :: t201 :: t202 :: t203 :: t204 :: t205 :: t206 :: [])), []⟩ (w5.setCell ⟨tb, 2, none⟩ (.slice A5 N5 c5))) :
    Code.wp Try.prog (codeR 23 Try.f30) Q ⟨(List.toArray (.pointer (some ⟨tb, 0, none⟩) :: t1 :: t2 :: t3 :: t4 :: t5 :: t6 :: t7 :: t8 :: .int .i64 (k : Int) :: t10 :: t11 :: t12 :: t13 :: t14 :: t15 :: t16 :: t17 :: t18 :: t19 :: t20 :: t21 :: t22 :: t23 :: t24 :: t25 :: t26 :: t27 :: t28 :: t29 :: t30 :: t31 :: t32 :: t33 :: t34 :: t35 :: t36 :: t37 :: t38 :: t39 :: t40 :: t41 :: t42 :: t43 :: t44 :: t45 :: t46 :: t47 :: t48 :: t49 :: t50 :: t51 :: t52 :: t53 :: t54 :: t55 :: t56 :: t57 :: t58 :: t59 :: t60 :: t61 :: t62 :: t63 :: t64 :: t65 :: t66 :: t67 :: t68 :: t69 :: t70 :: t71 :: t72 :: t73 :: t74 :: t75 :: t76 :: t77 :: t78 :: t79 :: t80 :: t81 :: t82 :: t83 :: t84 :: t85 :: t86 :: t87 :: t88 :: t89 :: t90 :: t91 :: t92 :: t93 :: t94 :: t95 :: t96 :: t97 :: t98 :: t99 :: t100 :: t101 :: t102 :: t103 :: t104 :: t105 :: t106 :: t107 :: t108 :: t109 :: t110 :: t111 :: t112 :: t113 :: t114 :: t115 :: t116 :: t117 :: t118 :: t119 :: t120 :: t121 :: t122 :: t123 :: t124 :: t125 :: t126 :: t127 :: t128 :: t129 :: t130 :: t131 :: t132 :: t133 :: t134 :: t135 :: t136 :: t137 :: t138 :: t139 :: t140 :: t141 :: t142 :: t143 :: t144 :: t145 :: t146 :: t147 :: t148 :: t149 :: t150 :: t151 :: t152 :: t153 :: t154 :: t155 :: t156 :: t157 :: t158 :: t159 :: t160 :: t161 :: t162 :: t163 :: t164 :: t165 :: t166 :: t167 :: t168 :: t169 :: t170 :: t171 :: t172 :: t173 :: t174 :: t175 :: t176 :: t177 :: t178 :: t179 :: t180 :: t181 :: t182 :: t183 :: t184 :: t185 :: t186 :: t187 :: t188 :: t189 :: t190 :: t191 :: t192 :: t193 :: t194 :: t195 :: t196 :: t197 :: t198 :: t199 :: t200 :: t201 :: t202 :: t203 :: t204 :: t205 :: t206 :: [])), []⟩ wc := by
  obtain ⟨_, _, q2⟩ := cells3 HX.out.blk
  have hrl3 : rows1.length = way.length := HX.out.way.1
  have HC1 := Lib.hid (show Kd.C (Kd.raw 10) wc (some ⟨gw, 0, none⟩) k (rows1.take k) from by
    have := Kd.C_take (m := k) (by rw [hrl3]; exact HCW.out) (by omega)
    rwa [List.length_take, show min k rows1.length = k by omega] at this)
  have hcap : way.length ≤ cw := by
    have := Kd.R_reads' HX.out.wrow
    omega
  obtain ⟨A7, hA7⟩ : ∃ A7 : Option Addr, (if cw = k + 1 then some ⟨gw, 0, none⟩ else some ⟨gw, (k + 1) * 10, none⟩) = A7 := ⟨_, rfl⟩
  have HC2 := Lib.hid (show Kd.C (Kd.raw 10) wc A7 (way.length - (k + 1)) (rows1.drop (k + 1)) from by
    have := Kd.C_drop (m := k + 1) (c := cw) (by rw [hrl3]; exact HCW.out) (by omega) (by omega)
    rw [List.length_drop, hrl3] at this
    rw [← hA7]
    simpa [add_at, Kd.raw] using this)
  have hl1 : ([] : List (List Value)).length + k ≤ 1000 := by simp; omega
  have hl2 : ([] ++ rows1.take k).length + (way.length - (k + 1)) ≤ 1000 := by simp; omega
  have hkc : (k : Int) ≤ (cw : Int) := by omega
  have hk1w : IntKind.i64.wrap ((k : Int) + 1) = (k : Int) + 1 := IntWalk.i64_in _ (by omega)
  have hk1n : ((k : Int) + 1).toNat = k + 1 := by omega
  have hk0 : (0 : Int) ≤ (k : Int) := by omega
  have hkl : (k : Int) ≤ (way.length : Int) := by omega
  have hk10 : (0 : Int) ≤ (k : Int) + 1 := by omega
  have hk1l : (k : Int) + 1 ≤ (way.length : Int) := by omega
  have hk1c : (k : Int) + 1 ≤ (cw : Int) := by omega
  have hwc2 : (way.length : Int) ≤ (cw : Int) := by omega
  have q2a := fun o : Obj => cell_keep0 (below_alloc (Below.refl _ wc) o) q2
  have HQ := Lib.hid hQ
  clear hcap hkn hQ
  unfold codeR Try.f30
  simp only [Option.bind_some, findR, Nat.reduceBEq, if_true, if_false, Option.orElse_none, Option.orElse_some, Option.getD_some, Bool.false_eq_true, Option.orElse_eq_orElse, Option.orElse_eq_or, Option.none_or, Option.some_or]
  refine wp_region_noPanic ?_
  go_region_law (first | (refine app_cut (wc := wc) (by rfl) (.tmp 124) (.tmp 131) (by rfl) (by rfl) (by rfl) HR4.out HC2.out HB4.out hl2 ?_; intro A5 N5 c5 w5 hr5 hb5; have HR5 := Lib.hid hr5; have HB5 := Lib.hid hb5; have q5 := cell_keep0 hb5 q2; have qf5 := blk_frozen (blk_below HX.out.blk hb5) 2; clear hr5 hb5) | (refine app_cut (wc := wc) (by rfl) (.tmp 117) (.tmp 123) (by rfl) (by rfl) (by rfl) (empty_row' wc _) HC1.out (bk_alloc wc _) hl1 ?_; intro A4 N4 c4 w4 hr4 hb4; have HR4 := Lib.hid hr4; have HB4 := Lib.hid hb4; have q4 := cell_keep0 hb4 q2; clear hr4 hb4))
  all_goals exact HQ.out _ _ _ _ _ _ _ _ _ _ _ _ _ _ _ _ _ _ _ _ _ _ _ HR5.out HB5.out
end Go.Proofs.Ytndnjmgmdkkifaa.Vw1
