/- The walk of slices.Clone at rows of api.Range. -/
import Derived.Test.YtinjajpnbbknnaaQx0
import Derived.WalkLawsBesides
import Derived.WalkSpells
import Derived.Lib.Hide
namespace Go.Proofs.Ytinjajpnbbknnaa.CRange
open Go Go.RowKit Go.Proofs.Ytinjajpnbbknnaa.Q Go.Proofs.YtinjajpnbbknnaaW.PrintWords Go.Proofs.YtinjajpnbbknnaaW.PrintLast Go.Proofs.YtinjajpnbbknnaaW.PrintMore

theorem info_e : (Try.prog.info? 45).map (fun i => (i.zero, i.size, i.bytes)) = some (some (.agg #[.string ⟨#[]⟩, .int .i64 0, .int .i64 0]), 3, 32) := by kernel_rfl
theorem made {w : World} {base : Nat} {ok : Nat → Prop} {x : S45} {cs : List Value} (h : k45.K w x cs) : k45.M w base ok x cs := by
  obtain rfl := k45_open h
  exact k45_mkM w base ok x
theorem clone_calls (A : Option Addr) (c : Nat) (l : List S45) (w : World) (hr : Kd.C k45 w A l.length l) (hl : l.length * 32 ≤ 140737488355328) :
    Calls Try.prog 51 #[.slice A l.length c] w fun e w' => ∃ v : Value, e = .returned v ∧ Kd.R k45 45 w' w.heap.size (fun _ => True) v l ∧ Below w.heap.size w w' := by
  have he := fun W a n c => Lib.run_eql_slice_nil (P := Try.prog) W 22 45 a n c 0 0 Try.underlying22
  cases A with
  | none =>
    have hz : l = [] := by
      cases l with
      | nil => rfl
      | cons x r => obtain ⟨ad, _, h, _⟩ := Kd.C_get hr z45 0 (by omega) (by simp); cases h
    subst hz
    go_enter Try.func51, Try.ntmps51
    go_wp2_with fail
    go_ret
    exact ⟨_, rfl, Kd.R_nil _ _ _ _ _, Below.refl _ _⟩
  | some ad =>
    have HR := Lib.hid hr
    have HB := Lib.hid (Below.refl w.heap.size w)
    clear hr
    go_enter Try.func51, Try.ntmps51
    go_wp2_with (first | ((with_reducible refine gate_dst (N := 5) rfl ?_); refine Kd.R_lit k45 _ 45 ?hg (N := 5) ?hd (xs := ([] : List S45)) (inner := []) (ok := fun _ => True) (okp := fun _ => True) ?hr ?hp (fun _ hk => hk) trivial (Below.refl _ _) (Nat.le_refl _) (by simp) ?_; (case hd => rfl); (case hg => rfl); (case hr => first | (go_simp; done) | (go_simp; rfl)); (case hp => exact (Reps.none _ _)); intro v1 w1 ho1 hb1 hg_ hnew_; clear hg_ hnew_; have HO1 := Lib.hid ho1; have HB1 := Lib.hid hb1; clear ho1 hb1) | ((with_reducible refine gate_builtin (b := .append) (xs := #[.tmp 5, .tmp 6]) rfl ?_); at_builtin; refine Kd.R_append_rows k45 (Rr := k45.K w1) (w0 := w) w.heap.size rfl (.tmp 5) (.tmp 6) 22 45 (.agg #[.string ⟨#[]⟩, .int .i64 0, .int .i64 0]) 32 rfl Try.underlying22 info_e rfl (by decide) (by omega) v1 [] l (some ad) l.length c (fun _ => True) (fun _ => False) rfl rfl ?aO ?aR ?aK (fun _ hk => hk.elim) (fun _ _ => trivial) ?aB ?aS ?aL ?_; (case aO => exact HO1.out); (case aR => exact Kd.C_below HR.out HB1.out); (case aK => exact fun _ _ h => made h); (case aB => exact HB1.out); (case aS => exact HB1.out.size); (case aL => simpa using hl); intro v2 w2 ho2 hb2 hg2 hat2; have HO2 := Lib.hid ho2; have HB2 := Lib.hid hb2; clear ho2 hb2 hg2 hat2))
    go_ret
    exact ⟨_, rfl, by simpa using HO2.out, HB2.out⟩
end Go.Proofs.Ytinjajpnbbknnaa.CRange
