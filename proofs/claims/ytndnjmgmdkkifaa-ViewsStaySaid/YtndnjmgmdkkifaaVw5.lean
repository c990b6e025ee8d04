/- Views in memory: the walks of newer and count. -/
import Derived.Test.YtndnjmgmdkkifaaVw4
namespace Go.Proofs.Ytndnjmgmdkkifaa.Vw1
open Go Go.RowKit Go.Maps Go.Proofs Go.Proofs.Ytndnjmgmdkkifaa.New Go.Proofs.Ytndnjmgmdkkifaa.Vw Go.Proofs.Ytndnjmgmdkkifaa.Vw0 Go.Proofs.YtndnjmgmdkkifaaW.PrintWords Go.Proofs.YtndnjmgmdkkifaaW.PrintLast Go.Proofs.YtndnjmgmdkkifaaW.PrintMore
set_option linter.unusedVariables false
set_option linter.unusedSimpArgs false

set_option maxRecDepth 100000 in
theorem newer_calls (n1 n2 : Int) (A1 A2 : Option Addr) (l1 c1 l2 c2 : Nat) (w : World) (h1 : n1.natAbs < 18446744073709551616) (h2 : n2.natAbs < 18446744073709551616) (k1 : l1 ≤ 1000000) (k2 : l2 ≤ 1000000) :
    Calls Try.prog 51 #[.agg #[.int .i64 n1, .slice A1 l1 c1], .agg #[.int .i64 n2, .slice A2 l2 c2]] w fun e w' => e = .returned (.bool (newB n1 l1 n2 l2)) ∧ Below w.heap.size w w' := by
  have HN := Lib.hid (fun W => New.check_Newer.calls n1 (l1 : Int) n2 (l2 : Int) (newB n1 l1 n2 l2) W (by unfold New.check_Newer.f; rw [if_pos ⟨h1, by omega, h2, by omega⟩]))
  go_enter Try.func51, Try.ntmps51
  go_wp2_with fail
  refine (HN.out _).mono ?_
  rintro e w' ⟨rfl, ⟨⟨m, rfl⟩⟩⟩
  go_wp2_with fail
  go_ret
  exact ⟨rfl, pw_below_drewN (below_alloc (below_alloc (Below.refl _ _) _) _) _⟩
/-! ### the best of what was handed over -/
theorem bestOf_snoc (b : Int × Log) : ∀ (l : List (Option (Int × Log))) (c : Option (Int × Log)), bestOf b (l ++ [c]) = (match c with | none => bestOf b l | some c => if newB c.1 (c.2.length : Int) (bestOf b l).1 ((bestOf b l).2.length : Int) = true then c else bestOf b l) := fun l => by
  induction l generalizing b with
  | nil => intro c; cases c <;> rfl
  | cons x l ih =>
    intro c
    cases x with
    | none => exact ih b c
    | some x => exact ih _ c
theorem look_none {W : World} {cm n : Nat} {cs : List (Option (Int × Log))} {D : Dc} (h : OC W cm cs n D) (i : Nat) (hi : i < cs.length) (hx : cs.getD i none = none) (hw : (Lit.int .i64 (i : Int)).wf = true) :
    (Instr.lookup 71 (.map (some cm)) (.int .i64 (i : Int)) true).run Try.prog W = .ok (.tuple #[.agg #[.int .i64 0, .slice none 0 0], .bool false]) W := by
  obtain ⟨v, ps, hr, hv⟩ := h.own.look_ok law3 u71 (zero80 W) (cElem_mk 0 none 0 0) (key := .int .i64 (i : Int)) (kl := .int .i64 (i : Int)) (keyOf_int_mk u3 hw)
  rw [h.none_ i hi hx] at hr
  rw [atKey_of_not_has (h.none_ i hi hx)] at hv
  obtain ⟨n, A, l, c, rfl, hz⟩ := cElem_inv hv
  cases hz
  exact hr
theorem look_some {W : World} {cm n : Nat} {cs : List (Option (Int × Log))} {D : Dc} (h : OC W cm cs n D) (i : Nat) (hi : i < cs.length) {x : Int × Log} (hx : cs.getD i none = some x) (hw : (Lit.int .i64 (i : Int)).wf = true) :
    ∃ A c, (Instr.lookup 71 (.map (some cm)) (.int .i64 (i : Int)) true).run Try.prog W = .ok (.tuple #[.agg #[.int .i64 x.1, .slice A x.2.length c], .bool true]) W ∧ Rd W (.slice A x.2.length c) x.2 := by
  obtain ⟨v, ps, hr, hv⟩ := h.own.look_ok law3 u71 (zero80 W) (cElem_mk 0 none 0 0) (key := .int .i64 (i : Int)) (kl := .int .i64 (i : Int)) (keyOf_int_mk u3 hw)
  obtain ⟨h1, v2, h2, lv, h3, h4⟩ := h.some_ i x hi hx
  rw [h1] at hr
  rw [h2] at hv
  obtain ⟨n, A, l, c, rfl, hz⟩ := cElem_inv hv
  cases hz
  cases h3
  obtain ⟨A2, c2, e, h5⟩ := h4
  have h6 : Rd W (.slice A l c) x.2 := ⟨A2, c2, e, h5⟩
  cases e
  exact ⟨A, c, hr, h6⟩
theorem told_is {W : World} {cm n : Nat} {cs : List (Option (Int × Log))} {D : Dc} (h : OC W cm cs n D) : Maps.size D = cs.countP (fun c => c.isSome) := by
  rw [h.sz]
  have : cs = (List.range cs.length).map (fun i => cs.getD i none) := by
    apply List.ext_getElem
    · simp
    · intro i h1 h2
      simp [List.getD_eq_getElem?_getD, h1]
  conv => rhs; rw [this]
  rw [List.countP_map]
  refine List.countP_congr fun i hi => ?_
  have hi := List.mem_range.1 hi
  dsimp only [Function.comp]
  cases c : cs.getD i none with
  | none => rw [h.none_ i hi c]; simp
  | some x => rw [(h.some_ i x hi c).1]; simp
theorem wf64 (i : Nat) (h : i ≤ 1000000) : (Lit.int .i64 (i : Int)).wf = true := by
  have e1 : IntKind.i64.min = -9223372036854775808 := by decide
  have e2 : IntKind.i64.max = 9223372036854775807 := by decide
  simp only [Lit.wf, e1, e2, Bool.and_eq_true, decide_eq_true_eq]
  omega
theorem rightL_len {l : Log} (h : rightL l = true) : l.length ≤ 96 := by
  unfold rightL at h
  simp only [Bool.and_eq_true, decide_eq_true_eq] at h
  exact h.2.1
theorem cells2 {w : World} {g t : Nat} {v0 v1 : Value} (h : w.heap[g]? = some (.cells #[v0, v1] t (0, 0))) : w.cell? ⟨g, 0, none⟩ = some v0 ∧ w.cell? ⟨g, 1, none⟩ = some v1 := ⟨(blk_cell h 0).trans rfl, (blk_cell h 1).trans rfl⟩
theorem Rd.set {W : World} {v : Value} {l : Log} {g t : Nat} {cs : Array Value} (h : Rd W v l) (hg : W.heap[g]? = some (.cells cs t (0, 0))) (ht : t ≠ 9) (j : Nat) (u : Value) : Rd (W.setCell ⟨g, j, none⟩ u) v l :=
  h.keep fun k cells fr hk => Below.heap_setCell W ⟨g, j, none⟩ u k (fun e => by
    change k = g at e
    rw [e, hg] at hk
    injection hk with hk
    injection hk with _ hk _
    exact ht hk)
theorem below_put {base : Nat} {w W : World} (h : Below base w W) (a : Addr) (ha : base ≤ a.block) (u : Value) : Below base w (W.setCell a u) :=
  ⟨h.os, h.tape, h.output, by rw [World.size_setCell]; exact h.size, fun k hk => (Below.heap_setCell W a u k (by omega)).trans (h.block k hk)⟩
/-- the log and the view it was right in, laid in -/
theorem adopt_put {wr w9 : World} {p am cm : Nat} {s : V} (h : VRep wr p am cm s) (o : OkV s) (hb : Below wr.heap.size wr w9) {A5 : Option Addr} {c5 : Nat} {bl : Log} (hl : Rd w9 (.slice A5 bl.length c5) bl) (hr : rightL bl = true) :
    VRep ((w9.setCell ⟨p, 2, none⟩ (.slice A5 bl.length c5)).setCell ⟨p, 1, none⟩ (.int .i64 s.view)) p am cm { s with log := bl, normal := s.view } ∧ OkV { s with log := bl, normal := s.view } := by
  have hv9 := h.below hb
  obtain ⟨A9, c9, hb9, _⟩ := hv9.blk
  have b1 := blk_put hb9 2 (.slice A5 bl.length c5) rfl
  have b2 := blk_put b1 1 (.int .i64 s.view) rfl
  have l1 := hl.set hb9 (by decide) 2 (.slice A5 bl.length c5)
  have e1 := hv9.put (s' := { s with log := bl }) 2 (.slice A5 bl.length c5) b1 hl rfl rfl
  have e2 := e1.put (s' := { s with log := bl, normal := s.view }) 1 (.int .i64 s.view) b2 l1 rfl rfl
  have on := o.normal
  exact ⟨e2, ⟨o.many, o.me, ⟨by show 0 ≤ s.view; omega, Int.le_refl _⟩, o.view, hr, o.stays, o.alen, o.ack, o.clen, o.chg⟩⟩
/-! ### the walk of count -/
def cntB (s : V) : Bool := s.first == s.me && (!s.normalB && s.mostB s.told)
theorem count_no {s : V} (h : cntB s = false) : s.count = s := by unfold V.count; unfold cntB at h; rw [h]; rfl
set_option maxHeartbeats 4000000 in
set_option maxRecDepth 100000 in
theorem count_calls {W : World} {p am cm : Nat} {s : V} (h : VRep W p am cm s) (o : OkV s) :
    Calls Try.prog 42 #[.pointer (some ⟨p, 0, none⟩)] W fun e w' => e = .returned (.tuple #[]) ∧ VRep w' p am cm s.count ∧ Fr W w' p am cm := by
  have HH := Lib.hid h
  have HO := Lib.hid o
  obtain ⟨A, c, hb, hrd⟩ := h.blk
  have HF := Lib.hid (fun n => first_calls (W := W.drewN n) hb o)
  have HNo := Lib.hid (fun n => normal_calls (W := W.drewN n) hb)
  have HRD := Lib.hid hrd
  obtain ⟨h0, h1, h2, h3, h4, h5, h6, h7⟩ := cells8 hb
  have HB := Lib.hid hb
  obtain ⟨n, D, hC, hn⟩ := h.chg
  have HC := Lib.hid hC
  have htold : Maps.size D = s.told := told_is hC
  have hlen := fun (k : Nat) => (World.ownsMap.len (w := W.drewN k) hC.own u71 3)
  rw [htold] at hlen
  have htl : s.told ≤ 5 := by
    have e1 : s.told ≤ s.changes.length := List.countP_le_length
    have e2 := o.clen
    have e3 := o.many
    omega
  have HM := Lib.hid (fun k => most_calls (W := W.drewN k) hb (s.told : Int) ⟨by omega, by omega⟩)
  have HCB := Lib.hid (show cntB s = (s.first == s.me && (!s.normalB && s.mostB s.told)) from rfl)
  clear h o hb hrd hC hn htold
  obtain ⟨fi, hfi⟩ : ∃ fi, s.first = fi := ⟨_, rfl⟩
  obtain ⟨no, hno⟩ : ∃ no, s.normalB = no := ⟨_, rfl⟩
  obtain ⟨mo, hmo⟩ : ∃ mo, s.mostB (s.told : Int) = mo := ⟨_, rfl⟩
  rw [hfi] at HF
  rw [hno] at HNo
  rw [hmo] at HM
  rw [hfi, hno, hmo] at HCB
  clear hfi hno hmo
  obtain ⟨me, hme⟩ : ∃ me, s.me = me := ⟨_, rfl⟩
  rw [hme] at h3 HCB
  clear hme
  by_cases hfm : fi = me
  · have g1 : (fi != me) = false := by simp [hfm]
    have g2 : (fi == me) = true := by simp [hfm]
    rw [g2] at HCB
    clear hfm g2
    cases no with
    | true =>
      have HE := Lib.hid (count_no (s := s) (by rw [HCB.out]; rfl))
      go_enter Try.func42, Try.ntmps42
      go_wp2_with fail
      go_quiet (first | (go_at_call 46; exact Calls.quiet_of (HF.out _)) | (go_at_call 47; exact Calls.quiet_of (HNo.out _)) | (go_at_call 50; exact Calls.quiet_of_same (HM.out _)))
      go_wp2_with fail
      (try simp only [Exit.inBlock, Exit.then])
      refine bodyPost_ret (results_none rfl _ _ _) rfl ?_
      exact ⟨rfl, by rw [HE.out]; exact HH.out.below (pw_below_drewN (Below.refl _ _) _), Fr.of_below (pw_below_drewN (Below.refl _ _) _)⟩
    | false =>
      cases mo with
      | false =>
        have HE := Lib.hid (count_no (s := s) (by rw [HCB.out]; rfl))
        go_enter Try.func42, Try.ntmps42
        go_wp2_with fail
        go_quiet (first | (go_at_call 46; exact Calls.quiet_of (HF.out _)) | (go_at_call 47; exact Calls.quiet_of (HNo.out _)) | (go_at_call 50; exact Calls.quiet_of_same (HM.out _)))
        go_wp2_with fail
        (try simp only [Exit.inBlock, Exit.then])
        refine bodyPost_ret (results_none rfl _ _ _) rfl ?_
        exact ⟨rfl, by rw [HE.out]; exact HH.out.below (pw_below_drewN (Below.refl _ _) _), Fr.of_below (pw_below_drewN (Below.refl _ _) _)⟩
      | true =>
        have HE := Lib.hid (show s.count = V.reckon { s with log := (bestOf (s.normal, s.log) s.changes).2, normal := s.view } by
          have hc : cntB s = true := by rw [HCB.out]; rfl
          unfold cntB at hc
          unfold V.count
          rw [if_pos hc])
        go_enter Try.func42, Try.ntmps42
        go_wp2_with fail
        go_quiet (first | (go_at_call 46; exact Calls.quiet_of (HF.out _)) | (go_at_call 47; exact Calls.quiet_of (HNo.out _)) | (go_at_call 50; exact Calls.quiet_of_same (HM.out _)))
        generalize hwq : W.drewN _ = wq
        have hbq : Below W.heap.size W wq := by rw [← hwq]; exact pw_below_drewN (Below.refl _ _) _
        have HVQ := Lib.hid (HH.out.below hbq)
        have HFQ := Lib.hid (Fr.of_below (p := p) (am := am) (cm := cm) hbq)
        have HBQ := Lib.hid hbq
        have i1 := pw_cell_below hbq h1
        have i2 := pw_cell_below hbq h2
        have i4 := pw_cell_below hbq h4
        have i7 := pw_cell_below hbq h7
        have i0 := pw_cell_below hbq h0
        clear hwq hbq h0 h1 h2 h3 h4 h5 h6 h7 hlen HF HNo HM HCB
        have a1 := fun (o : Obj) => (pw_cell_below (below_alloc (Below.refl wq.heap.size wq) o) i1)
        have a2 := fun (o : Obj) => (pw_cell_below (below_alloc (Below.refl wq.heap.size wq) o) i2)
        go_wp2_with fail
        go_region
        have hg0 : (wq.alloc (Obj.cells #[Value.int IntKind.i64 s.normal, Value.slice A (List.length s.log) c] 80)).drew.heap[wq.heap.size]? = some (.cells #[Value.int IntKind.i64 s.normal, Value.slice A (List.length s.log) c] 80 (0, 0)) := blk_drew (blk_new _ _)
        have hb0 : Below wq.heap.size wq (wq.alloc (Obj.cells #[Value.int IntKind.i64 s.normal, Value.slice A (List.length s.log) c] 80)).drew := below_drew1 (below_alloc (Below.refl _ _) _)
        generalize (wq.alloc (Obj.cells #[Value.int IntKind.i64 s.normal, Value.slice A (List.length s.log) c] 80)).drew = w2 at hg0 hb0 ⊢
        have HB0 := Lib.hid hb0
        have HG0 := Lib.hid hg0
        have l4 := pw_cell_below hb0 i4
        obtain ⟨m, hm⟩ : ∃ m : Nat, s.many = (m : Int) := ⟨s.many.toNat, by have := HO.out.many; omega⟩
        have hm5 : m ≤ 5 := by have := HO.out.many; omega
        have HLEN := Lib.hid (show s.changes.length = m by have := HO.out.clen; omega)
        rw [hm] at l4
        have HMM := Lib.hid hm
        clear hg0 hb0 a1 a2 i1 i2 i4 i7 i0 hm htl
        go_wp2_with fail
        go_loopg [42] m (fun gg s42 wr => ∃ (i : Nat) (bn : Int) (Ab : Option Addr) (cb : Nat) (bl : Log), i ≤ m ∧ m - i ≤ gg ∧ s42 = .int .i64 i ∧ Hid (wr.heap[wq.heap.size]? = some (.cells #[.int .i64 bn, .slice Ab bl.length cb] 80 (0, 0))) ∧ Hid (Rd wr (.slice Ab bl.length cb) bl) ∧ Hid (Below wq.heap.size wq wr) ∧ Hid (bestOf (s.normal, s.log) (s.changes.take i) = (bn, bl)) ∧ Hid (0 ≤ bn ∧ bn ≤ 281474976710656 ∧ rightL bl = true))
        case atStart => exact ⟨0, _, _, _, _, Nat.zero_le _, by omega, rfl, HG0.out, (HRD.out.below HBQ.out).below HB0.out, HB0.out, rfl, ⟨HO.out.normal.1, by have := HO.out.normal; have := HO.out.view; omega, HO.out.log⟩⟩
        case round =>
          obtain ⟨i, bn, Ab, cb, bl, hi, hg, rfl, HG, HRB, HBW, HBE, HOB⟩ := hrel
          have hbl : bl.length ≤ 96 := rightL_len HOB.out.2.2
          have hbn : 0 ≤ bn ∧ bn ≤ 281474976710656 := ⟨HOB.out.1, HOB.out.2.1⟩
          have HVR := Lib.hid (HVQ.out.below HBW.out)
          by_cases hlt : i < m
          · have hltz : (i : Int) < (m : Int) := by omega
            have hil : i < s.changes.length := by rw [HLEN.out]; exact hlt
            have htake : s.changes.take (i + 1) = s.changes.take i ++ [s.changes.getD i none] := by
              rw [List.take_succ_eq_append_getElem hil]; simp [List.getD_eq_getElem?_getD, hil]
            have hsn := bestOf_snoc (s.normal, s.log) (s.changes.take i) (s.changes.getD i none)
            rw [← htake, HBE.out] at hsn
            have HSN := Lib.hid hsn
            clear hsn htake
            obtain ⟨n2, D2, hC2, _⟩ := HVR.out.chg
            obtain ⟨g0, g1⟩ := cells2 HG.out
            have j7 : wr.cell? ⟨p, 7, none⟩ = some (.map (some cm)) := by
              obtain ⟨A9, c9, hb9, _⟩ := HVR.out.blk
              exact (cells8 hb9).2.2.2.2.2.2.2
            have hgl := blk_lt' HG.out
            have b0 := fun (o : Obj) => pw_cell_below (below_alloc (Below.refl wr.heap.size wr) o) g0
            have b1 := fun (o : Obj) => pw_cell_below (below_alloc (Below.refl wr.heap.size wr) o) g1
            cases hci : s.changes.getD i none with
            | none =>
              have hlk := look_none hC2 i hil hci (wf64 i (by omega))
              rw [hci] at HSN
              clear hC2 hci hil
              go_wp2_with fail
              go_roundg (m - (i + 1))
              case measure => omega
              case rel => exact ⟨i + 1, bn, Ab, cb, bl, by omega, by omega, by go_num, blk_alloc HG.out _, HRB.out.below (below_alloc (Below.refl _ _) _), below_alloc HBW.out _, HSN.out, HOB.out⟩
            | some x =>
              obtain ⟨Ax, cx, hlk, hRx⟩ := look_some hC2 i hil hci (wf64 i (by omega))
              have hx := HO.out.chg (s.changes.getD i none) (by rw [List.getD_eq_getElem?_getD, List.getElem?_eq_getElem hil]; exact List.getElem_mem hil) x hci
              rw [hci] at HSN
              obtain ⟨xn, xl⟩ := x
              have hxl : xl.length ≤ 96 := rightL_len hx.2.2
              have hxn : 0 ≤ xn ∧ xn ≤ 281474976710656 := ⟨hx.1, hx.2.1⟩
              have HX := Lib.hid hx
              have HRX := Lib.hid hRx
              have HNW := Lib.hid (fun w => newer_calls xn bn Ax Ab xl.length cx bl.length cb w (by omega) (by omega) (by omega) (by omega))
              dsimp only at hlk
              clear hC2 hci hil hx hRx
              go_wp2_with (go_at_call 51; refine (HNW.out _).mono ?_; rintro e w9 ⟨rfl, hb9⟩; have HB9 := Lib.hid hb9; have HG9 := Lib.hid (blk_below (blk_alloc HG.out _) hb9); have k0 := (cells2 HG9.out).1; have k1 := (cells2 HG9.out).2; have f0 := blk_frozen HG9.out 0; have f1 := blk_frozen HG9.out 1; have r0 := pw_cell_below hb9 (cells2 (blk_new wr (Obj.cells #[Value.int .i64 xn, Value.slice Ax xl.length cx] 80))).1; have r1 := pw_cell_below hb9 (cells2 (blk_new wr (Obj.cells #[Value.int .i64 xn, Value.slice Ax xl.length cx] 80))).2; clear hb9; cases hnb : newB xn (xl.length : Int) bn (bl.length : Int))
              · have hb9 := below_step (below_alloc HBW.out (Obj.cells #[Value.int .i64 xn, Value.slice Ax xl.length cx] 80)) HB9.out
                go_roundg (m - (i + 1))
                case measure => omega
                case rel => exact ⟨i + 1, bn, Ab, cb, bl, by omega, by omega, by go_num, HG9.out, (HRB.out.below (below_alloc (Below.refl _ _) _)).below HB9.out, hb9, HSN.out.trans (if_neg (by rw [hnb]; decide)), HOB.out⟩
              · have hb9 := below_step (below_alloc HBW.out (Obj.cells #[Value.int .i64 xn, Value.slice Ax xl.length cx] 80)) HB9.out
                have hR9 := ((HRX.out.below (below_alloc (Below.refl _ _) _)).below HB9.out)
                have e1 := blk_put HG9.out 0 (Value.int .i64 xn) rfl
                have e2 := blk_put e1 1 (Value.slice Ax xl.length cx) rfl
                have hRS := (hR9.set HG9.out (by decide) 0 (Value.int .i64 xn)).set e1 (by decide) 1 (Value.slice Ax xl.length cx)
                have hBS := below_put (below_put hb9 ⟨wq.heap.size, 0, none⟩ (Nat.le_refl _) (Value.int .i64 xn)) ⟨wq.heap.size, 1, none⟩ (Nat.le_refl _) (Value.slice Ax xl.length cx)
                go_roundg (m - (i + 1))
                case measure => omega
                case rel => exact ⟨i + 1, xn, Ax, cx, xl, by omega, by omega, by go_num, e2, hRS, hBS, HSN.out.trans (if_pos hnb), HX.out⟩
          · have him : i = m := by omega
            have htk : s.changes.take i = s.changes := List.take_of_length_le (by rw [HLEN.out]; omega)
            have HBE2 := Lib.hid (show bestOf (s.normal, s.log) s.changes = (bn, bl) by rw [← htk]; exact HBE.out)
            subst him
            obtain ⟨A9, c9, hb9, hl9⟩ := HVR.out.blk
            have q0 := (cells8 hb9).1
            have q1 := (cells8 hb9).2.1
            have q2 := (cells8 hb9).2.2.1
            obtain ⟨g0, g1⟩ := cells2 HG.out
            have HB9 := Lib.hid hb9
            obtain ⟨A0, c0, eA, hcl0, hC0, _⟩ := HRB.out
            cases eA
            have HCL := Lib.hid (fun w (hw : Below wr.heap.size wr w) => clone_calls Ab cb bl w (Kd.C_below hC0 hw) (by omega))
            clear hb9 hl9 htk hC0
            go_wp2_with fail
            go_region_with (go_at_call 35; refine (HCL.out _ ?_).mono ?_; (first | exact below_drew1 (Below.refl _ _) | exact Below.refl _ _ | exact pw_below_drewN (Below.refl _ _) _); rintro e w9 ⟨v9, rfl, hR9, hb8⟩; have hb9 : Below wr.heap.size wr w9 := (by first | exact below_step (below_drew1 (Below.refl _ _)) hb8 | exact hb8); have HR9 := Lib.hid (rd_of_R hR9); have hN9 := R_fresh hR9; obtain ⟨A5, c5, rfl, _, _⟩ := Kd.R_reads hR9; have HN9 := Lib.hid hN9; clear hN9; have HB99 := Lib.hid hb9; have z0 := pw_cell_below (w := wr) hb9 q0; have z1 := pw_cell_below (w := wr) hb9 q1; have z2 := pw_cell_below (w := wr) hb9 q2; have zf1 := blk_frozen (blk_below (w := wr) HB9.out hb9) 1; have zf2 := blk_frozen (blk_below (w := wr) HB9.out hb9) 2; clear hb9 hb8 hR9)
            all_goals
              have HVF := Lib.hid (adopt_put HVR.out HO.out HB99.out HR9.out HOB.out.2.2)
              have HEE := Lib.hid (HE.out.trans (by rw [HBE2.out]))
              have HFF := Lib.hid (set_fr (set_fr2 (((Fr.of_below (p := p) (am := am) (cm := cm) HBQ.out).below HBW.out).below HB99.out) (.slice A5 bl.length c5) (fun _ k hk => Nat.le_trans ((Fr.of_below (p := p) (am := am) (cm := cm) HBQ.out).below HBW.out).size (HN9.out k hk))) 1 (.int .i64 s.view))
              clear z0 z1 z2 zf1 zf2 q0 q1 q2 g0 g1 HR9
              generalize (w9.setCell ⟨p, 2, none⟩ (.slice A5 bl.length c5)).setCell ⟨p, 1, none⟩ (.int .i64 s.view) = w5 at HVF HFF ⊢
              go_wp2_with (go_at_call 39; refine (reckon_calls HVF.out.1 HVF.out.2).mono ?_; rintro e w' ⟨rfl, hv, hf⟩; have HV := Lib.hid hv; have HF := Lib.hid hf; clear hv hf)
              go_end0
              exact ⟨rfl, by rw [HEE.out]; exact HV.out, HFF.out.trans HF.out (.inl rfl) (.inl rfl)⟩
  · have g1 : (fi != me) = true := by simp [hfm]
    have g2 : (fi == me) = false := by simp [hfm]
    rw [g2] at HCB
    clear hfm g2
    have HE := Lib.hid (count_no (s := s) (by rw [HCB.out]; rfl))
    go_enter Try.func42, Try.ntmps42
    go_wp2_with fail
    go_quiet (first | (go_at_call 46; exact Calls.quiet_of (HF.out _)) | (go_at_call 47; exact Calls.quiet_of (HNo.out _)) | (go_at_call 50; exact Calls.quiet_of_same (HM.out _)))
    go_wp2_with fail
    (try simp only [Exit.inBlock, Exit.then])
    refine bodyPost_ret (results_none rfl _ _ _) rfl ?_
    exact ⟨rfl, by rw [HE.out]; exact HH.out.below (pw_below_drewN (Below.refl _ _) _), Fr.of_below (pw_below_drewN (Below.refl _ _) _)⟩
end Go.Proofs.Ytndnjmgmdkkifaa.Vw1
