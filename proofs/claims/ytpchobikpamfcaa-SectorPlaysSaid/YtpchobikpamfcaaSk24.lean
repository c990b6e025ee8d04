/- The document's disk in memory: the walk of Crash. -/
import Derived.Test.YtpchobikpamfcaaSk23
import Derived.StillTailTactics
import Derived.Outline
namespace Go.Proofs.Ytpchobikpamfcaa.Sk
open Go Go.RowKit Go.Maps Go.Proofs Go.Proofs.Ytpchobikpamfcaa.Q Go.Proofs.YtpchobikpamfcaaW.PrintWords Go.Proofs.YtpchobikpamfcaaW.PrintLast Go.Proofs.YtpchobikpamfcaaW.PrintMore
set_option linter.unusedVariables false
set_option linter.unusedSimpArgs false

section
variable {W W' : World} {B q gb cb go co gw cw : Nat} {s t : D}
/-- a byte laid into the document's disk -/
theorem rr_byte1 (h : RRx W B q gb cb go co gw cw s) (j : Nat) (hj : j < s.b.length) (v : Int) :
    RRx (W.setCell ⟨gb, j, none⟩ (.int .u8 v)) B q gb cb go co gw cw { s with b := s.b.set j v } ∧ Below B W (W.setCell ⟨gb, j, none⟩ (.int .u8 v)) := by
  have hn := h.nes
  have k1 : ∀ k, k ≠ gb → (W.setCell ⟨gb, j, none⟩ (.int .u8 v)).heap[k]? = W.heap[k]? := fun k hk => Below.heap_setCell W ⟨gb, j, none⟩ (.int .u8 v) k hk
  refine ⟨⟨?_, ?_, ?_, ?_, h.ne, h.hb, h.cap⟩, rfl, rfl, rfl, by rw [World.size_setCell]; exact Nat.le_refl _, fun k hk => k1 k (by have := h.hb; omega)⟩
  · rw [k1 q hn.1, h.blk]
    show some (Obj.cells #[_, _, _, _, _, _, _] _ _) = some (Obj.cells #[.slice _ (s.b.set j v).length _, _, _, _, _, _, _] _ _)
    rw [List.length_set]
  · exact h.rb.put j hj v
  · exact h.ro.keep (k1 go (Ne.symm h.ne))
  · exact h.rw_.keep (k1 gw (Ne.symm hn.2.2.2.1))
/-- a sector laid back, up to a byte -/
def D.lay (s : D) (b : By) (n j : Nat) : D := { s with b := splice b (n * 16) ((sec s.old n).take j) }
theorem lay_step (s : D) (b : By) (n j : Nat) (v : Int) (h : n * 16 + 16 ≤ b.length) (ho : (sec s.old n).length = 16) (hv : (sec s.old n)[j]? = some v) :
    ({ (s.lay b n j) with b := (s.lay b n j).b.set (n * 16 + j) v } : D) = s.lay b n (j + 1) := by
  unfold D.lay
  show (D.mk ((splice b (n * 16) ((sec s.old n).take j)).set (n * 16 + j) v) _ _ _ _ _) = _
  rw [splice_more b (sec s.old n) (n * 16) j v (by omega) hv]
theorem rr_reset (h : RRx W B q gb cb go co gw cw s) : RRx (((W.setCell ⟨q, 4, none⟩ (.bool false)).setCell ⟨q, 5, none⟩ (.int .i64 0)).setCell ⟨q, 6, none⟩ (.bool false)) B q gb cb go co gw cw { s with fuse := -1, down := false } ∧ Below B W (((W.setCell ⟨q, 4, none⟩ (.bool false)).setCell ⟨q, 5, none⟩ (.int .i64 0)).setCell ⟨q, 6, none⟩ (.bool false)) := by
  have hn := h.nes
  have b3 := blk_put (blk_put (blk_put h.blk 4 (.bool false) rfl) 5 (.int .i64 0) rfl) 6 (.bool false) rfl
  have hk : ∀ k, k ≠ q → (((W.setCell ⟨q, 4, none⟩ (.bool false)).setCell ⟨q, 5, none⟩ (.int .i64 0)).setCell ⟨q, 6, none⟩ (.bool false)).heap[k]? = W.heap[k]? := fun k hk => (Below.heap_setCell _ ⟨q, 6, none⟩ _ k hk).trans ((Below.heap_setCell _ ⟨q, 5, none⟩ _ k hk).trans (Below.heap_setCell W ⟨q, 4, none⟩ _ k hk))
  exact ⟨⟨b3, h.rb.keep (hk _ (Ne.symm hn.1)), h.ro.keep (hk _ (Ne.symm hn.2.1)), h.rw_.keep (hk _ (Ne.symm hn.2.2.1)), h.ne, h.hb, h.cap⟩, rfl, rfl, rfl, by rw [World.size_setCell, World.size_setCell, World.size_setCell]; exact Nat.le_refl _, fun k hkB => hk k (by have := h.hb; omega)⟩
set_option maxHeartbeats 8000000 in
set_option maxRecDepth 100000 in
theorem rcrash_calls (h : RR W B q s) (o : Ok s) {A : Option Addr} {c : Nat} (keep : List Bool) (hk : CBool W A keep.length keep) (hA : ∀ ad, A = some ad → 0 < keep.length → ad.block < B) :
    Calls Try.prog 27 #[.pointer (some ⟨q, 0, none⟩), .slice A keep.length c] W fun e w' => e = .returned (.tuple #[]) ∧ RR w' B q (s.crash keep) ∧ Below B W w' := by
  have HO := Lib.hid o
  have HL := Lib.hid (rloose_calls h o)
  have HK := Lib.hid hk
  have HA := Lib.hid hA
  have hkl : (keep.length : Int) ≤ 9223372036854775807 := by have := hk.2.1; omega
  have hBW := h.size
  obtain ⟨gb, cb, go, co, gw, cw, hx⟩ := h
  have HX := Lib.hid hx
  have HXL := Lib.hid hx.lt
  obtain ⟨N, hNN⟩ : ∃ N, s.b.length = N := ⟨_, rfl⟩
  have hN : N ≤ 65536 := by have := o.bl; have := o.n2; omega
  have HNN := Lib.hid hNN
  obtain ⟨wl, hwl⟩ : ∃ n, s.wet.length = n := ⟨_, rfl⟩
  have HWL := Lib.hid hwl
  have hwl4 : wl ≤ 4096 := by have := o.n2; omega
  have hN0 : 0 < N := by have := o.n1; have := o.bl; omega
  have hmk := fun w => make_bools wl (by omega) w
  clear hx o hk hA hNN hwl
  go_enter Try.func27, Try.ntmps27
  go_wp2_with (go_at_call 29; refine HL.out.mono ?_; rintro e w1 ⟨v, rfl, hv, hb⟩; have HV := Lib.hid (Kd.R_mono (Kd.R_bound hv) (fun k hk => hk.2.1)); obtain ⟨Av, cv, rfl, hcl, _⟩ := Kd.R_reads hv; have HB := Lib.hid hb; clear hv hb hcl)
  have HX1 := Lib.hid (HX.out.keep (W' := w1) (fun k _ hk => HB.out.block k hk))
  have HB1 := Lib.hid (HB.out.mono hBW)
  have hn : (looseI s.wet).length ≤ 4096 := by
    have := HO.out.n2
    have h2 := looseTo_len s.wet s.wet.length
    rw [looseTo_all] at h2
    omega
  obtain ⟨n, hnn⟩ : ∃ n, (looseI s.wet).length = n := ⟨_, rfl⟩
  rw [hnn] at hn HV ⊢
  have HNL := Lib.hid hnn
  clear hnn
  go_wp2_with fail
  go_loopg [5] n (fun gg s5 wr => ∃ (i : Nat) (b : By), i ≤ n ∧ n - i ≤ gg ∧ s5 = .int .i64 i ∧ Hid (RRx wr B q gb cb go co gw cw { s with b := b }) ∧ Hid (Below B w1 wr) ∧ Hid (b.length = s.b.length ∧ restore s.old keep ((loose s.wet).drop i) i b = restore s.old keep (loose s.wet) 0 s.b) ∧ Hid (Kd.R (Kd.int .i64) 3 wr W.heap.size (fun k => W.heap.size ≤ k) (.slice Av n cv) (looseI s.wet)))
  case atStart => exact ⟨0, s.b, Nat.zero_le _, by omega, rfl, HX1.out, Below.refl _ _, Lib.hid ⟨rfl, rfl⟩, HV.out⟩
  case round =>
    obtain ⟨i, b, hi, hg, rfl, HSr, HFr, HR, HVr⟩ := hrel
    by_cases hlt : i < n
    · have hltz : decide ((i : Int) < (n : Int)) = true := decide_eq_true (by omega)
      obtain ⟨nn, hnn, hrd, hnw, hwt⟩ := looseI_get (wet := s.wet) (i := i) (by rw [HNL.out]; exact hlt)
      have hVr := HVr.out
      have hCv := rC hVr
      rw [HNL.out] at hCv
      obtain ⟨ad, ea, hx⟩ := Kd.at_int hCv (i : Int) (by omega) (by omega)
      rw [hrd, Int.toNat_natCast] at hx
      cases ea
      have hnn4 : nn ≤ 4096 := by have := HO.out.n2; omega
      by_cases hkeep : i < keep.length
      · have hkz : decide ((i : Int) < (keep.length : Int)) = true := decide_eq_true (by omega)
        obtain ⟨ad2, ea2, hx2⟩ := (HK.out.keep (w' := wr) (fun ad e hp => (HB1.out.trans HFr.out).block _ (HA.out ad e hp))).get i hkeep
        cases ea2
        cases hb : keep.getD i false with
        | true =>
          rw [hb] at hx2
          have HR2 := Lib.hid (restore_step _ _ _ _ _ _ _ HR.out.2 hnn)
          have HBT := Lib.hid hb
          clear hnn hrd hnw hwt hVr hCv hb
          go_wp2_with fail
          go_roundg (n - (i + 1))
          case measure => omega
          case rel => exact ⟨i + 1, b, by omega, by omega, by go_num, HSr, HFr, Lib.hid ⟨HR.out.1, by have := HR2.out; rw [HBT.out] at this; exact this⟩, HVr⟩
        | false =>
          rw [hb] at hx2
          have HR2 := Lib.hid (restore_step _ _ _ _ _ _ _ HR.out.2 hnn)
          have HBT := Lib.hid (show keep.getD i false = false from by assumption)
          have HNW := Lib.hid hnw
          have hsec : (sec s.old nn).length = 16 := sec_len _ _ (by have := HO.out.ol; have := HWL.out; omega)
          have HSEC := Lib.hid hsec
          have hbN : b.length = N := HR.out.1.trans HNN.out
          have HBN := Lib.hid hbN
          have hi16 : nn * 16 + 16 ≤ N := by have := HO.out.bl; have := HNN.out; omega
          have HRD := Lib.hid hrd
          have HS0 := Lib.hid (show RRx wr B q gb cb go co gw cw (s.lay b nn 0) by have e : s.lay b nn 0 = { s with b := b } := (by unfold D.lay; rw [List.take_zero, splice_nil]); rw [e]; exact HSr.out)
          clear hnn hwt hVr hCv hsec hbN hnw hrd
          go_wp2_with fail
          clear hx
          go_loopg [6] 16 (fun gg s6 wr2 => ∃ j : Nat, j ≤ 16 ∧ 16 - j ≤ gg ∧ s6 = .int .i64 ((nn : Int) * 16 + (j : Int)) ∧ Hid (RRx wr2 B q gb cb go co gw cw (s.lay b nn j)) ∧ Hid (Below B w1 wr2) ∧ Hid (Kd.R (Kd.int .i64) 3 wr2 W.heap.size (fun k => W.heap.size ≤ k) (.slice (some ad) n cv) (looseI s.wet)))
          case atStart => exact ⟨0, by omega, by omega, by rw [show (nn : Int) * 16 + ((0 : Nat) : Int) = (nn : Int) * 16 by omega], HS0.out, HFr.out, HVr.out⟩
          case round =>
            obtain ⟨j, hj, hgj, rfl, HSj, HFj, HVj⟩ := hrel
            have hCj := rC HVj.out
            rw [HNL.out] at hCj
            obtain ⟨ad3, ea3, hx⟩ := Kd.at_int hCj (i : Int) (by omega) (by omega)
            rw [HRD.out, Int.toNat_natCast] at hx
            cases ea3
            by_cases hlt2 : j < 16
            · have hltz2 : decide ((nn : Int) * 16 + (j : Int) < ((nn : Int) + 1) * 16) = true := decide_eq_true (by omega)
              obtain ⟨v, hv⟩ : ∃ v, (sec s.old nn)[j]? = some v := ⟨_, List.getElem?_eq_getElem (by rw [HSEC.out]; exact hlt2)⟩
              have hov : s.old[nn * 16 + j]? = some v := by rw [← sec_get _ _ _ hlt2]; exact hv
              have hol : s.old.length = N := by have := HO.out.ol; have := HO.out.bl; have := HNN.out; omega
              have hlb : (s.lay b nn j).b.length = N := by
                show (splice b (nn * 16) ((sec s.old nn).take j)).length = N
                rw [splice_len _ _ _ (by rw [List.length_take, HSEC.out, HBN.out]; omega), HBN.out]
              obtain ⟨g0, g1, _, _, _, _, _⟩ := cells7 HSj.out.blk
              rw [hlb] at g0
              change wr.cell? ⟨q, 1, none⟩ = some (.slice (some ⟨go, 0, none⟩) s.old.length co) at g1
              rw [hol] at g1
              have fz := HSj.out.rb.frozen (nn * 16 + j)
              have oc := HSj.out.rb.cell (nn * 16 + j) (by rw [hlb]; omega)
              obtain ⟨ob, hob⟩ : ∃ v, (s.lay b nn j).b[nn * 16 + j]'(by rw [hlb]; omega) = v := ⟨_, rfl⟩
              rw [hob] at oc
              have ov := HSj.out.ro.cell (nn * 16 + j) (by show nn * 16 + j < s.old.length; rw [hol]; omega)
              have hve : (s.lay b nn j).old[nn * 16 + j]'(by show nn * 16 + j < s.old.length; rw [hol]; omega) = v := (List.getElem?_eq_some_iff.1 hov).2
              rw [hve] at ov
              have HBY := Lib.hid (rr_byte1 (HSj.out.keep (W' := wr.drew) (fun k _ _ => rfl)) (nn * 16 + j) (by rw [hlb]; omega) v)
              rw [lay_step s b nn j v (by rw [HBN.out]; exact hi16) HSEC.out hv] at HBY
              have HVn := Lib.hid (Kd.R_step (w1 := wr.drew.setCell ⟨gb, nn * 16 + j, none⟩ (.int .u8 v)) HVj.out (fun k ho hk => (Below.heap_setCell wr.drew ⟨gb, nn * 16 + j, none⟩ (.int .u8 v) k (by have := HXL.out; show k ≠ gb; omega))))
              have HFn := Lib.hid (HFj.out.trans ((show Below B wr wr.drew from ⟨rfl, rfl, rfl, Nat.le_refl _, fun _ _ => rfl⟩).trans HBY.out.2))
              have r0 : ((nn : Int) * 16 + (j : Int)).toNat = nn * 16 + j := by omega
              have r1 : 0 ≤ (nn : Int) * 16 + (j : Int) := by omega
              have r2 : (nn : Int) * 16 + (j : Int) < (N : Int) := by omega
              have HLT2 := Lib.hid hlt2
              clear hv hov hol hlb hob hve hCj
              go_wp2_with fail
              go_still_tail 13, (by kernel_rfl)
              change wpList _ _ _ _ _ wr.drew
              go_wp2_with fail
              go_roundg (16 - (j + 1))
              case measure => have := HLT2.out; omega
              case rel => exact ⟨j + 1, by have := HLT2.out; omega, by omega, by go_num, Lib.hid HBY.out.1, HFn, HVn⟩
            · have hltz2 : decide ((nn : Int) * 16 + (j : Int) < ((nn : Int) + 1) * 16) = false := decide_eq_false (by omega)
              have hj16 : j = 16 := by omega
              rw [hj16] at HSj
              have e : (sec s.old nn).take 16 = sec s.old nn := List.take_of_length_le (by rw [HSEC.out]; exact Nat.le_refl _)
              have HSn := Lib.hid (show RRx wr B q gb cb go co gw cw { s with b := splice b (nn * 16) (sec s.old nn) } by have := HSj.out; unfold D.lay at this; rw [e] at this; exact this)
              have HLN := Lib.hid (show (splice b (nn * 16) (sec s.old nn)).length = s.b.length by rw [splice_len _ _ _ (by rw [HSEC.out, HBN.out]; omega)]; exact HR.out.1)
              clear e hj16
              go_wp2_with fail
              go_roundg (n - (i + 1))
              case measure => omega
              case rel => exact ⟨i + 1, splice b (nn * 16) (sec s.old nn), by omega, by omega, by go_num, HSn, HFj, Lib.hid ⟨HLN.out, by have := HR2.out; rw [HBT.out] at this; exact this⟩, HVj⟩
      · have hkz : decide ((i : Int) < (keep.length : Int)) = false := decide_eq_false (by omega)
        have hb : keep.getD i false = false := by rw [List.getD_eq_getElem?_getD, List.getElem?_eq_none (by omega)]; rfl
        have HR2 := Lib.hid (restore_step _ _ _ _ _ _ _ HR.out.2 hnn)
        have HBT := Lib.hid (show keep.getD i false = false from by assumption)
        have HNW := Lib.hid hnw
        have hsec : (sec s.old nn).length = 16 := sec_len _ _ (by have := HO.out.ol; have := HWL.out; omega)
        have HSEC := Lib.hid hsec
        have hbN : b.length = N := HR.out.1.trans HNN.out
        have HBN := Lib.hid hbN
        have hi16 : nn * 16 + 16 ≤ N := by have := HO.out.bl; have := HNN.out; omega
        have HRD := Lib.hid hrd
        have HS0 := Lib.hid (show RRx wr B q gb cb go co gw cw (s.lay b nn 0) by have e : s.lay b nn 0 = { s with b := b } := (by unfold D.lay; rw [List.take_zero, splice_nil]); rw [e]; exact HSr.out)
        clear hnn hwt hVr hCv hsec hbN hnw hrd
        go_wp2_with fail
        clear hx
        go_loopg [6] 16 (fun gg s6 wr2 => ∃ j : Nat, j ≤ 16 ∧ 16 - j ≤ gg ∧ s6 = .int .i64 ((nn : Int) * 16 + (j : Int)) ∧ Hid (RRx wr2 B q gb cb go co gw cw (s.lay b nn j)) ∧ Hid (Below B w1 wr2) ∧ Hid (Kd.R (Kd.int .i64) 3 wr2 W.heap.size (fun k => W.heap.size ≤ k) (.slice (some ad) n cv) (looseI s.wet)))
        case atStart => exact ⟨0, by omega, by omega, by rw [show (nn : Int) * 16 + ((0 : Nat) : Int) = (nn : Int) * 16 by omega], HS0.out, HFr.out, HVr.out⟩
        case round =>
          obtain ⟨j, hj, hgj, rfl, HSj, HFj, HVj⟩ := hrel
          have hCj := rC HVj.out
          rw [HNL.out] at hCj
          obtain ⟨ad3, ea3, hx⟩ := Kd.at_int hCj (i : Int) (by omega) (by omega)
          rw [HRD.out, Int.toNat_natCast] at hx
          cases ea3
          by_cases hlt2 : j < 16
          · have hltz2 : decide ((nn : Int) * 16 + (j : Int) < ((nn : Int) + 1) * 16) = true := decide_eq_true (by omega)
            obtain ⟨v, hv⟩ : ∃ v, (sec s.old nn)[j]? = some v := ⟨_, List.getElem?_eq_getElem (by rw [HSEC.out]; exact hlt2)⟩
            have hov : s.old[nn * 16 + j]? = some v := by rw [← sec_get _ _ _ hlt2]; exact hv
            have hol : s.old.length = N := by have := HO.out.ol; have := HO.out.bl; have := HNN.out; omega
            have hlb : (s.lay b nn j).b.length = N := by
              show (splice b (nn * 16) ((sec s.old nn).take j)).length = N
              rw [splice_len _ _ _ (by rw [List.length_take, HSEC.out, HBN.out]; omega), HBN.out]
            obtain ⟨g0, g1, _, _, _, _, _⟩ := cells7 HSj.out.blk
            rw [hlb] at g0
            change wr.cell? ⟨q, 1, none⟩ = some (.slice (some ⟨go, 0, none⟩) s.old.length co) at g1
            rw [hol] at g1
            have fz := HSj.out.rb.frozen (nn * 16 + j)
            have oc := HSj.out.rb.cell (nn * 16 + j) (by rw [hlb]; omega)
            obtain ⟨ob, hob⟩ : ∃ v, (s.lay b nn j).b[nn * 16 + j]'(by rw [hlb]; omega) = v := ⟨_, rfl⟩
            rw [hob] at oc
            have ov := HSj.out.ro.cell (nn * 16 + j) (by show nn * 16 + j < s.old.length; rw [hol]; omega)
            have hve : (s.lay b nn j).old[nn * 16 + j]'(by show nn * 16 + j < s.old.length; rw [hol]; omega) = v := (List.getElem?_eq_some_iff.1 hov).2
            rw [hve] at ov
            have HBY := Lib.hid (rr_byte1 (HSj.out.keep (W' := wr.drew) (fun k _ _ => rfl)) (nn * 16 + j) (by rw [hlb]; omega) v)
            rw [lay_step s b nn j v (by rw [HBN.out]; exact hi16) HSEC.out hv] at HBY
            have HVn := Lib.hid (Kd.R_step (w1 := wr.drew.setCell ⟨gb, nn * 16 + j, none⟩ (.int .u8 v)) HVj.out (fun k ho hk => (Below.heap_setCell wr.drew ⟨gb, nn * 16 + j, none⟩ (.int .u8 v) k (by have := HXL.out; show k ≠ gb; omega))))
            have HFn := Lib.hid (HFj.out.trans ((show Below B wr wr.drew from ⟨rfl, rfl, rfl, Nat.le_refl _, fun _ _ => rfl⟩).trans HBY.out.2))
            have r0 : ((nn : Int) * 16 + (j : Int)).toNat = nn * 16 + j := by omega
            have r1 : 0 ≤ (nn : Int) * 16 + (j : Int) := by omega
            have r2 : (nn : Int) * 16 + (j : Int) < (N : Int) := by omega
            have HLT2 := Lib.hid hlt2
            clear hv hov hol hlb hob hve hCj
            go_wp2_with fail
            go_still_tail 13, (by kernel_rfl)
            change wpList _ _ _ _ _ wr.drew
            go_wp2_with fail
            go_roundg (16 - (j + 1))
            case measure => have := HLT2.out; omega
            case rel => exact ⟨j + 1, by have := HLT2.out; omega, by omega, by go_num, Lib.hid HBY.out.1, HFn, HVn⟩
          · have hltz2 : decide ((nn : Int) * 16 + (j : Int) < ((nn : Int) + 1) * 16) = false := decide_eq_false (by omega)
            have hj16 : j = 16 := by omega
            rw [hj16] at HSj
            have e : (sec s.old nn).take 16 = sec s.old nn := List.take_of_length_le (by rw [HSEC.out]; exact Nat.le_refl _)
            have HSn := Lib.hid (show RRx wr B q gb cb go co gw cw { s with b := splice b (nn * 16) (sec s.old nn) } by have := HSj.out; unfold D.lay at this; rw [e] at this; exact this)
            have HLN := Lib.hid (show (splice b (nn * 16) (sec s.old nn)).length = s.b.length by rw [splice_len _ _ _ (by rw [HSEC.out, HBN.out]; omega)]; exact HR.out.1)
            clear e hj16
            go_wp2_with fail
            go_roundg (n - (i + 1))
            case measure => omega
            case rel => exact ⟨i + 1, splice b (nn * 16) (sec s.old nn), by omega, by omega, by go_num, HSn, HFj, Lib.hid ⟨HLN.out, by have := HR2.out; rw [HBT.out] at this; exact this⟩, HVj⟩
    · have hltz : decide ((i : Int) < (n : Int)) = false := decide_eq_false (by omega)
      have hE : b = restore s.old keep (loose s.wet) 0 s.b := restore_done _ _ _ _ _ _ HR.out.2 (by have := HNL.out; unfold looseI at this; rw [List.length_map] at this; omega)
      have HE := Lib.hid hE
      have hbN : b.length = N := HR.out.1.trans HNN.out
      have HBN := Lib.hid hbN
      obtain ⟨g0, _, _, _, _, _, _⟩ := cells7 HSr.out.blk
      change wr.cell? ⟨q, 0, none⟩ = some (.slice (some ⟨gb, 0, none⟩) b.length cb) at g0
      rw [hbN] at g0
      have g0a := fun o : Obj => cell_keep0 (below_alloc (Below.refl _ _) o) g0
      have HCB := Lib.hid (show CB wr (some ⟨gb, 0, none⟩) N b by have := HSr.out.rb.CB (show b.length ≤ _ by omega); change CB wr _ b.length b at this; rwa [hbN] at this)
      clear hE hbN g0
      go_wp2_with (at_builtin; refine app_bytes rfl (.tmp 54) (.tmp 58) rfl (g := wr.heap.size) rfl (blk_new wr _) (n := N) rfl (Kd.C_below HCB.out (below_alloc (Below.refl _ _) _)) (by omega) ?_; intro A1 c1 w2 hr hb2; obtain ⟨g1, rfl, ⟨v1, c1'⟩, fr1, g2b, c2b, fr2b, hn1, hn2⟩ := rr_app HSr.out HBN.out HWL.out hN0 hr hb2; obtain ⟨go', co', gw', cw', hn1⟩ := hn1; obtain ⟨_, _, _, _, y4, y5, y6⟩ := cells7 hn1.blk; have z4 := blk_frozen hn1.blk 4; have z5 := blk_frozen hn1.blk 5; have z6 := blk_frozen hn1.blk 6; have HN1 := Lib.hid (rr_reset hn1); have HN2 := Lib.hid hn2; clear hr hb2 hn1 hn2 g0a)
      go_end0
      refine ⟨rfl, ⟨gb, cb, go', co', gw', cw', ?_⟩, HB1.out.trans (HFr.out.trans (HN2.out.trans HN1.out.2))⟩
      have := HN1.out.1
      have e : ({ s with b := b, old := b, wet := List.replicate s.wet.length false, fuse := -1, down := false } : D) = s.crash keep := by
        unfold D.crash
        rw [← HE.out]
      rw [← e]
      exact this
end
end Go.Proofs.Ytpchobikpamfcaa.Sk
