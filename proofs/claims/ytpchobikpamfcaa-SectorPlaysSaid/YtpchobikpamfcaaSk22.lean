/- The document's disk in memory: the walk of Write. -/
import Derived.Test.YtpchobikpamfcaaSk21
import Derived.StillTailTactics
import Derived.Outline
namespace Go.Proofs.Ytpchobikpamfcaa.Sk
open Go Go.RowKit Go.Maps Go.Proofs Go.Proofs.Ytpchobikpamfcaa.Q Go.Proofs.YtpchobikpamfcaaW.PrintWords Go.Proofs.YtpchobikpamfcaaW.PrintLast Go.Proofs.YtpchobikpamfcaaW.PrintMore
set_option linter.unusedVariables false
set_option linter.unusedSimpArgs false

section
variable {W W' : World} {B q gb cb go co gw cw : Nat} {s t : D}
theorem splice_more (b x : By) (k i : Nat) (v : Int) (h : k + x.length ≤ b.length) (hi : x[i]? = some v) : (splice b k (x.take i)).set (k + i) v = splice b k (x.take (i + 1)) := by
  have hil := (List.getElem?_eq_some_iff.1 hi).1
  have e1 : (x.take i).length = i := by rw [List.length_take]; omega
  have e2 : (x.take (i + 1)).length = i + 1 := by rw [List.length_take]; omega
  apply List.ext_getElem?
  intro j
  rw [List.getElem?_set, getElem?_splice _ _ _ (by omega), splice_len _ _ _ (by omega), getElem?_splice _ _ _ (by omega)]
  rw [e1, e2]
  by_cases c : k + i = j
  · subst c
    rw [if_pos rfl, if_pos (by omega), if_pos (by omega), List.getElem?_take, if_pos (by omega), show k + i - k = i by omega, hi]
  · rw [if_neg c]
    by_cases c2 : k ≤ j ∧ j < k + i
    · rw [if_pos c2, if_pos (by omega), List.getElem?_take, if_pos (by omega), List.getElem?_take, if_pos (by omega)]
    · rw [if_neg c2, if_neg (by omega)]
theorem marks_more (wet : List Bool) (k i : Nat) (h : (k + i) / 16 < wet.length) : (marks wet k i).set ((k + i) / 16) true = marks wet k (i + 1) := by
  refine ext_getD (by rw [List.length_set, marks_len, marks_len]) fun j hj => ?_
  rw [List.length_set, marks_len] at hj
  rw [set_getD _ _ _ _ _ (by rw [marks_len]; exact h), marks_get _ _ _ _ hj, marks_get _ _ _ _ hj]
  have e : ∀ n, touched k n j = decide (0 < n ∧ k / 16 ≤ j ∧ j * 16 < k + n) := fun n => by
    unfold touched
    rw [Bool.eq_iff_iff]
    simp
  split
  · next c =>
    rw [e, decide_eq_true (by omega)]
    simp
  · next c =>
    rw [e, e]
    congr 1
    rw [decide_eq_decide]
    omega
theorem marks_none (wet : List Bool) (k : Nat) : marks wet k 0 = wet := by
  refine ext_getD (marks_len _ _ _) fun j hj => ?_
  rw [marks_len] at hj
  rw [marks_get _ _ _ _ hj]
  unfold touched
  simp
theorem splice_nil (b : By) (k : Nat) : splice b k [] = b := by
  unfold splice
  simp
/-- a byte laid into the document's disk, its sector marked -/
theorem rr_byte (h : RRx W B q gb cb go co gw cw s) (j z : Nat) (hj : j < s.b.length) (hz : z < s.wet.length) (v : Int) :
    RRx ((W.setCell ⟨gb, j, none⟩ (.int .u8 v)).setCell ⟨gw, z, none⟩ (.bool true)) B q gb cb go co gw cw { s with b := s.b.set j v, wet := s.wet.set z true } ∧ Below B W ((W.setCell ⟨gb, j, none⟩ (.int .u8 v)).setCell ⟨gw, z, none⟩ (.bool true)) := by
  have hn := h.nes
  have k1 : ∀ k, k ≠ gb → (W.setCell ⟨gb, j, none⟩ (.int .u8 v)).heap[k]? = W.heap[k]? := fun k hk => Below.heap_setCell W ⟨gb, j, none⟩ (.int .u8 v) k hk
  have k2 : ∀ k, k ≠ gw → ((W.setCell ⟨gb, j, none⟩ (.int .u8 v)).setCell ⟨gw, z, none⟩ (.bool true)).heap[k]? = (W.setCell ⟨gb, j, none⟩ (.int .u8 v)).heap[k]? := fun k hk => Below.heap_setCell _ ⟨gw, z, none⟩ (.bool true) k hk
  refine ⟨⟨?_, ?_, ?_, ?_, h.ne, h.hb, h.cap⟩, rfl, rfl, rfl, by rw [World.size_setCell, World.size_setCell]; exact Nat.le_refl _, fun k hk => (k2 k (by have := h.hb; omega)).trans (k1 k (by have := h.hb; omega))⟩
  · rw [k2 q hn.2.2.1, k1 q hn.1, h.blk]
    show some (Obj.cells #[_, _, _, _, _, _, _] _ _) = some (Obj.cells #[.slice _ (s.b.set j v).length _, _, .slice _ (s.wet.set z true).length _, _, _, _, _] _ _)
    rw [List.length_set, List.length_set]
  · exact (h.rb.put j hj v).keep (k2 gb hn.2.2.2.1)
  · exact (h.ro.keep (k1 go (Ne.symm h.ne))).keep (k2 go hn.2.2.2.2)
  · exact (h.rw_.keep (k1 gw (Ne.symm hn.2.2.2.1))).put z hz true
/-- what is written of a row of bytes, up to one -/
def D.part (s : D) (k : Nat) (x : By) (i : Nat) : D := { s with b := splice s.b k (x.take i), wet := marks s.wet k i }
theorem part_step (s : D) (k : Nat) (x : By) (i : Nat) (v : Int) (h : k + x.length ≤ s.b.length) (hw : s.b.length = s.wet.length * 16) (hi : x[i]? = some v) :
    ({ (s.part k x i) with b := (s.part k x i).b.set (k + i) v, wet := (s.part k x i).wet.set ((k + i) / 16) true } : D) = s.part k x (i + 1) := by
  have hil := (List.getElem?_eq_some_iff.1 hi).1
  unfold D.part
  show (D.mk ((splice s.b k (x.take i)).set (k + i) v) _ ((marks s.wet k i).set ((k + i) / 16) true) _ _ _) = _
  rw [splice_more _ _ _ _ _ h hi, marks_more _ _ _ (by omega)]
set_option maxHeartbeats 4000000 in
set_option maxRecDepth 100000 in
theorem rwrite_calls (h : RR W B q s) (o : Ok s) (ha : s.acts ≤ 1000000000) (a : Int) (x : By) {A : Option Addr} {c : Nat} (hx : CB W A x.length x) (hA : ∀ ad, A = some ad → 0 < x.length → ad.block < B) :
    Calls Try.prog 23 #[.pointer (some ⟨q, 0, none⟩), .int .i64 a, .slice A x.length c] W fun e w' => e = .returned (.int .i64 (s.write a x).2) ∧ RR w' B q (s.write a x).1 ∧ Below B W w' := by
  have HP := Lib.hid (rpower_calls h)
  have hxl : (x.length : Int) ≤ 9223372036854775807 := by have := hx.2.1; omega
  have HX := Lib.hid hx
  have HA := Lib.hid hA
  have hBW := h.size
  cases hoff : s.off with
  | true =>
    have e : s.write a x = ({ s with down := true }, 31) := by unfold D.write; rw [if_pos hoff]
    have hd : s.died = { s with down := true } := by unfold D.died; rw [hoff, if_pos rfl]
    rw [e]
    rw [hoff, hd] at HP
    clear h o ha hx hA hoff e hd hBW
    go_enter Try.func23, Try.ntmps23
    go_wp2_with (go_at_call 38; refine HP.out.mono ?_; rintro e w' ⟨rfl, h1, h2⟩)
    go_ret
    exact ⟨rfl, h1, h2⟩
  | false =>
    have hd : s.died = s := by unfold D.died; rw [hoff]; rfl
    rw [hoff, hd] at HP
    have hbl : s.b.length ≤ 65536 := by have := o.bl; have := o.n2; omega
    have HO := Lib.hid o
    obtain ⟨N, hN⟩ : ∃ N, s.b.length = N := ⟨_, rfl⟩
    have HN := Lib.hid hN
    obtain ⟨nx, hnx⟩ : ∃ n, x.length = n := ⟨_, rfl⟩
    have HNX := Lib.hid hnx
    have HOFF := Lib.hid hoff
    rw [hnx] at hxl ⊢
    have hsub : a ≥ 0 → a ≤ 65536 → IntKind.i64.wrap ((N : Int) - a) = (N : Int) - a := fun h1 h2 => IntWalk.i64_in _ (by omega)
    rw [hN] at hbl
    clear h hx hA hoff hd
    cases hwi : within N a nx with
    | false =>
      have e : s.write a x = (s, 1) := by unfold D.write; rw [if_neg (by rw [HOFF.out]; decide), if_neg (by rw [hN, hnx, hwi]; decide)]
      rw [e]
      rcases (show a < 0 ∨ (¬ a < 0 ∧ a > (N : Int)) ∨ (¬ a < 0 ∧ ¬ a > (N : Int) ∧ (nx : Int) > (N : Int) - a) by
        unfold within at hwi
        by_cases c1 : 0 ≤ a
        · by_cases c2 : a ≤ (N : Int)
          · by_cases c3 : (nx : Int) ≤ (N : Int) - a
            · rw [decide_eq_true c1, decide_eq_true c2, decide_eq_true c3, decide_eq_true (by omega)] at hwi
              cases hwi
            · omega
          · omega
        · omega) with d1 | ⟨d1, d2⟩ | ⟨d1, d2, d3⟩
      · clear hsub e o hwi hN hnx
        go_enter Try.func23, Try.ntmps23
        go_wp2_with (go_at_call 38; refine HP.out.mono ?_; rintro e w1 ⟨rfl, h1, h2⟩; obtain ⟨gb, cb, go, co, gw, cw, h1⟩ := h1; have HR1 := Lib.hid h1; have HB1 := Lib.hid h2; obtain ⟨g0, _, _, _, _, _, _⟩ := cells7 h1.blk; rw [HN.out] at g0; clear h1 h2)
        go_ret
        exact ⟨rfl, ⟨gb, cb, go, co, gw, cw, HR1.out⟩, HB1.out⟩
      · clear hsub e o hwi hN hnx
        go_enter Try.func23, Try.ntmps23
        go_wp2_with (go_at_call 38; refine HP.out.mono ?_; rintro e w1 ⟨rfl, h1, h2⟩; obtain ⟨gb, cb, go, co, gw, cw, h1⟩ := h1; have HR1 := Lib.hid h1; have HB1 := Lib.hid h2; obtain ⟨g0, _, _, _, _, _, _⟩ := cells7 h1.blk; rw [HN.out] at g0; clear h1 h2)
        go_ret
        exact ⟨rfl, ⟨gb, cb, go, co, gw, cw, HR1.out⟩, HB1.out⟩
      · have hsub2 := hsub (by omega) (by omega)
        clear hsub e o hwi hN hnx
        go_enter Try.func23, Try.ntmps23
        go_wp2_with (go_at_call 38; refine HP.out.mono ?_; rintro e w1 ⟨rfl, h1, h2⟩; obtain ⟨gb, cb, go, co, gw, cw, h1⟩ := h1; have HR1 := Lib.hid h1; have HB1 := Lib.hid h2; obtain ⟨g0, _, _, _, _, _, _⟩ := cells7 h1.blk; rw [HN.out] at g0; clear h1 h2)
        go_ret
        exact ⟨rfl, ⟨gb, cb, go, co, gw, cw, HR1.out⟩, HB1.out⟩
    | true =>
      have e : s.write a x = ({ s.did with b := splice s.b a.toNat x, wet := marks s.wet a.toNat x.length }, 0) := by unfold D.write; rw [if_neg (by rw [HOFF.out]; decide), if_pos (by rw [hN, hnx]; exact hwi)]
      rw [e]
      obtain ⟨w1, w2, w3_, w4⟩ := within_iff hwi
      obtain ⟨k, rfl⟩ : ∃ k : Nat, a = (k : Int) := ⟨a.toNat, by omega⟩
      rw [Int.toNat_natCast]
      have hsub2 := hsub w1 (by omega)
      have d1 : decide ((k : Int) < 0) = false := decide_eq_false (by omega)
      have d2 : decide ((k : Int) > (N : Int)) = false := decide_eq_false (by omega)
      have d3 : decide ((nx : Int) > (N : Int) - (k : Int)) = false := decide_eq_false (by omega)
      have d4 : decide ((N : Int) < (k : Int)) = false := d2
      have d5 : decide ((N : Int) - (k : Int) < (nx : Int)) = false := d3
      have d6 : decide (N < k) = false := decide_eq_false (by omega)
      have hfit : k + nx ≤ N := by omega
      have hk6 : k ≤ 65536 := by omega
      have hnx6 : nx ≤ 65536 := by omega
      have HDID := Lib.hid (fun W' (hr : RR W' B q (s.part k x nx)) => rdid_calls (s := s.part k x nx) hr HOFF.out o.fl o.fu ha)
      have hfin : (s.part k x nx).did = { s.did with b := splice s.b k x, wet := marks s.wet k x.length } := by
        show (D.mk (splice s.b k (x.take nx)) _ (marks s.wet k nx) _ _ _) = _
        rw [← hnx, List.take_of_length_le (Nat.le_refl _)]
        rfl
      have HFIN := Lib.hid hfin
      have HFIT := Lib.hid hfit
      clear hsub w1 w2 w3_ w4 e hN hnx hfin o hwi
      go_enter Try.func23, Try.ntmps23
      go_wp2_with (go_at_call 38; refine HP.out.mono ?_; rintro e w1 ⟨rfl, h1, h2⟩; obtain ⟨gb, cb, go, co, gw, cw, h1⟩ := h1; have HR1 := Lib.hid h1; have HB1 := Lib.hid h2; obtain ⟨g0, _, _, _, _, _, _⟩ := cells7 h1.blk; rw [HN.out] at g0; clear h1 h2)
      clear g0
      go_loopg [8] nx (fun gg s8 wr => ∃ i : Nat, i ≤ nx ∧ nx - i ≤ gg ∧ s8 = .int .i64 i ∧ Hid (RRx wr B q gb cb go co gw cw (s.part k x i)) ∧ Hid (Below B W wr))
      case atStart =>
        refine ⟨0, Nat.zero_le _, by omega, rfl, Lib.hid ?_, HB1.out⟩
        have : s.part k x 0 = s := by unfold D.part; rw [marks_none, List.take_zero, splice_nil]
        rw [this]
        exact HR1.out
      case round =>
        obtain ⟨i, hi, hgg, rfl, HR, HB⟩ := hrel
        by_cases hlt : i < nx
        · have hltz : decide ((i : Int) < (nx : Int)) = true := decide_eq_true (by omega)
          have HLT := Lib.hid hlt
          obtain ⟨v, hv⟩ : ∃ v, x[i]? = some v := ⟨_, List.getElem?_eq_getElem (by rw [HNX.out]; exact hlt)⟩
          have hxr : CB wr A x.length x := CB.keep HX.out (fun ad e hp => HB.out.block _ (HA.out ad e hp))
          obtain ⟨ad, ea, hc⟩ := Kd.at_int hxr (i : Int) (by omega) (by rw [HNX.out]; omega)
          have hrd : rd x (i : Int) = v := by unfold rd; rw [Int.toNat_natCast, List.getD_eq_getElem?_getD, hv]; rfl
          rw [hrd, Int.toNat_natCast] at hc
          cases ea
          obtain ⟨g0, _, g2, _, _, _, _⟩ := cells7 HR.out.blk
          have hpl : (s.part k x i).b.length = N := by
            show (splice s.b k (x.take i)).length = N
            rw [splice_len _ _ _ (by rw [List.length_take, HN.out, HNX.out]; omega), HN.out]
          have hwl : (s.part k x i).wet.length = s.wet.length := marks_len _ _ _
          rw [hpl] at g0
          rw [hwl] at g2
          have hbw : N = s.wet.length * 16 := by have := HO.out.bl; rw [HN.out] at this; exact this
          have fz := HR.out.rb.frozen (k + i)
          have oc := HR.out.rb.cell (k + i) (by rw [hpl]; omega)
          obtain ⟨z, hz⟩ : ∃ z, (k + i) / 16 = z := ⟨_, rfl⟩
          have hzl : z < s.wet.length := by omega
          have fz2 := HR.out.rw_.frozen z
          have oc2 := HR.out.rw_.cell z (by rw [hwl]; exact hzl)
          have HST := Lib.hid (part_step s k x i v (by rw [HN.out, HNX.out]; exact HFIT.out) HO.out.bl hv)
          have HBY := Lib.hid (rr_byte HR.out (k + i) ((k + i) / 16) (by rw [hpl]; omega) (by rw [hwl]; omega) v)
          rw [HST.out] at HBY
          have r0 : IntKind.i64.wrap ((k : Int) + (i : Int)) = (k : Int) + (i : Int) := IntWalk.i64_in _ (by omega)
          have r1 : ((k : Int) + (i : Int)).toNat = k + i := by omega
          have r2 : 0 ≤ (k : Int) + (i : Int) := by omega
          have r3 : (k : Int) + (i : Int) < (N : Int) := by omega
          have r4 : ((k : Int) + (i : Int)) / 16 = (z : Int) := by omega
          rw [hz] at HBY
          obtain ⟨nw, hnw⟩ : ∃ n, s.wet.length = n := ⟨_, rfl⟩
          have r5 : (z : Int) < (nw : Int) := by omega
          rw [hnw] at g2
          obtain ⟨ob, hob⟩ : ∃ v, (s.part k x i).b[k + i]'(by rw [hpl]; omega) = v := ⟨_, rfl⟩
          rw [hob] at oc
          obtain ⟨ow, how⟩ : ∃ v, (s.part k x i).wet[z]'(by rw [hwl]; exact hzl) = v := ⟨_, rfl⟩
          rw [how] at oc2
          have hne := HR.out.nes
          have oc3 : (wr.setCell ⟨gb, k + i, none⟩ (.int .u8 v)).cell? ⟨gw, z, none⟩ = some (.bool ow) := by
            have := Below.heap_setCell wr ⟨gb, k + i, none⟩ (.int .u8 v) gw (Ne.symm hne.2.2.2.1)
            have e : (wr.setCell ⟨gb, k + i, none⟩ (.int .u8 v)).cell? ⟨gw, z, none⟩ = wr.cell? ⟨gw, z, none⟩ := by
              unfold World.cell?
              rw [this]
            rw [e]; exact oc2
          have fz3 : (wr.setCell ⟨gb, k + i, none⟩ (.int .u8 v)).frozen? ⟨gw, z, none⟩ = false := by
            have := Below.heap_setCell wr ⟨gb, k + i, none⟩ (.int .u8 v) gw (Ne.symm hne.2.2.2.1)
            have e : (wr.setCell ⟨gb, k + i, none⟩ (.int .u8 v)).frozen? ⟨gw, z, none⟩ = wr.frozen? ⟨gw, z, none⟩ := by
              unfold World.frozen?
              rw [this]
            rw [e]; exact fz2
          have g3 : (wr.setCell ⟨gb, k + i, none⟩ (.int .u8 v)).cell? ⟨q, 2, none⟩ = some (.slice (some ⟨gw, 0, none⟩) nw cw) := by
            have := Below.heap_setCell wr ⟨gb, k + i, none⟩ (.int .u8 v) q hne.1
            have e : (wr.setCell ⟨gb, k + i, none⟩ (.int .u8 v)).cell? ⟨q, 2, none⟩ = wr.cell? ⟨q, 2, none⟩ := by
              unfold World.cell?
              rw [this]
            rw [e]; exact g2
          have HBYd := Lib.hid (rr_byte (HR.out.keep (W' := wr.drew) (fun k _ _ => rfl)) (k + i) z (by rw [hpl]; omega) (by rw [hwl]; exact hzl) v)
          rw [← hz, HST.out, hz] at HBYd
          have HBd := Lib.hid (HB.out.trans (show Below B wr wr.drew from ⟨rfl, rfl, rfl, Nat.le_refl _, fun _ _ => rfl⟩))
          clear hpl hwl hob how hne HBY hxr hrd hv hbw hz hnw hzl g2 oc2 fz2
          go_wp2_with fail
          go_still_tail 12, (by kernel_rfl)
          change wpList _ _ _ _ _ wr.drew
          go_wp2_with fail
          go_roundg (nx - (i + 1))
          case measure => have := HLT.out; omega
          case rel => exact ⟨i + 1, by have := HLT.out; omega, by omega, by go_num, Lib.hid HBYd.out.1, Lib.hid (HBd.out.trans HBYd.out.2)⟩
        · have hltz : decide ((i : Int) < (nx : Int)) = false := decide_eq_false (by omega)
          have hin : i = nx := by omega
          rw [hin] at HR
          have HDN := Lib.hid (HDID.out wr ⟨gb, cb, go, co, gw, cw, HR.out⟩)
          rw [HFIN.out] at HDN
          go_wp2_with (go_at_call 39; refine HDN.out.mono ?_; rintro e w2 ⟨rfl, k1, k2⟩)
          go_ret
          exact ⟨rfl, k1, HB.out.trans k2⟩
end
end Go.Proofs.Ytpchobikpamfcaa.Sk
