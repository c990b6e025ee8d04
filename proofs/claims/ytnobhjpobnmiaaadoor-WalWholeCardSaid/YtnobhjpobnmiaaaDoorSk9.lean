/- A disk in memory: the walk of Write's closure. -/
import Derived.Test.YtnobhjpobnmiaaaDoorSk8
namespace Go.Proofs.YtnobhjpobnmiaaaDoor.Sk
open Go Go.RowKit Go.Maps Go.Proofs Go.Proofs.YtnobhjpobnmiaaaDoorW.PrintWords Go.Proofs.YtnobhjpobnmiaaaDoorW.PrintLast Go.Proofs.YtnobhjpobnmiaaaDoorW.PrintMore
set_option linter.unusedVariables false
set_option linter.unusedSimpArgs false

section
variable {W : World} {p g cap m : Nat} {s : D}
theorem at_16 {l : By} (h : l.length = 16) : (enc l).toArray.size = 16 ∧ (enc l).toArray.all (·.oneCell') = true := by
  obtain ⟨x0, x1, x2, x3, x4, x5, x6, x7, x8, x9, x10, x11, x12, x13, x14, x15, rfl⟩ := zero_of h
  exact ⟨rfl, by simp [enc, Value.oneCell']⟩
theorem cell_lt {w : World} {a : Addr} {v : Value} (h : w.cell? a = some v) : a.block < w.heap.size := by
  rcases Nat.lt_or_ge a.block w.heap.size with c | c
  · exact c
  · have hn : w.heap[a.block]? = none := Array.getElem?_eq_none c
    unfold World.cell? at h
    rw [hn] at h
    cases h
theorem cb_lt {w : World} {A : Option Addr} {n : Nat} {x : By} (h : CB w A n x) : ∀ ad, A = some ad → 0 < n → ad.block < w.heap.size := by
  intro ad e hp
  subst e
  obtain ⟨ad2, e, hc⟩ := Kd.at_int h 0 (by omega) (by omega)
  cases e
  have hb : (ad.add (0 : Int).toNat).block = ad.block := by unfold Addr.add; split <;> rfl
  have := cell_lt hc
  rwa [hb] at this
theorem last_off {A7 : Option Addr} {g k cap : Nat} {b x : By} {ext : List Value} (h : (if cap = k then some (⟨g, 0, none⟩ : Addr) else some ⟨g, k, none⟩) = A7) (he : b.length + ext.length = cap) (hk : k + x.length ≤ b.length) :
    ∃ off, A7 = some ⟨g, off, none⟩ ∧ (enc b ++ ext).take off ++ (enc x ++ (enc b ++ ext).drop (off + x.length)) = enc (splice b k x) ++ ext ∧ off + x.length ≤ (enc b ++ ext).length := by
  have hl : ∀ b : By, (enc b).length = b.length := fun b => by unfold enc; rw [List.length_map]
  have hs : enc (splice b k x) = (enc b).take k ++ (enc x ++ (enc b).drop (k + x.length)) := by unfold splice enc; simp
  split at h
  · next c =>
    have hx : x = [] := List.eq_nil_of_length_eq_zero (by omega)
    subst hx
    refine ⟨0, h.symm, ?_, by simp⟩
    rw [hs]
    simp [enc]
  · refine ⟨k, h.symm, ?_, by rw [List.length_append, hl]; omega⟩
    rw [hs, List.take_append_of_le_length (by rw [hl]; omega), List.drop_append_of_le_length (by rw [hl]; omega), List.append_assoc, List.append_assoc]
set_option maxHeartbeats 4000000 in
set_option maxRecDepth 100000 in
theorem write1_calls (h : SR W p g cap m s) (o : Ok s) {qa qb qd k n c : Nat} {A : Option Addr} (hc : Cap W p qa qb qd k A n c) (hfit : k + n ≤ s.b.length) (x : By) (hx : CB W A n x) (hA : ∀ ad, A = some ad → 0 < n → ad.block ≠ p ∧ ad.block ≠ g ∧ ad.block ≠ m) :
    Calls Tryd.prog 61 #[.pointer (some ⟨qa, 0, none⟩), .pointer (some ⟨qb, 0, none⟩), .pointer (some ⟨qd, 0, none⟩)] W fun e w' => e = .returned (.tuple #[]) ∧ SR w' p g cap m { s with b := splice s.b k x, wet := marks s.wet k n } ∧ Fr W w' p g m := by
  have HO := Lib.hid o
  have h0W := Lib.hid h
  have hbl := o.bl
  have hn2 := o.n2
  have hN : s.b.length ≤ 65536 := by omega
  have HBL := Lib.hid hbl
  have HC := Lib.hid hc
  have HX := Lib.hid hx
  have HA := Lib.hid hA
  have HS0 := Lib.hid (show SR W p g cap m { s with wet := marksTo s.wet k n (k / 16) } from by rw [marksTo_start]; exact h)
  have HF0 := Lib.hid (Fr.refl W p g m)
  have a0 := (blk_cell hc.a 0).trans rfl
  have b0 := (blk_cell hc.b 0).trans rfl
  have hkN : k ≤ 65536 := by omega
  have hnN : n ≤ 65536 := by omega
  obtain ⟨N, hNN⟩ : ∃ N, s.b.length = N := ⟨_, rfl⟩
  rw [hNN] at hfit hN
  have HNN := Lib.hid hNN
  have HFIT := Lib.hid hfit
  clear h o hbl hc hx hA hNN
  go_enter Tryd.func61, Tryd.ntmps61
  go_wp2_with fail
  go_loopg [3] (k + n + 1 - (k / 16) * 16) (fun gg s3 wr => ∃ i : Nat, k / 16 ≤ i ∧ i ≤ 5000 ∧ k + n + 1 - i * 16 ≤ gg ∧ s3 = .int .i64 (i : Int) ∧ Hid (SR wr p g cap m { s with wet := marksTo s.wet k n i }) ∧ Hid (Fr W wr p g m))
  case atStart => exact ⟨k / 16, Nat.le_refl _, by omega, Nat.le_refl _, by first | rfl | go_num | simp, HS0, HF0⟩
  case round =>
    obtain ⟨i, hi, hi5, hgg, rfl, HS, HF⟩ := hrel
    have HCr := Lib.hid (HC.out.fr (by first | exact HS0.out) HF.out)
    have a1 := (blk_cell HCr.out.a 0).trans rfl
    have b1 := (blk_cell HCr.out.b 0).trans rfl
    have d1 := (blk_cell HCr.out.d 0).trans rfl
    obtain ⟨h0, h1, _, _, _⟩ := cells5 HS.out.blk
    change wr.cell? ⟨p, 0, none⟩ = some (.slice (some ⟨g, 0, none⟩) s.b.length cap) at h0
    rw [HNN.out] at h0
    have hkn : (k : Int) + (n : Int) ≤ 140000 := by omega
    have q0 : 0 ≤ (i : Int) := by omega
    have q1 : (i : Int) ≤ 5000 := by omega
    clear a0 b0 HS0 HF0
    by_cases hlt : i * 16 < k + n
    · have hiw : i < s.wet.length := by have := HBL.out; have := HNN.out; have := HFIT.out; omega
      have hltz : decide ((i : Int) * 16 < (k : Int) + (n : Int)) = true := decide_eq_true (by omega)
      have hsec : (sec s.old i).length = 16 := sec_len _ _ (by have := HO.out.ol; omega)
      have HIW := Lib.hid hiw
      have HLT := Lib.hid hlt
      obtain ⟨nn, D, hm, hnn⟩ := HS.out.map
      have hget : (marksTo s.wet k n i).getD i false = s.wet.getD i false := by rw [marksTo_get _ _ _ _ _ hiw, show decide (i < i) = false from decide_eq_false (by omega), Bool.and_false, Bool.or_false]
      cases hw : s.wet.getD i false with
      | true =>
        have hl := look_yes hm i (by show i < (marksTo s.wet k n i).length; rw [marksTo_len]; exact hiw) (by rw [← hget] at hw; exact hw) (by omega) true
        obtain ⟨e1, e2⟩ := at_16 hsec
        obtain ⟨CS, hCS⟩ : ∃ CS, (enc (sec s.old i)).toArray = CS := ⟨_, rfl⟩
        change _ = Result.ok (Value.tuple #[Value.agg (enc (sec s.old i)).toArray, Value.bool true]) wr at hl
        rw [hCS] at hl e1 e2
        have HE := Lib.hid (And.intro e1 e2)
        have HMS := Lib.hid (marksTo_same s.wet k n i hiw (.inl hw))
        clear hm hget hw e1 e2 hCS hsec hiw hlt
        go_wp2_with (refine store_part rfl (.tmp 4) (.tmp 25) rfl (cells := CS) rfl rfl HE.out.1 rfl HE.out.2 ?_; intro w2 hb2; have HB2 := Lib.hid hb2; clear hb2)
        go_roundg (k + n + 1 - (i + 1) * 16)
        case measure => have := HLT.out; omega
        case rel => exact ⟨i + 1, by omega, by have := HIW.out; omega, Nat.le_refl _, by go_num, by rw [HMS.out]; exact Lib.hid (HS.out.below HB2.out), Lib.hid (HF.out.below HB2.out)⟩
      | false =>
        have hl := look_not hm i (by show i < (marksTo s.wet k n i).length; rw [marksTo_len]; exact hiw) (by rw [← hget] at hw; exact hw) (by omega)
        have HZP := Lib.hid (show zpart.size = 16 ∧ zpart.all (·.oneCell') = true from ⟨rfl, by simp [zpart, Value.oneCell']⟩)
        obtain ⟨ZP, hZP⟩ : ∃ Z, zpart = Z := ⟨_, rfl⟩
        rw [hZP] at hl HZP
        by_cases hn0 : n = 0
        · have HMS := Lib.hid (marksTo_same s.wet k n i hiw (.inr hn0))
          have hz1 : decide (0 < n) = false := decide_eq_false (by omega)
          have hz2 : decide ((n : Int) > 0) = false := decide_eq_false (by omega)
          have hz3 : ¬ 0 < n := by omega
          clear hm hget hw hZP hsec hiw hlt hn0
          go_wp2_with (refine store_part rfl (.tmp 4) (.tmp 25) rfl (cells := ZP) rfl rfl HZP.out.1 rfl HZP.out.2 ?_; intro w2 hb2; have HB2 := Lib.hid hb2; have HC2 := Lib.hid (HCr.out.below hb2); have b2 := (blk_cell HC2.out.b 0).trans rfl; clear hb2)
          go_roundg (k + n + 1 - (i + 1) * 16)
          case measure => have := HLT.out; omega
          case rel => exact ⟨i + 1, by omega, by have := HIW.out; omega, Nat.le_refl _, by go_num, by rw [HMS.out]; exact Lib.hid (HS.out.below HB2.out), Lib.hid (HF.out.below HB2.out)⟩
        · have HWF := Lib.hid hw
          have hnz : decide ((n : Int) > 0) = true := decide_eq_true (by omega)
          have hz1 : decide (0 < n) = true := decide_eq_true (by omega)
          have hz3 : 0 < n := by omega
          clear hm hget hw hZP
          go_wp2_with (refine store_part rfl (.tmp 4) (.tmp 25) rfl (cells := ZP) rfl rfl HZP.out.1 rfl HZP.out.2 ?_; intro w2 hb2; have HB2 := Lib.hid hb2; have HC2 := Lib.hid (HCr.out.below hb2); have b2 := (blk_cell HC2.out.b 0).trans rfl; clear hb2)
          have HS2 := Lib.hid (HS.out.below HB2.out)
          have HF2 := Lib.hid (HF.out.below HB2.out)
          have HG := Lib.hid (blk_new w2 (Obj.cells #[.int .u8 0, .int .u8 0, .int .u8 0, .int .u8 0, .int .u8 0, .int .u8 0, .int .u8 0, .int .u8 0, .int .u8 0, .int .u8 0, .int .u8 0, .int .u8 0, .int .u8 0, .int .u8 0, .int .u8 0, .int .u8 0] 72))
          have HB6 := Lib.hid (below_alloc (Below.refl w2.heap.size w2) (Obj.cells #[.int .u8 0, .int .u8 0, .int .u8 0, .int .u8 0, .int .u8 0, .int .u8 0, .int .u8 0, .int .u8 0, .int .u8 0, .int .u8 0, .int .u8 0, .int .u8 0, .int .u8 0, .int .u8 0, .int .u8 0, .int .u8 0] 72))
          have HGP := Lib.hid (Nat.le_refl w2.heap.size)
          obtain ⟨gp, hgp⟩ : ∃ gp, w2.heap.size = gp := ⟨_, rfl⟩
          rw [hgp] at HG ⊢
          have HGL := Lib.hid (show w2.heap.size ≤ gp by omega)
          generalize w2.alloc (Obj.cells #[.int .u8 0, .int .u8 0, .int .u8 0, .int .u8 0, .int .u8 0, .int .u8 0, .int .u8 0, .int .u8 0, .int .u8 0, .int .u8 0, .int .u8 0, .int .u8 0, .int .u8 0, .int .u8 0, .int .u8 0, .int .u8 0] 72) = w6 at HG HB6 ⊢
          have HS6 := Lib.hid (HS2.out.below HB6.out)
          have HC6 := Lib.hid (HC2.out.below HB6.out)
          have d6 := (blk_cell HC6.out.d 0).trans rfl
          obtain ⟨p0, p1, _, _, _⟩ := cells5 HS6.out.blk
          change w6.cell? ⟨p, 0, none⟩ = some (.slice (some ⟨g, 0, none⟩) s.b.length cap) at p0
          rw [HNN.out] at p0
          have hcapN : N ≤ cap := by
            obtain ⟨ext, _, hx⟩ := HS6.out.row
            have hx : s.b.length + ext.length = cap := hx
            rw [HNN.out] at hx; omega
          have hi16 : i * 16 + 16 ≤ N := by have := HBL.out; have := HNN.out; have := HIW.out; omega
          have r0 : IntKind.i64.wrap ((i : Int) * 16) = (i : Int) * 16 := IntWalk.i64_in _ (by omega)
          have r1 : (i : Int) * 16 ≤ (N : Int) := by omega
          have r2 : 0 ≤ (i : Int) * 16 := by omega
          have r3 : ((i : Int) * 16).toNat = i * 16 := by omega
          have r4 : ¬ cap = i * 16 := by omega
          have r5 : (N : Int) ≤ (cap : Int) := by omega
          have r6 : (i : Int) * 16 ≤ (cap : Int) := by omega
          clear h0 h1 a1 b1 d1 b2 hgp hl HB2 HCr HS HF HC2 HZP
          go_still_tail 8, (by kernel_rfl)
          change wpList _ _ _ _ _ w6.drew
          have HS7 := Lib.hid (HS6.out.below (below_drew (Below.refl _ _)))
          have HC7 := Lib.hid (HC6.out.below (below_drew (Below.refl _ _)))
          have HG7 := Lib.hid (blk_below HG.out (below_drew (Below.refl _ _)))
          have HF7 := Lib.hid ((HF2.out.below HB6.out).below (below_drew (Below.refl _ _)))
          generalize w6.drew = w7 at HS7 HC7 HG7 HF7 ⊢
          have hsb : (sec s.b i).length = 16 := sec_len _ _ (by rw [HNN.out]; omega)
          have HSRC := Lib.hid (show CB w7 (some ⟨g, i * 16, none⟩) 16 (sec s.b i) from seg_CB (s := s) (HS7.out.row.CB (show s.b.length ≤ 9223372036854775807 by rw [HNN.out]; omega)) (i * 16) 16 (by rw [HNN.out]; omega))
          have HLT2 := Lib.hid HS2.out.lt
          have HSB := Lib.hid hsb
          clear d6 p0 p1 hsb
          refine copy_row rfl (.tmp 34) (.tmp 41) rfl (g := gp) (off := 0) (dLen := 16) (dCap := 16) (sp := some ⟨g, i * 16, none⟩) (sLen := N - i * 16) (sCap := cap - i * 16) rfl rfl HG7.out (sec s.b i) (by rw [HSB.out]; show 16 = min (N - i * 16) 16; omega) (by rw [HSB.out]; exact HSRC.out) (by rw [HSB.out]; exact Nat.le_refl 16) (r := enc (sec s.b i)) (by rw [HSB.out]; simp) ?_
          intro w8 hg8 hbut
          have hge := HGL.out
          have hl2 := HLT2.out
          have HS8 := Lib.hid (HS7.out.keep (hbut.block p (by omega)) (hbut.block g (by omega)) (hbut.block m (by omega)))
          have HF8 := Lib.hid (show Fr W w8 p g m from ⟨by rw [hbut.size]; exact HF7.out.size, fun q h1 h2 h3 h4 => (hbut.block q (by have := HF2.out.size; omega)).trans (HF7.out.block q h1 h2 h3 h4), hbut.os.trans HF7.out.os, hbut.tape.trans HF7.out.tape, hbut.output.trans HF7.out.output⟩)
          have HC8 := Lib.hid (HC.out.fr h0W.out HF8.out)
          have HG8 := Lib.hid hg8
          rw [HSB.out]
          clear hg8 hbut hge hl2 HSRC HS7 HC7 HG7 HF7 HS6 HC6 HG
          have HMS := Lib.hid (marksTo_set s.wet k n i HIW.out hz3 hi HLT.out)
          have hgw : (marksTo s.wet k n i).getD i false = false := by rw [marksTo_get _ _ _ _ _ HIW.out, show decide (i < i) = false from decide_eq_false (by omega), Bool.and_false, Bool.or_false]; exact HWF.out
          have hcl : sec s.old i = sec s.b i := HO.out.clean i HIW.out HWF.out
          have HS9 := Lib.hid (HS8.out.below (below_drew (Below.refl _ _)))
          obtain ⟨n9, D9, hm9, _⟩ := HS9.out.map
          obtain ⟨W9, n10, D10, hrun, how, hn10, htn⟩ := ow_put hm9 (by show (marksTo s.wet k n i).length ≤ 4096; rw [marksTo_len]; exact hn2) i (by show i < (marksTo s.wet k n i).length; rw [marksTo_len]; exact HIW.out) (enc (sec s.b i)).toArray (by show _ = (enc (sec s.old i)).toArray; rw [hcl])
          have how2 : OW W9 m (marksTo s.wet k n (i + 1)) s.old n10 D10 := by rw [← HMS.out]; exact how
          have HOW := Lib.hid (And.intro how2 (And.intro hn10 htn))
          obtain ⟨x0, x1, x2, x3, x4, x5, x6, x7, x8, x9, x10, x11, x12, x13, x14, x15, hxs⟩ := zero_of HSB.out
          rw [hxs] at hrun HG8
          change (Instr.mapUpdate 53 (.map (some m)) (.int .i64 (i : Int)) (.agg #[.int .u8 x0, .int .u8 x1, .int .u8 x2, .int .u8 x3, .int .u8 x4, .int .u8 x5, .int .u8 x6, .int .u8 x7, .int .u8 x8, .int .u8 x9, .int .u8 x10, .int .u8 x11, .int .u8 x12, .int .u8 x13, .int .u8 x14, .int .u8 x15])).run Tryd.prog w8.drew = .ok () W9 at hrun
          have d8 := (blk_cell HC8.out.d 0).trans rfl
          obtain ⟨_, p1, _, _, _⟩ := cells5 HS8.out.blk
          have g0 : w8.cell? ⟨gp, 0, none⟩ = some (.int .u8 x0) := (blk_cell HG8.out 0).trans rfl
          have g1 : w8.cell? ⟨gp, 1, none⟩ = some (.int .u8 x1) := (blk_cell HG8.out 1).trans rfl
          have g2 : w8.cell? ⟨gp, 2, none⟩ = some (.int .u8 x2) := (blk_cell HG8.out 2).trans rfl
          have g3 : w8.cell? ⟨gp, 3, none⟩ = some (.int .u8 x3) := (blk_cell HG8.out 3).trans rfl
          have g4 : w8.cell? ⟨gp, 4, none⟩ = some (.int .u8 x4) := (blk_cell HG8.out 4).trans rfl
          have g5 : w8.cell? ⟨gp, 5, none⟩ = some (.int .u8 x5) := (blk_cell HG8.out 5).trans rfl
          have g6 : w8.cell? ⟨gp, 6, none⟩ = some (.int .u8 x6) := (blk_cell HG8.out 6).trans rfl
          have g7 : w8.cell? ⟨gp, 7, none⟩ = some (.int .u8 x7) := (blk_cell HG8.out 7).trans rfl
          have g8 : w8.cell? ⟨gp, 8, none⟩ = some (.int .u8 x8) := (blk_cell HG8.out 8).trans rfl
          have g9 : w8.cell? ⟨gp, 9, none⟩ = some (.int .u8 x9) := (blk_cell HG8.out 9).trans rfl
          have g10 : w8.cell? ⟨gp, 10, none⟩ = some (.int .u8 x10) := (blk_cell HG8.out 10).trans rfl
          have g11 : w8.cell? ⟨gp, 11, none⟩ = some (.int .u8 x11) := (blk_cell HG8.out 11).trans rfl
          have g12 : w8.cell? ⟨gp, 12, none⟩ = some (.int .u8 x12) := (blk_cell HG8.out 12).trans rfl
          have g13 : w8.cell? ⟨gp, 13, none⟩ = some (.int .u8 x13) := (blk_cell HG8.out 13).trans rfl
          have g14 : w8.cell? ⟨gp, 14, none⟩ = some (.int .u8 x14) := (blk_cell HG8.out 14).trans rfl
          have g15 : w8.cell? ⟨gp, 15, none⟩ = some (.int .u8 x15) := (blk_cell HG8.out 15).trans rfl
          clear hgw hcl hm9 how how2 hn10 htn hxs HS9
          go_wp2_with fail
          go_still_tail 6, (by kernel_rfl)
          change wpList _ _ _ _ _ w8.drew
          clear g0 g1 g2 g3 g4 g5 g6 g7 g8 g9 g10 g11 g12 g13 g14 g15 d8 p1
          go_wp2_with fail
          go_roundg (k + n + 1 - (i + 1) * 16)
          case measure => have := HLT.out; omega
          case rel =>
            have hs9 := HS8.out.below (below_drew (Below.refl w8.heap.size w8))
            obtain ⟨k1, k2, k3⟩ := HOW.out
            exact ⟨i + 1, by omega, by have := HIW.out; omega, Nat.le_refl _, by go_num, Lib.hid ⟨(Fr.keep3 k3 p hs9.lt.1 hs9.ne.2.1).trans hs9.blk, hs9.row.keep (Fr.keep3 k3 g hs9.lt.2.1 hs9.ne.2.2), ⟨_, _, k1, k2⟩, hs9.cap_⟩, Lib.hid ((HF8.out.below (below_drew (Below.refl w8.heap.size w8))).trans (Fr.turned k3))⟩
    · have hltz : decide ((i : Int) * 16 < (k : Int) + (n : Int)) = false := decide_eq_false (by omega)
      have hcapN : N ≤ cap := by
        obtain ⟨ext, _, hx⟩ := HS.out.row
        have hx : s.b.length + ext.length = cap := hx
        rw [HNN.out] at hx; omega
      have t1 : (k : Int) ≤ (N : Int) := by have := HFIT.out; omega
      have t2 : (k : Int) ≤ (cap : Int) := by omega
      have t3 : 0 ≤ (k : Int) := by omega
      have t4 : (N : Int) ≤ (cap : Int) := by omega
      obtain ⟨A7, hA7⟩ : ∃ A7 : Option Addr, (if cap = k then some ⟨g, 0, none⟩ else some ⟨g, k, none⟩) = A7 := ⟨_, rfl⟩
      have HA7 := Lib.hid hA7
      have HLE := Lib.hid hlt
      go_wp2_with fail
      go_still_tail 7, (by kernel_rfl)
      change wpList _ _ _ _ _ wr.drew
      have HS7 := Lib.hid (HS.out.below (below_drew (Below.refl _ _)))
      have HF7 := Lib.hid (HF.out.below (below_drew (Below.refl _ _)))
      have HX7 := Lib.hid (show CB wr.drew A n x from CB.fr (HX.out) (HF.out.below (below_drew (Below.refl _ _))) HA.out (cb_lt HX.out))
      generalize wr.drew = w7 at HS7 HF7 HX7 ⊢
      obtain ⟨ext, hrow, hext⟩ := HS7.out.row
      change w7.heap[g]? = some (.cells (enc s.b ++ ext).toArray 5 (0, 0)) at hrow
      have hxl := HX7.out.1
      have HEXT := Lib.hid hext
      obtain ⟨off, hoA, hoff⟩ : ∃ off, A7 = some ⟨g, off, none⟩ ∧ (enc s.b ++ ext).take off ++ (enc x ++ (enc s.b ++ ext).drop (off + x.length)) = enc (splice s.b k x) ++ ext ∧ off + x.length ≤ (enc s.b ++ ext).length := last_off HA7.out hext (by rw [hxl]; have := HNN.out; have := HFIT.out; omega)
      subst hoA
      have HXL := Lib.hid hxl
      have HOFF := Lib.hid hoff
      have HNK := Lib.hid (show n = min n (N - k) by have := HFIT.out; omega)
      clear hxl hoff hext hA7
      refine copy_row rfl (.tmp 54) (.tmp 55) rfl (g := g) (off := off) (dLen := N - k) (dCap := cap - k) (sp := A) (sLen := n) (sCap := c) rfl rfl hrow x (by rw [HXL.out]; exact HNK.out) (by rw [HXL.out]; exact HX7.out) (by have := HOFF.out.2; simpa using this) (r := enc (splice s.b k x) ++ ext) (by rw [← HOFF.out.1]) ?_
      intro w8 hg8 hbut
      have hne := HS7.out.ne
      have hlen : (splice s.b k x).length = s.b.length := splice_len _ _ _ (by rw [HXL.out]; have := HNN.out; have := HFIT.out; omega)
      have HS8 : Hid (SR w8 p g cap m { s with b := splice s.b k x, wet := marks s.wet k n }) := Lib.hid ⟨by show w8.heap[p]? = some (.cells #[.slice (some ⟨g, 0, none⟩) (splice s.b k x).length cap, _, _, _, _] _ _); rw [hlen]; exact (hbut.block p hne.1).trans HS7.out.blk, ⟨ext, hg8, by show (splice s.b k x).length + _ = _; rw [hlen]; exact HEXT.out⟩, by
        obtain ⟨nn, D, h1, h2⟩ := HS7.out.map
        have h1 := h1.keep (hbut.block m (Ne.symm hne.2.2))
        change OW w8 m (marksTo s.wet k n i) s.old nn D at h1
        rw [marksTo_end _ _ _ _ (by omega)] at h1
        exact ⟨nn, D, h1, h2⟩, HS7.out.cap_⟩
      have HF8 := Lib.hid (show Fr W w8 p g m from ⟨by rw [hbut.size]; exact HF7.out.size, fun q h1 h2 h3 h4 => (hbut.block q h3).trans (HF7.out.block q h1 h2 h3 h4), hbut.os.trans HF7.out.os, hbut.tape.trans HF7.out.tape, hbut.output.trans HF7.out.output⟩)
      go_wp2_with fail
      go_end0
      exact ⟨rfl, HS8.out, HF8.out⟩
end
end Go.Proofs.YtnobhjpobnmiaaaDoor.Sk
