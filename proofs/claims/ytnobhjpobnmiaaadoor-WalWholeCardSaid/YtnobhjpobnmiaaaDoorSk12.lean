/- A disk in memory: the walk of Crash. -/
import Derived.Test.YtnobhjpobnmiaaaDoorSk11
import Derived.StillTailTactics
import Derived.Outline
namespace Go.Proofs.YtnobhjpobnmiaaaDoor.Sk
open Go Go.RowKit Go.Maps Go.Proofs Go.Proofs.YtnobhjpobnmiaaaDoorW.PrintWords Go.Proofs.YtnobhjpobnmiaaaDoorW.PrintLast Go.Proofs.YtnobhjpobnmiaaaDoorW.PrintMore
set_option linter.unusedVariables false
set_option linter.unusedSimpArgs false

section
variable {W W' : World} {p g cap m : Nat} {s t : D}
theorem restore_step (old : By) (keep : List Bool) (l : List Nat) (i n : Nat) (b b0 : By) (h : restore old keep (l.drop i) i b = b0) (hi : l[i]? = some n) :
    restore old keep (l.drop (i + 1)) (i + 1) (if keep.getD i false then b else splice b (n * 16) (sec old n)) = b0 := by
  have hl := (List.getElem?_eq_some_iff.1 hi).1
  rw [List.drop_eq_getElem_cons hl] at h
  have e : l[i] = n := (List.getElem?_eq_some_iff.1 hi).2
  rw [e] at h
  exact h
theorem restore_done (old : By) (keep : List Bool) (l : List Nat) (i : Nat) (b b0 : By) (h : restore old keep (l.drop i) i b = b0) (hi : l.length ≤ i) : b = b0 := by
  rw [List.drop_of_length_le hi] at h
  exact h
theorem rC {α : Type} {d : Kd α} {e : Nat} {w : World} {base : Nat} {ok : Nat → Prop} {A : Option Addr} {n c : Nat} {xs : List α} (h : d.R e w base ok (.slice A n c) xs) : d.C w A xs.length xs := by
  obtain ⟨A2, c2, e, _, hC⟩ := Kd.R_reads h
  cases e
  exact hC
/-- the part that is laid back, as bytes that are read -/
theorem part_CB {w : World} {gp : Nat} {l : By} {t : TypeId} (h : w.heap[gp]? = some (.cells (enc l).toArray t (0, 0))) (hl : l.length ≤ 9223372036854775807) : CB w (some ⟨gp, 0, none⟩) l.length l := by
  refine ⟨rfl, hl, fun _ => ⟨_, rfl, fun j p hj => ⟨[.int .u8 p], rfl, rfl, fun i u hu => ?_⟩⟩⟩
  have e : i = 0 := by
    rcases i with _ | i
    · rfl
    · cases hu
  subst e
  cases hu
  have : (⟨gp, 0, none⟩ : Addr).add (j * (Kd.int .u8).sz + 0) = ⟨gp, j, none⟩ := by
    rw [add_at]; show (⟨gp, 0 + (j * 1 + 0), none⟩ : Addr) = _; congr 1; omega
  rw [this]
  refine (blk_cell h j).trans ?_
  rw [List.getElem?_toArray, enc_get, hj]
  rfl
/-- a part is laid into a block of its own, and known there -/
theorem store_part2 {ops : Array Oper} {rest : List Oper} {o : Oper} {a : Act} {w : World} {Q : Exit → Act → World → Prop} (hgd : o.guard = none) (x y : Operand) (ho : o.op = .store 72 x y)
    {old cells : Array Value} (hx : a.eval x = .pointer (some ⟨w.heap.size, 0, none⟩)) (hy : a.eval y = .agg cells) (hs : cells.size = 16) (hold : old.size = 16) (h1 : cells.all (·.oneCell') = true)
    (h : ∀ w2, Below w.heap.size w w2 → w2.heap[w.heap.size]? = some (.cells cells 72 (0, 0)) → wpList Tryd.prog ops Q rest (a.put o.dst undef) w2) : wpList Tryd.prog ops Q (o :: rest) a (w.alloc (.cells old 72)) := by
  refine wpList_store_row hgd 72 x y ho w.heap.size cells hx hy 72 old (blk_new w _) (by rw [hs]; exact infoP) (by rw [hold, hs]) h1 (h _ ?_ ?_)
  · have hb := below_alloc (Below.refl w.heap.size w) (.cells old 72)
    exact ⟨hb.os, hb.tape, hb.output, by simp [World.setRow], fun k hk => (setRow_other _ _ k _ (by omega)).trans (hb.block k hk)⟩
  · exact setRow_heap _ _ _ _ _ _ (blk_new w _)
set_option maxHeartbeats 4000000 in
set_option maxRecDepth 100000 in
theorem crash_calls (h : SR W p g cap m s) (o : Ok s) {A : Option Addr} {c : Nat} (keep : List Bool) (hk : CBool W A keep.length keep) (hA : ∀ ad, A = some ad → 0 < keep.length → ad.block ≠ p ∧ ad.block ≠ g ∧ ad.block ≠ m) :
    Calls Tryd.prog 20 #[.pointer (some ⟨p, 0, none⟩), .slice A keep.length c] W fun e w' => e = .returned (.tuple #[]) ∧ SR w' p g cap m (s.crash keep) ∧ Fr W w' p g m := by
  have HO := Lib.hid o
  have HS := Lib.hid h
  have HL := Lib.hid (loose_calls h o)
  have HK := Lib.hid hk
  have HA := Lib.hid hA
  have HKL := Lib.hid (cbool_lt hk)
  have hkl : (keep.length : Int) ≤ 9223372036854775807 := by have := hk.2.1; omega
  obtain ⟨N, hNN⟩ : ∃ N, s.b.length = N := ⟨_, rfl⟩
  have hN : N ≤ 65536 := by have := o.bl; have := o.n2; omega
  have HNN := Lib.hid hNN
  clear h o hk hA hNN
  go_enter Tryd.func20, Tryd.ntmps20
  go_wp2_with (go_at_call 38; refine HL.out.mono ?_; rintro e w1 ⟨v, rfl, hv, hb⟩; have HV := Lib.hid (Kd.R_mono (Kd.R_bound hv) (fun k hk => hk.2.1)); obtain ⟨Av, cv, rfl, hcl, _⟩ := Kd.R_reads hv; have HB := Lib.hid hb; clear hv hb hcl)
  have HS1 := Lib.hid (HS.out.below HB.out)
  have HF1 := Lib.hid (Fr.of_below (p := p) (g := g) (m := m) HB.out)
  have hn : (looseI s.wet).length ≤ 4096 := by
    have := HO.out.n2
    have h2 : (loose s.wet).length ≤ s.wet.length := by
      unfold loose
      exact Nat.le_trans (List.length_filter_le _ _) (by rw [List.length_range]; exact Nat.le_refl _)
    unfold looseI
    rw [List.length_map]
    omega
  obtain ⟨n, hnn⟩ : ∃ n, (looseI s.wet).length = n := ⟨_, rfl⟩
  rw [hnn] at hn HV ⊢
  have HNL := Lib.hid hnn
  clear hnn
  go_wp2_with fail
  go_loopg [10] n (fun gg s10 wr => ∃ (i : Nat) (b : By), i ≤ n ∧ n - i ≤ gg ∧ s10 = .int .i64 i ∧ Hid (SR wr p g cap m { s with b := b }) ∧ Hid (Fr w1 wr p g m) ∧ Hid (b.length = s.b.length ∧ restore s.old keep ((loose s.wet).drop i) i b = restore s.old keep (loose s.wet) 0 s.b))
  case atStart => exact ⟨0, s.b, Nat.zero_le _, by omega, rfl, HS1.out, Fr.refl _ _ _ _, rfl, rfl⟩
  case round =>
    obtain ⟨i, b, hi, hg, rfl, HSr, HFr, HR⟩ := hrel
    have HF0 := Lib.hid (HF1.out.trans HFr.out)
    by_cases hlt : i < n
    · have hltz : decide ((i : Int) < (n : Int)) = true := decide_eq_true (by omega)
      obtain ⟨nn, hnn, hrd, hnw, hwt⟩ := looseI_get (wet := s.wet) (i := i) (by rw [HNL.out]; exact hlt)
      have HNN2 := Lib.hid hnn
      have HNW := Lib.hid hnw
      have hVr := Kd.R_step HV.out (fun k ho hk => HFr.out.block k hk (by have := HS.out.lt; omega) (by have := HS.out.lt; omega) (by have := HS.out.lt; omega))
      have hCv := rC hVr
      rw [HNL.out] at hCv
      obtain ⟨ad, ea, hx⟩ := Kd.at_int hCv (i : Int) (by omega) (by omega)
      rw [hrd, Int.toNat_natCast] at hx
      cases ea
      have hnn4 : nn ≤ 4096 := by have := HO.out.n2; omega
      by_cases hkeep : i < keep.length
      · have hkz : decide ((i : Int) ≥ (keep.length : Int)) = false := decide_eq_false (by omega)
        obtain ⟨ad2, ea2, hx2⟩ := (HK.out.keep (w' := wr) (fun ad e hp => HF0.out.block _ (HKL.out ad e hp) (HA.out ad e hp).1 (HA.out ad e hp).2.1 (HA.out ad e hp).2.2)).get i hkeep
        cases ea2
        cases hb : keep.getD i false with
        | true =>
          rw [hb] at hx2
          have HR2 := Lib.hid (restore_step _ _ _ _ _ _ _ HR.out.2 hnn)
          have HBT := Lib.hid hb
          clear hnn hrd hnw hwt hVr hCv hb
          go_wp2_with fail
          go_roundg (n - (i + 1))
          case measure => omega
          case rel => exact ⟨i + 1, b, by omega, by omega, by go_num, HSr, HFr, HR.out.1, by have := HR2.out; rw [HBT.out] at this; exact this⟩
        | false =>
          rw [hb] at hx2
          obtain ⟨nD, D, hm, _⟩ := HSr.out.map
          have hl := look_yes hm nn hnw hwt (by omega) false
          change _ = Result.ok (Value.agg (enc (sec s.old nn)).toArray) wr at hl
          have hsec : (sec s.old nn).length = 16 := sec_len _ _ (by have := HO.out.ol; omega)
          have HSEC := Lib.hid hsec
          obtain ⟨e1, e2⟩ := at_16 hsec
          obtain ⟨CS, hCS⟩ : ∃ CS, (enc (sec s.old nn)).toArray = CS := ⟨_, rfl⟩
          have HCS := Lib.hid hCS
          rw [hCS] at hl e1 e2
          have HE := Lib.hid (And.intro e1 e2)
          obtain ⟨_, h1, _, _, _⟩ := cells5 HSr.out.blk
          have HR2 := Lib.hid (restore_step _ _ _ _ _ _ _ HR.out.2 hnn)
          have HBT := Lib.hid (show keep.getD i false = false from by assumption)
          clear hnn hrd hnw hwt hVr hCv hm e1 e2 hCS hsec
          go_wp2_with (refine store_part2 rfl (.tmp 6) (.tmp 31) rfl (cells := CS) rfl rfl HE.out.1 rfl HE.out.2 ?_; intro w2 hb2 hg2; have HB2 := Lib.hid hb2; have HG2 := Lib.hid hg2; have HS2 := Lib.hid (HSr.out.below hb2); have HF2 := Lib.hid (HFr.out.below hb2); clear hb2 hg2)
          obtain ⟨p0, _, _, _, _⟩ := cells5 HS2.out.blk
          change w2.cell? ⟨p, 0, none⟩ = some (.slice (some ⟨g, 0, none⟩) b.length cap) at p0
          have hbN : b.length = N := HR.out.1.trans HNN.out
          rw [hbN] at p0
          have HBN := Lib.hid hbN
          have hcapN : N ≤ cap := by
            obtain ⟨ext, _, hx⟩ := HS2.out.row
            have hx : b.length + ext.length = cap := hx
            omega
          have hi16 : nn * 16 + 16 ≤ N := by have := HO.out.bl; have := HNN.out; have := HNW.out; omega
          have r0 : IntKind.i64.wrap ((nn : Int) * 16) = (nn : Int) * 16 := IntWalk.i64_in _ (by omega)
          have r1 : (nn : Int) * 16 ≤ (N : Int) := by omega
          have r2 : 0 ≤ (nn : Int) * 16 := by omega
          have r3 : ((nn : Int) * 16).toNat = nn * 16 := by omega
          have r4 : ¬ cap = nn * 16 := by omega
          have r5 : (N : Int) ≤ (cap : Int) := by omega
          have r6 : (nn : Int) * 16 ≤ (cap : Int) := by omega
          obtain ⟨gp, hgp⟩ : ∃ gp, wr.heap.size = gp := ⟨_, rfl⟩
          have HGE := Lib.hid (show wr.heap.size ≤ gp by omega)
          rw [hgp] at HG2 ⊢
          clear hl h1 hgp hbN
          go_still_tail 8, (by kernel_rfl)
          change wpList _ _ _ _ _ w2.drew
          clear p0
          have HS7 := Lib.hid (HS2.out.below (below_drew (Below.refl _ _)))
          have HF7 := Lib.hid (HF2.out.below (below_drew (Below.refl _ _)))
          have HG7 := Lib.hid (blk_below HG2.out (below_drew (Below.refl _ _)))
          generalize w2.drew = w7 at HS7 HF7 HG7 ⊢
          obtain ⟨ext, hrow, hext⟩ := HS7.out.row
          change w7.heap[g]? = some (.cells (enc b ++ ext).toArray 5 (0, 0)) at hrow
          change b.length + ext.length = cap at hext
          have HSRC := Lib.hid (part_CB (l := sec s.old nn) (by rw [HCS.out]; exact HG7.out) (by rw [HSEC.out]; omega))
          have HXT := Lib.hid hext
          have hEN : (enc b).length = b.length := by unfold enc; rw [List.length_map]
          have hspl : (enc b ++ ext).take (nn * 16) ++ (enc (sec s.old nn) ++ (enc b ++ ext).drop (nn * 16 + (sec s.old nn).length)) = enc (splice b (nn * 16) (sec s.old nn)) ++ ext := by
            have e : enc (splice b (nn * 16) (sec s.old nn)) = (enc b).take (nn * 16) ++ (enc (sec s.old nn) ++ (enc b).drop (nn * 16 + (sec s.old nn).length)) := by unfold splice enc; simp
            rw [e, List.take_append_of_le_length (by rw [hEN, HBN.out]; omega), List.drop_append_of_le_length (by rw [hEN, HBN.out, HSEC.out]; omega), List.append_assoc, List.append_assoc]
          refine copy_row rfl (.tmp 38) (.tmp 39) rfl (g := g) (off := nn * 16) (dLen := N - nn * 16) (dCap := cap - nn * 16) (sp := some ⟨gp, 0, none⟩) (sLen := 16) (sCap := 16) rfl rfl hrow (sec s.old nn) (by rw [HSEC.out]; show 16 = min 16 (N - nn * 16); omega) HSRC.out (by rw [HSEC.out]; show _ ≤ (enc b ++ ext).length; rw [List.length_append, hEN, HBN.out]; omega) (r := enc (splice b (nn * 16) (sec s.old nn)) ++ ext) (by rw [← hspl]) ?_
          intro w8 hg8 hbut
          have hne := HS7.out.ne
          have hlen : (splice b (nn * 16) (sec s.old nn)).length = b.length := splice_len _ _ _ (by rw [HSEC.out, HBN.out]; omega)
          have HS8 : Hid (SR w8 p g cap m { s with b := splice b (nn * 16) (sec s.old nn) }) := Lib.hid ⟨by show w8.heap[p]? = some (.cells #[.slice (some ⟨g, 0, none⟩) (splice b (nn * 16) (sec s.old nn)).length cap, _, _, _, _] _ _); rw [hlen]; exact (hbut.block p hne.1).trans HS7.out.blk, ⟨ext, hg8, by show (splice b (nn * 16) (sec s.old nn)).length + _ = _; rw [hlen]; exact HXT.out⟩, by
            obtain ⟨n2, D2, h1, h2⟩ := HS7.out.map
            exact ⟨n2, D2, h1.keep (hbut.block m (Ne.symm hne.2.2)), h2⟩, HS7.out.cap_⟩
          have HF8 := Lib.hid (show Fr w1 w8 p g m from ⟨by rw [hbut.size]; exact HF7.out.size, fun q h1 h2 h3 h4 => (hbut.block q h3).trans (HF7.out.block q h1 h2 h3 h4), hbut.os.trans HF7.out.os, hbut.tape.trans HF7.out.tape, hbut.output.trans HF7.out.output⟩)
          have HLN := Lib.hid (show (splice b (nn * 16) (sec s.old nn)).length = s.b.length from hlen.trans HR.out.1)
          clear hrow hext hspl hg8 hbut hlen hEN HSRC
          go_wp2_with fail
          go_roundg (n - (i + 1))
          case measure => omega
          case rel => exact ⟨i + 1, splice b (nn * 16) (sec s.old nn), by omega, by omega, by go_num, HS8, HF8, HLN.out, by have := HR2.out; rw [HBT.out] at this; exact this⟩
      · have hkz : decide ((i : Int) ≥ (keep.length : Int)) = true := decide_eq_true (by omega)
        have hb : keep.getD i false = false := by rw [List.getD_eq_getElem?_getD, List.getElem?_eq_none (by omega)]; rfl
        obtain ⟨nD, D, hm, _⟩ := HSr.out.map
        have hl := look_yes hm nn hnw hwt (by omega) false
        change _ = Result.ok (Value.agg (enc (sec s.old nn)).toArray) wr at hl
        have hsec : (sec s.old nn).length = 16 := sec_len _ _ (by have := HO.out.ol; omega)
        have HSEC := Lib.hid hsec
        obtain ⟨e1, e2⟩ := at_16 hsec
        obtain ⟨CS, hCS⟩ : ∃ CS, (enc (sec s.old nn)).toArray = CS := ⟨_, rfl⟩
        have HCS := Lib.hid hCS
        rw [hCS] at hl e1 e2
        have HE := Lib.hid (And.intro e1 e2)
        obtain ⟨_, h1, _, _, _⟩ := cells5 HSr.out.blk
        have HR2 := Lib.hid (restore_step _ _ _ _ _ _ _ HR.out.2 hnn)
        have HBT := Lib.hid (show keep.getD i false = false from by assumption)
        clear hnn hrd hnw hwt hVr hCv hm e1 e2 hCS hsec
        go_wp2_with (refine store_part2 rfl (.tmp 6) (.tmp 31) rfl (cells := CS) rfl rfl HE.out.1 rfl HE.out.2 ?_; intro w2 hb2 hg2; have HB2 := Lib.hid hb2; have HG2 := Lib.hid hg2; have HS2 := Lib.hid (HSr.out.below hb2); have HF2 := Lib.hid (HFr.out.below hb2); clear hb2 hg2)
        obtain ⟨p0, _, _, _, _⟩ := cells5 HS2.out.blk
        change w2.cell? ⟨p, 0, none⟩ = some (.slice (some ⟨g, 0, none⟩) b.length cap) at p0
        have hbN : b.length = N := HR.out.1.trans HNN.out
        rw [hbN] at p0
        have HBN := Lib.hid hbN
        have hcapN : N ≤ cap := by
          obtain ⟨ext, _, hx⟩ := HS2.out.row
          have hx : b.length + ext.length = cap := hx
          omega
        have hi16 : nn * 16 + 16 ≤ N := by have := HO.out.bl; have := HNN.out; have := HNW.out; omega
        have r0 : IntKind.i64.wrap ((nn : Int) * 16) = (nn : Int) * 16 := IntWalk.i64_in _ (by omega)
        have r1 : (nn : Int) * 16 ≤ (N : Int) := by omega
        have r2 : 0 ≤ (nn : Int) * 16 := by omega
        have r3 : ((nn : Int) * 16).toNat = nn * 16 := by omega
        have r4 : ¬ cap = nn * 16 := by omega
        have r5 : (N : Int) ≤ (cap : Int) := by omega
        have r6 : (nn : Int) * 16 ≤ (cap : Int) := by omega
        obtain ⟨gp, hgp⟩ : ∃ gp, wr.heap.size = gp := ⟨_, rfl⟩
        have HGE := Lib.hid (show wr.heap.size ≤ gp by omega)
        rw [hgp] at HG2 ⊢
        clear hl h1 hgp hbN
        go_still_tail 8, (by kernel_rfl)
        change wpList _ _ _ _ _ w2.drew
        clear p0
        have HS7 := Lib.hid (HS2.out.below (below_drew (Below.refl _ _)))
        have HF7 := Lib.hid (HF2.out.below (below_drew (Below.refl _ _)))
        have HG7 := Lib.hid (blk_below HG2.out (below_drew (Below.refl _ _)))
        generalize w2.drew = w7 at HS7 HF7 HG7 ⊢
        obtain ⟨ext, hrow, hext⟩ := HS7.out.row
        change w7.heap[g]? = some (.cells (enc b ++ ext).toArray 5 (0, 0)) at hrow
        change b.length + ext.length = cap at hext
        have HSRC := Lib.hid (part_CB (l := sec s.old nn) (by rw [HCS.out]; exact HG7.out) (by rw [HSEC.out]; omega))
        have HXT := Lib.hid hext
        have hEN : (enc b).length = b.length := by unfold enc; rw [List.length_map]
        have hspl : (enc b ++ ext).take (nn * 16) ++ (enc (sec s.old nn) ++ (enc b ++ ext).drop (nn * 16 + (sec s.old nn).length)) = enc (splice b (nn * 16) (sec s.old nn)) ++ ext := by
          have e : enc (splice b (nn * 16) (sec s.old nn)) = (enc b).take (nn * 16) ++ (enc (sec s.old nn) ++ (enc b).drop (nn * 16 + (sec s.old nn).length)) := by unfold splice enc; simp
          rw [e, List.take_append_of_le_length (by rw [hEN, HBN.out]; omega), List.drop_append_of_le_length (by rw [hEN, HBN.out, HSEC.out]; omega), List.append_assoc, List.append_assoc]
        refine copy_row rfl (.tmp 38) (.tmp 39) rfl (g := g) (off := nn * 16) (dLen := N - nn * 16) (dCap := cap - nn * 16) (sp := some ⟨gp, 0, none⟩) (sLen := 16) (sCap := 16) rfl rfl hrow (sec s.old nn) (by rw [HSEC.out]; show 16 = min 16 (N - nn * 16); omega) HSRC.out (by rw [HSEC.out]; show _ ≤ (enc b ++ ext).length; rw [List.length_append, hEN, HBN.out]; omega) (r := enc (splice b (nn * 16) (sec s.old nn)) ++ ext) (by rw [← hspl]) ?_
        intro w8 hg8 hbut
        have hne := HS7.out.ne
        have hlen : (splice b (nn * 16) (sec s.old nn)).length = b.length := splice_len _ _ _ (by rw [HSEC.out, HBN.out]; omega)
        have HS8 : Hid (SR w8 p g cap m { s with b := splice b (nn * 16) (sec s.old nn) }) := Lib.hid ⟨by show w8.heap[p]? = some (.cells #[.slice (some ⟨g, 0, none⟩) (splice b (nn * 16) (sec s.old nn)).length cap, _, _, _, _] _ _); rw [hlen]; exact (hbut.block p hne.1).trans HS7.out.blk, ⟨ext, hg8, by show (splice b (nn * 16) (sec s.old nn)).length + _ = _; rw [hlen]; exact HXT.out⟩, by
          obtain ⟨n2, D2, h1, h2⟩ := HS7.out.map
          exact ⟨n2, D2, h1.keep (hbut.block m (Ne.symm hne.2.2)), h2⟩, HS7.out.cap_⟩
        have HF8 := Lib.hid (show Fr w1 w8 p g m from ⟨by rw [hbut.size]; exact HF7.out.size, fun q h1 h2 h3 h4 => (hbut.block q h3).trans (HF7.out.block q h1 h2 h3 h4), hbut.os.trans HF7.out.os, hbut.tape.trans HF7.out.tape, hbut.output.trans HF7.out.output⟩)
        have HLN := Lib.hid (show (splice b (nn * 16) (sec s.old nn)).length = s.b.length from hlen.trans HR.out.1)
        clear hrow hext hspl hg8 hbut hlen hEN HSRC
        go_wp2_with fail
        go_roundg (n - (i + 1))
        case measure => omega
        case rel => exact ⟨i + 1, splice b (nn * 16) (sec s.old nn), by omega, by omega, by go_num, HS8, HF8, HLN.out, by have := HR2.out; rw [HBT.out] at this; exact this⟩
    · have hltz : decide ((i : Int) < (n : Int)) = false := decide_eq_false (by omega)
      have hE : b = restore s.old keep (loose s.wet) 0 s.b := restore_done _ _ _ _ _ _ HR.out.2 (by have := HNL.out; unfold looseI at this; rw [List.length_map] at this; omega)
      obtain ⟨W', hcl, ⟨f3, f4, g3, g4⟩, hs2, hf2⟩ := crash_end HSr.out b rfl HSr.out
      have HE := Lib.hid (And.intro hs2 hf2)
      have HEB := Lib.hid hE
      obtain ⟨_, h1, _, h3, h4⟩ := cells5 HSr.out.blk
      clear hs2 hf2 hE
      go_wp2_with fail
      go_end0
      refine ⟨rfl, ?_, HF0.out.trans HE.out.2⟩
      have := HE.out.1
      rw [HEB.out] at this
      exact this
end
end Go.Proofs.YtnobhjpobnmiaaaDoor.Sk
