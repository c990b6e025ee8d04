/- The walk of ViewsStay. -/
import Derived.Test.YtndnjmgmdkkifaaVw36
import Derived.Test.YtndnjmgmdkkifaaVw39
namespace Go.Proofs.Ytndnjmgmdkkifaa.Vw1
open Go Go.RowKit Go.Maps Go.Proofs Go.Proofs.Ytndnjmgmdkkifaa.New Go.Proofs.Ytndnjmgmdkkifaa.Vw Go.Proofs.Ytndnjmgmdkkifaa.Vw0 Go.Proofs.Ytndnjmgmdkkifaa.Q Go.Proofs.YtndnjmgmdkkifaaW.PrintWords Go.Proofs.YtndnjmgmdkkifaaW.PrintLast Go.Proofs.YtndnjmgmdkkifaaW.PrintMore
set_option linter.unusedVariables false
set_option linter.unusedSimpArgs false

set_option maxHeartbeats 4000000 in
set_option maxRecDepth 100000 in
theorem begins2 {W : World} (A1 : Option Addr) (c1 : Nat) (a : Log) (A2 : Option Addr) (c2 : Nat) (b : Log) (h1 : Kd.C Kd.string W A1 a.length a) (h2 : Kd.C Kd.string W A2 b.length b) (hc2 : b.length ≤ c2) (ha : a.length ≤ 1000000) (hb : b.length ≤ 1000000) :
    Calls Try.prog 31 #[.slice A1 a.length c1, .slice A2 b.length c2] W fun e w' => e = .returned (.bool (begB a b)) ∧ ∃ m, w' = W.drewN m := by
  have HE := Lib.hid (show begB a b = (decide (a.length ≤ b.length) && eqL a (b.take a.length)) from rfl)
  by_cases c : a.length ≤ b.length
  · have hs := same_calls A1 c1 a A2 c2 (b.take a.length) h1 (C_take' h2 a.length c) ha (by rw [List.length_take]; omega)
    rw [show (b.take a.length).length = a.length by rw [List.length_take]; omega] at hs
    have HS := Lib.hid hs
    have HE2 := Lib.hid (HE.out.trans (by rw [decide_eq_true c, Bool.true_and]))
    have hz : decide ((a.length : Int) ≤ (b.length : Int)) = true := decide_eq_true (by omega)
    have hcz : a.length ≤ c2 := by omega
    clear h1 h2 hs HE
    go_enter Try.func31, Try.ntmps31
    go_wp2_with (go_at_call 33; refine HS.out.mono ?_; rintro e w2 ⟨rfl, ⟨m, rfl⟩⟩)
    go_ret
    exact ⟨by rw [HE2.out]; rfl, m, rfl⟩
  · have HE2 := Lib.hid (HE.out.trans (by rw [decide_eq_false c, Bool.false_and]))
    have hz : decide ((a.length : Int) ≤ (b.length : Int)) = false := decide_eq_false (by omega)
    clear h1 h2 HE
    go_enter Try.func31, Try.ntmps31
    go_wp2_with fail
    go_ret
    exact ⟨by rw [HE2.out]; rfl, 0, rfl⟩
theorem Rd.take {W : World} {A : Option Addr} {c : Nat} {l : Log} (h : Rd W (.slice A l.length c) l) (m : Nat) (hm : m ≤ l.length) : Rd W (.slice A (l.take m).length c) (l.take m) := by
  obtain ⟨A2, c2, e, h1, h2, h3⟩ := h
  cases e
  have hl : (l.take m).length = m := by rw [List.length_take]; omega
  exact ⟨A, c, rfl, by omega, C_take' h2 m hm, fun ad hA hp => h3 ad hA (by omega)⟩
theorem Rd.cap {W : World} {A : Option Addr} {n c : Nat} {l : Log} (h : Rd W (.slice A n c) l) : l.length ≤ c := by
  obtain ⟨A2, c2, e, h1, _⟩ := h
  cases e
  exact h1
theorem own_len {n : Nat} {t : St.Team} {ch : Log} (h : St.InvT n t ch) {i : Nat} (hi : i < n) : (t.1 i).log.length ≤ 96 := rightL_len (h.rep hi).1.log
/-- what stands between the moves -/
structure SI (B : Nat) (w : World) (tb n : Nat) (p : Nat → Nat) (r : Nat → V) (way : List St.Fly) (A : Option Addr) (c : Nat) (ch : Log) : Prop where
  tm : TM B w tb n p r (fun i => svOf (r i)) way
  inv : St.InvT n (r, way) ch
  rd : Rd w (.slice A ch.length c) ch
  len : ch.length ≤ 96
section
variable {B : Nat} {w w' : World} {tb n : Nat} {p : Nat → Nat} {r : Nat → V} {way : List St.Fly} {A : Option Addr} {c : Nat} {ch : Log}
theorem SI.below (h : SI B w tb n p r way A c ch) (hb : Below w.heap.size w w') : SI B w' tb n p r way A c ch := ⟨h.tm.below hb, h.inv, h.rd.below hb, h.len⟩
theorem SI.size (h : SI B w tb n p r way A c ch) (hn : 1 ≤ n) : B ≤ w.heap.size := parts_size h.tm.parts hn
end
set_option maxHeartbeats 8000000 in
set_option maxRecDepth 100000 in
theorem stay_walk {W : World} (a0 : Int) (A1 : Option Addr) (c1 : Nat) (ms : List S55) (h1 : Kd.C k55 W A1 ms.length ms) (b0 : 0 ≤ a0) (b0' : a0 ≤ 255) (hl1 : ms.length ≤ 100000000000000) (hz1 : ∀ x ∈ ms, x.f4.size ≤ 140737488355328) :
    Calls Try.prog 4 #[.int .u8 a0, .slice A1 ms.length c1] W fun e w' => e = .returned (.bool true) ∧ Below W.heap.size W w' := by
  have HHD := Lib.hid (fun w => head_calls w)
  have HST := Lib.hid (fun w (n : Nat) (h1 : 1 ≤ n) (h5 : n ≤ 5) => start_calls w n h1 h5)
  have HGR := Lib.hid (fun w (hw : Below W.heap.size W w) => greatM_calls A1 c1 ms (Kd.C_below h1 hw) hl1)
  have H1 := Lib.hid h1
  have HZ1 := Lib.hid hz1
  clear h1 hz1
  have hr0 : 0 ≤ a0 % 5 := by omega
  have hr1 : a0 % 5 ≤ 4 := by omega
  go_enter Try.func4, Try.ntmps4
  go_wp2_with fail
  refine (HHD.out _).mono ?_
  rintro e w1 ⟨rfl, hb1⟩
  have HBW := Lib.hid hb1
  clear hb1 HHD
  go_wp2_with fail
  obtain ⟨n, hn⟩ : ∃ n : Nat, 1 + a0 % 5 = (n : Int) := ⟨(1 + a0 % 5).toNat, by omega⟩
  rw [hn]
  have hn1 : 1 ≤ n := by omega
  have hn5 : n ≤ 5 := by omega
  clear hn hr0 hr1 b0 b0'
  refine (HST.out _ n hn1 hn5).mono ?_
  rintro e w2 ⟨tb, p, r, rfl, hT, hr, hb2⟩
  have HI0 := Lib.hid (show SI w1.heap.size w2 tb n p r [] none 0 [] from ⟨hT, St.inv_start n hn1 hn5 r hr, rd_nil _, by simp⟩)
  have HB2 := Lib.hid (below_step HBW.out hb2)
  obtain ⟨B, hB⟩ : ∃ B, w1.heap.size = B := ⟨_, rfl⟩
  have HBZ := Lib.hid (show W.heap.size ≤ B by rw [← hB]; exact HBW.out.size)
  rw [hB] at HI0
  clear hT hr hb2 hB HST
  cases hg : greatM ms with
  | true =>
    rw [hg] at HGR
    go_wp2_with (go_at_call 29; refine (HGR.out _ HB2.out).mono ?_; rintro e w3 ⟨rfl, rfl⟩)
    go_ret
    exact ⟨rfl, HB2.out⟩
  | false =>
    rw [hg] at HGR
    have HNG := Lib.hid (greatM_no hg)
    clear hg
    go_wp2_with (go_at_call 29; refine (HGR.out _ HB2.out).mono ?_; rintro e w3 ⟨rfl, rfl⟩)
    clear HGR HBW
    go_loopg [9, 10] ms.length (fun gg s9 s10 wr => ∃ (k : Nat) (p : Nat → Nat) (r : Nat → V) (way : List St.Fly) (Ac : Option Addr) (cc : Nat) (ch : Log), k ≤ ms.length ∧ ms.length - k ≤ gg ∧ s10 = .int .i64 (k : Int) ∧ s9 = .slice Ac ch.length cc ∧ Hid (SI B wr tb n p r way Ac cc ch) ∧ Hid (Below W.heap.size W wr))
    case atStart => exact ⟨0, p, r, [], none, 0, [], Nat.zero_le _, by omega, rfl, rfl, HI0, HB2⟩
    case round =>
      obtain ⟨k, p, r, way, Ac, cc, ch, hk, hgg, rfl, rfl, HI, HB⟩ := hrel
      clear HI0 HB2
      by_cases hlt : k < ms.length
      · have hltz : decide ((k : Int) < (ms.length : Int)) = true := decide_eq_true (by omega)
        have hltq : (k : Int) < (ms.length : Int) := by omega
        obtain ⟨ad, ea, x0, x1, x2, x3, x4, x5⟩ := mv_at H1.out HB.out k hlt
        have hmem := List.getElem_mem hlt
        obtain ⟨x, hxx⟩ : ∃ x, ms[k] = x := ⟨_, rfl⟩
        rw [hxx] at x0 x1 x2 x3 x4 x5 hmem
        have HX4 := Lib.hid (HZ1.out x hmem)
        clear hxx hmem
        cases ea
        by_cases hw : x.f1 < 0
        · have hwz : decide (x.f1 < 0) = true := decide_eq_true hw
          go_wp2_with fail
          go_roundg (ms.length - (k + 1))
          case measure => omega
          case rel => exact ⟨k + 1, p, r, way, Ac, cc, ch, by omega, by omega, by go_num, rfl, Lib.hid (HI.out.below (below_alloc (Below.refl _ _) _)), Lib.hid (below_alloc HB.out _)⟩
        · have hwz : decide (x.f1 < 0) = false := decide_eq_false hw
          by_cases hw2 : x.f1 ≥ (n : Int)
          · have hwz2 : decide (x.f1 ≥ (n : Int)) = true := decide_eq_true hw2
            go_wp2_with fail
            go_roundg (ms.length - (k + 1))
            case measure => omega
            case rel => exact ⟨k + 1, p, r, way, Ac, cc, ch, by omega, by omega, by go_num, rfl, Lib.hid (HI.out.below (below_alloc (Below.refl _ _) _)), Lib.hid (below_alloc HB.out _)⟩
          · have hwz2 : decide (x.f1 ≥ (n : Int)) = false := decide_eq_false hw2
            have HI1 := Lib.hid (HI.out.below (below_alloc (Below.refl _ _) (Obj.cells #[.int .i64 x.f0, .int .i64 x.f1, .int .i64 x.f2, .int .i64 x.f3, .string x.f4, .bool x.f5] 55)))
            have HB1 := Lib.hid (below_alloc HB.out (Obj.cells #[.int .i64 x.f0, .int .i64 x.f1, .int .i64 x.f2, .int .i64 x.f3, .string x.f4, .bool x.f5] 55))
            have HSC := Lib.hid (step_calls HI1.out.tm x (by omega) (by omega) hn5 HX4.out (fun i hi => (HI1.out.inv.rep hi).1) (fun i hi => ⟨(HI1.out.inv.rep hi).2.1, (HI1.out.inv.rep hi).2.2.1⟩) ⟨HI1.out.inv.way, fun f hf => by
              obtain ⟨g, _, h2, _⟩ := HI1.out.inv.ghost
              exact ⟨(h2 f hf).1, (h2 f hf).2.1⟩⟩)
            have HIM := Lib.hid (St.inv_move HI1.out.inv (mvOf x) (by show 0 ≤ x.f1; omega) (by show x.f1 < n; omega))
            go_wp2_with fail
            refine HSC.out.mono ?_
            rintro e w4 ⟨rfl, ⟨p', hT⟩, hb4, hr4⟩
            have HI4 := Lib.hid (show SI B w4 tb n p' (St.moveT (mvOf x) (r, way)).1 (St.moveT (mvOf x) (r, way)).2 Ac cc ch from ⟨hT, HIM.out, HI1.out.rd.rows9 hr4, HI1.out.len⟩)
            have HB4 := Lib.hid (HB1.out.trans (hb4.mono HBZ.out))
            generalize (St.moveT (mvOf x) (r, way)).1 = r4 at HI4
            generalize (St.moveT (mvOf x) (r, way)).2 = way4 at HI4
            clear hT hb4 hr4 HIM HSC HI1 HB1 HI HB x0 x1 x2 x3 x4 x5 HX4 hw hwz hw2 hwz2
            go_wp2_with fail
            go_loopg [9, 12] n (fun gg s9 s12 wr => ∃ (i : Nat) (Ac : Option Addr) (cc : Nat) (ch : Log), i ≤ n ∧ n - i ≤ gg ∧ s12 = .int .i64 (i : Int) ∧ s9 = .slice Ac ch.length cc ∧ Hid (SI B wr tb n p' r4 way4 Ac cc ch) ∧ Hid (Below W.heap.size W wr))
            case atStart => exact ⟨0, Ac, cc, ch, Nat.zero_le _, by omega, rfl, rfl, HI4, HB4⟩
            case round =>
              obtain ⟨i, Ac, cc, ch, hi, hgg2, rfl, rfl, HI, HB⟩ := hrel
              clear HI4 HB4
              by_cases hin : i < n
              · have hiz : decide ((i : Int) < (n : Int)) = true := decide_eq_true (by omega)
                have hiq : (i : Int) < (n : Int) := by omega
                have hi0 : 0 ≤ (i : Int) := by omega
                obtain ⟨gl, cl, csl, gs, cs, css, sw, rows, X⟩ := HI.out.tm.tx
                obtain ⟨b0, _, _⟩ := cells3 X.blk
                have z0 := (blk_cell X.lblk i).trans (X.lat i hin)
                have HX := Lib.hid X
                clear X
                have HPS := Lib.hid (pt_saved (HI.out.tm.parts.pt hin))
                go_wp2_with fail
                refine HPS.out.mono ?_
                rintro e w5 ⟨A5, c5, rfl, hr5, hb5⟩
                have HI5 := Lib.hid (HI.out.below hb5)
                have HB5 := Lib.hid (HB.out.trans (hb5.mono (Nat.le_trans HBZ.out (HI.out.size hn1))))
                have HR5 := Lib.hid hr5
                have HX5 := Lib.hid (HX.out.below hb5)
                obtain ⟨c0, _, _⟩ := cells3 HX5.out.blk
                have z5 := (blk_cell HX5.out.lblk i).trans (HX5.out.lat i hin)
                have q0 := fun o : Obj => cell_keep0 (below_alloc (Below.refl _ w5) o) c0
                have q1 := fun o : Obj => cell_keep0 (below_alloc (Below.refl _ w5) o) z5
                clear b0 z0 c0 z5 hr5 hb5 HX HPS
                go_wp2_with fail
                have HI6 := Lib.hid (HI5.out.below (below_alloc (Below.refl _ _) (Obj.cells #[.int .i64 (r4 i).view, .int .i64 (r4 i).normal, .slice A5 (r4 i).log.length c5] 24)))
                have HB6 := Lib.hid (below_alloc HB5.out (Obj.cells #[.int .i64 (r4 i).view, .int .i64 (r4 i).normal, .slice A5 (r4 i).log.length c5] 24))
                have HR6 := Lib.hid (HR5.out.below (below_alloc (Below.refl _ _) (Obj.cells #[.int .i64 (r4 i).view, .int .i64 (r4 i).normal, .slice A5 (r4 i).log.length c5] 24)))
                have HG6 := Lib.hid (blk_new w5 (Obj.cells #[.int .i64 (r4 i).view, .int .i64 (r4 i).normal, .slice A5 (r4 i).log.length c5] 24))
                have hcap := HR5.out.cap
                have hrep := HI6.out.inv.rep hin
                have hlen := own_len HI6.out.inv hin
                have hown := St.own_step HI6.out.inv hin
                unfold St.own at hown
                dsimp only at hown hrep hlen
                obtain ⟨st, hst⟩ : ∃ st : Nat, (r4 i).stays = (st : Int) := ⟨(r4 i).stays.toNat, by omega⟩
                rw [hst, Int.toNat_natCast] at hown
                have hsl : st ≤ (r4 i).log.length := by have := hrep.2.2.2.2; rw [hst] at this; omega
                refine (pt_stays (HI6.out.tm.parts.pt hin)).mono ?_
                rintro e w7 ⟨he, rfl⟩
                rw [hst] at he
                subst he
                obtain ⟨g6, hg6⟩ : ∃ g6, w5.heap.size = g6 := ⟨_, rfl⟩
                rw [hg6] at HG6 ⊢
                generalize w5.alloc (Obj.cells #[.int .i64 (r4 i).view, .int .i64 (r4 i).normal, .slice A5 (r4 i).log.length c5] 24) = W6 at HI6 HB6 HR6 HG6 ⊢
                obtain ⟨_, _, y2⟩ := cells3 HG6.out
                obtain ⟨lg, hlg⟩ : ∃ lg, (r4 i).log = lg := ⟨_, rfl⟩
                rw [hlg] at hown hsl y2 HR6 hcap hlen
                clear HI HB HI5 HB5 HR5 HX5 q0 q1 hg6 HG6 hrep hst hlg
                have hol : (lg.take st).length = st := by rw [List.length_take]; omega
                have HRO := Lib.hid (HR6.out.take st hsl)
                have hbg := begins2 Ac cc ch A5 c5 (lg.take st) HI6.out.rd.C1.2 HRO.out.C1.2 (by omega) (by have := HI6.out.len; omega) (by omega)
                have hbk := fun m => begins2 A5 c5 (lg.take st) Ac cc ch (Kd.C_below HRO.out.C1.2 (pw_below_drewN (Below.refl _ _) m)) (Kd.C_below HI6.out.rd.C1.2 (pw_below_drewN (Below.refl W6.heap.size W6) m)) HI6.out.rd.cap (by omega) (by have := HI6.out.len; omega)
                rw [hol] at hbg
                rw [hol] at hbk
                have hs0 : decide ((st : Int) < 0) = false := decide_eq_false (by omega)
                have hs1 : decide ((st : Int) > (lg.length : Int)) = false := decide_eq_false (by omega)
                have hs2 : 0 ≤ (st : Int) := by omega
                have hs3 : (st : Int) ≤ (c5 : Int) := by omega
                have HOL := Lib.hid hol
                have HLN := Lib.hid hlen
                have HBK := Lib.hid hbk
                have HOW := Lib.hid hown
                clear hol hlen hbk hown HR6
                cases hc : begB ch (lg.take st) with
                | true =>
                  rw [hc] at hbg
                  have HBG := Lib.hid hbg
                  have HIN := Lib.hid (show St.InvT n (r4, way4) (lg.take st) from by
                    rcases HOW.out with ⟨_, k⟩ | k
                    · exact k
                    · have e := List.IsPrefix.eq_of_length_le k ((begB_iff _ _).1 hc).length_le
                      rw [e]; exact HI6.out.inv)
                  clear hbg hc
                  go_wp2_with (go_at_call 31; refine HBG.out.mono ?_; rintro e w8 ⟨rfl, ⟨m, rfl⟩⟩)
                  go_roundg (n - (i + 1))
                  case measure => omega
                  case rel =>
                    have h8 := HI6.out.below (pw_below_drewN (Below.refl W6.heap.size W6) m)
                    exact ⟨i + 1, A5, c5, lg.take st, by omega, by omega, by go_num, by rw [HOL.out], Lib.hid ⟨h8.tm, HIN.out, HRO.out.below (pw_below_drewN (Below.refl _ _) m), by rw [HOL.out]; have := HLN.out; omega⟩, Lib.hid (pw_below_drewN HB6.out m)⟩
                | false =>
                  rw [hc] at hbg
                  have HBG := Lib.hid hbg
                  have hc2 : begB (lg.take st) ch = true := by
                    rcases HOW.out with ⟨k, _⟩ | k
                    · rw [(begB_iff _ _).2 k] at hc; cases hc
                    · exact (begB_iff _ _).2 k
                  rw [hc2] at HBK
                  clear hbg hc hc2
                  go_wp2_with (go_at_call 31; first | (with_reducible refine HBG.out.mono ?_; rintro e w8 ⟨rfl, ⟨m, rfl⟩⟩) | (with_reducible refine (HBK.out _).mono ?_; rintro e w9 ⟨rfl, ⟨m2, rfl⟩⟩))
                  go_roundg (n - (i + 1))
                  case measure => omega
                  case rel =>
                    exact ⟨i + 1, Ac, cc, ch, by omega, by omega, by go_num, rfl, Lib.hid (HI6.out.below (pw_below_drewN (Below.refl W6.heap.size W6) (m + m2))), Lib.hid (pw_below_drewN HB6.out (m + m2))⟩
              · have hiz : decide ((i : Int) < (n : Int)) = false := decide_eq_false (by omega)
                go_wp2_with fail
                go_roundg (ms.length - (k + 1))
                case measure => omega
                case rel => exact ⟨k + 1, p', r4, way4, Ac, cc, ch, by omega, by omega, by go_num, rfl, HI, HB⟩
      · have hltz : decide ((k : Int) < (ms.length : Int)) = false := decide_eq_false (by omega)
        go_wp2_with fail
        go_ret
        exact ⟨rfl, HB.out⟩
end Go.Proofs.Ytndnjmgmdkkifaa.Vw1
