/- The walk of ViewsFew. -/
import Derived.Test.YtndnjmgmdkkifaaVw24
import Derived.Outline
import Derived.Deep.Cut
import Derived.Deep.CutRange
import Derived.Deep.CutBlock
namespace Go.Proofs.Ytndnjmgmdkkifaa.Vw1
open Go Go.RowKit Go.Maps Go.Proofs Go.Proofs.Ytndnjmgmdkkifaa.New Go.Proofs.Ytndnjmgmdkkifaa.Vw Go.Proofs.Ytndnjmgmdkkifaa.Vw0 Go.Proofs.Ytndnjmgmdkkifaa.Q Go.Proofs.YtndnjmgmdkkifaaW.PrintWords Go.Proofs.YtndnjmgmdkkifaaW.PrintLast Go.Proofs.YtndnjmgmdkkifaaW.PrintMore
set_option linter.unusedVariables false
set_option linter.unusedSimpArgs false

theorem add_ne' (a : Addr) (j : Nat) (h : j ≠ 0) : a.add j = ⟨a.block, a.off + j, none⟩ := by unfold Addr.add; rw [if_neg h]
theorem make1 (w : World) : (Instr.makeSlice 40 (.int .i64 1) (.int .i64 1)).run Try.prog w = .ok (.slice (some ⟨w.heap.size, 0, none⟩) 1 1) (w.alloc (.cells #[.int .i64 0] 3)) := by kernel_rfl
theorem make2 (w : World) : (Instr.makeSlice 40 (.int .i64 2) (.int .i64 2)).run Try.prog w = .ok (.slice (some ⟨w.heap.size, 0, none⟩) 2 2) (w.alloc (.cells #[.int .i64 0, .int .i64 0] 3)) := by kernel_rfl
theorem make3 (w : World) : (Instr.makeSlice 40 (.int .i64 3) (.int .i64 3)).run Try.prog w = .ok (.slice (some ⟨w.heap.size, 0, none⟩) 3 3) (w.alloc (.cells #[.int .i64 0, .int .i64 0, .int .i64 0] 3)) := by kernel_rfl
theorem make4 (w : World) : (Instr.makeSlice 40 (.int .i64 4) (.int .i64 4)).run Try.prog w = .ok (.slice (some ⟨w.heap.size, 0, none⟩) 4 4) (w.alloc (.cells #[.int .i64 0, .int .i64 0, .int .i64 0, .int .i64 0] 3)) := by kernel_rfl
theorem make5 (w : World) : (Instr.makeSlice 40 (.int .i64 5) (.int .i64 5)).run Try.prog w = .ok (.slice (some ⟨w.heap.size, 0, none⟩) 5 5) (w.alloc (.cells #[.int .i64 0, .int .i64 0, .int .i64 0, .int .i64 0, .int .i64 0] 3)) := by kernel_rfl
theorem make_run (n : Nat) (h1 : 1 ≤ n) (h2 : n ≤ 5) (w : World) : (Instr.makeSlice 40 (.int .i64 (n : Int)) (.int .i64 (n : Int))).run Try.prog w = .ok (.slice (some ⟨w.heap.size, 0, none⟩) n n) (w.alloc (.cells (Array.replicate n (.int .i64 0)) 3)) := by
  have : n = 1 ∨ n = 2 ∨ n = 3 ∨ n = 4 ∨ n = 5 := by omega
  rcases this with rfl | rfl | rfl | rfl | rfl
  · exact make1 w
  · exact make2 w
  · exact make3 w
  · exact make4 w
  · exact make5 w
theorem ints_cell {w : World} {g : Nat} {a : List Int} (h : w.heap[g]? = some (.cells (a.map (Value.int .i64)).toArray 3 (0, 0))) (i : Nat) (hi : i < a.length) : w.cell? ⟨g, i, none⟩ = some (.int .i64 a[i]) := by
  rw [blk_cell h i]
  simp [hi]
theorem ints_put {w : World} {g : Nat} {a : List Int} (h : w.heap[g]? = some (.cells (a.map (Value.int .i64)).toArray 3 (0, 0))) (i : Nat) (v : Int) : (w.setCell ⟨g, i, none⟩ (.int .i64 v)).heap[g]? = some (.cells ((a.set i v).map (Value.int .i64)).toArray 3 (0, 0)) := by
  rw [blk_set h i]
  simp
/-- a store into another row -/
theorem Pt.set6 {B p : Nat} {w : World} {s : V} {g : Nat} {cs : Array Value} (h : Pt B w p s) (hq : w.heap[g]? = some (.cells cs 3 (0, 0))) (j : Nat) (u : Value) : Pt B (w.setCell ⟨g, j, none⟩ u) p s := by
  obtain ⟨o, b, am, cm, hv, ha, hc⟩ := h
  have n1 : p ≠ g := fun e => by
    subst e
    obtain ⟨A, c, hb, _⟩ := hv.blk
    rw [show w.heap[p]? = _ from hb] at hq; cases hq
  have n2 : am ≠ g := fun e => by
    subst e
    obtain ⟨_, _, h2, _⟩ := hv.ack
    obtain ⟨es, cl, h⟩ := own_kind h2.own
    rw [h] at hq; cases hq
  have n3 : cm ≠ g := fun e => by
    subst e
    obtain ⟨_, _, h2, _⟩ := hv.chg
    obtain ⟨es, cl, h⟩ := own_kind h2.own
    rw [h] at hq; cases hq
  exact ⟨o, b, am, cm, hv.keep (Below.heap_setCell w ⟨g, j, none⟩ u p n1) (Below.heap_setCell w ⟨g, j, none⟩ u am n2) (Below.heap_setCell w ⟨g, j, none⟩ u cm n3) (fun hr => hr.set hq (by decide) j u), ha, hc⟩
set_option maxHeartbeats 8000000 in
set_option maxRecDepth 100000 in
theorem few_walk {W : World} (a0 : Int) (A1 : Option Addr) (c1 : Nat) (acks : List Int) (a2 : Int) (h1 : Kd.C (Kd.int .u8) W A1 acks.length acks) (b0 : 0 ≤ a0) (b0' : a0 ≤ 255) (b2 : 0 ≤ a2) (b2' : a2 ≤ 255) (hl1 : acks.length ≤ 1000000000000000) (hb1 : ∀ y ∈ acks, 0 ≤ y ∧ y ≤ 255) :
    Calls Try.prog 9 #[.int .u8 a0, .slice A1 acks.length c1, .int .u8 a2] W fun e w' => e = .returned (.bool true) ∧ Below W.heap.size W w' := by
  have HHD := Lib.hid (fun w => head_calls w)
  have H1 := Lib.hid h1
  have HB1 := Lib.hid hb1
  clear h1 hb1
  have hr0 : 0 ≤ a0 % 5 := by omega
  have hr1 : a0 % 5 ≤ 4 := by omega
  have hr2 : 0 ≤ a2 % 20 := by omega
  have hr3 : a2 % 20 ≤ 19 := by omega
  go_enter Try.func9, Try.ntmps9
  go_wp2_with fail
  refine (HHD.out _).mono ?_
  rintro e w1 ⟨rfl, hb1⟩
  have HBW := Lib.hid hb1
  clear hb1 HHD
  go_wp2_with fail
  obtain ⟨nn, hnn⟩ : ∃ nn : Nat, 1 + a0 % 5 = (nn : Int) := ⟨(1 + a0 % 5).toNat, by omega⟩
  rw [hnn]
  have hn1 : 1 ≤ nn := by omega
  have hn5 : nn ≤ 5 := by omega
  clear hnn hr0 hr1
  have hnv : newV 0 (nn : Int) 0 0 [] = some (made 0 nn 0 0 []) := by
    unfold newV
    rw [if_pos]
    · rfl
    · simp only [Bool.and_eq_true, decide_eq_true_eq]
      exact ⟨by omega, by omega, by omega, by omega, by decide, by omega, by omega, by omega⟩
  refine (new_empty _ hnv).mono ?_
  rintro e w2 ⟨p, rfl, hp, hb2⟩
  have HP := Lib.hid (show Pt w1.heap.size w2 p (fw nn (eLog 0) (wantN nn (List.replicate nn 0) 0) (List.replicate nn 0)) by
    have : made 0 (nn : Int) 0 0 [] = fw nn (eLog 0) (wantN nn (List.replicate nn 0) 0) (List.replicate nn 0) := by unfold made fw; simp [eLog, wantN]
    rw [← this]; exact hp)
  have HB2 := Lib.hid (below_step HBW.out hb2)
  have HZ := Lib.hid HBW.out.size
  obtain ⟨B, hBB⟩ : ∃ B, w1.heap.size = B := ⟨_, rfl⟩
  rw [hBB] at HP HZ
  clear hp hb2 hnv hBB
  by_cases hc : acks.length > 100
  · have hcd : decide ((acks.length : Int) > 100) = true := decide_eq_true (by omega)
    go_wp2_with fail
    go_ret
    exact ⟨rfl, HB2.out⟩
  · have hcd : decide ((acks.length : Int) > 100) = false := decide_eq_false (by omega)
    obtain ⟨en, hen⟩ : ∃ en : Nat, a2 % 20 = (en : Int) := ⟨(a2 % 20).toNat, by omega⟩
    have hen1 : en ≤ 19 := by omega
    clear hr2 hr3
    go_wp2_with fail
    clear hen hcd b0 b0' b2 b2'
    go_loopg [11] en (fun gg s11 wr => ∃ i : Nat, i ≤ en ∧ en - i ≤ gg ∧ s11 = .int .i64 i ∧ Hid (Pt B wr p (fw nn (eLog i) (wantN nn (List.replicate nn 0) i) (List.replicate nn 0))) ∧ Hid (Below W.heap.size W wr))
    case atStart => exact ⟨0, Nat.zero_le _, by omega, rfl, HP.out, HB2.out⟩
    case round =>
      clear HP HB2
      obtain ⟨i, hi, hg, rfl, HP, HB⟩ := hrel
      obtain ⟨W1, rfl⟩ : ∃ W1 : World, W1 = wr := ⟨_, rfl⟩
      by_cases hlt : i < en
      · have hltz : (i : Int) < (en : Int) := by omega
        go_wp2_with fail
        have h := pt_propose HP.out hE (by decide)
        rw [fw_propose nn i (by omega) (List.replicate nn 0)] at h
        refine h.mono ?_
        rintro e w3 ⟨rfl, hp, hs⟩
        have HP3 := Lib.hid hp
        have HB3 := Lib.hid (HB.out.trans (hs.below.mono HZ.out))
        clear h hp hs
        go_wp2_with fail
        go_roundg (en - (i + 1))
        case measure => omega
        case rel => exact ⟨i + 1, by omega, by omega, by go_num, HP3.out, HB3.out⟩
      · have hltz : ¬ (i : Int) < (en : Int) := by omega
        obtain rfl : i = en := by omega
        clear hlt hi hg
        have hmk := make_run nn hn1 hn5
        go_wp2_with fail
        have HP4 := Lib.hid (HP.out.below (below_alloc (Below.refl _ _) (Obj.cells (Array.replicate nn (.int .i64 0)) 3)))
        have HB4 := Lib.hid (below_alloc HB.out (Obj.cells (Array.replicate nn (.int .i64 0)) 3))
        have hq4 : (W1.alloc (Obj.cells (Array.replicate nn (.int .i64 0)) 3)).heap[W1.heap.size]? = some (Obj.cells ((List.replicate nn 0).map (Value.int .i64)).toArray 3 (0, 0)) := by
          rw [show ((List.replicate nn 0).map (Value.int .i64)).toArray = Array.replicate nn (Value.int .i64 0) by simp]
          exact blk_new W1 _
        have HQ4 := Lib.hid hq4
        clear hq4
        have HG := Lib.hid HB.out.size
        generalize hW4 : W1.alloc (Obj.cells (Array.replicate nn (.int .i64 0)) 3) = W4 at HP4 HB4 HQ4 ⊢
        obtain ⟨g, hg⟩ : ∃ g, W1.heap.size = g := ⟨_, rfl⟩
        rw [hg] at HQ4 HG ⊢
        clear hW4 hg HP HB hmk hltz
        go_loopg [14] (acks.length) (fun gg s14 wr => ∃ (j : Nat) (a : List Int), j ≤ acks.length ∧ acks.length - j ≤ gg ∧ s14 = .int .i64 j ∧ Hid (a.length = nn ∧ a.getD 0 0 = 0 ∧ ∀ x ∈ a, 0 ≤ x ∧ x ≤ 96) ∧ Hid (Pt B wr p (fw nn (eLog i) (wantN nn a i) a)) ∧ Hid (wr.heap[g]? = some (Obj.cells (a.map (Value.int .i64)).toArray 3 (0, 0))) ∧ Hid (Below W.heap.size W wr))
        case atStart => exact ⟨0, List.replicate nn 0, Nat.zero_le _, by omega, rfl, ⟨by simp, by cases nn <;> simp, fun x hx => by have := (List.mem_replicate.1 hx).2; omega⟩, HP4.out, HQ4.out, HB4.out⟩
        case round =>
          clear HP4 HB4 HQ4
          obtain ⟨j, a, hj, hgj, rfl, HA, HP, HQ, HB⟩ := hrel
          obtain ⟨W5, rfl⟩ : ∃ W5 : World, W5 = wr := ⟨_, rfl⟩
          by_cases hlt : j + 1 < acks.length
          · have hltz : (j : Int) + 1 < (acks.length : Int) := by omega
            have hltz2 : (j : Int) < (acks.length : Int) := by omega
            obtain ⟨ad, ea, hx⟩ := Kd.at_int (Kd.C_below H1.out HB.out) (j : Int) (by omega) (by omega)
            obtain ⟨ad2, ea2, hy⟩ := Kd.at_int (Kd.C_below H1.out HB.out) ((j : Int) + 1) (by omega) (by omega)
            have hrx : rd acks (j : Int) = acks[j] := by unfold rd; rw [Int.toNat_natCast, List.getD_eq_getElem?_getD, List.getElem?_eq_getElem (by omega)]; rfl
            have hry : rd acks ((j : Int) + 1) = acks[j + 1] := by unfold rd; rw [show ((j : Int) + 1) = ((j + 1 : Nat) : Int) by omega, Int.toNat_natCast, List.getD_eq_getElem?_getD, List.getElem?_eq_getElem hlt]; rfl
            have hbx := HB1.out acks[j] (List.getElem_mem (by omega))
            have hby := HB1.out acks[j + 1] (List.getElem_mem hlt)
            rw [hrx] at hx
            rw [hry] at hy
            obtain ⟨x, hxx⟩ : ∃ x, acks[j] = x := ⟨_, rfl⟩
            obtain ⟨y, hyy⟩ : ∃ y, acks[j + 1] = y := ⟨_, rfl⟩
            rw [hxx] at hx hbx
            rw [hyy] at hy hby
            have ej : ((j : Int) + 1).toNat = j + 1 := by omega
            rw [ej, add_ne' _ _ (by omega)] at hy
            rw [Int.toNat_natCast] at hx
            clear hxx hyy hrx hry
            cases ea
            cases ea2
            have hx0 : 0 ≤ x := hbx.1
            have hx1 : x ≤ 255 := hbx.2
            have hy0 : 0 ≤ y := hby.1
            have hy1 : y ≤ 255 := hby.2
            clear hbx hby
            obtain ⟨f, hf⟩ : ∃ f : Nat, x % (nn : Int) = (f : Int) := ⟨(x % (nn : Int)).toNat, by have := Int.emod_nonneg x (show (nn : Int) ≠ 0 by omega); omega⟩
            obtain ⟨k, hk⟩ : ∃ k : Nat, y % 24 = (k : Int) := ⟨(y % 24).toNat, by omega⟩
            have hfn : f < nn := by have := Int.emod_lt_of_pos x (show (0 : Int) < nn by omega); omega
            have hk96 : k ≤ 96 := by omega
            have hnz : ((nn : Int) == 0) = false := beq_eq_false_iff_ne.2 (by omega)
            have hnp : 1 ≤ (nn : Int) := by omega
            by_cases hf0 : f = 0
            · subst hf0
              have hf' : x % (nn : Int) = 0 := hf
              clear hf
              go_wp2_with fail
              go_roundg (acks.length - (j + 2))
              case measure => omega
              case rel => exact ⟨j + 2, a, by omega, by omega, by go_num, HA.out, HP.out, HQ.out, HB.out⟩
            · have hfb : ((f : Int) == 0) = false := beq_eq_false_iff_ne.2 (by omega)
              have h := pt_take HP.out (f : Int) (ackL k) none 0 ⟨(rd_nil W5).C1.2, fun ad hA => by cases hA⟩ (by unfold ackL; simp) (by unfold ackL; simp)
              rw [fw_take nn i a f k (by omega) (by omega) (by omega) (by omega)] at h
              unfold ltrV ackL at h
              have HK := Lib.hid h
              clear h
              go_wp2_with fail
              refine HK.out.mono ?_
              rintro e w6 ⟨rfl, hp, hs⟩
              have hq6 := hs.row HP.out (by decide) HQ.out
              have HB6 := Lib.hid (HB.out.trans (hs.below.mono HZ.out))
              have HQ6 := Lib.hid hq6
              have HP6 := Lib.hid hp
              have hl6 := blk_lt hq6
              have hfa : f < a.length := by have := HA.out.1; omega
              have z1 := ints_cell hq6 f hfa
              have z2 := blk_frozen hq6 f
              have hgd : a.getD f 0 = a[f] := by rw [List.getD_eq_getElem?_getD, List.getElem?_eq_getElem hfa]; rfl
              have hbd := HA.out.2.2 a[f] (List.getElem_mem hfa)
              obtain ⟨v, hv⟩ : ∃ v, a[f] = v := ⟨_, rfl⟩
              rw [hv] at z1 hgd hbd
              have HGD := Lib.hid hgd
              have HBD := Lib.hid hbd
              clear hp hs hq6 hgd hv hbd HK
              have hfnz : (f : Int) < (nn : Int) := by omega
              go_wp2_with fail
              have HM := Lib.hid (show imax v k = max v k from imax_is v k)
              go_roundg (acks.length - (j + 2))
              case measure => omega
              case rel =>
                refine ⟨j + 2, a.set f (imax (a.getD f 0) k), by omega, by omega, by go_num, ⟨by rw [List.length_set]; exact HA.out.1, by
                  have := HA.out.2.1
                  rw [List.getD_eq_getElem?_getD, List.getElem?_set_ne (by omega), ← List.getD_eq_getElem?_getD]
                  exact this, fun z hz => (mem_set hz).elim (HA.out.2.2 z) (fun e => by rw [e, HGD.out]; exact imax_range HBD.out ⟨by omega, by omega⟩)⟩, ?_, ?_, ?_⟩
                · exact HP6.out.set6 HQ6.out f _
                · rw [HGD.out, HM.out]; exact ints_put HQ6.out f _
                · exact below_put HB6.out ⟨g, f, none⟩ HG.out _
          · have hltz : ¬ (j : Int) + 1 < (acks.length : Int) := by omega
            have HAL := Lib.hid HA.out.1
            go_wp2_with fail
            clear hlt hltz hj hgj
            go_loopg [18, 19] i (fun gg s18 s19 wr => ∃ k : Nat, 1 ≤ k ∧ k ≤ i + 1 ∧ i + 1 - k ≤ gg ∧ s19 = .int .i64 k ∧ s18 = .int .i64 (wantN nn a (k - 1) : Nat) ∧ wr = W5)
            case atStart => exact ⟨1, by omega, by omega, by omega, rfl, rfl, rfl⟩
            case round =>
              obtain ⟨k, hk1, hk2, hgk, rfl, rfl, rfl⟩ := hrel
              have hwl := wantN_le nn a (k - 1)
              by_cases hki : k ≤ i
              · have hkz : (k : Int) ≤ (i : Int) := by omega
                have HW := Lib.hid (show wantN nn a k = if okK nn a k = true then k else wantN nn a (k - 1) by
                  obtain ⟨m, rfl⟩ : ∃ m, k = m + 1 := ⟨k - 1, by omega⟩
                  rfl)
                obtain ⟨q, hq⟩ : ∃ q, wantN nn a (k - 1) = q := ⟨_, rfl⟩
                rw [hq] at hwl HW ⊢
                clear hq
                go_wp2_with fail
                obtain ⟨W6, rfl⟩ : ∃ W6 : World, W6 = wr := ⟨_, rfl⟩
                go_loopg [20, 21] nn (fun gg s20 s21 wr => ∃ m c : Nat, 1 ≤ m ∧ m ≤ nn ∧ nn - m ≤ gg ∧ s21 = .int .i64 m ∧ s20 = .int .i64 ((c : Int) + 1) ∧ c ≤ m ∧ Hid (c = ((a.take m).drop 1).countP (fun x => decide (x ≥ (k : Int)))) ∧ wr = W6)
                case atStart => exact ⟨1, 0, by omega, by omega, by omega, rfl, rfl, by omega, (show Hid _ from by cases a <;> simp [Hid]), rfl⟩
                case round =>
                  obtain ⟨m, c, hm1, hm2, hgm, rfl, rfl, hcm, HC, hwr⟩ := hrel
                  subst hwr
                  by_cases hmn : m < nn
                  · have hmz : (m : Int) < (nn : Int) := by omega
                    have hma : m < a.length := by have := HAL.out; omega
                    have z1 := ints_cell HQ.out m hma
                    have hst := count_step a (k : Int) m hma hm1
                    obtain ⟨v, hv⟩ : ∃ v, a[m] = v := ⟨_, rfl⟩
                    rw [hv] at z1 hst
                    have HS := Lib.hid hst
                    clear hst hv
                    by_cases hvk : v ≥ (k : Int)
                    · go_wp2_with fail
                      go_roundg (nn - (m + 1))
                      case measure => omega
                      case rel => exact ⟨m + 1, c + 1, by omega, by omega, by omega, by go_num, by go_num, by omega, (show Hid _ from by rw [HS.out, if_pos hvk, ← HC.out]; rfl), rfl⟩
                    · go_wp2_with fail
                      go_roundg (nn - (m + 1))
                      case measure => omega
                      case rel => exact ⟨m + 1, c, by omega, by omega, by omega, by go_num, rfl, by omega, (show Hid _ from by rw [HS.out, if_neg (by omega), ← HC.out]; rfl), rfl⟩
                  · have hmz : ¬ (m : Int) < (nn : Int) := by omega
                    have HO := Lib.hid (show okK nn a k = decide (2 * ((c : Int) + 1) > nn) by
                      unfold okK
                      have h1 := HC.out
                      rw [List.take_of_length_le (by have := HAL.out; omega), ← count_tail a k (by omega) HA.out.2.1] at h1
                      rw [← h1])
                    by_cases hok : 2 * ((c : Int) + 1) > nn
                    · have HW2 := Lib.hid (show wantN nn a k = k by rw [HW.out, HO.out, if_pos (by simpa using hok)])
                      go_wp2_with fail
                      go_roundg (i + 1 - (k + 1))
                      case measure => omega
                      case rel => exact ⟨k + 1, by omega, by omega, by omega, by go_num, by rw [Nat.add_sub_cancel, HW2.out], rfl⟩
                    · have HW2 := Lib.hid (show wantN nn a k = q by rw [HW.out, HO.out, if_neg (by simpa using hok)])
                      go_wp2_with fail
                      go_roundg (i + 1 - (k + 1))
                      case measure => omega
                      case rel => exact ⟨k + 1, by omega, by omega, by omega, by go_num, by rw [Nat.add_sub_cancel, HW2.out], rfl⟩
              · have hkz : ¬ (k : Int) ≤ (i : Int) := by omega
                obtain rfl : k = i + 1 := by omega
                rw [Nat.add_sub_cancel] at hwl ⊢
                go_wp2_with fail
                refine (pt_stays HP.out).mono ?_
                rintro e w7 ⟨he, rfl⟩
                change e = Ending.returned (.int .i64 (wantN nn a i : Nat)) at he
                subst he
                go_wp2_with fail
                go_ret
                exact ⟨rfl, HB.out⟩
end Go.Proofs.Ytndnjmgmdkkifaa.Vw1
