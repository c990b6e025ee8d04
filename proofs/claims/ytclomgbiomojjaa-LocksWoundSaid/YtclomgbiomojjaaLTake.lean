/- The walk of locks.Take. -/
import Derived.Test.YtclomgbiomojjaaLTk1
namespace Go.Proofs.Ytclomgbiomojjaa.LTake
open Go Go.RowKit Go.Maps Go.Shelf Go.Proofs Go.Proofs.Ytclomgbiomojjaa.Q Go.Proofs.Ytclomgbiomojjaa.LRight Go.Proofs.Ytclomgbiomojjaa.PathF Go.Proofs.Ytclomgbiomojjaa.LTk0 Go.Proofs.YtclomgbiomojjaaW.PrintWords Go.Proofs.YtclomgbiomojjaaW.PrintLast Go.Proofs.YtclomgbiomojjaaW.PrintMore
open Go.Proofs.Ytclomgbiomojjaa.LRgt (num num_is rightB)
set_option linter.unusedVariables false
set_option linter.unusedSimpArgs false

/-- what is handed back: rows that were there, or new ones -/
def Post (w : World) (P0_ : Nat → Prop) (r1 : List S34) (r2 : List Int) (r3 : Bool) (e : Ending) (w' : World) : Prop :=
  ∃ v0_ v1_ : Value, e = .returned (.tuple #[v0_, v1_, .bool r3]) ∧ Kd.V k34 34 w' w.heap.size (fun k_ => (P0_ k_ ∨ w.heap.size ≤ k_) ∧ some k_ ≠ v1_.ownBlock) v0_ r1 ∧ Kd.R (Kd.int .i64) 2 w' w.heap.size (fun _ => True) v1_ r2 ∧ Below w.heap.size w w'
theorem cellA {w W : World} (hb : Below w.heap.size w W) {p : Addr} {v : Value} (h : w.cell? p = some v) : W.cell? p = some v := pw_cell_below hb h

/-- what is asked ahead: does it refuse? -/
def badB (a1 a2 : Int) (l0 : List S34) (l3 : List ByteArray) : Bool := !(rightB l0) || (!(num a1) || (!(num a2) || (l3.any oddP || l0.any (strP a1 a2))))
def goodT (l0 : List S34) (a1 a2 : Int) (l3 : List ByteArray) : List S34 × List Int × Bool :=
  if (stW a1 a2 l3 l0).1 = true then (insAll a1 a2 l0 l3, [], true) else (l0, ((intKeys (stW a1 a2 l3 l0).2).mergeSort fun x y => decide (x ≤ y)), false)

set_option maxHeartbeats 4000000 in
set_option maxRecDepth 100000 in
theorem take_walk (P0_ : Nat → Prop) (A0 : Option Addr) (c0 : Nat) (l0 : List S34) (a1 a2 : Int) (A3 : Option Addr) (c3 : Nat) (l3 : List ByteArray) (w : World)
    (hs0 : Kd.V k34 34 w w.heap.size P0_ (.slice A0 l0.length c0) l0) (hr3 : Kd.C Kd.string w A3 l3.length l3) (hc3 : l3.length ≤ c3)
    (hl0 : l0.length + l3.length ≤ 1000) (hwf : l0.all wfB = true) (hwa : (Lit.int .i64 a1).wf = true) (hn1 : a1.natAbs < 18446744073709551616) (hn2 : a2.natAbs < 18446744073709551616)
    (r1 : List S34) (r2 : List Int) (r3 : Bool) (hres : (if badB a1 a2 l0 l3 = true then ([], [], false) else goodT l0 a1 a2 l3) = (r1, r2, r3)) :
    Calls Try.prog 11 #[.slice A0 l0.length c0, .int .i64 a1, .int .i64 a2, .slice A3 l3.length c3] w (Post w P0_ r1 r2 r3) := by
  have hr0 : Kd.C k34 w A0 l0.length l0 := (Kd.V_reads' hs0).2.2
  have hc0 : l0.length ≤ c0 := (Kd.V_reads' hs0).2.1
  have HODD := Lib.hid (fun (W : World) (hW : Below w.heap.size w W) => IStr.contains_calls 20 #[] (enters_of Try.func20 (by kernel_rfl) rfl) oddP A3 c3 l3 W (odd_is l3 W) (Kd.C_below hr3 hW) (by omega))
  have HSTR := Lib.hid (fun (W : World) (hW : Below w.heap.size w W) (h5 : W.cell? ⟨w.heap.size, 0, none⟩ = some (.int .i64 a1)) (h6 : W.cell? ⟨w.heap.size + 1, 0, none⟩ = some (.int .i64 a2)) =>
    IHold.contains_calls 23 #[.pointer (some ⟨w.heap.size, 0, none⟩), .pointer (some ⟨w.heap.size + 1, 0, none⟩)] (enters_of Try.func23 (by kernel_rfl) rfl) (strP a1 a2) A0 c0 l0 W (str_is a1 a2 _ _ l0 W h5 h6) (Kd.C_below hr0 hW) (by omega))
  have HRGT := Lib.hid (fun (W : World) (hW : Below w.heap.size w W) => LRgt.locks_Right.calls A0 c0 l0 (rightB l0) W (Kd.C_below hr0 hW) hc0 (by unfold LRgt.locks_Right.f; rw [if_pos ⟨by omega, hwf⟩]))
  have hn1 := fun W => locks_number.calls a1 (num a1) W (num_is a1)
  have hn2 := fun W => locks_number.calls a2 (num a2) W (num_is a2)
  have hbad : badB a1 a2 l0 l3 = (!(rightB l0) || (!(num a1) || (!(num a2) || (l3.any oddP || l0.any (strP a1 a2))))) := rfl
  obtain ⟨bR, hbR⟩ : ∃ b, rightB l0 = b := ⟨_, rfl⟩
  obtain ⟨b1, hb1⟩ : ∃ b, num a1 = b := ⟨_, rfl⟩
  obtain ⟨b2, hb2⟩ : ∃ b, num a2 = b := ⟨_, rfl⟩
  obtain ⟨bo, hbo⟩ : ∃ b, l3.any oddP = b := ⟨_, rfl⟩
  obtain ⟨bs, hbs⟩ : ∃ b, l0.any (strP a1 a2) = b := ⟨_, rfl⟩
  rw [hbR] at HRGT
  rw [hb1] at hn1
  rw [hb2] at hn2
  rw [hbo] at HODD
  rw [hbs] at HSTR
  rw [hbR, hb1, hb2, hbo, hbs] at hbad
  have HN1 := Lib.hid hn1
  have HN2 := Lib.hid hn2
  have HBAD := Lib.hid hbad
  clear hbR hb1 hb2 hbo hbs hn1 hn2 hbad
  have HRES := Lib.hid hres
  have HS0 := Lib.hid hs0
  have HR0 := Lib.hid hr0
  have HR3 := Lib.hid hr3
  have HWF := Lib.hid hwf
  clear hres hs0 hr0 hr3 hwf
  go_enter Try.func11, Try.ntmps11
  go_wp2_with fail
  refine (HODD.out _ (below_alloc (below_alloc (Below.refl _ _) _) _)).mono ?_
  rintro e w1 ⟨rfl, hb1⟩
  have H5 := Lib.hid (show w1.cell? ⟨w.heap.size, 0, none⟩ = some (.int .i64 a1) from pw_cell_below hb1 (pw_cell_below (below_alloc (Below.refl _ _) _) ((blk_cell (heap_alloc_new w _) 0).trans rfl)))
  have H6 := Lib.hid (show w1.cell? ⟨w.heap.size + 1, 0, none⟩ = some (.int .i64 a2) from pw_cell_below hb1 (by have h := (blk_cell (heap_alloc_new (w.alloc (.cells #[.int .i64 a1] 2)) (.cells #[.int .i64 a2] 2)) 0).trans rfl; simp at h ⊢))
  have HB1 := Lib.hid (below_step (below_alloc (below_alloc (Below.refl _ _) _) _) hb1)
  clear hb1
  go_wp2_with fail
  refine (HSTR.out _ HB1.out H5.out H6.out).mono ?_
  rintro e w2 ⟨rfl, hb2⟩
  have H5' := Lib.hid (pw_cell_below hb2 H5.out)
  have H6' := Lib.hid (pw_cell_below hb2 H6.out)
  have HB2 := Lib.hid (below_step HB1.out hb2)
  clear hb2 H5 H6 HB1 HODD HSTR
  have H5 := H5'
  have H6 := H6'
  clear H5' H6'
  go_upto_region 3 with (fail)
  (try simp only [Act.put, List.setIfInBounds_toArray, List.set_cons_zero, List.set_cons_succ])
  go_cut [45] (fun v45 wc => v45 = .bool (badB a1 a2 l0 l3) ∧ Hid (wc.cell? ⟨w.heap.size, 0, none⟩ = some (.int .i64 a1)) ∧ Hid (wc.cell? ⟨w.heap.size + 1, 0, none⟩ = some (.int .i64 a2)) ∧ Hid (Below w.heap.size w wc))
  case first =>
    cases bR with
    | false =>
      go_wp2_with fail
      refine (HRGT.out _ HB2.out).mono ?_
      rintro e w3 ⟨rfl, hb3⟩
      have H5' := Lib.hid (pw_cell_below hb3 H5.out)
      have H6' := Lib.hid (pw_cell_below hb3 H6.out)
      have HB3 := Lib.hid (below_step HB2.out hb3)
      clear hb3 H5 H6 HRGT HB2
      have h5 := H5'.out
      have h6 := H6'.out
      go_wp2_with fail
      go_meet
      case rel => exact ⟨by rw [HBAD.out]; rfl, H5'.out, H6'.out, HB3.out⟩
    | true =>
      cases b1 with
      | false =>
        go_wp2_with fail
        refine (HRGT.out _ HB2.out).mono ?_
        rintro e w3 ⟨rfl, hb3⟩
        have H5' := Lib.hid (pw_cell_below hb3 H5.out)
        have H6' := Lib.hid (pw_cell_below hb3 H6.out)
        have HB3 := Lib.hid (below_step HB2.out hb3)
        clear hb3 H5 H6 HRGT HB2
        have h5 := H5'.out
        have h6 := H6'.out
        go_wp2_with fail
        refine (HN1.out _).mono ?_
        rintro e w' ⟨rfl, ⟨nd1, rfl⟩⟩
        go_wp2_with fail
        go_meet
        case rel => exact ⟨by rw [HBAD.out]; rfl, H5'.out, H6'.out, pw_below_drewN HB3.out _⟩
      | true =>
        cases b2 with
        | false =>
          go_wp2_with fail
          refine (HRGT.out _ HB2.out).mono ?_
          rintro e w3 ⟨rfl, hb3⟩
          have H5' := Lib.hid (pw_cell_below hb3 H5.out)
          have H6' := Lib.hid (pw_cell_below hb3 H6.out)
          have HB3 := Lib.hid (below_step HB2.out hb3)
          clear hb3 H5 H6 HRGT HB2
          have h5 := H5'.out
          have h6 := H6'.out
          go_wp2_with fail
          refine (HN1.out _).mono ?_
          rintro e w' ⟨rfl, ⟨nd1, rfl⟩⟩
          go_wp2_with fail
          refine (HN2.out _).mono ?_
          rintro e w' ⟨rfl, ⟨nd2, rfl⟩⟩
          go_wp2_with fail
          go_meet
          case rel => exact ⟨by rw [HBAD.out]; rfl, H5'.out, H6'.out, pw_below_drewN HB3.out _⟩
        | true =>
          cases bo with
          | true =>
            go_wp2_with fail
            refine (HRGT.out _ HB2.out).mono ?_
            rintro e w3 ⟨rfl, hb3⟩
            have H5' := Lib.hid (pw_cell_below hb3 H5.out)
            have H6' := Lib.hid (pw_cell_below hb3 H6.out)
            have HB3 := Lib.hid (below_step HB2.out hb3)
            clear hb3 H5 H6 HRGT HB2
            have h5 := H5'.out
            have h6 := H6'.out
            go_wp2_with fail
            refine (HN1.out _).mono ?_
            rintro e w' ⟨rfl, ⟨nd1, rfl⟩⟩
            go_wp2_with fail
            refine (HN2.out _).mono ?_
            rintro e w' ⟨rfl, ⟨nd2, rfl⟩⟩
            go_wp2_with fail
            go_meet
            case rel => exact ⟨by rw [HBAD.out]; rfl, H5'.out, H6'.out, pw_below_drewN HB3.out _⟩
          | false =>
            go_wp2_with fail
            refine (HRGT.out _ HB2.out).mono ?_
            rintro e w3 ⟨rfl, hb3⟩
            have H5' := Lib.hid (pw_cell_below hb3 H5.out)
            have H6' := Lib.hid (pw_cell_below hb3 H6.out)
            have HB3 := Lib.hid (below_step HB2.out hb3)
            clear hb3 H5 H6 HRGT HB2
            have h5 := H5'.out
            have h6 := H6'.out
            go_wp2_with fail
            refine (HN1.out _).mono ?_
            rintro e w' ⟨rfl, ⟨nd1, rfl⟩⟩
            go_wp2_with fail
            refine (HN2.out _).mono ?_
            rintro e w' ⟨rfl, ⟨nd2, rfl⟩⟩
            go_wp2_with fail
            go_meet
            case rel => exact ⟨by rw [HBAD.out]; rfl, H5'.out, H6'.out, pw_below_drewN HB3.out _⟩
  case rest =>
    obtain ⟨rfl, H5, H6, HB⟩ := hcut
    cases hb : badB a1 a2 l0 l3 with
    | true =>
      rw [hb] at HRES
      have HE := Lib.hid HRES.out
      clear HRES hb HBAD
      go_wp2_with fail
      obtain ⟨rfl, rfl, rfl⟩ : [] = r1 ∧ [] = r2 ∧ false = r3 := by have := HE.out; simpa using this
      go_ret3
      exact ⟨_, _, rfl, Kd.V_nil _ _ _ _ _, Kd.R_nil _ _ _ _ _, HB.out⟩
    | false =>
      rw [hb] at HRES
      have HE := Lib.hid (show goodT l0 a1 a2 l3 = (r1, r2, r3) from HRES.out)
      clear HRES hb HBAD
      have hmm := @run_makeMap Try.prog
      go_wp2_with fail
      clear hmm
      have hlt6 : w.heap.size + 1 < wc.heap.size := World.block_lt_of_cell? wc _ H6.out
      go_loopg [14, 49] (l0.length) (fun gg s14 s49 wr => ∃ i : Nat, i ≤ l0.length ∧ l0.length - i ≤ gg ∧ s49 = .int .i64 i ∧ s14 = .bool (stW a1 a2 l3 (l0.take i)).1 ∧ Hid (Below w.heap.size w wr) ∧ Hid (wr.cell? ⟨w.heap.size, 0, none⟩ = some (.int .i64 a1)) ∧ Hid (wr.cell? ⟨w.heap.size + 1, 0, none⟩ = some (.int .i64 a2)) ∧ Hid (OW wr wc.heap.size i (stW a1 a2 l3 (l0.take i)).2) ∧ wc.heap.size < wr.heap.size)
      case atStart => exact ⟨0, Nat.zero_le _, by omega, rfl, rfl, below_alloc HB.out _, pw_cell_below (below_alloc (Below.refl _ _) _) H5.out, pw_cell_below (below_alloc (Below.refl _ _) _) H6.out, World.ownsMap_made _ _ _ _, by show _ < (wc.heap.push _).size; simp⟩
      case round =>
        obtain ⟨i, hi, hg, rfl, rfl, hB, h5r, h6r, hM, hsz⟩ := hrel
        by_cases hlt : i < l0.length
        · have hltz : (i : Int) < (l0.length : Int) := by omega
          have hsn := stW_snoc a1 a2 l3 l0 i hlt
          obtain ⟨ad, ea, hx0, hx1, hx2⟩ := at_T34 HR0.out (i : Int) (by omega) (by omega)
          replace hx0 := pw_cell_below hB.out hx0
          replace hx1 := pw_cell_below hB.out hx1
          replace hx2 := pw_cell_below hB.out hx2
          simp only [Int.toNat_natCast] at hx0 hx1 hx2
          have hw1 := wf1 HWF.out (i : Int)
          have hw2 := wf2 HWF.out (i : Int)
          obtain ⟨x, hxx⟩ : ∃ x, rd_T34 l0 (i : Int) = x := ⟨_, rfl⟩
          rw [hxx] at hx0 hx1 hx2 hsn hw1 hw2
          clear hxx
          obtain ⟨x0, x1, x2⟩ := x
          cases ea
          obtain ⟨S, hS⟩ : ∃ S, stW a1 a2 l3 (l0.take i) = S := ⟨_, rfl⟩
          rw [hS] at hM hsn ⊢
          obtain ⟨F, D⟩ := S
          have HC25 := Lib.hid (fun (W : World) (hW : Below w.heap.size w W) => slices_Contains_string_string.calls (l3.length + 1) A3 c3 l3 x0 (hasB l3 x0) W (Kd.C_below HR3.out hW) hc3 (has_is l3 x0 (by omega)))
          have HC26 := Lib.hid (fun (W : World) => New.check_Newer.calls x2 x1 a2 a1 (New.newB x2 x1 a2 a1) W (by unfold New.check_Newer.f; rw [if_pos ⟨by have h := wf_inv hw2; simp only at h; omega, by have h := wf_inv hw1; simp only at h; omega, hn2, hn1⟩]))
          obtain ⟨bh, hbh⟩ : ∃ b, hasB l3 x0 = b := ⟨_, rfl⟩
          obtain ⟨bn, hbn⟩ : ∃ b, New.newB x2 x1 a2 a1 = b := ⟨_, rfl⟩
          rw [hbh] at HC25
          rw [hbn] at HC26
          unfold stepW askB at hsn
          simp only [hbh, hbn] at hsn
          have HSN := Lib.hid hsn
          have HW1 := Lib.hid hw1
          have k5 := pw_cell_below (below_alloc (Below.refl wr.heap.size wr) (.cells #[.string x0, .int .i64 x1, .int .i64 x2] 34)) h5r.out
          have k6 := pw_cell_below (below_alloc (Below.refl wr.heap.size wr) (.cells #[.string x0, .int .i64 x1, .int .i64 x2] 34)) h6r.out
          clear hS hbh hbn hsn hw1 hw2 h5r h6r
          have hb0 := below_alloc hB.out (.cells #[.string x0, .int .i64 x1, .int .i64 x2] 34)
          have HB0 := Lib.hid hb0
          clear hb0
          by_cases c1 : a1 = x1
          · subst c1
            have HSN2 := Lib.hid (show stW a1 a2 l3 (l0.take (i + 1)) = (F, D) by rw [HSN.out]; simp)
            clear HSN
            go_wp2_with fail
            go_roundg (l0.length - (i + 1))
            case measure => omega
            case rel => exact ⟨i + 1, by omega, by omega, by go_num, by rw [HSN2.out], HB0.out, k5, k6, by rw [HSN2.out]; exact ((ow_below hM.out (below_alloc (Below.refl _ _) _)).mono (by omega)), by have : wr.heap.size < (wr.alloc (.cells #[.string x0, .int .i64 a1, .int .i64 x2] 34)).heap.size := (by show _ < (wr.heap.push _).size; simp); omega⟩
          · have hd1 : (x1 != a1) = true := bne_iff_ne.2 (fun e => c1 e.symm)
            clear c1
            cases bh with
            | false =>
              have HSN2 := Lib.hid (show stW a1 a2 l3 (l0.take (i + 1)) = (F, D) by rw [HSN.out]; simp)
              clear HSN
              go_wp2_with fail
              refine (HC25.out _ HB0.out).mono ?_
              rintro e w' ⟨rfl, ⟨nd, rfl⟩⟩
              go_wp2_with fail
              go_roundg (l0.length - (i + 1))
              case measure => omega
              case rel => exact ⟨i + 1, by omega, by omega, by go_num, by rw [HSN2.out], pw_below_drewN HB0.out _, k5, k6, by rw [HSN2.out]; exact ((ow_below hM.out (pw_below_drewN (below_alloc (Below.refl _ _) _) _)).mono (by omega)), by have : wr.heap.size < (wr.alloc (.cells #[.string x0, .int .i64 x1, .int .i64 x2] 34)).heap.size := (by show _ < (wr.heap.push _).size; simp); exact Nat.lt_trans hsz this⟩
            | true =>
              have hsz2 : wc.heap.size < (wr.alloc (.cells #[.string x0, .int .i64 x1, .int .i64 x2] 34)).heap.size := by
                have : wr.heap.size < (wr.alloc (.cells #[.string x0, .int .i64 x1, .int .i64 x2] 34)).heap.size := (by show _ < (wr.heap.push _).size; simp)
                exact Nat.lt_trans hsz this
              cases bn with
              | false =>
                have HSN2 := Lib.hid (show stW a1 a2 l3 (l0.take (i + 1)) = (false, D) by rw [HSN.out]; simp [hd1]; intro h; simp [h] at hd1)
                clear HSN
                go_wp2_with fail
                refine (HC25.out _ HB0.out).mono ?_
                rintro e w' ⟨rfl, ⟨nd, rfl⟩⟩
                go_wp2_with fail
                refine (HC26.out _).mono ?_
                rintro e w' ⟨rfl, ⟨nd2, rfl⟩⟩
                go_wp2_with fail
                go_roundg (l0.length - (i + 1))
                case measure => omega
                case rel => exact ⟨i + 1, by omega, by omega, by go_num, by rw [HSN2.out], pw_below_drewN HB0.out _, k5, k6, by rw [HSN2.out]; exact ((ow_below hM.out (pw_below_drewN (below_alloc (Below.refl _ _) _) _)).mono (by omega)), hsz2⟩
              | true =>
                have HSN2 := Lib.hid (show stW a1 a2 l3 (l0.take (i + 1)) = (false, bump D x1) by rw [HSN.out]; simp [hd1]; intro h; simp [h] at hd1)
                clear HSN
                go_wp2_with fail
                refine (HC25.out _ HB0.out).mono ?_
                rintro e w' ⟨rfl, ⟨nd, rfl⟩⟩
                go_wp2_with fail
                refine (HC26.out _).mono ?_
                rintro e w' ⟨rfl, ⟨nd2, rfl⟩⟩
                go_wp2_with (first | (at_lookup; refine lookw_step rfl _ _ rfl rfl (ow_below hM.out (pw_below_drewN (below_alloc (Below.refl _ _) _) _)) rfl HW1.out rfl ?_) | (at_mapUpdate; refine updw_step rfl _ _ _ rfl rfl (ow_below hM.out (pw_below_drewN (below_alloc (Below.refl _ _) _) _)) (by unfold maxLen; omega) rfl rfl HW1.out (wf_wrap _) ?_; intro w9 hown9 hgr9))
                go_roundg (l0.length - (i + 1))
                case measure => omega
                case rel => exact ⟨i + 1, by omega, by omega, by go_num, by rw [HSN2.out], (pw_below_drewN HB0.out _).grown hgr9 (pw_below_drewN HB0.out _).size (fun j hj => by cases hj; omega), cell_grown hgr9 k5 (fun e => by injection e with e; have e2 : w.heap.size = wc.heap.size := e; omega), cell_grown hgr9 k6 (fun e => by injection e with e; have e2 : w.heap.size + 1 = wc.heap.size := e; omega), by rw [HSN2.out]; exact hown9, Nat.lt_of_lt_of_le hsz2 hgr9.size⟩
        · have hi2 : i = l0.length := by omega
          subst hi2
          have HLEN := Lib.hid hl0
          rw [List.take_length] at hM ⊢
          have hsz5 : w.heap.size + 1 < wr.heap.size := by omega
          cases hf : (stW a1 a2 l3 l0).1 with
          | false =>
            have HE2 := Lib.hid (show (l0, ((intKeys (stW a1 a2 l3 l0).2).mergeSort fun x y => decide (x ≤ y)), false) = (r1, r2, r3) from by have := HE.out; unfold goodT at this; rw [hf] at this; simpa using this)
            clear HE hf
            obtain ⟨D, hD⟩ : ∃ D, (stW a1 a2 l3 l0).2 = D := ⟨_, rfl⟩
            rw [hD] at hM HE2
            clear hD
            go_wp2_with fail
            refine (Try.keys_calls wc.heap.size wr).mono ?_
            rintro e w' ⟨rfl, rfl⟩
            have HSC := Lib.hid (Try.sorted_calls wr.heap.size wc.heap.size l0.length D (plainElem Try.prog 3) (wr.alloc (.cells #[.map (some wc.heap.size)] 51)) (by show _ < (wr.heap.push _).size; simp) ((blk_cell (heap_alloc_new wr _) 0).trans rfl) (ow_below hM.out (below_alloc (Below.refl _ _) _)) (by have := hM.out.size_le; unfold maxLen; omega) (by have := hM.out.size_le; omega))
            go_wp2_with fail
            refine HSC.out.mono ?_
            rintro e w9 ⟨v, ss, rfl, hp, hown, hnil, hb9⟩
            have HP := Lib.hid hp
            have HOW := Lib.hid hown
            have HB9 := Lib.hid (below_step (below_alloc hB.out _) hb9)
            clear hp hown hnil hb9
            go_wp2_with fail
            have hsort : (ss.mergeSort fun x y => decide (x ≤ y)) = ((intKeys D).mergeSort fun x y => decide (x ≤ y)) := sort_perm HP.out
            obtain ⟨rfl, h2⟩ : l0 = r1 ∧ (((intKeys D).mergeSort fun x y => decide (x ≤ y)), false) = (r2, r3) := by have := HE2.out; simpa using this
            obtain ⟨rfl, rfl⟩ : ((intKeys D).mergeSort fun x y => decide (x ≤ y)) = r2 ∧ false = r3 := by simpa using h2
            go_ret3
            have hbase : w.heap.size ≤ (wr.alloc (.cells #[.map (some wc.heap.size)] 51)).heap.size := (below_alloc hB.out (.cells #[.map (some wc.heap.size)] 51)).size
            refine ⟨_, _, rfl, Kd.V_mono (Kd.V_below (Kd.V_bound HS0.out) HB9.out) (fun k hk => ⟨Or.inl hk.1, fun e => by have h1 := own_base HOW.out k e.symm; have h2 := hk.2; omega⟩), ?_, HB9.out⟩
            rw [← hsort]
            have ho9 := HOW.out
            rw [← List.length_mergeSort (le := fun x y => decide (x ≤ y)) ss] at ho9
            exact Kd.R_lower (Kd.R_of_own (enc := Value.int .i64) (h1 := fun _ => rfl) ho9 (fun _ _ => trivial)) (below_alloc hB.out (.cells #[.map (some wc.heap.size)] 51)).size
          | true =>
            have HE2 := Lib.hid (show (insAll a1 a2 l0 l3, ([] : List Int), true) = (r1, r2, r3) from by have := HE.out; unfold goodT at this; rw [hf] at this; simpa using this)
            clear HE hf hM
            obtain ⟨wo, rfl⟩ : ∃ wo : World, wo = wr := ⟨_, rfl⟩
            go_wp2_with fail
            refine (CHold.clone_calls A0 c0 l0 wo (Kd.C_below HR0.out hB.out) (by omega)).mono ?_
            rintro e w4 ⟨v4, rfl, hR4, hb4⟩
            have HO4 := Lib.hid hR4
            have HB4 := Lib.hid hb4
            clear hR4 hb4
            go_wp2_with fail
            go_loopg [17, 86] (l3.length) (fun gg s17 s86 wr => ∃ i : Nat, i ≤ l3.length ∧ l3.length - i ≤ gg ∧ s86 = .int .i64 i ∧ Hid (Kd.R k34 34 wr wo.heap.size (fun _ => True) s17 (insAll a1 a2 l0 (l3.take i))) ∧ Hid (Below wo.heap.size wo wr))
            case atStart => exact ⟨0, Nat.zero_le _, by omega, rfl, HO4.out, HB4.out⟩
            case round =>
              obtain ⟨i, hi, hg, rfl, hO, hBs⟩ := hrel
              have hxl := insAll_len a1 a2 (l3.take i) l0
              have hxt : (l3.take i).length ≤ l3.length := by simp; omega
              have HB5 := Lib.hid (below_then hB.out (show w.heap.size ≤ wo.heap.size by omega) hBs.out)
              by_cases hlt : i < l3.length
              · have hltz : (i : Int) < (l3.length : Int) := by omega
                have hsn := insAll_snoc a1 a2 l0 l3 i hlt
                obtain ⟨ad, ea, hx0⟩ := Kd.at_string HR3.out (i : Int) (by omega) (by omega)
                replace hx0 := pw_cell_below HB5.out hx0
                simp only [Int.toNat_natCast] at hx0
                obtain ⟨d, hd⟩ : ∃ d, rdOf ByteArray.empty l3 (i : Int) = d := ⟨_, rfl⟩
                rw [hd] at hx0 hsn
                obtain ⟨xs, hxs⟩ : ∃ xs, insAll a1 a2 l0 (l3.take i) = xs := ⟨_, rfl⟩
                rw [hxs] at hO hsn hxl
                obtain ⟨A5, c5, rfl, hc5, hC5⟩ := Kd.R_reads hO.out
                have HF := Lib.hid (find_calls A5 c5 xs d wr hC5 (by omega))
                have hle := at_le d xs
                have HSN := Lib.hid hsn
                have HXL := Lib.hid (show xs.length ≤ 1000 by omega)
                have k5 := pw_cell_below hBs.out h5r.out
                have k6 := pw_cell_below hBs.out h6r.out
                obtain ⟨b, hb⟩ : ∃ b, own_ d xs = b := ⟨_, rfl⟩
                obtain ⟨p, hp⟩ : ∃ p, at_ d xs = p := ⟨_, rfl⟩
                rw [hb, hp] at HF
                rw [hp] at hle
                have HBO := Lib.hid hb
                have HPO := Lib.hid hp
                clear hd hxs hsn hC5 hb hp hxl hxt
                cases ea
                cases b with
                | true =>
                  have HSN2 := Lib.hid (show insAll a1 a2 l0 (l3.take (i + 1)) = xs by rw [HSN.out]; unfold insT; rw [if_pos HBO.out])
                  go_wp2_with fail
                  refine HF.out.mono ?_
                  rintro e w6 ⟨rfl, hb6⟩
                  have HB6 := Lib.hid hb6
                  clear hb6
                  go_wp2_with fail
                  go_roundg (l3.length - (i + 1))
                  case measure => omega
                  case rel => exact ⟨i + 1, by omega, by omega, by go_num, by rw [HSN2.out]; exact Kd.R_below hO.out HB6.out, below_step hBs.out HB6.out⟩
                | false =>
                  have HSN2 := Lib.hid (show insAll a1 a2 l0 (l3.take (i + 1)) = xs.take p ++ [⟨d, a1, a2⟩] ++ xs.drop p by rw [HSN.out]; unfold insT; rw [if_neg (by rw [HBO.out]; simp), HPO.out])
                  go_wp2_with fail
                  refine HF.out.mono ?_
                  rintro e w6 ⟨rfl, hb6⟩
                  have HB6 := Lib.hid hb6
                  have HO6 := Lib.hid (Kd.R_below hO.out hb6)
                  have q5 := pw_cell_below hb6 k5
                  have q6 := pw_cell_below hb6 k6
                  clear hb6 k5 k6
                  go_wp2_with fail
                  have hl9 : w6.heap.size ≤ (w6.alloc (.cells (OHold.enc ⟨d, a1, a2⟩).toArray 34)).heap.size := by show _ ≤ (w6.heap.push _).size; simp
                  have hnew : (w6.alloc (.cells (OHold.enc ⟨d, a1, a2⟩).toArray 34)).heap[w6.heap.size]? = some (.cells (OHold.enc ⟨d, a1, a2⟩).toArray 34 (0, 0)) := heap_alloc_new w6 _
                  have hne9 : some w6.heap.size ≠ (Value.slice A5 xs.length c5).ownBlock := fun e => by
                    obtain ⟨inner, hown⟩ := Kd.R_own HO6.out
                    have := own_lt hown _ e.symm
                    omega
                  have hbs : wo.heap.size ≤ w6.heap.size := Nat.le_trans hBs.out.size HB6.out.size
                  refine (OHold.insert_R wo.heap.size (.slice A5 xs.length c5) xs ⟨d, a1, a2⟩ p w6.heap.size 1 _ (Kd.R_alloc HO6.out _) (Nat.le_trans hbs hl9) hle HXL.out hnew hne9).mono ?_
                  rintro e w7 ⟨v7, rfl, ho7, hb7⟩
                  have HO7 := Lib.hid ho7
                  have HB7 := Lib.hid ((below_alloc (below_step hBs.out HB6.out) (.cells (OHold.enc ⟨d, a1, a2⟩).toArray 34)).trans hb7)
                  clear ho7 hb7 hnew hne9 hl9
                  go_wp2_with fail
                  go_roundg (l3.length - (i + 1))
                  case measure => omega
                  case rel => exact ⟨i + 1, by omega, by omega, by go_num, by rw [HSN2.out]; exact HO7.out, HB7.out⟩
              · have hi2 : i = l3.length := by omega
                subst hi2
                have HO7 := Lib.hid (show Kd.R k34 34 wr wo.heap.size (fun _ => True) u17 (insAll a1 a2 l0 l3) by have := hO.out; rw [List.take_length] at this; exact this)
                go_wp2_with fail
                obtain ⟨rfl, h2⟩ : insAll a1 a2 l0 l3 = r1 ∧ (([] : List Int), true) = (r2, r3) := by have := HE2.out; simpa using this
                obtain ⟨rfl, rfl⟩ : ([] : List Int) = r2 ∧ true = r3 := by simpa using h2
                go_ret3
                exact ⟨_, _, rfl, Kd.R_V (Kd.R_mono (Kd.R_bound (Kd.R_lower HO7.out (show w.heap.size ≤ wo.heap.size by omega))) (fun k hk => ⟨Or.inr hk.2.1, by simp [Value.ownBlock]⟩)), Kd.R_nil _ _ _ _ _, HB5.out⟩
/-- what a transaction takes, or whom it wounds -/
def takeP (l0 : List S34) (a1 a2 : Int) (l3 : List ByteArray) : List S34 × List Int × Bool :=
  if badB a1 a2 l0 l3 = true then ([], [], false) else if (LTk1.stP a1 a2 l3 l0).1 = true then (insAll a1 a2 l0 l3, [], true) else (l0, (LTk1.stP a1 a2 l3 l0).2, false)
theorem takeP_is (l0 : List S34) (a1 a2 : Int) (l3 : List ByteArray) : (if badB a1 a2 l0 l3 = true then ([], [], false) else goodT l0 a1 a2 l3) = takeP l0 a1 a2 l3 := by
  unfold takeP goodT
  obtain ⟨h1, h2⟩ := LTk1.stW_is a1 a2 l3 l0
  rw [h1, h2]
def locks_Take.f (l0 : List S34) (a1 : Int) (a2 : Int) (l3 : List ByteArray) : Option (List S34 × List Int × Bool) :=
  if l0.length + l3.length ≤ 1000 ∧ l0.all wfB = true ∧ (Lit.int .i64 a1).wf = true ∧ (Lit.int .i64 a2).wf = true then some (takeP l0 a1 a2 l3) else none
theorem locks_Take.calls (P0_ : Nat → Prop) (A0 : Option Addr) (c0 : Nat) (l0 : List S34) (a1 : Int) (a2 : Int) (A3 : Option Addr) (c3 : Nat) (l3 : List ByteArray) (r1 : List S34) (r2 : List Int) (r3 : Bool) (w : World)
    (hs0 : Kd.V k34 34 w w.heap.size P0_ (.slice A0 l0.length c0) l0) (hr3 : Kd.C Kd.string w A3 l3.length l3) (hc3 : l3.length ≤ c3) (h : locks_Take.f l0 a1 a2 l3 = some (r1, r2, r3)) :
    Calls Try.prog 11 #[.slice A0 l0.length c0, .int .i64 a1, .int .i64 a2, .slice A3 l3.length c3] w fun e w' => ∃ v0_ v1_ : Value, e = .returned (.tuple #[v0_, v1_, .bool r3]) ∧ Kd.V k34 34 w' w.heap.size (fun k_ => (P0_ k_ ∨ w.heap.size ≤ k_) ∧ some k_ ≠ v1_.ownBlock) v0_ r1 ∧ Kd.R (Kd.int .i64) 2 w' w.heap.size (fun _ => True) v1_ r2 ∧ Below w.heap.size w w' := by
  unfold locks_Take.f at h
  split at h
  · next hh =>
    obtain ⟨h1, h2, h3, h4⟩ := hh
    exact take_walk P0_ A0 c0 l0 a1 a2 A3 c3 l3 w hs0 hr3 hc3 h1 h2 h3 (by have := wf_inv h3; omega) (by have := wf_inv h4; omega) r1 r2 r3 ((takeP_is l0 a1 a2 l3).trans (Option.some.inj h))
  · cases h
end Go.Proofs.Ytclomgbiomojjaa.LTake
-- GIVEN 11 LTake locks_Take ps=sl34:st:34;i64;i64;sl9:str rs=sl34:st:34;sl2:i64;bool rounds=0 making=1 share=0:0 res=0:V
