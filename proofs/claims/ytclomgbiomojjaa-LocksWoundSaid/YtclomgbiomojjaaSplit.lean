/- The walk of path.Split: a path's parts, by a plain function of its bytes. -/
import Derived.Test.YtclomgbiomojjaaRune
import Derived.Test.YtclomgbiomojjaaWWords
import Derived.Test.YtclomgbiomojjaaWLast
import Derived.OwnWalk
import Derived.ScopeJumps
import Derived.LoopTactic
namespace Go.Proofs.Ytclomgbiomojjaa.Split
open Go Go.RowKit Go.Shelf Go.Proofs Go.Proofs.Ytclomgbiomojjaa.Rune Go.Proofs.YtclomgbiomojjaaW.PrintWords

/-- the part in front of a text, up to a slash -/
def seg : List UInt8 → List UInt8
  | [] => []
  | c :: l => if c = 47 then [] else c :: seg l
/-- what stands behind it -/
def tl : List UInt8 → List UInt8
  | [] => []
  | c :: l => if c = 47 then c :: l else tl l
theorem tl_le (l : List UInt8) : (tl l).length ≤ l.length := by
  induction l with
  | nil => exact Nat.le_refl _
  | cons c l ih => unfold tl; split <;> simp <;> omega
/-- path.Split's loop, on from here -/
def cont : Nat → List UInt8 → List (List UInt8) → Option (List (List UInt8))
  | 0, _, _ => none
  | _ + 1, [], o => if o = [] then none else some o
  | k + 1, c :: r, o => if c = 47 then (if o.length = 6 then none else if partL (seg r) = true then cont k (tl r) (o ++ [seg r]) else none) else none
def splitL (l : List UInt8) : Option (List (List UInt8)) := if l = [47] then some [] else cont (l.length + 1) l []

def B (l : List UInt8) : ByteArray := ⟨l.toArray⟩
def L (b : ByteArray) : List UInt8 := b.data.toList
theorem LB (l : List UInt8) : L (B l) = l := rfl
theorem BL (b : ByteArray) : B (L b) = b := rfl
def path_Split.f (a0 : ByteArray) : Option (List ByteArray × Bool) :=
  match splitL (L a0) with
  | some l => some (l.map B, true)
  | none => some ([], false)

theorem seg_tl (l : List UInt8) : seg l ++ tl l = l := by
  induction l with
  | nil => rfl
  | cons c l ih => unfold seg tl; split <;> simp [ih]
theorem index_seg (l : List UInt8) : Lib.indexByte l 47 = if tl l = [] then -1 else ((seg l).length : Int) := by
  induction l with
  | nil => rfl
  | cons c l ih =>
    unfold Lib.indexByte seg tl
    by_cases h : c = 47
    · simp [h]
    · have h1 : (c == 47) = false := beq_eq_false_iff_ne.2 h
      simp only [h1, h, if_false, Bool.false_eq_true, ih]
      by_cases h2 : tl l = []
      · simp [h2]
      · have : (((seg l).length : Int) == -1) = false := by rw [beq_eq_false_iff_ne]; omega
        simp [h2, this]

theorem cut_no (s : ByteArray) (w : World) (h : Lib.hasPrefix (L s) [47] = false) :
    Calls Try.prog 54 #[.string s, .string ⟨#[47]⟩] w fun e w' => e = .returned (.tuple #[.string (B (Lib.trimPrefix (L s) [47])), .bool false]) ∧ w = w' := by
  refine (Try.strings_CutPrefix s ⟨#[47]⟩ w).mono ?_
  rintro e w' ⟨rfl, rfl⟩
  refine ⟨?_, rfl⟩
  show Ending.returned (.tuple #[_, .bool (Lib.hasPrefix (L s) [47])]) = _
  rw [h]; rfl
theorem cut_yes (s R : ByteArray) (w : World) (h : L s = 47 :: L R) :
    Calls Try.prog 54 #[.string s, .string ⟨#[47]⟩] w fun e w' => e = .returned (.tuple #[.string R, .bool true]) ∧ w = w' := by
  refine (Try.strings_CutPrefix s ⟨#[47]⟩ w).mono ?_
  rintro e w' ⟨rfl, rfl⟩
  refine ⟨?_, rfl⟩
  have h1 : Lib.hasPrefix s.data.toList [47] = true := by
    show Lib.hasPrefix (L s) [47] = true
    rw [h]; simp [Lib.hasPrefix]
  have h2 : (⟨(Lib.trimPrefix s.data.toList [47]).toArray⟩ : ByteArray) = R := by
    show B (Lib.trimPrefix (L s) [47]) = R
    rw [h]; simp [Lib.trimPrefix, Lib.hasPrefix, BL]
  show Ending.returned (.tuple #[.string ⟨(Lib.trimPrefix s.data.toList [47]).toArray⟩, .bool (Lib.hasPrefix s.data.toList [47])]) = _
  rw [h1, h2]
theorem index_is (R : ByteArray) (n : Int) (h : (if tl (L R) = [] then -1 else ((seg (L R)).length : Int)) = n) (w : World) :
    Calls Try.prog 55 #[.string R, .int .u8 47] w fun e w' => e = .returned (.int .i64 n) ∧ w = w' := by
  refine (Try.strings_IndexByte R 47 w).mono ?_
  rintro e w' ⟨rfl, rfl⟩
  rw [← h, ← index_seg]
  exact ⟨rfl, rfl⟩
theorem part_is (p : ByteArray) (b : Bool) (h : partL (L p) = b) (w : World) :
    Calls Try.prog 56 #[.string p] w fun e w' => e = .returned (.bool b) ∧ Below w.heap.size w w' := by
  rw [← h]; exact part_calls p w

theorem info_string : (Try.prog.info? 9).map (fun i => (i.zero, i.size, i.bytes)) = some (some (.string ⟨#[]⟩), 1, 16) := by kernel_rfl

/-- what holds at each round's head -/
def Inv (w : World) (C : Option (List (List UInt8))) (p : ByteArray) (o : Value) (wr : World) : Prop :=
  ∃ (outs : List ByteArray) (k : Nat), cont k (L p) (outs.map L) = C ∧ (L p).length < k ∧ outs.length ≤ 6 ∧ Kd.R Kd.string 9 wr w.heap.size (fun _ => True) o outs ∧ Below w.heap.size w wr
def sizeIn : Value → Nat
  | .string s => s.size
  | _ => 0
def Post (w : World) (s : ByteArray) (e : Ending) (w' : World) : Prop :=
  ∃ (v : Value) (outs : List ByteArray) (b : Bool), e = .returned (.tuple #[v, .bool b]) ∧ path_Split.f s = some (outs, b) ∧ Kd.R Kd.string 9 w' w.heap.size (fun _ => True) v outs ∧ Below w.heap.size w w'
theorem post_none {w w' : World} {s : ByteArray} (h : splitL (L s) = none) (hb : Below w.heap.size w w') : Post w s (.returned (.tuple #[.slice none 0 0, .bool false])) w' :=
  ⟨_, [], false, rfl, by unfold path_Split.f; rw [h], Kd.R_nil _ _ _ _ _, hb⟩
theorem post_some {w w' : World} {s : ByteArray} {v : Value} {outs : List ByteArray} (h : splitL (L s) = some (outs.map L)) (hr : Kd.R Kd.string 9 w' w.heap.size (fun _ => True) v outs) (hb : Below w.heap.size w w') : Post w s (.returned (.tuple #[v, .bool true])) w' :=
  ⟨_, outs, true, rfl, by unfold path_Split.f; rw [h]; simp [List.map_map, Function.comp_def, BL], hr, hb⟩
def jump (w : World) (C : Option (List (List UInt8))) : Act → World → Prop :=
  fun a' w' => (∃ u0 u1 u2 u3 u4 u5 u6 u7 u8 u9 u10 u11 u12 u13 u14 u15 u16 u17 u18 u19 u20 u21 u22 u23 u24 u25 u26 u27 u28 u29 u30 u31 u32 u33 u34 u35 u36 u37 u38 u39 u40 u41 u42 u43 u44 u45 u46 u47 : Value, a' = { tmps := #[u0, u1, u2, u3, u4, u5, u6, u7, u8, u9, u10, u11, u12, u13, u14, u15, u16, u17, u18, u19, u20, u21, u22, u23, u24, u25, u26, u27, u28, u29, u30, u31, u32, u33, u34, u35, u36, u37, u38, u39, u40, u41, u42, u43, u44, u45, u46, u47], defers := [] }) ∧ Hid (C = none) ∧ Hid (Below w.heap.size w w')

set_option maxRecDepth 100000 in
theorem split_other (s : ByteArray) (w : World) (h1 : L s ≠ [47]) : Calls Try.prog 42 #[.string s] w (Post w s) := by
  have hC : splitL (L s) = cont ((L s).length + 1) (L s) [] := by unfold splitL; rw [if_neg h1]
  have g1 : (s.toList == [47]) = false := by
    rw [beq_eq_false_iff_ne, ByteArray.toList_eq]; exact h1
  obtain ⟨C, hC2⟩ : ∃ C, cont ((L s).length + 1) (L s) [] = C := ⟨_, rfl⟩
  have HC := Lib.hid (hC.trans hC2)
  have H0 : Inv w C s (.slice none 0 0) w := ⟨[], (L s).length + 1, hC2, by omega, by simp, Kd.R_nil _ _ _ _ _, Below.refl _ _⟩
  clear hC hC2 h1
  go_enter Try.func42, Try.ntmps42
  go_wp2_with fail
  refine wp_scope_jumps 0 (jump w C) (fun _ _ => 0) rfl ?_ ?_
  · go_wp2_with fail
    go_loopw [0, 4] (fun p o wr => ∃ pb : ByteArray, p = .string pb ∧ Inv w C pb o wr) (fun p _ _ => sizeIn p)
    case atStart => exact ⟨s, rfl, H0⟩
    case round =>
      clear H0
      obtain ⟨pb, rfl, outs, k, hc, hk, h6, ho, hb⟩ := hrel
      obtain ⟨A, c, ho2⟩ := Kd.R_slice ho
      subst ho2
      obtain ⟨k, rfl⟩ : ∃ m, k = m + 1 := ⟨k - 1, by omega⟩
      have HO := Lib.hid ho
      have HB := Lib.hid hb
      clear ho hb
      cases hL : L pb with
      | nil =>
        rw [hL] at hc hk
        have e1 : pb.toList = [] := by rw [ByteArray.toList_eq]; exact hL
        by_cases hz : outs = []
        · have HN : Hid (C = none) := by rw [← hc, hz]; exact rfl
          clear hc hL hk
          subst hz
          go_wp2_with fail
          go_step3
          go_wp2_with fail
          simp only [Exit.jump]
          go_ret2
          exact post_none (HC.out.trans HN.out) HB.out
        · have HN : Hid (C = some (outs.map L)) := by
            rw [← hc]
            show (if outs.map L = [] then none else some (outs.map L)) = _
            rw [if_neg (by simpa using hz)]
          have hz2 : 0 < outs.length := List.length_pos_iff.2 hz
          clear hc hL hk hz
          go_wp2_with fail
          simp only [Exit.jump]
          go_ret2
          exact post_some (HC.out.trans HN.out) HO.out HB.out
      | cons c r =>
        rw [hL] at hc hk
        have e1 : ¬ pb.toList = [] := by rw [ByteArray.toList_eq]; intro h; rw [show L pb = pb.data.toList from rfl, h] at hL; cases hL
        have e2 : pb.toList.isEmpty = false := by simpa using e1
        by_cases h47 : c = 47
        · subst h47
          obtain ⟨R, hR⟩ : ∃ R : ByteArray, L R = r := ⟨B r, rfl⟩
          subst hR
          have hcut := cut_yes pb R
          have HCUT := Lib.hid (fun w => hcut w hL)
          clear hcut
          have hszp : pb.size = (L R).length + 1 := by
            have : (L pb).length = pb.size := by simp [L]
            rw [← this, hL]; rfl
          have HSZ := Lib.hid hszp
          clear hszp
          by_cases h6' : outs.length = 6
          · have HN : Hid (C = none) := by
              rw [← hc]
              show (if (47 : UInt8) = 47 then (if (outs.map L).length = 6 then none else _) else none) = none
              rw [if_pos rfl, if_pos (show (outs.map L).length = 6 by simpa using h6')]
            have g6 : ((outs.length : Int) == 6) = true := by rw [beq_iff_eq]; omega
            clear hc hL hk h6'
            go_wp2_with fail
            refine (HCUT.out _).mono ?_
            rintro e w' ⟨rfl, rfl⟩
            go_wp2_with fail
            go_step3
            show 0 = 0 ∧ jump w C _ _
            exact ⟨rfl, ⟨_, _, _, _, _, _, _, _, _, _, _, _, _, _, _, _, _, _, _, _, _, _, _, _, _, _, _, _, _, _, _, _, _, _, _, _, _, _, _, _, _, _, _, _, _, _, _, _, rfl⟩, HN, HB⟩
          · have g6 : ((outs.length : Int) == 6) = false := by rw [beq_eq_false_iff_ne]; omega
            have hc2 : (if partL (seg (L R)) = true then cont k (tl (L R)) (outs.map L ++ [seg (L R)]) else none) = C := by
              rw [← hc]
              show _ = (if (47 : UInt8) = 47 then (if (outs.map L).length = 6 then none else _) else none)
              rw [if_pos rfl, if_neg (show ¬ (outs.map L).length = 6 by simpa using h6')]
            have HC2 := Lib.hid hc2
            have hk2 : (L R).length < k := by simpa using hk
            have h62 : outs.length < 6 := by omega
            clear hc hL hk h6' hc2 h6
            have hsr : (L R).length = R.size := by simp [L]
            by_cases T : tl (L R) = []
            · have hI := fun w => index_is R (-1) (by rw [if_pos T]) w
              have HI := Lib.hid hI
              have hst := seg_tl (L R)
              rw [T, List.append_nil] at hst
              have HST := Lib.hid hst
              have HT := Lib.hid T
              clear hI hst T hsr
              go_wp2_with fail
              refine (HCUT.out _).mono ?_
              rintro e w' ⟨rfl, rfl⟩
              go_wp2_with fail
              refine (HI.out _).mono ?_
              rintro e w' ⟨rfl, rfl⟩
              have HSEG : Hid (L R = seg (L R)) := HST.out.symm
              have HNXT : Hid (L ByteArray.empty = tl (L R)) := by
                rw [HT.out]
                rfl
              have HPF : Hid True := trivial
              cases hp : partL (seg (L R)) with
              | false =>
                have hN0 : C = none := by
                  have := HC2.out
                  rw [hp] at this
                  simpa using this.symm
                have HN := Lib.hid hN0
                clear hN0
                clear HPF
                have HPF := Lib.hid hp
                clear hp
                go_wp2_with fail
                refine (part_is R false (by rw [HSEG.out]; exact HPF.out) _).mono ?_
                rintro e w2 ⟨rfl, hb2⟩
                have HB2 := Lib.hid ((HB.out).trans (hb2.mono HB.out.size))
                clear hb2
                go_wp2_with fail
                go_step3
                show 0 = 0 ∧ jump w C _ _
                exact ⟨rfl, ⟨_, _, _, _, _, _, _, _, _, _, _, _, _, _, _, _, _, _, _, _, _, _, _, _, _, _, _, _, _, _, _, _, _, _, _, _, _, _, _, _, _, _, _, _, _, _, _, _, rfl⟩, HN, HB2⟩
              | true =>
                have hN0 : cont k (tl (L R)) (outs.map L ++ [seg (L R)]) = C := by
                  have := HC2.out
                  rw [hp] at this
                  simpa using this
                have HC3 := Lib.hid hN0
                clear hN0
                have HPT := Lib.hid hp
                clear hp HC2
                go_wp2_with fail
                refine (part_is R true (by rw [HSEG.out]; exact HPT.out) _).mono ?_
                rintro e w2 ⟨rfl, hb2⟩
                have HB2 := Lib.hid ((HB.out).trans (hb2.mono HB.out.size))
                have HO2 := Lib.hid (Kd.R_below HO.out hb2)
                clear hb2 HO HB
                go_wp2_with (at_builtin; refine Kd.R_append Kd.string (w0 := w) w.heap.size rfl (.tmp 35) (.tmp 39) 23 9 (.string ⟨#[]⟩) 16 rfl Try.underlying23 info_string rfl (by decide) (by omega) (.slice A outs.length c) outs R [.string R] (fun _ => True) (fun _ => False) rfl rfl ?aP (fun _ hk => hk.elim) ?aF ?aO ?aB ?aS ?aL ?_)
                case aP => exact rfl
                case aF => exact (fun _ _ => trivial)
                case aO => exact HO2.out
                case aB => exact HB2.out
                case aS => exact HB2.out.size
                case aL => omega
                intro v1 w3 ho hb hg hat
                have HO3 := Lib.hid ho
                have HB3 := Lib.hid hb
                clear ho hb hg hat HO2 HB2
                go_wp2_with fail
                go_roundw
                case rel =>
                  refine ⟨ByteArray.empty, rfl, outs ++ [R], k, ?_, ?_, by simp; omega, HO3.out, HB3.out⟩
                  · rw [HNXT.out, List.map_append, List.map_cons, List.map_nil]; exact (congrArg (fun z => cont k (tl (L R)) (outs.map L ++ [z])) HSEG.out).trans HC3.out
                  · rw [HNXT.out]; exact Nat.lt_of_le_of_lt (tl_le _) hk2
                case measure =>
                  have h1 := congrArg List.length HNXT.out
                  have h2 := tl_le (L R)
                  have h3 : (L (ByteArray.empty)).length = (ByteArray.empty).size := by simp [L]
                  have h4 := HSZ.out
                  show (ByteArray.empty).size < pb.size
                  omega
            · obtain ⟨n, hn⟩ : ∃ n, (seg (L R)).length = n := ⟨_, rfl⟩
              have hI := fun w => index_is R (n : Int) (by rw [if_neg T, hn]) w
              have HI := Lib.hid hI
              have hst := seg_tl (L R)
              have hle : n ≤ R.size := by
                have := congrArg List.length hst
                rw [List.length_append, hn, hsr] at this
                omega
              have hs1 : L (R.extract 0 n) = seg (L R) := by
                have h1 : L (R.extract 0 n) = (L R).take n := by simp [L]
                have h2 : (seg (L R) ++ tl (L R)).take n = seg (L R) := List.take_left' hn
                rw [hst] at h2
                exact h1.trans h2
              have HSEG := Lib.hid hs1
              have hs2 : L (R.extract n R.size) = tl (L R) := by
                have h1 : L (R.extract n R.size) = (L R).drop n := Lib.extract_to_end ..
                have h2 : (seg (L R) ++ tl (L R)).drop n = tl (L R) := List.drop_left' hn
                rw [hst] at h2
                exact h1.trans h2
              have HNXT := Lib.hid hs2
              have HPF : Hid True := trivial
              clear hI hst T hsr hn hs1 hs2
              go_wp2_with fail
              refine (HCUT.out _).mono ?_
              rintro e w' ⟨rfl, rfl⟩
              go_wp2_with fail
              refine (HI.out _).mono ?_
              rintro e w' ⟨rfl, rfl⟩
              cases hp : partL (seg (L R)) with
              | false =>
                have hN0 : C = none := by
                  have := HC2.out
                  rw [hp] at this
                  simpa using this.symm
                have HN := Lib.hid hN0
                clear hN0
                clear HPF
                have HPF := Lib.hid hp
                clear hp
                go_wp2_with fail
                refine (part_is (R.extract 0 n) false (by rw [HSEG.out]; exact HPF.out) _).mono ?_
                rintro e w2 ⟨rfl, hb2⟩
                have HB2 := Lib.hid ((HB.out).trans (hb2.mono HB.out.size))
                clear hb2
                go_wp2_with fail
                go_step3
                show 0 = 0 ∧ jump w C _ _
                exact ⟨rfl, ⟨_, _, _, _, _, _, _, _, _, _, _, _, _, _, _, _, _, _, _, _, _, _, _, _, _, _, _, _, _, _, _, _, _, _, _, _, _, _, _, _, _, _, _, _, _, _, _, _, rfl⟩, HN, HB2⟩
              | true =>
                have hN0 : cont k (tl (L R)) (outs.map L ++ [seg (L R)]) = C := by
                  have := HC2.out
                  rw [hp] at this
                  simpa using this
                have HC3 := Lib.hid hN0
                clear hN0
                have HPT := Lib.hid hp
                clear hp HC2
                go_wp2_with fail
                refine (part_is (R.extract 0 n) true (by rw [HSEG.out]; exact HPT.out) _).mono ?_
                rintro e w2 ⟨rfl, hb2⟩
                have HB2 := Lib.hid ((HB.out).trans (hb2.mono HB.out.size))
                have HO2 := Lib.hid (Kd.R_below HO.out hb2)
                clear hb2 HO HB
                go_wp2_with (at_builtin; refine Kd.R_append Kd.string (w0 := w) w.heap.size rfl (.tmp 35) (.tmp 39) 23 9 (.string ⟨#[]⟩) 16 rfl Try.underlying23 info_string rfl (by decide) (by omega) (.slice A outs.length c) outs (R.extract 0 n) [.string (R.extract 0 n)] (fun _ => True) (fun _ => False) rfl rfl ?aP (fun _ hk => hk.elim) ?aF ?aO ?aB ?aS ?aL ?_)
                case aP => exact rfl
                case aF => exact (fun _ _ => trivial)
                case aO => exact HO2.out
                case aB => exact HB2.out
                case aS => exact HB2.out.size
                case aL => omega
                intro v1 w3 ho hb hg hat
                have HO3 := Lib.hid ho
                have HB3 := Lib.hid hb
                clear ho hb hg hat HO2 HB2
                go_wp2_with fail
                go_roundw
                case rel =>
                  refine ⟨(R.extract n R.size), rfl, outs ++ [(R.extract 0 n)], k, ?_, ?_, by simp; omega, HO3.out, HB3.out⟩
                  · rw [HNXT.out, List.map_append, List.map_cons, List.map_nil]; exact (congrArg (fun z => cont k (tl (L R)) (outs.map L ++ [z])) HSEG.out).trans HC3.out
                  · rw [HNXT.out]; exact Nat.lt_of_le_of_lt (tl_le _) hk2
                case measure =>
                  have h1 := congrArg List.length HNXT.out
                  have h2 := tl_le (L R)
                  have h3 : (L ((R.extract n R.size))).length = ((R.extract n R.size)).size := by simp [L]
                  have h4 := HSZ.out
                  show ((R.extract n R.size)).size < pb.size
                  omega
        · have HN : Hid (C = none) := by
            rw [← hc]
            show (if c = 47 then _ else none) = none
            rw [if_neg h47]
          have hp : Lib.hasPrefix (L pb) [47] = false := by rw [hL]; simp [Lib.hasPrefix, List.isPrefixOf]; exact fun h => h47 h.symm
          clear hc hL hk h47
          have HP := Lib.hid hp
          clear hp
          go_wp2_with fail
          refine (cut_no pb _ HP.out).mono ?_
          rintro e w' ⟨rfl, rfl⟩
          go_wp2_with fail
          go_step3
          show 0 = 0 ∧ jump w C _ _
          exact ⟨rfl, ⟨_, _, _, _, _, _, _, _, _, _, _, _, _, _, _, _, _, _, _, _, _, _, _, _, _, _, _, _, _, _, _, _, _, _, _, _, _, _, _, _, _, _, _, _, _, _, _, _, rfl⟩, HN, HB⟩
  · rintro a' w' ⟨⟨u0, u1, u2, u3, u4, u5, u6, u7, u8, u9, u10, u11, u12, u13, u14, u15, u16, u17, u18, u19, u20, u21, u22, u23, u24, u25, u26, u27, u28, u29, u30, u31, u32, u33, u34, u35, u36, u37, u38, u39, u40, u41, u42, u43, u44, u45, u46, u47, rfl⟩, HN, HB⟩
    go_wp2_with fail
    try go_step3
    go_wp2_with fail
    simp only [Exit.jump]
    go_ret2
    exact post_none (HC.out.trans HN.out) HB.out

set_option maxRecDepth 100000 in
theorem split_root (w : World) : Calls Try.prog 42 #[.string ⟨#[47]⟩] w (Post w ⟨#[47]⟩) := by
  go_enter Try.func42, Try.ntmps42
  go_wp2_with fail
  refine wp_scope_jumps 0 (fun _ _ => False) (fun _ _ => 0) rfl ?_ ?_
  · go_wp2_with fail
    simp only [Exit.jump]
    go_ret2
    exact ⟨_, [], true, rfl, rfl, Kd.R_nil _ _ _ _ _, Below.refl _ _⟩
  · rintro a' w' h
    exact h.elim

theorem path_Split.calls (a0 : ByteArray) (r1 : List ByteArray) (r2 : Bool) (w : World) (h : path_Split.f a0 = some (r1, r2)) :
    Calls Try.prog 42 #[.string a0] w fun e w' => ∃ v0_ : Value, e = .returned (.tuple #[v0_, .bool r2]) ∧ Kd.R Kd.string 9 w' w.heap.size (fun _ => True) v0_ r1 ∧ Below w.heap.size w w' := by
  have key : Calls Try.prog 42 #[.string a0] w (Post w a0) := by
    by_cases h1 : L a0 = [47]
    · have : a0 = ⟨#[47]⟩ := by rw [← BL a0, h1]; rfl
      rw [this]; exact split_root w
    · exact split_other a0 w h1
  refine key.mono ?_
  rintro e w' ⟨v, outs, b, rfl, hf, hr, hb⟩
  rw [h] at hf
  cases hf
  exact ⟨v, rfl, hr, hb⟩
def path_part.f (a0 : ByteArray) : Option Bool := some (partL (L a0))
theorem path_part.calls (a0 : ByteArray) (r : Bool) (w : World) (h : path_part.f a0 = some r) :
    Calls Try.prog 56 #[.string a0] w fun e w' => e = .returned (.bool r) ∧ Below w.heap.size w w' := by
  cases h; exact part_calls a0 w
end Go.Proofs.Ytclomgbiomojjaa.Split
-- GIVEN 42 Split path_Split ps=str rs=sl9:str;bool rounds=0 making=1
-- GIVEN 56 Split path_part ps=str rs=bool rounds=0 making=1
