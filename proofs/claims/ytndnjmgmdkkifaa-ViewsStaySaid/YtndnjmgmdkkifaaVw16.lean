/- Logs compared: the walks of Same, SameSaved, Same of letters, greatLog. -/
import Derived.Test.YtndnjmgmdkkifaaVw15
namespace Go.Proofs.Ytndnjmgmdkkifaa.Vw1
open Go Go.RowKit Go.Maps Go.Proofs Go.Proofs.Ytndnjmgmdkkifaa.New Go.Proofs.Ytndnjmgmdkkifaa.Vw Go.Proofs.Ytndnjmgmdkkifaa.Vw0 Go.Proofs.YtndnjmgmdkkifaaW.PrintWords Go.Proofs.YtndnjmgmdkkifaaW.PrintLast Go.Proofs.YtndnjmgmdkkifaaW.PrintMore
set_option linter.unusedVariables false
set_option linter.unusedSimpArgs false

theorem drew2 (w : World) (a b : Nat) : ∃ m, (w.drewN a).drewN b = w.drewN m := ⟨a + b, by simp⟩
theorem ba_eq {a b : ByteArray} (h : a.toList = b.toList) : a = b := by
  obtain ⟨x⟩ := a
  obtain ⟨y⟩ := b
  rw [ByteArray.toList_eq, ByteArray.toList_eq] at h
  congr
  exact Array.toList_inj.1 h
def eqL : Log → Log → Bool
  | [], [] => true
  | a :: x, b :: y => a.toList == b.toList && eqL x y
  | _, _ => false
theorem eqL_iff : ∀ (a b : Log), eqL a b = true ↔ a = b
  | [], [] => by simp [eqL]
  | [], _ :: _ => by simp [eqL]
  | _ :: _, [] => by simp [eqL]
  | a :: x, b :: y => by
    simp only [eqL, Bool.and_eq_true, beq_iff_eq, List.cons.injEq, eqL_iff x y]
    exact ⟨fun h => ⟨ba_eq h.1, h.2⟩, fun h => ⟨by rw [h.1], h.2⟩⟩
theorem eqL_len {a b : Log} (h : a.length ≠ b.length) : eqL a b = false := by
  cases e : eqL a b with
  | false => rfl
  | true => exact absurd (by rw [(eqL_iff a b).1 e]) h
theorem eqL_drop {a b : Log} (i : Nat) (h : i < a.length) (k : i < b.length) : eqL (a.drop i) (b.drop i) = (a[i].toList == b[i].toList && eqL (a.drop (i + 1)) (b.drop (i + 1))) := by
  rw [List.drop_eq_getElem_cons h, List.drop_eq_getElem_cons k]
  rfl
set_option maxHeartbeats 4000000 in
set_option maxRecDepth 100000 in
theorem same_calls {W : World} (A1 : Option Addr) (c1 : Nat) (a : Log) (A2 : Option Addr) (c2 : Nat) (b : Log) (h1 : Kd.C Kd.string W A1 a.length a) (h2 : Kd.C Kd.string W A2 b.length b) (ha : a.length ≤ 1000000) (hb : b.length ≤ 1000000) :
    Calls Try.prog 33 #[.slice A1 a.length c1, .slice A2 b.length c2] W fun e w' => e = .returned (.bool (eqL a b)) ∧ ∃ m, w' = W.drewN m := by
  have H1 := Lib.hid h1
  have H2 := Lib.hid h2
  clear h1 h2
  by_cases c : a.length = b.length
  · have g1 : ((a.length : Int) != (b.length : Int)) = false := by simp [c]
    have C := Lib.hid c
    clear c
    go_enter Try.func33, Try.ntmps33
    go_wp2_with fail
    go_loopg [5] (a.length) (fun gg s5 wr => ∃ i : Nat, i ≤ a.length ∧ a.length - i ≤ gg ∧ s5 = .int .i64 i ∧ Hid (eqL a b = eqL (a.drop i) (b.drop i)) ∧ ∃ m, wr = W.drewN m)
    case atStart => exact ⟨0, Nat.zero_le _, by omega, rfl, rfl, 0, rfl⟩
    case round =>
      clear g1
      obtain ⟨i, hi, hg, rfl, hE, ⟨m, rfl⟩⟩ := hrel
      by_cases hlt : i < a.length
      · have hltz : (i : Int) < (a.length : Int) := by omega
        have hlt2 : i < b.length := by have := C.out; omega
        have hltz2 : (i : Int) < (b.length : Int) := by omega
        obtain ⟨ad1, ea1, hx1⟩ := Kd.at_string H1.out (i : Int) (by omega) (by omega)
        obtain ⟨ad2, ea2, hx2⟩ := Kd.at_string H2.out (i : Int) (by omega) (by omega)
        have hrd1 : rdOf ByteArray.empty a (i : Int) = a[i] := by unfold rdOf; simp [hlt]
        have hrd2 : rdOf ByteArray.empty b (i : Int) = b[i] := by unfold rdOf; simp [hlt2]
        have hd := eqL_drop i hlt hlt2
        rw [hrd1] at hx1
        rw [hrd2] at hx2
        simp only [Int.toNat_natCast] at hx1 hx2
        obtain ⟨x, hx⟩ : ∃ x, a[i] = x := ⟨_, rfl⟩
        obtain ⟨y, hy⟩ : ∃ y, b[i] = y := ⟨_, rfl⟩
        rw [hx] at hx1 hd
        rw [hy] at hx2 hd
        have HD := Lib.hid hd
        clear hd hx hy hrd1 hrd2
        cases ea1
        cases ea2
        cases q : x.toList == y.toList with
        | true =>
          have q2 : (x.toList != y.toList) = false := by simpa using q
          have HD2 := Lib.hid (hE.out.trans (HD.out.trans (by rw [q, Bool.true_and])))
          clear HD
          go_wp2_with fail
          go_quiet (fail)
          go_wp2_with fail
          go_roundg (a.length - (i + 1))
          case measure => omega
          case rel => exact ⟨i + 1, by omega, by omega, by go_num, HD2, _, rfl⟩
        | false =>
          have q2 : (x.toList != y.toList) = true := by simpa using q
          have HD2 := Lib.hid (hE.out.trans (HD.out.trans (by rw [q, Bool.false_and])))
          clear HD
          go_wp2_with fail
          go_quiet (fail)
          go_wp2_with fail
          go_ret
          exact ⟨by rw [HD2.out]; rfl, by first | exact ⟨_, rfl⟩ | exact ⟨_, (World.drewN_drewN (w := W))⟩ | exact drew2 _ _ _⟩
      · have hi2 : i = a.length := by omega
        have HD2 := Lib.hid (hE.out.trans (show eqL (a.drop i) (b.drop i) = true by rw [List.drop_eq_nil_of_le (by omega), List.drop_eq_nil_of_le (by have := C.out; omega)]; rfl))
        have hnl : ¬ (i : Int) < (a.length : Int) := by omega
        clear hi2
        go_wp2_with fail
        go_ret
        exact ⟨by rw [HD2.out]; rfl, by first | exact ⟨_, rfl⟩ | exact ⟨_, (World.drewN_drewN (w := W))⟩ | exact drew2 _ _ _⟩
  · have g1 : ((a.length : Int) != (b.length : Int)) = true := by simp; omega
    have HE := Lib.hid (eqL_len c)
    clear c
    go_enter Try.func33, Try.ntmps33
    go_wp2_with fail
    go_ret
    exact ⟨by rw [HE.out]; rfl, 0, rfl⟩
/-! ### what is saved, compared -/
theorem Rd.C1 {W : World} {A : Option Addr} {n c : Nat} {l : Log} (h : Rd W (.slice A n c) l) : n = l.length ∧ Kd.C Kd.string W A l.length l := by
  obtain ⟨A2, c2, e, _, h2, _⟩ := h
  cases e
  exact ⟨rfl, h2⟩
def sameS (v1 n1 : Int) (l1 : Log) (v2 n2 : Int) (l2 : Log) : Bool := v1 == v2 && (n1 == n2 && eqL l1 l2)
set_option maxHeartbeats 4000000 in
set_option maxRecDepth 100000 in
theorem sameSaved_calls {W : World} (v1 n1 : Int) (A1 : Option Addr) (c1 : Nat) (l1 : Log) (v2 n2 : Int) (A2 : Option Addr) (c2 : Nat) (l2 : Log) (h1 : Kd.C Kd.string W A1 l1.length l1) (h2 : Kd.C Kd.string W A2 l2.length l2) (ha : l1.length ≤ 1000000) (hb : l2.length ≤ 1000000) :
    Calls Try.prog 20 #[.agg #[.int .i64 v1, .int .i64 n1, .slice A1 l1.length c1], .agg #[.int .i64 v2, .int .i64 n2, .slice A2 l2.length c2]] W fun e w' => e = .returned (.bool (sameS v1 n1 l1 v2 n2 l2)) ∧ Below W.heap.size W w' := by
  have HS := Lib.hid (fun W' (hw : Below W.heap.size W W') => same_calls A1 c1 l1 A2 c2 l2 (Kd.C_below h1 hw) (Kd.C_below h2 hw) ha hb)
  have HE := Lib.hid (show sameS v1 n1 l1 v2 n2 l2 = (v1 == v2 && (n1 == n2 && eqL l1 l2)) from rfl)
  clear h1 h2
  cases q1 : v1 == v2 with
  | false =>
    have HE2 := Lib.hid (HE.out.trans (by rw [q1, Bool.false_and]))
    clear HE
    go_enter Try.func20, Try.ntmps20
    go_wp2_with fail
    go_ret
    exact ⟨by rw [HE2.out]; rfl, below_alloc (below_alloc (Below.refl _ _) _) _⟩
  | true =>
    cases q2 : n1 == n2 with
    | false =>
      have HE2 := Lib.hid (HE.out.trans (by rw [q1, q2, Bool.false_and, Bool.and_false]))
      clear HE
      go_enter Try.func20, Try.ntmps20
      go_wp2_with fail
      go_ret
      exact ⟨by rw [HE2.out]; rfl, below_alloc (below_alloc (Below.refl _ _) _) _⟩
    | true =>
      have HE2 := Lib.hid (HE.out.trans (by rw [q1, q2, Bool.true_and, Bool.true_and]))
      clear HE
      go_enter Try.func20, Try.ntmps20
      go_wp2_with (go_at_call 33; refine (HS.out _ ?_).mono ?_; exact below_alloc (below_alloc (Below.refl _ _) _) _; rintro e w2 ⟨rfl, ⟨m, rfl⟩⟩)
      go_ret
      exact ⟨by rw [HE2.out]; rfl, pw_below_drewN (below_alloc (below_alloc (Below.refl _ _) _) _) _⟩
/-! ### letters, compared -/
def sameLt (a b : Ltr) : Bool := a.kind == b.kind && (a.view == b.view && (a.normal == b.normal && (a.len == b.len && (a.stays == b.stays && (eqL a.log b.log && (a.num == b.num && a.text.toList == b.text.toList))))))
set_option maxHeartbeats 4000000 in
set_option maxRecDepth 100000 in
theorem sameL_calls {W : World} (a b : Ltr) (A1 : Option Addr) (c1 : Nat) (A2 : Option Addr) (c2 : Nat) (h1 : Kd.C Kd.string W A1 a.log.length a.log) (h2 : Kd.C Kd.string W A2 b.log.length b.log) (ha : a.log.length ≤ 1000000) (hb : b.log.length ≤ 1000000) :
    Calls Try.prog 27 #[ltrV a A1 c1, ltrV b A2 c2] W fun e w' => e = .returned (.bool (sameLt a b)) ∧ Below W.heap.size W w' := by
  have HS := Lib.hid (fun W' (hw : Below W.heap.size W W') => same_calls A1 c1 a.log A2 c2 b.log (Kd.C_below h1 hw) (Kd.C_below h2 hw) ha hb)
  have HE := Lib.hid (show sameLt a b = (a.kind == b.kind && (a.view == b.view && (a.normal == b.normal && (a.len == b.len && (a.stays == b.stays && (eqL a.log b.log && (a.num == b.num && a.text.toList == b.text.toList))))))) from rfl)
  clear h1 h2
  unfold ltrV
  obtain ⟨k1, v1, n1, l1, e1, s1, m1, t1⟩ := a
  obtain ⟨k2, v2, n2, l2, e2, s2, m2, t2⟩ := b
  dsimp only at *
  have HB := Lib.hid (fun o1 o2 => below_alloc (below_alloc (Below.refl W.heap.size W) o1) o2)
  cases q0 : k1 == k2 with
  | false =>
    have HE2 := Lib.hid (HE.out.trans (by rw [q0]; simp : _ = false))
    clear HE
    go_enter Try.func27, Try.ntmps27
    go_wp2_with fail
    go_ret
    exact ⟨by rw [HE2.out]; rfl, HB.out _ _⟩
  | true =>
    cases q1 : v1 == v2 with
    | false =>
      have HE2 := Lib.hid (HE.out.trans (by rw [q0, q1]; simp : _ = false))
      clear HE
      go_enter Try.func27, Try.ntmps27
      go_wp2_with fail
      go_ret
      exact ⟨by rw [HE2.out]; rfl, HB.out _ _⟩
    | true =>
      cases q2 : n1 == n2 with
      | false =>
        have HE2 := Lib.hid (HE.out.trans (by rw [q0, q1, q2]; simp : _ = false))
        clear HE
        go_enter Try.func27, Try.ntmps27
        go_wp2_with fail
        go_ret
        exact ⟨by rw [HE2.out]; rfl, HB.out _ _⟩
      | true =>
        cases q3 : e1 == e2 with
        | false =>
          have HE2 := Lib.hid (HE.out.trans (by rw [q0, q1, q2, q3]; simp : _ = false))
          clear HE
          go_enter Try.func27, Try.ntmps27
          go_wp2_with fail
          go_ret
          exact ⟨by rw [HE2.out]; rfl, HB.out _ _⟩
        | true =>
          cases q4 : s1 == s2 with
          | false =>
            have HE2 := Lib.hid (HE.out.trans (by rw [q0, q1, q2, q3, q4]; simp : _ = false))
            clear HE
            go_enter Try.func27, Try.ntmps27
            go_wp2_with fail
            go_ret
            exact ⟨by rw [HE2.out]; rfl, HB.out _ _⟩
          | true =>
            cases q5 : eqL l1 l2 with
            | false =>
              have HE2 := Lib.hid (HE.out.trans (by rw [q0, q1, q2, q3, q4, q5]; simp : _ = false))
              clear HE
              rw [q5] at HS
              clear q5
              go_enter Try.func27, Try.ntmps27
              go_wp2_with (go_at_call 33; refine (HS.out _ ?_).mono ?_; exact HB.out _ _; rintro e w2 ⟨rfl, ⟨m, rfl⟩⟩)
              go_ret
              exact ⟨by rw [HE2.out]; rfl, pw_below_drewN (HB.out _ _) _⟩
            | true =>
              cases q6 : m1 == m2 with
              | false =>
                have HE2 := Lib.hid (HE.out.trans (by rw [q0, q1, q2, q3, q4, q5, q6]; simp : _ = false))
                clear HE
                rw [q5] at HS
                clear q5
                go_enter Try.func27, Try.ntmps27
                go_wp2_with (go_at_call 33; refine (HS.out _ ?_).mono ?_; exact HB.out _ _; rintro e w2 ⟨rfl, ⟨m, rfl⟩⟩)
                go_ret
                exact ⟨by rw [HE2.out]; rfl, pw_below_drewN (HB.out _ _) _⟩
              | true =>
                cases q7 : t1.toList == t2.toList with
                | false =>
                  have HE2 := Lib.hid (HE.out.trans (by rw [q0, q1, q2, q3, q4, q5, q6, q7]; simp : _ = false))
                  clear HE
                  rw [q5] at HS
                  clear q5
                  go_enter Try.func27, Try.ntmps27
                  go_wp2_with (go_at_call 33; refine (HS.out _ ?_).mono ?_; exact HB.out _ _; rintro e w2 ⟨rfl, ⟨m, rfl⟩⟩)
                  go_ret
                  exact ⟨by rw [HE2.out]; rfl, pw_below_drewN (HB.out _ _) _⟩
                | true =>
                  have HE2 := Lib.hid (HE.out.trans (by rw [q0, q1, q2, q3, q4, q5, q6, q7]; simp : _ = true))
                  clear HE
                  rw [q5] at HS
                  clear q5
                  go_enter Try.func27, Try.ntmps27
                  go_wp2_with (go_at_call 33; refine (HS.out _ ?_).mono ?_; exact HB.out _ _; rintro e w2 ⟨rfl, ⟨m, rfl⟩⟩)
                  go_ret
                  exact ⟨by rw [HE2.out]; rfl, pw_below_drewN (HB.out _ _) _⟩
end Go.Proofs.Ytndnjmgmdkkifaa.Vw1
