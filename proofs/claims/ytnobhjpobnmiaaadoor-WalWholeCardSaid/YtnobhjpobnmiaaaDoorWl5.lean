/- A log in memory: the walk of write's step. -/
import Derived.Test.YtnobhjpobnmiaaaDoorWl3
/- A log in memory: the walks of write, its step, steps. -/
namespace Go.Proofs.YtnobhjpobnmiaaaDoor.Wl
open Go Go.RowKit Go.Maps Go.Proofs Go.Proofs.YtnobhjpobnmiaaaDoor.Sk Go.Proofs.YtnobhjpobnmiaaaDoorW.PrintWords Go.Proofs.YtnobhjpobnmiaaaDoorW.PrintLast Go.Proofs.YtnobhjpobnmiaaaDoorW.PrintMore
set_option linter.unusedVariables false
set_option linter.unusedSimpArgs false

def pt (q : Nat) : Value := .pointer (some ⟨q, 0, none⟩)
/-- a step of 'steps': bytes written, a disk synced, Start's own -/
inductive St where
  | w (b d a : Nat)
  | s (p : Nat)
  | t (l o b : Nat)
def St.fn : St → Nat
  | .w _ _ _ => 49
  | .s _ => 33
  | .t _ _ _ => 37
def St.fr : St → Array Value
  | .w b d a => #[.pointer (some ⟨b, 0, none⟩), .pointer (some ⟨d, 0, none⟩), .pointer (some ⟨a, 0, none⟩)]
  | .s p => #[.pointer (some ⟨p, 0, none⟩)]
  | .t l o b => #[.pointer (some ⟨l, 0, none⟩), .pointer (some ⟨o, 0, none⟩), .pointer (some ⟨b, 0, none⟩)]
def St.val : St → Value
  | .w b d a => .func (.func 49) #[] #[.pointer (some ⟨b, 0, none⟩), .pointer (some ⟨d, 0, none⟩), .pointer (some ⟨a, 0, none⟩)]
  | .s p => .func (.func 33) #[.pointer (some ⟨p, 0, none⟩)] #[]
  | .t l o b => .func (.func 37) #[] #[.pointer (some ⟨l, 0, none⟩), .pointer (some ⟨o, 0, none⟩), .pointer (some ⟨b, 0, none⟩)]
/-- what steps do, one behind the other, up to the first error -/
def Run (o : Obj) (q : Nat) : List St → World → (Int → World → Prop) → Prop
  | [], w, Q => Q 0 w
  | f :: l, w, Q => w.heap[q]? = some o ∧ Calls Tryd.prog f.fn f.fr w fun e w' => ∃ r : Int, e = .returned (.int .i64 r) ∧ ((r = 0 ∧ Run o q l w' Q) ∨ (¬ r = 0 ∧ Q r w'))
section
variable {W W' w : World} {p g cap m : Nat} {s : D}
set_option maxHeartbeats 1000000 in
set_option maxRecDepth 100000 in
theorem write_fn (p : Nat) (a : Int) (A : Option Addr) (n c : Nat) (W : World) : Calls Tryd.prog 32 #[.pointer (some ⟨p, 0, none⟩), .int .i64 a, .slice A n c] W fun e w' =>
    e = .returned (.func (.func 49) #[] #[.pointer (some ⟨W.heap.size + 2, 0, none⟩), .pointer (some ⟨W.heap.size, 0, none⟩), .pointer (some ⟨W.heap.size + 1, 0, none⟩)]) ∧ w' = w3 W p a A n c := by
  have hw3 : w3 W p a A n c = ((W.alloc (.cells #[.pointer (some ⟨p, 0, none⟩)] 24)).alloc (.cells #[.int .i64 a] 3)).alloc (.cells #[.slice A n c] 22) := rfl
  rw [hw3]
  go_enter Tryd.func32, Tryd.ntmps32
  go_wp2_with fail
  go_ret
  exact ⟨by first | rfl | simp [size_alloc], rfl⟩
set_option maxHeartbeats 1000000 in
set_option maxRecDepth 100000 in
theorem steps_calls (q : Nat) (fs : List St) (hl : fs.length ≤ 100) (W : World) (Q : Int → World → Prop) (h : Run (.cells (fs.map St.val).toArray 64 (0, 0)) q fs W Q) :
    Calls Tryd.prog 31 #[.slice (some ⟨q, 0, none⟩) fs.length fs.length] W fun e w' => ∃ r : Int, e = .returned (.int .i64 r) ∧ Q r w' := by
  have H := Lib.hid h
  obtain ⟨n, hn⟩ : ∃ n, fs.length = n := ⟨_, rfl⟩
  rw [hn] at hl ⊢
  have HN := Lib.hid hn
  clear h hn
  go_enter Tryd.func31, Tryd.ntmps31
  go_wp2_with fail
  go_loopg [8] n (fun gg s8 wr => ∃ i : Nat, i ≤ n ∧ n - i ≤ gg ∧ s8 = .int .i64 i ∧ Hid (Run (.cells (fs.map St.val).toArray 64 (0, 0)) q (fs.drop i) wr Q))
  case atStart => exact ⟨0, Nat.zero_le _, by omega, rfl, H⟩
  case round =>
    obtain ⟨i, hi, hgg, rfl, HR⟩ := hrel
    by_cases hlt : i < n
    · have hltz : decide ((i : Int) < (n : Int)) = true := decide_eq_true (by omega)
      have hl2 : i < fs.length := by rw [HN.out]; exact hlt
      obtain ⟨f, hf⟩ : ∃ f, fs[i] = f := ⟨_, rfl⟩
      have hd : fs.drop i = f :: fs.drop (i + 1) := by rw [← hf]; exact (List.getElem_cons_drop ..).symm
      have hr := HR.out
      rw [hd] at hr
      obtain ⟨hblk, hc⟩ := hr
      have hcell : wr.cell? ⟨q, i, none⟩ = some f.val := by
        rw [show wr.cell? ⟨q, i, none⟩ = _ from rfl]
        unfold World.cell?
        simp [hblk, hl2, hf]
      have HC := Lib.hid hc
      clear hf hd hblk hc hl2
      cases f with
      | w b d a =>
        change wr.cell? _ = some (.func (.func 49) #[] #[.pointer (some ⟨b, 0, none⟩), .pointer (some ⟨d, 0, none⟩), .pointer (some ⟨a, 0, none⟩)]) at hcell
        go_wp2_with fail
        refine HC.out.mono ?_
        rintro e w' ⟨r, rfl, ⟨rfl, hr⟩ | ⟨hr0, hr⟩⟩
        · have HR2 := Lib.hid hr
          clear hr hcell
          go_wp2_with fail
          go_roundg (n - (i + 1))
          case measure => omega
          case rel => exact ⟨i + 1, by omega, by omega, by go_num, HR2⟩
        · have HR2 := Lib.hid hr
          clear hr hcell
          go_wp2_with fail
          go_ret
          exact ⟨r, rfl, HR2.out⟩
      | s p =>
        change wr.cell? _ = some (.func (.func 33) #[.pointer (some ⟨p, 0, none⟩)] #[]) at hcell
        go_wp2_with fail
        refine HC.out.mono ?_
        rintro e w' ⟨r, rfl, ⟨rfl, hr⟩ | ⟨hr0, hr⟩⟩
        · have HR2 := Lib.hid hr
          clear hr hcell
          go_wp2_with fail
          go_roundg (n - (i + 1))
          case measure => omega
          case rel => exact ⟨i + 1, by omega, by omega, by go_num, HR2⟩
        · have HR2 := Lib.hid hr
          clear hr hcell
          go_wp2_with fail
          go_ret
          exact ⟨r, rfl, HR2.out⟩
      | t l o b =>
        change wr.cell? _ = some (.func (.func 37) #[] #[.pointer (some ⟨l, 0, none⟩), .pointer (some ⟨o, 0, none⟩), .pointer (some ⟨b, 0, none⟩)]) at hcell
        go_wp2_with fail
        refine HC.out.mono ?_
        rintro e w' ⟨r, rfl, ⟨rfl, hr⟩ | ⟨hr0, hr⟩⟩
        · have HR2 := Lib.hid hr
          clear hr hcell
          go_wp2_with fail
          go_roundg (n - (i + 1))
          case measure => omega
          case rel => exact ⟨i + 1, by omega, by omega, by go_num, HR2⟩
        · have HR2 := Lib.hid hr
          clear hr hcell
          go_wp2_with fail
          go_ret
          exact ⟨r, rfl, HR2.out⟩
    · have hltz : decide ((i : Int) < (n : Int)) = false := decide_eq_false (by omega)
      have HF := Lib.hid (show Q 0 wr by
        have h := HR.out
        rw [List.drop_of_length_le (by rw [HN.out]; omega)] at h
        exact h)
      go_wp2_with fail
      go_ret
      exact ⟨0, rfl, HF.out⟩
end
end Go.Proofs.YtnobhjpobnmiaaaDoor.Wl
namespace Go.Proofs.YtnobhjpobnmiaaaDoor.Wl
open Go Go.RowKit Go.Maps Go.Proofs Go.Proofs.YtnobhjpobnmiaaaDoor.Sk Go.Proofs.YtnobhjpobnmiaaaDoorW.PrintWords Go.Proofs.YtnobhjpobnmiaaaDoorW.PrintLast Go.Proofs.YtnobhjpobnmiaaaDoorW.PrintMore
set_option linter.unusedVariables false
set_option linter.unusedSimpArgs false

/-- bytes written at a place; of none nothing is done -/
def wst (s : D) (k : Int) (x : By) : D × Int := if x.length = 0 then (s, 0) else s.write k x
section
variable {W W' w : World} {p g cap m : Nat} {s : D}
set_option maxHeartbeats 1000000 in
set_option maxRecDepth 100000 in
theorem w1_calls (h : SR W p g cap m s) (o : Ok s) (ha : s.acts ≤ 1000000000) {qa qb qd k c : Nat} {A : Option Addr} (x : By) (hc : Cap W p qa qb qd k A x.length c) (hx : CB W A x.length x) (hA : ∀ ad, A = some ad → 0 < x.length → ad.block ≠ p ∧ ad.block ≠ g ∧ ad.block ≠ m) :
    Calls Tryd.prog 49 #[.pointer (some ⟨qb, 0, none⟩), .pointer (some ⟨qd, 0, none⟩), .pointer (some ⟨qa, 0, none⟩)] W fun e w' => e = .returned (.int .i64 (wst s k x).2) ∧ SR w' p g cap m (wst s k x).1 ∧ Fr W w' p g m := by
  have HWR := Lib.hid (write_calls (c := c) h o ha (k : Int) x hx hA)
  have HS := Lib.hid h
  obtain ⟨n, hn⟩ : ∃ n, x.length = n := ⟨_, rfl⟩
  have hxl : (n : Int) ≤ 9223372036854775807 := by have := hx.2.1; rw [hn] at this; omega
  rw [hn] at HWR hc
  have c1 := (blk_cell hc.a 0).trans rfl
  have c2 := (blk_cell hc.b 0).trans rfl
  have c3 := (blk_cell hc.d 0).trans rfl
  have HW := Lib.hid (show (x.length = 0 ↔ n = 0) by rw [hn])
  clear h o ha hc hx hA hn
  rcases Nat.eq_zero_or_pos n with rfl | hp
  · have e : wst s (k : Int) x = (s, 0) := by unfold wst; rw [if_pos (HW.out.2 rfl)]
    have HE := Lib.hid e
    clear e
    go_enter Tryd.func49, Tryd.ntmps49
    go_wp2_with fail
    go_ret
    rw [HE.out]
    exact ⟨rfl, HS.out, Fr.refl _ _ _ _⟩
  · have e : wst s (k : Int) x = s.write (k : Int) x := by unfold wst; rw [if_neg (fun e => by have := HW.out.1 e; omega)]
    have HE := Lib.hid e
    have q : ¬ ((n : Int) = 0) := by omega
    clear e
    go_enter Tryd.func49, Tryd.ntmps49
    go_wp2_with (go_at_call 50; refine HWR.out.mono ?_; rintro e w' ⟨rfl, h1, h2⟩; have H1 := Lib.hid h1; have H2 := Lib.hid h2; clear h1 h2)
    go_ret
    rw [HE.out]
    exact ⟨rfl, H1.out, H2.out⟩
end
end Go.Proofs.YtnobhjpobnmiaaaDoor.Wl
