/- A log, without memory: with power all goes well; the live question's answers. -/
import Derived.Test.YtnobhjpobnmiaaaDoorWlQ
import Derived.Test.YtnobhjpobnmiaaaDoorWl15
namespace Go.Proofs.YtnobhjpobnmiaaaDoor.Wl
open Go Go.RowKit Go.Proofs.YtnobhjpobnmiaaaDoor.Sk
set_option linter.unusedVariables false
set_option linter.unusedSimpArgs false

/-- a disk that has power, and no fuse -/
structure Up (s : D) : Prop where
  down : s.down = false
  fuse : s.fuse = -1
theorem Up.off {s : D} (h : Up s) : s.off = false := by unfold D.off; rw [h.down, h.fuse]; rfl
theorem Up.did {s : D} (h : Up s) : s.did.fuse = -1 := by show tick s.fuse = -1; rw [h.fuse]; rfl
theorem up_write {s : D} (h : Up s) {a : Int} {x : By} (hw : Sk.within s.b.length a x.length = true) : (s.write a x).2 = 0 ∧ Up (s.write a x).1 := by
  unfold D.write
  rw [h.off, if_neg (by decide), if_pos hw]
  exact ⟨rfl, rfl, h.did⟩
theorem up_sync {s : D} (h : Up s) : s.sync.2 = 0 ∧ Up s.sync.1 := by
  unfold D.sync
  rw [h.off, if_neg (by decide)]
  exact ⟨rfl, rfl, h.did⟩
theorem within_nat {len a n : Nat} (h : a + n ≤ len) : Sk.within len (a : Int) (n : Int) = true := by unfold Sk.within; simp; omega
theorem up_wst {s : D} (h : Up s) {a : Nat} {x : By} (hw : a + x.length ≤ s.b.length) : (wst s (a : Int) x).2 = 0 ∧ Up (wst s (a : Int) x).1 := by
  unfold wst
  split
  · exact ⟨rfl, h⟩
  · exact up_write h (within_nat hw)
theorem up_thn {r : D × Int} {f : D → D × Int} (hr : r.2 = 0 ∧ Up r.1) (hf : Up r.1 → (f r.1).2 = 0 ∧ Up (f r.1).1) : (thn r f).2 = 0 ∧ Up (thn r f).1 := by
  unfold thn
  rw [if_pos hr.1]
  exact hf hr.2
theorem up_putD {s : D} (h : Up s) (o : Ok s) (a k : Nat) {b : By} (hb : ∀ y ∈ b, 0 ≤ y ∧ y ≤ 255) (hw : a + need b.length * 16 ≤ s.b.length) : (putD s a k b).2 = 0 ∧ Up (putD s a k b).1 := by
  have hn := need_pos b.length
  unfold putD
  have e1 := wst_len o ((a + 16 : Nat) : Int) (pad b)
  refine up_thn (up_wst h (by rw [pad_len]; omega)) (fun u1 => ?_)
  have e2 := (sync_len (wst s ((a + 16 : Nat) : Int) (pad b)).1).trans e1
  refine up_thn (up_sync u1) (fun u2 => ?_)
  refine up_thn (up_wst u2 (by rw [e2, hd_len]; omega)) (fun u3 => ?_)
  exact up_thn (up_sync u3) (fun u4 => ⟨rfl, u4⟩)
theorem up_startP {s : D} (h : Up s) (o : Ok s) (hl : 48 ≤ s.b.length) {a : Nat} (ha : a ≤ 1) {b : By} (hb : ∀ y ∈ b, 0 ≤ y ∧ y ≤ 255) (hn : need b.length ≤ half s.b.length) : (startP s a b).2 = 0 ∧ Up (startP s a b).1 := by
  have hbl := base_le ha hl
  unfold base at hbl
  unfold startP
  have e1 := wst_len o (((1 + a * half s.b.length + 0) * 16 : Nat) : Int) (zer (half s.b.length * 16))
  have o1 := wst_ok o (((1 + a * half s.b.length + 0) * 16 : Nat) : Int) (zer (half s.b.length * 16)) (zer_range _)
  refine up_thn (up_wst h (by rw [zer_len]; omega)) (fun u1 => ?_)
  have e2 := (putD_len o1 ((1 + a * half s.b.length + 0) * 16) 0 hb).trans e1
  refine up_thn (up_putD u1 o1 _ 0 hb (by rw [e1]; omega)) (fun u2 => ?_)
  refine up_thn (up_wst u2 (by rw [e2]; show 0 + 16 ≤ _; omega)) (fun u3 => ?_)
  exact up_thn (up_sync u3) (fun u4 => ⟨rfl, u4⟩)
/-- a record that has room is appended -/
theorem up_append {s : D} {G : LS} (h : Up s) (o : Ok s) (hl : 48 ≤ s.b.length) (ha : G.area ≤ 1) {b : By} (hb : ∀ y ∈ b, 0 ≤ y ∧ y ≤ 255) (hx : b.length ≤ 16384) (hn : need b.length + G.t ≤ half s.b.length) :
    (appendD s G b).2.1 = 0 ∧ Up (appendD s G b).1 ∧ Ok (appendD s G b).1 ∧ (appendD s G b).1.b.length = s.b.length ∧ (appendD s G b).1.acts ≤ s.acts + 4 ∧ (appendD s G b).2.2 = ⟨G.area, G.l ++ [b], G.t + need b.length⟩ := by
  have hbl := base_le ha hl
  unfold base at hbl
  have hp := up_putD h o ((1 + G.area * half s.b.length + G.t) * 16) G.l.length hb (by
    rw [Nat.add_mul (1 + G.area * half s.b.length) G.t 16]
    omega)
  unfold appendD
  rw [if_neg (by omega), if_neg (by omega)]
  refine ⟨hp.1, hp.2, putD_ok o _ _ hb, putD_len o _ _ hb, putD_acts _ _ _, ?_⟩
  show (if (putD s ((1 + G.area * half s.b.length + G.t) * 16) G.l.length b).2 = 0 then _ else _) = _
  rw [if_pos hp.1]
theorem append_full {s : D} {G : LS} {b : By} (hx : b.length ≤ 16384) (hn : half s.b.length < need b.length + G.t) : appendD s G b = (s, 51, G) := by
  unfold appendD
  rw [if_neg (by omega), if_pos (by omega)]
theorem start_full {s : D} {G : LS} {b : By} (hx : b.length ≤ 16384) (hn : half s.b.length < need b.length) : startD s G b = (s, 51, G) := by
  unfold startD
  rw [if_neg (by omega), if_pos (by omega)]
theorem up_start {s : D} {G : LS} (h : Up s) (o : Ok s) (hl : 48 ≤ s.b.length) (ha : G.area ≤ 1) {b : By} (hb : ∀ y ∈ b, 0 ≤ y ∧ y ≤ 255) (hx : b.length ≤ 16384) (hn : need b.length ≤ half s.b.length) :
    (startD s G b).2.1 = 0 ∧ Up (startD s G b).1 ∧ (startD s G b).2.2 = ⟨1 - G.area, [b], need b.length⟩ := by
  have hp := up_startP h o hl (a := 1 - G.area) (by omega) hb hn
  unfold startD
  rw [if_neg (by omega), if_neg (by omega)]
  refine ⟨hp.1, hp.2, ?_⟩
  show (if (startP s (1 - G.area) b).2 = 0 then _ else _) = _
  rw [if_pos hp.1]
theorem zer_sub (n o k : Nat) (h : o + k ≤ n) : sub (zer n) o k = zer k := by
  have e : (zer k).length = k := zer_len k
  have := sub_eq (b := zer n) (x := zer k) (o := o) (fun i hi => by rw [zer_get, zer_get, if_pos (by omega), if_pos (by omega)])
  rw [e] at this
  exact this
theorem half_16 (n : Nat) : half (n * 16) = (n - 1) / 2 := by unfold half; rw [Nat.mul_div_cancel _ (by decide)]
theorem made_good (n : Nat) (h : 3 ≤ n) : Good (zer (n * 16)) 0 [] 0 := by
  have e : (zer (n * 16)).length = n * 16 := zer_len _
  refine ⟨by rw [e]; omega, by decide, .inr ⟨rfl, zer_sub _ _ _ (by omega)⟩, Nat.zero_le _, ?_, fun ht => zer_sub _ _ _ ?_⟩
  · show Enc 0 [] (sub (zer (n * 16)) _ (0 * 16))
    have : sub (zer (n * 16)) (base (zer (n * 16)).length 0) (0 * 16) = [] := by unfold sub; simp
    rw [this]
    exact Enc.nil _
  · rw [e] at ht ⊢
    unfold base
    rw [half_16] at ht
    omega
theorem made_clean (n : Nat) (h : 3 ≤ n) : Clean (zer (n * 16)) 0 0 := by
  have e : (zer (n * 16)).length = n * 16 := zer_len _
  intro i h1 h2
  rw [zer_get, if_pos]
  rw [e] at h2
  have := base_le (n := n * 16) (a := 0) (by decide) (by omega)
  omega
/-- Open of what is right: nothing is done -/
theorem open_good {s : D} (hd : s.down = false) {a t : Nat} {l : List By} (h : Good s.b a l t) (hc : Clean s.b a t) (hb : s.b.length ≤ 65536) : openD s = (some ⟨a, l, t⟩, 0, s) := by
  have hs := h.scan hb
  exact openD_still hd (by have := h.len; omega) (signs_of h.sg h.a1) hs (clean_nz hc h.th h.a1 h.len)
end Go.Proofs.YtnobhjpobnmiaaaDoor.Wl
