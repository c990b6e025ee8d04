/- A log in memory: bytes.Equal at rows; scan, without memory. -/
import Derived.Test.YtnobhjpobnmiaaaDoorWl7
/- A log in memory: the walk of Records. -/
namespace Go.Proofs.YtnobhjpobnmiaaaDoor.Wl
open Go Go.RowKit Go.Maps Go.Proofs Go.Proofs.YtnobhjpobnmiaaaDoor.Sk Go.Proofs.YtnobhjpobnmiaaaDoorW.PrintWords Go.Proofs.YtnobhjpobnmiaaaDoorW.PrintLast Go.Proofs.YtnobhjpobnmiaaaDoorW.PrintMore
set_option linter.unusedVariables false
set_option linter.unusedSimpArgs false

section
variable {W W' w : World} {p g cap m q area t : Nat} {s : D} {v : Value} {l : List By}
/-- a record, read -/
theorem rows_at {A : Option Addr} {n : Nat} (h : Kd.C kB W A n l) {i : Nat} {x : By} (hx : l[i]? = some x) : ∃ ad A' c', A = some ad ∧ W.cell? (ad.add i) = some (.slice A' x.length c') ∧ x.length ≤ c' ∧ CB W A' x.length x := by
  have hi := (List.getElem?_eq_some_iff.1 hx).1
  obtain ⟨h1, h2, h3⟩ := h
  obtain ⟨ad, e, hc⟩ := h3 (by omega)
  obtain ⟨cs, k1, ⟨A', c', k2, k3, k4⟩, k5⟩ := hc i x hx
  refine ⟨ad, A', c', e, ?_, k3, k4⟩
  have := k5 0 (.slice A' x.length c') (by rw [k2]; rfl)
  have e2 : i * kB.sz + 0 = i := by show i * 1 + 0 = i; omega
  rw [e2] at this
  exact this
set_option maxHeartbeats 4000000 in
set_option maxRecDepth 100000 in
theorem records_calls (h : LG W q p g m area v l t) (hl : l.length ≤ 100000) (hx : ∀ x ∈ l, x.length ≤ 1000000) : Calls Tryd.prog 12 #[.pointer (some ⟨q, 0, none⟩)] W fun e w' => ∃ v', e = .returned v' ∧ RB w' W.heap.size (fun _ => True) v' l ∧ Below W.heap.size W w' := by
  obtain ⟨_, _, c2, _⟩ := cells4 h.blk
  obtain ⟨A, c, rfl, hnc, hC⟩ := Kd.R_reads h.rows
  have HC := Lib.hid hC
  have HX := Lib.hid hx
  obtain ⟨n, hn⟩ : ∃ n, l.length = n := ⟨_, rfl⟩
  have HN := Lib.hid hn
  rw [hn] at hl hnc c2 HC
  have hn9 : (n : Int) ≤ 100000 := by omega
  clear h hC hx hn
  go_enter Tryd.func12, Tryd.ntmps12
  go_wp2_with fail
  go_loopg [3, 11] n (fun gg s3 s11 wr => ∃ i : Nat, i ≤ n ∧ n - i ≤ gg ∧ s11 = .int .i64 i ∧ Hid (RB wr W.heap.size (fun _ => True) s3 (l.take i)) ∧ Hid (Below W.heap.size W wr))
  case atStart => exact ⟨0, Nat.zero_le _, by omega, rfl, Lib.hid (by rw [List.take_zero]; exact Kd.R_nil _ _ _ _ _), Lib.hid (Below.refl _ _)⟩
  case round =>
    obtain ⟨i, hi, hgg, rfl, HR, HB⟩ := hrel
    by_cases hlt : i < n
    · have hltz : decide ((i : Int) < (n : Int)) = true := decide_eq_true (by omega)
      obtain ⟨x, hxi⟩ : ∃ x, l[i]? = some x := ⟨_, List.getElem?_eq_getElem (by rw [HN.out]; exact hlt)⟩
      obtain ⟨ad, A', c', ea, hcell, hxc, hCx⟩ := rows_at HC.out hxi
      have hxl : x.length ≤ 1000000 := HX.out x (List.mem_of_getElem? hxi)
      have hcell2 := cell_keep0 HB.out hcell
      have HCX := Lib.hid (Kd.C_below hCx HB.out)
      cases ea
      have HCL := Lib.hid (clone_any A' c' x wr HCX.out (by omega))
      have HT := Lib.hid (show l.take (i + 1) = l.take i ++ [x] by rw [List.take_add_one, hxi]; rfl)
      have HTL := Lib.hid (show (l.take i).length = i by rw [List.length_take, HN.out]; omega)
      obtain ⟨nx, hnx⟩ : ∃ nx, x.length = nx := ⟨_, rfl⟩
      rw [hnx] at HCL hcell2 hxl
      have hnx9 : (nx : Int) ≤ 1000000 := by omega
      clear hcell hCx hxi hxc hnx
      go_wp2_with (first
        | (go_at_call 23; refine HCL.out.mono ?_; rintro e w1 ⟨A1, c1, rfl, hr1, hb1⟩; have HR1 := Lib.hid hr1; have HB1 := Lib.hid hb1; clear hr1 hb1)
        | (at_builtin; refine Kd.R_append kB (w0 := W) (W := w1) W.heap.size rfl (.tmp 15) (.tmp 18) 30 22 (.slice none 0 0) 24 rfl Tryd.underlying30 infoB rfl (by decide) (by decide) u3 (l.take i) x [.slice A1 nx c1] (fun _ => True) (fun k => True ∧ some k ≠ u3.ownBlock) rfl rfl ⟨_, rfl, Kd.R_lower (Kd.R_newR HR1.out HR.out) HB.out.size⟩ (fun k hk => ⟨trivial, hk.2⟩) (fun _ _ => trivial) (Kd.R_below HR.out HB1.out) (below_step HB.out HB1.out) (Nat.le_trans HB.out.size HB1.out.size) (by rw [HTL.out]; omega) ?_; intro v2 w2 ho2 hb2 hg2 hat2; have HO2 := Lib.hid ho2; have HB2 := Lib.hid hb2; clear ho2 hb2 hg2 hat2))
      go_roundg (n - (i + 1))
      case measure => omega
      case rel => exact ⟨i + 1, by omega, by omega, by go_num, Lib.hid (by rw [HT.out]; exact HO2.out), HB2⟩
    · have hltz : decide ((i : Int) < (n : Int)) = false := decide_eq_false (by omega)
      have HF := Lib.hid (show RB wr W.heap.size (fun _ => True) u3 l by
        have h := HR.out
        rw [List.take_of_length_le (by rw [HN.out]; omega)] at h
        exact h)
      go_wp2_with fail
      go_ret
      exact ⟨_, rfl, HF.out, HB.out⟩
end
end Go.Proofs.YtnobhjpobnmiaaaDoor.Wl
namespace Go.Proofs.YtnobhjpobnmiaaaDoor.Wl
open Go Go.RowKit Go.Maps Go.Proofs Go.Proofs.YtnobhjpobnmiaaaDoor.Sk Go.Proofs.YtnobhjpobnmiaaaDoorW.PrintWords Go.Proofs.YtnobhjpobnmiaaaDoorW.PrintLast Go.Proofs.YtnobhjpobnmiaaaDoorW.PrintMore
set_option linter.unusedVariables false
set_option linter.unusedSimpArgs false

theorem bytes_eq {x y : By} (hx : ∀ u ∈ x, 0 ≤ u ∧ u ≤ 255) (hy : ∀ u ∈ y, 0 ≤ u ∧ u ≤ 255) : (Lib.bytesOf x == Lib.bytesOf y) = decide (x = y) := by
  have inj : ∀ (x y : By), (∀ u ∈ x, 0 ≤ u ∧ u ≤ 255) → (∀ u ∈ y, 0 ≤ u ∧ u ≤ 255) → Lib.bytesOf x = Lib.bytesOf y → x = y := by
    intro x
    induction x with
    | nil =>
      intro y _ _ h
      cases y with
      | nil => rfl
      | cons b y => simp [Lib.bytesOf] at h
    | cons a x ih =>
      intro y hx hy h
      cases y with
      | nil => simp [Lib.bytesOf] at h
      | cons b y =>
        have ha := hx a (by simp)
        have hb := hy b (by simp)
        unfold Lib.bytesOf at h
        rw [List.map_cons, List.map_cons] at h
        injection h with h1 h2
        have h3 := congrArg UInt8.toNat h1
        rw [UInt8.toNat_ofNat', UInt8.toNat_ofNat'] at h3
        have e : a = b := by omega
        rw [e, ih y (fun u hu => hx u (by simp [hu])) (fun u hu => hy u (by simp [hu])) h2]
  by_cases c : x = y
  · subst c; simp
  · rw [decide_eq_false c]
    exact beq_eq_false_iff_ne.2 (fun e => c (inj x y hx hy e))
/-- the length that a head tells -/
def lenOf (b : By) : Nat := (num ((b.drop 5).take 4)).toNat
def recOf (b : By) : By := (b.drop 16).take (lenOf b)
/-- does a record begin here, the k-th? -/
def isRec (k : Nat) (b : By) : Prop := 16 ≤ b.length ∧ lenOf b ≤ 16384 ∧ need (lenOf b) * 16 ≤ b.length ∧ b.take 16 = hd k (recOf b)
instance (k : Nat) (b : By) : Decidable (isRec k b) := by unfold isRec; infer_instance
/-- the records that bytes begin with, and how many sectors they take -/
def scan : Nat → List By → Nat → By → List By × Nat
  | 0, l, t, _ => (l, t)
  | f + 1, l, t, b => if isRec l.length b then scan f (l ++ [recOf b]) (t + need (lenOf b)) (b.drop (need (lenOf b) * 16)) else (l, t)
section
variable {W W' w : World} {g cap : Nat} {x y : By}
theorem row_in (h : Row w g cap x) (o n : Nat) (hn : o + n ≤ x.length) : Lib.BytesIn w (some ⟨g, o, none⟩) n ((x.drop o).take n) := by
  intro _
  refine ⟨g, o, rfl, fun i hi => ?_⟩
  rw [h.cell (o + i) (by omega)]
  congr 2
  rw [List.getD_eq_getElem?_getD, List.getElem?_take, if_pos hi, List.getElem?_drop, List.getElem?_eq_getElem (by omega)]
  rfl
theorem equal_calls (hx : Row w g cap x) (o c : Nat) (hl : o + 16 ≤ x.length) (hxr : ∀ u ∈ x, 0 ≤ u ∧ u ≤ 255) {gy : Nat} (hy : Row w gy 16 y) (hyl : y.length = 16) (hyr : ∀ u ∈ y, 0 ≤ u ∧ u ≤ 255) :
    Calls Tryd.prog 25 #[.slice (some ⟨g, o, none⟩) 16 c, .slice (some ⟨gy, 0, none⟩) 16 16] w fun e w' => e = .returned (.bool (decide ((x.drop o).take 16 = y))) ∧ w' = w := by
  have hy2 := row_in hy 0 16 (by omega)
  rw [List.drop_zero, List.take_of_length_le (by omega)] at hy2
  have := Tryd.bytes_Equal_all (some ⟨g, o, none⟩) (some ⟨gy, 0, none⟩) 16 c 16 16 ((x.drop o).take 16) y w (by rw [List.length_take, List.length_drop]; omega) hyl (row_in hx o 16 hl) hy2
  rw [bytes_eq (fun u hu => hxr u (List.mem_of_mem_drop (List.mem_of_mem_take hu))) hyr] at this
  exact this
theorem row_CB (h : Row w g cap x) (o n : Nat) (hn : o + n ≤ x.length) (hl : n ≤ 9223372036854775807) : CB w (some ⟨g, o, none⟩) n ((x.drop o).take n) := by
  refine ⟨by rw [List.length_take, List.length_drop]; omega, hl, fun hp => ⟨_, rfl, fun j q hj => ?_⟩⟩
  have hjn : j < n := by
    have := (List.getElem?_eq_some_iff.1 hj).1
    rw [List.length_take] at this
    omega
  rw [List.getElem?_take, if_pos hjn, List.getElem?_drop] at hj
  have hlt := (List.getElem?_eq_some_iff.1 hj).1
  have hv := (List.getElem?_eq_some_iff.1 hj).2
  refine ⟨[.int .u8 q], rfl, rfl, fun i u hu => ?_⟩
  have hi : i = 0 := by
    have := (List.getElem?_eq_some_iff.1 hu).1
    simpa using this
  subst hi
  cases hu
  have := h.cell (o + j) hlt
  rw [hv] at this
  rw [← this]
  congr 1
  rw [Sk.add_at]
  show (⟨g, o + (j * 1 + 0), none⟩ : Addr) = _
  rw [Nat.mul_one, Nat.add_zero]
end
end Go.Proofs.YtnobhjpobnmiaaaDoor.Wl
