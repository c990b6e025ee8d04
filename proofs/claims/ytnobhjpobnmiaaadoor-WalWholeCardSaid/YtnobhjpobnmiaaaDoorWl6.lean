/- A log in memory: the walk of put. -/
import Derived.Test.YtnobhjpobnmiaaaDoorWl5
namespace Go.Proofs.YtnobhjpobnmiaaaDoor.Wl
open Go Go.RowKit Go.Maps Go.Proofs Go.Proofs.YtnobhjpobnmiaaaDoor.Sk Go.Proofs.YtnobhjpobnmiaaaDoorW.PrintWords Go.Proofs.YtnobhjpobnmiaaaDoorW.PrintLast Go.Proofs.YtnobhjpobnmiaaaDoorW.PrintMore
set_option linter.unusedVariables false
set_option linter.unusedSimpArgs false

/-- one act, and behind it another one -/
def thn (r : D × Int) (f : D → D × Int) : D × Int := if r.2 = 0 then f r.1 else r
def fin (s : D) : D × Int := (s, 0)
def pad (b : By) : By := b ++ List.replicate ((need b.length - 1) * 16 - b.length) 0
theorem pad_len (b : By) : (pad b).length = (need b.length - 1) * 16 := by
  unfold pad
  rw [List.length_append, List.length_replicate]
  unfold need
  omega
theorem pad_range {b : By} (h : ∀ y ∈ b, 0 ≤ y ∧ y ≤ 255) : ∀ y ∈ pad b, 0 ≤ y ∧ y ≤ 255 := by
  intro y hy
  unfold pad at hy
  rcases List.mem_append.1 hy with hy | hy
  · exact h y hy
  · have := List.eq_of_mem_replicate hy; omega
theorem hd_range (k : Nat) (b : By) : ∀ y ∈ hd k b, 0 ≤ y ∧ y ≤ 255 := by
  intro y hy
  unfold hd four at hy
  simp only [List.mem_cons, List.mem_append, List.not_mem_nil, or_false] at hy
  omega
theorem pad_splice (b : By) {N : Nat} (h : (need b.length - 1) * 16 = N) : enc (pad b) = (enc (List.replicate N 0)).toArray.toList.take 0 ++ (enc b ++ (enc (List.replicate N 0)).toArray.toList.drop (0 + b.length)) := by
  subst h
  unfold pad enc
  simp
/-- a record put in an area -/
def putD (s : D) (at_ place : Nat) (b : By) : D × Int :=
  thn (wst s ((at_ + 16 : Nat) : Int) (pad b)) fun s => thn s.sync fun s => thn (wst s (at_ : Int) (hd place b)) fun s => thn s.sync fin
theorem wst_ok {s : D} (h : Ok s) (a : Int) (x : By) (hx : ∀ y ∈ x, 0 ≤ y ∧ y ≤ 255) : Ok (wst s a x).1 := by
  unfold wst
  split
  · exact h
  · exact ok_write h a x hx
theorem acts_write {s : D} (a : Int) (x : By) : (s.write a x).1.acts ≤ s.acts + 1 := by
  unfold D.write
  split
  · exact Nat.le_succ _
  · split
    · exact Nat.le_refl _
    · exact Nat.le_succ _
theorem acts_sync (s : D) : s.sync.1.acts ≤ s.acts + 1 := by
  unfold D.sync
  split
  · exact Nat.le_succ _
  · exact Nat.le_refl _
theorem acts_wst {s : D} (a : Int) (x : By) : (wst s a x).1.acts ≤ s.acts + 1 := by
  unfold wst
  split
  · exact Nat.le_succ _
  · exact acts_write a x
section
variable {W W' w w0 : World} {p g cap m q : Nat} {s : D} {ob : Obj}
def Post (w0 : World) (p g cap m : Nat) (r : D × Int) : Int → World → Prop := fun e w' => e = r.2 ∧ SR w' p g cap m r.1 ∧ Fr w0 w' p g m
theorem run_thn {f : St} {l : List St} {r : D × Int} {k : D → D × Int} (hblk : w.heap[q]? = some ob) (hf0 : Fr w0 w p g m)
    (hc : Calls Tryd.prog f.fn f.fr w fun e w' => e = .returned (.int .i64 r.2) ∧ SR w' p g cap m r.1 ∧ Fr w w' p g m)
    (hk : ∀ w', r.2 = 0 → SR w' p g cap m r.1 → Fr w w' p g m → Fr w0 w' p g m → Run ob q l w' (Post w0 p g cap m (k r.1))) : Run ob q (f :: l) w (Post w0 p g cap m (thn r k)) := by
  refine ⟨hblk, hc.mono ?_⟩
  rintro e w' ⟨rfl, h1, h2⟩
  refine ⟨r.2, rfl, ?_⟩
  unfold thn
  by_cases c : r.2 = 0
  · rw [if_pos c]
    exact .inl ⟨c, hk w' c h1 h2 (hf0.trans h2)⟩
  · rw [if_neg c]
    exact .inr ⟨c, rfl, h1, hf0.trans h2⟩
theorem run_fin (h : SR w p g cap m s) (hf : Fr w0 w p g m) : Run ob q [] w (Post w0 p g cap m (fin s)) := ⟨rfl, h, hf⟩
end
section
theorem cell_keep0 {w w1 : World} {a : Addr} {v : Value} (hb : Below w.heap.size w w1) (h : w.cell? a = some v) : w1.cell? a = some v := (hb.cell (World.block_lt_of_cell? w _ h)).trans h
theorem write_fn' (p a : Nat) (A : Option Addr) (n c : Nat) (W : World) : Calls Tryd.prog 32 #[.pointer (some ⟨p, 0, none⟩), .int .i64 (a : Int), .slice A n c] W fun e w' =>
    ∃ z, e = .returned (.func (.func 49) #[] #[.pointer (some ⟨z + 2, 0, none⟩), .pointer (some ⟨z, 0, none⟩), .pointer (some ⟨z + 1, 0, none⟩)]) ∧ Cap w' p (z + 1) (z + 2) z a A n c ∧ Below W.heap.size W w' :=
  (write_fn p a A n c W).mono fun e w' ⟨he, hw⟩ => ⟨W.heap.size, he, by rw [hw]; exact w3_cap W p a A n c, by rw [hw]; exact w3_below W p a A n c⟩
theorem row_below {w w1 : World} {g cap : Nat} {b : By} (h : Row w g cap b) (hb : Below w.heap.size w w1) : Row w1 g cap b := h.keep (hb.block g h.lt)
variable {W w0 w1 w2 w3 : World} {p g cap m : Nat} {s : D}
theorem sr_ne (h : SR W p g cap m s) {q : Nat} {cs : Array Value} {t : TypeId} (hq : W.heap[q]? = some (.cells cs t (0, 0))) (h1 : t ≠ 55) (h2 : t ≠ 5) : q ≠ p ∧ q ≠ g ∧ q ≠ m := by
  obtain ⟨ext, hr, _⟩ := h.row
  obtain ⟨n, D, hm, _⟩ := h.map
  obtain ⟨es, cl, hk⟩ := own_kind hm.own
  exact ⟨blk_ne hq h.blk h1, blk_ne hq hr h2, fun e => by subst e; rw [hq] at hk; cases hk⟩
theorem put_steps (h : SR w0 p g cap m s) (o : Ok s) (ha : s.acts ≤ 999999990) {gp cp gh z1 z3 at_ place N : Nat} {b : By} (hrow : Row w0 gp cp (pad b)) (hgp : gp ≠ p ∧ gp ≠ g ∧ gp ≠ m) (hbr : ∀ y ∈ b, 0 ≤ y ∧ y ≤ 255) (hbl : b.length ≤ 16384) (hN : (pad b).length = N)
    (hb1 : Below w0.heap.size w0 w1) (hc1 : Cap w1 p (z1 + 1) (z1 + 2) z1 (at_ + 16) (some ⟨gp, 0, none⟩) N N)
    (hb2 : Below w1.heap.size w1 w2) (hr : Row w2 gh 16 (hd place b)) (hgh : w0.heap.size ≤ gh) (hb3 : Below w2.heap.size w2 w3) (hc3 : Cap w3 p (z3 + 1) (z3 + 2) z3 at_ (some ⟨gh, 0, none⟩) 16 16) :
    Calls Tryd.prog 31 #[.slice (some ⟨w3.heap.size, 0, none⟩) 4 4] (w3.alloc (.cells #[(St.w (z1 + 2) z1 (z1 + 1)).val, (St.s p).val, (St.w (z3 + 2) z3 (z3 + 1)).val, (St.s p).val] 64)) fun e w' =>
      e = .returned (.int .i64 (putD s at_ place b).2) ∧ SR w' p g cap m (putD s at_ place b).1 ∧ Fr w0 w' p g m := by
  have hl := h.lt
  have hpl : (pad b).length ≤ 9223372036854775807 := by rw [pad_len]; unfold need; omega
  obtain ⟨ob, hob⟩ : ∃ ob, Obj.cells #[(St.w (z1 + 2) z1 (z1 + 1)).val, (St.s p).val, (St.w (z3 + 2) z3 (z3 + 1)).val, (St.s p).val] 64 (0, 0) = ob := ⟨_, rfl⟩
  have hs1 : w0.heap.size ≤ w1.heap.size := hb1.size
  have hs2 : w1.heap.size ≤ w2.heap.size := hb2.size
  have hs3 : w2.heap.size ≤ w3.heap.size := hb3.size
  have hb4 : Below w3.heap.size w3 (w3.alloc ob) := below_alloc (Below.refl _ _) ob
  have hq : (w3.alloc ob).heap[w3.heap.size]? = some ob := blk_new w3 ob
  have hqlt : w3.heap.size < (w3.alloc ob).heap.size := by rw [size_alloc]; omega
  have b2 : Below w2.heap.size w2 (w3.alloc ob) := below_step hb3 hb4
  have b1 : Below w1.heap.size w1 (w3.alloc ob) := below_step hb2 b2
  have b0 : Below w0.heap.size w0 (w3.alloc ob) := below_step hb1 b1
  have hS := h.below b0
  have hC1 := hc1.below b1
  have hC3 := hc3.below hb4
  have hR1 := (row_below hrow b0).CB hpl
  have hR3 : CB (w3.alloc ob) (some ⟨gh, 0, none⟩) 16 (hd place b) := (row_below hr b2).CB (show (16 : Nat) ≤ _ by decide)
  have hgh3 : gh ≠ p ∧ gh ≠ g ∧ gh ≠ m := ⟨by omega, by omega, by omega⟩
  have hgq : w3.heap.size ≠ p ∧ w3.heap.size ≠ g ∧ w3.heap.size ≠ m := ⟨by omega, by omega, by omega⟩
  have hfs : ([St.w (z1 + 2) z1 (z1 + 1), St.s p, St.w (z3 + 2) z3 (z3 + 1), St.s p].map St.val).toArray = #[(St.w (z1 + 2) z1 (z1 + 1)).val, (St.s p).val, (St.w (z3 + 2) z3 (z3 + 1)).val, (St.s p).val] := rfl
  generalize hwq : w3.alloc ob = wq at hb4 hq hqlt b2 b1 b0 hS hC1 hC3 hR1 hR3
  have key : Run ob w3.heap.size [St.w (z1 + 2) z1 (z1 + 1), St.s p, St.w (z3 + 2) z3 (z3 + 1), St.s p] wq (Post wq p g cap m (putD s at_ place b)) := by
    have hbq : ∀ w', Fr wq w' p g m → w'.heap[w3.heap.size]? = some ob := fun w' hf => (hf.block _ hqlt hgq.1 hgq.2.1 hgq.2.2).trans hq
    refine run_thn hq (Fr.refl _ _ _ _) (w1_calls hS o (by omega) (pad b) (by rw [hN]; exact hC1) hR1 (fun ad e _ => by cases e; exact hgp)) (fun wa _ ka _ fa => ?_)
    have oa := wst_ok o ((at_ + 16 : Nat) : Int) (pad b) (pad_range hbr)
    have aa := acts_wst (s := s) ((at_ + 16 : Nat) : Int) (pad b)
    refine run_thn (hbq _ fa) fa (sync_calls ka oa (by omega)) (fun wb _ kb _ fb => ?_)
    have ob_ := ok_sync oa
    have ab := acts_sync (wst s ((at_ + 16 : Nat) : Int) (pad b)).1
    refine run_thn (hbq _ fb) fb (w1_calls kb ob_ (by omega) (hd place b) (hC3.fr hS fb) (CB.fr hR3 fb (fun ad e _ => by cases e; exact hgh3) (cb_lt hR3)) (fun ad e _ => by cases e; exact hgh3)) (fun wc _ kc _ fc => ?_)
    have oc := wst_ok ob_ (at_ : Int) (hd place b) (hd_range place b)
    have ac := acts_wst (s := (wst s ((at_ + 16 : Nat) : Int) (pad b)).1.sync.1) (at_ : Int) (hd place b)
    exact run_thn (hbq _ fc) fc (sync_calls kc oc (by omega)) (fun wd _ kd _ fd => run_fin kd fd)
  have hst := steps_calls w3.heap.size [St.w (z1 + 2) z1 (z1 + 1), St.s p, St.w (z3 + 2) z3 (z3 + 1), St.s p] (show (4 : Nat) ≤ 100 by decide) wq _ (by rw [hfs, hob]; exact key)
  show Calls _ _ _ (w3.alloc (Obj.cells _ _ (0, 0))) _
  rw [hob, hwq]
  refine hst.mono ?_
  rintro e w' ⟨r, rfl, hr, k1, k2⟩
  exact ⟨by rw [hr], k1, (Fr.of_below b0).trans k2⟩
end
section
variable {W : World} {p g cap m : Nat} {s : D}
set_option maxHeartbeats 20000000 in
set_option maxRecDepth 100000 in
theorem lput_calls (h : SR W p g cap m s) (o : Ok s) (ha : s.acts ≤ 999999990) {q : Nat} {ar v t : Value} (hq : W.heap[q]? = some (.cells #[.pointer (some ⟨p, 0, none⟩), ar, v, t] 57 (0, 0))) (area taken place : Nat) (ha1 : area ≤ 1) (ht : taken ≤ 1000000) (hp : place ≤ 1000000)
    {A : Option Addr} {c : Nat} (b : By) (hb : CB W A b.length b) (hbr : ∀ y ∈ b, 0 ≤ y ∧ y ≤ 255) (hbl : b.length ≤ 16384) :
    Calls Tryd.prog 35 #[.pointer (some ⟨q, 0, none⟩), .int .i64 (area : Int), .int .i64 (taken : Int), .int .i64 (place : Int), .slice A b.length c] W fun e w' =>
      e = .returned (.int .i64 (putD s ((1 + area * half s.b.length + taken) * 16) place b).2) ∧ SR w' p g cap m (putD s ((1 + area * half s.b.length + taken) * 16) place b).1 ∧ Fr W w' p g m := by
  have HWH := Lib.hid (where_calls h o area taken ha1 ht)
  have h0 := (blk_cell hq 0).trans rfl
  obtain ⟨n, hn⟩ : ∃ n, b.length = n := ⟨_, rfl⟩
  have HNE := Lib.hid (fun w' => need_calls n (by omega) w')
  obtain ⟨k, hk⟩ : ∃ k, need n = k := ⟨_, rfl⟩
  have hk1 : 1 ≤ k := by rw [← hk]; unfold need; omega
  have hk2 : k ≤ 1025 := by rw [← hk]; unfold need; omega
  have hnk : n ≤ (k - 1) * 16 := by rw [← hk]; unfold need; omega
  obtain ⟨a0, ha0⟩ : ∃ a0, (1 + area * half s.b.length + taken) * 16 = a0 := ⟨_, rfl⟩
  have ha2 : a0 ≤ 20000000 := by
    have hl : half s.b.length ≤ 2048 := half_le (by have := o.bl; have := o.n2; omega)
    have hak : area * half s.b.length ≤ 2048 := by rcases (show area = 0 ∨ area = 1 by omega) with rfl | rfl <;> omega
    omega
  have HB := Lib.hid hb
  have HN := Lib.hid hn
  have HKE := Lib.hid hk
  have HBR := Lib.hid hbr
  have H := Lib.hid h
  have HO := Lib.hid o
  have HQ := Lib.hid hq
  rw [ha0] at HWH ⊢
  rw [hk] at HNE
  obtain ⟨N, hN⟩ : ∃ N, (k - 1) * 16 = N := ⟨_, rfl⟩
  have HNN := Lib.hid hN
  have q3 : ((k : Int) - 1) * 16 = (N : Int) := by omega
  have q4 : (n : Int) ≤ 16384 := by omega
  have hmk := make_run N (by omega) W
  have q5 : N ≤ 16384 := by omega
  have hrow0 := (show (W.alloc (.cells (enc (List.replicate N 0)).toArray 5)).heap[W.heap.size]? = some (.cells (enc (List.replicate N 0)).toArray 5 (0, 0)) from blk_new W _)
  have hb0 := below_alloc (Below.refl W.heap.size W) (.cells (enc (List.replicate N 0)).toArray 5)
  have hpadN : (pad b).length = N := by rw [pad_len, hn, hk, hN]
  have hspl := pad_splice b (N := N) (by rw [hn, hk, hN])
  have HCP := Lib.hid (show CB (W.alloc (.cells (enc (List.replicate N 0)).toArray 5)) A b.length b from Kd.C_below hb hb0)
  have HMN := Lib.hid (show b.length = Nat.min n N by rw [hn]; exact (Nat.min_eq_left (by omega)).symm)
  have HFT := Lib.hid (show 0 + b.length ≤ (enc (List.replicate N 0)).toArray.size by rw [hn]; unfold enc; simp; omega)
  have HSP := Lib.hid hspl
  have HR0 := Lib.hid hrow0
  have HB0 := Lib.hid hb0
  have HPN := Lib.hid hpadN
  rw [hn]
  clear h o hb hbr hn hk ha0 hq hbl hN hspl hrow0 hb0 hpadN
  go_enter Tryd.func35, Tryd.ntmps35
  go_upto_region 4 with (first | (go_at_call 28; refine HWH.out.mono ?_; rintro e w' ⟨rfl, rfl⟩) | (go_at_call 34; refine (HNE.out _).mono ?_; rintro e w' ⟨rfl, rfl⟩) | (with_reducible refine copy_row rfl (.tmp 26) (.tmp 27) rfl rfl rfl HR0.out b HMN.out HCP.out HFT.out HSP.out ?_; intro w8 hg8 hbut; rw [HN.out]; have HG8 := Lib.hid hg8; have HB8 := Lib.hid hbut; clear hg8 hbut))
  have HBL := Lib.hid (HB0.out.trans (but_below (W := w') HB8.out (Nat.le_refl _)))
  have c0 := cell_keep0 HBL.out h0
  have HS8 := Lib.hid (H.out.below HBL.out)
  have HR8 := Lib.hid (show Row w8 w'.heap.size N (pad b) from ⟨[], by rw [List.append_nil]; exact HG8.out, by rw [HPN.out]; rfl⟩)
  have HC8 := Lib.hid (show CB w8 A b.length b from Kd.C_below HB.out HBL.out)
  have HLT := Lib.hid (show w'.heap.size ≠ p ∧ w'.heap.size ≠ g ∧ w'.heap.size ≠ m by have := H.out.lt; exact ⟨by omega, by omega, by omega⟩)
  have HFW := Lib.hid (Fr.of_below (p := p) (g := g) (m := m) HBL.out)
  have HKQ := Lib.hid (fun w1 (hf : Fr w8 w1 p g m) => (by
    have hq8 := blk_below HQ.out HBL.out
    have hne := sr_ne HS8.out hq8 (by decide) (by decide)
    exact (blk_cell ((hf.block q (blk_lt hq8) hne.1 hne.2.1 hne.2.2).trans hq8) 0).trans rfl : w1.cell? ⟨q, 0, none⟩ = some (.pointer (some ⟨p, 0, none⟩))))
  obtain ⟨gp, hgp⟩ : ∃ gp, w'.heap.size = gp := ⟨_, rfl⟩
  rw [hgp] at HR8 HLT ⊢
  clear HG8 HB8 HB0 HR0 HSP HFT HCP hmk HWH HQ HB h0 hgp HMN HBL
  have q6 : (a0 : Int) ≤ 20000000 := by omega
  have HW1 := Lib.hid (fun W => (by rw [IntWalk.i64_in ((a0 : Int) + 16) (by omega)]; exact write_fn' p (a0 + 16) (some ⟨gp, 0, none⟩) N N W : Calls Tryd.prog 32 #[.pointer (some ⟨p, 0, none⟩), .int .i64 (IntKind.i64.wrap ((a0 : Int) + 16)), .slice (some ⟨gp, 0, none⟩) N N] W fun e w' => ∃ z, e = .returned (.func (.func 49) #[] #[.pointer (some ⟨z + 2, 0, none⟩), .pointer (some ⟨z, 0, none⟩), .pointer (some ⟨z + 1, 0, none⟩)]) ∧ Cap w' p (z + 1) (z + 2) z (a0 + 16) (some ⟨gp, 0, none⟩) N N ∧ Below W.heap.size W w'))
  have HW2 := Lib.hid (fun gh W => write_fn' p a0 (some ⟨gh, 0, none⟩) 16 16 W)
  have HHD := Lib.hid (fun w (hw : Below w8.heap.size w8 w) => (by have := head_calls (c := c) place hp b (Kd.C_below HC8.out hw) HBR.out (show b.length ≤ 1000000000 by rw [HN.out]; omega); rw [HN.out] at this; exact this : Calls Tryd.prog 48 #[.int .i64 (place : Int), .slice A n c] w fun e w' => ∃ g, e = .returned (.slice (some ⟨g, 0, none⟩) 16 16) ∧ w.heap.size ≤ g ∧ Row w' g 16 (hd place b) ∧ Below w.heap.size w w'))
  have HST := Lib.hid (fun (w1 w2 w3 : World) (gh z1 z3 : Nat) b1 c1 b2 r2 g2 b3 c3 => put_steps (w0 := w8) (w1 := w1) (w2 := w2) (w3 := w3) (gh := gh) (z1 := z1) (z3 := z3) (at_ := a0) (place := place) HS8.out HO.out ha HR8.out HLT.out HBR.out (by rw [HN.out]; omega) HPN.out b1 c1 b2 r2 g2 b3 c3)
  have HD8 := Lib.hid (show Below w8.heap.size w8 w8.drew from ⟨rfl, rfl, rfl, Nat.le_refl _, fun _ _ => rfl⟩)
  have c0d : w8.drew.cell? ⟨q, 0, none⟩ = some (.pointer (some ⟨p, 0, none⟩)) := c0
  have HF8d := Lib.hid (Fr.of_below (p := p) (g := g) (m := m) HD8.out)
  go_region_held (fun w' => w'.cell? ⟨q, 0, none⟩ = some (.pointer (some ⟨p, 0, none⟩)) ∧ Hid (Fr w8 w' p g m))
    (first | with_reducible exact ⟨c0d, HF8d⟩ | with_reducible exact ⟨HKQ.out _ HF4.out, HF4⟩ | (go_split_ands; with_reducible exact ⟨cell_keep0 hb (by assumption), Lib.hid (Fr.below (Hid.out (by assumption)) hb)⟩) | (go_split_ands; exact ⟨cell_keep0 (below_alloc (Below.refl _ _) _) (by assumption), Lib.hid (Fr.below (Hid.out (by assumption)) (below_alloc (Below.refl _ _) _))⟩))
    (first
      | (go_at_call 32; go_split_ands; (with_reducible refine (HW1.out _).mono ?_); rintro e w1 ⟨z1, rfl, c1, hb⟩; have HC1 := Lib.hid c1; have HB1 := Lib.hid (below_step HD8.out hb))
      | (go_at_call 48; go_split_ands; (with_reducible refine (HHD.out _ HB1.out).mono ?_); rintro e w2 ⟨gh, rfl, hgh, r2, hb⟩; have HR2 := Lib.hid r2; have HG2 := Lib.hid (Nat.le_trans HB1.out.size hgh); have HB2 := Lib.hid hb)
      | (go_at_call 32; go_split_ands; (with_reducible refine (HW2.out _ _).mono ?_); rintro e w3 ⟨z3, rfl, c3, hb⟩; have HC3 := Lib.hid c3; have HB3 := Lib.hid hb)
      | (go_at_call 31; go_split_ands; refine (HST.out _ _ _ _ _ _ HB1.out HC1.out HB2.out HR2.out HG2.out HB3.out HC3.out).mono ?_; rintro e w4 ⟨rfl, hs4, hf4⟩; have HS4 := Lib.hid hs4; have HF4 := Lib.hid hf4))
  all_goals (
    go_split_ands
    go_wp2_with fail
    go_ret
    exact ⟨rfl, HS4.out, HFW.out.trans HF4.out⟩)
end
end Go.Proofs.YtnobhjpobnmiaaaDoor.Wl
