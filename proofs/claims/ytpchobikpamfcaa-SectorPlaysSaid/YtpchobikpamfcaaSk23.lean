/- The document's disk in memory: the walks of Sync, Read, Loose, Same. -/
import Derived.Test.YtpchobikpamfcaaSk22
namespace Go.Proofs.Ytpchobikpamfcaa.Sk
open Go Go.RowKit Go.Maps Go.Proofs Go.Proofs.Ytpchobikpamfcaa.Q Go.Proofs.YtpchobikpamfcaaW.PrintWords Go.Proofs.YtpchobikpamfcaaW.PrintLast Go.Proofs.YtpchobikpamfcaaW.PrintMore
set_option linter.unusedVariables false
set_option linter.unusedSimpArgs false

theorem infoU8 : (Try.prog.info? 5).map (fun i => (i.zero, i.size, i.bytes)) = some (some (.int .u8 0), 1, 1) := by kernel_rfl
theorem infoBool : (Try.prog.info? 4).map (fun i => (i.zero, i.size, i.bytes)) = some (some (.bool false), 1, 1) := by kernel_rfl
theorem infoInt : (Try.prog.info? 3).map (fun i => (i.zero, i.size, i.bytes)) = some (some (.int .i64 0), 1, 8) := by kernel_rfl
/-- a row of one's own, as a row of bytes -/
theorem Row.of_R {W : World} {base n c : Nat} {ok : Nat → Prop} {A : Option Addr} {b : By} (h : Kd.R (Kd.int .u8) 5 W base ok (.slice A n c) b) (hb : 0 < b.length) : ∃ g, A = some ⟨g, 0, none⟩ ∧ base ≤ g ∧ n = b.length ∧ Row W g c b ∧ c ≤ 9223372036854775807 := by
  have ho := Kd.own_of_R (enc := Value.int .u8) (h1 := fun _ => rfl) h
  rcases ho.2 with ⟨_, hz⟩ | ⟨g, cap, cur, e, hg, hh, hc1, hc2, hc3, hc4⟩
  · omega
  · cases e
    refine ⟨g, rfl, hg, rfl, ⟨cur.toList.drop b.length, ?_, ?_⟩, hc2⟩
    · rw [hh]
      congr 2
      rw [Nat.mul_one] at hc4
      change _ = enc b at hc4
      rw [← hc4, List.take_append_drop, Array.toArray_toList]
    · have hcl : cur.toList.length = c := by simpa using hc3
      rw [List.length_drop, hcl]
      omega
/-- append of bytes to a new empty row -/
theorem app_bytes {ops : Array Oper} {rest : List Oper} {o : Oper} {a : Act} {w : World} {Q : Exit → Act → World → Prop} (hgd : o.guard = none) (s x : Operand)
    (ho : o.op = .call { callee := .builtin .append, args := #[s, x], argTypes := #[22, 22] }) {g : Nat} (hs : a.eval s = .slice (some ⟨g, 0, none⟩) 0 0) (hg : w.heap[g]? = some (.cells #[] 5 (0, 0)))
    {A : Option Addr} {n c : Nat} {y : By} (hx : a.eval x = .slice A n c) (hy : CB w A n y) (hl : n ≤ 1000000000)
    (h : ∀ A' c' w', Kd.R (Kd.int .u8) 5 w' g (fun _ => True) (.slice A' n c') y → Below g w w' → wpList Try.prog ops Q rest (a.put o.dst (.slice A' n c')) w') : wpList Try.prog ops Q (o :: rest) a w := by
  have h0 : Kd.R (Kd.int .u8) 5 w g (fun _ => True) (.slice (some ⟨g, 0, none⟩) 0 0) [] :=
    Kd.R_of_own (enc := Value.int .u8) (h1 := fun _ => rfl) ⟨rfl, .inr ⟨g, 0, #[], rfl, Nat.le_refl _, hg, Nat.le_refl _, Nat.zero_le _, rfl, rfl⟩⟩ (fun _ _ => trivial)
  refine Kd.R_append_row (Value.int .u8) (0 : Int) (h1 := fun _ => rfl) (w0 := w) g hgd s x 22 5 (.int .u8 0) 1 ho Try.underlying22 infoU8 rfl (by decide) _ [] y A n c (fun _ => True) hs hx (fun _ _ => trivial) h0 hy (Below.refl _ _) (Nat.le_of_lt (blk_lt hg)) (by simp; omega) ?_
  intro v1 w1 hr hb _ _
  obtain ⟨A', c', rfl⟩ := Kd.R_slice hr
  have e : ([] ++ y : By).length = n := hy.1
  rw [e] at hr ⊢
  exact h A' c' w1 hr hb
theorem bool_cells (n : Nat) : madeCells #[.bool false] n = (Array.replicate n (Value.bool false)) := by
  apply Array.ext
  · rw [size_madeCells]; simp
  · intro i h1 h2
    simp [madeCells, Nat.mod_one]
theorem make_bools (n : Nat) (hn : n ≤ 1000000000) (w : World) : (Instr.makeSlice 24 (.int .i64 (n : Int)) (.int .i64 (n : Int))).run Try.prog w = .ok (.slice (some ⟨w.heap.size, 0, none⟩) n n) (w.alloc (.cells (Array.replicate n (Value.bool false)) 4)) := by
  rw [run_make_row' 24 4 (.bool false) 1 Try.underlying24 infoBool rfl .i64 .i64 n (by omega) (by omega) w, bool_cells]
theorem rowB_rep (w : World) (n : Nat) : RowB (w.alloc (.cells (Array.replicate n (Value.bool false)) 4)) w.heap.size n (List.replicate n false) := ⟨[], by rw [List.append_nil, show ((List.replicate n false).map Value.bool).toArray = Array.replicate n (Value.bool false) by simp]; exact blk_new w _, by simp⟩
/-- a piece of bytes -/
theorem cut_run (A : Option Addr) (c : Nat) (x : By) (hc : x.length ≤ c) (k n : Nat) (hk : k + n ≤ x.length) :
    ∃ A' : Option Addr, (∀ W : World, (Instr.slice 22 (.slice A x.length c) (some (.int .i64 (k : Int))) (some (.int .i64 ((k : Int) + (n : Int)))) none).run Try.prog W = .ok (.slice A' n (c - k)) W) ∧ (∀ w : World, CB w A x.length x → CB w A' n ((x.drop k).take n)) := by
  obtain ⟨inf, hi1, hi2⟩ := u8info
  obtain ⟨A', h1, h2, _⟩ := print_mid_int (P := Try.prog) (k := .u8) 22 5 Try.underlying22 hi1 hi2 A c x (k : Int) ((k : Int) + (n : Int)) (by omega) (by omega) (by omega) hc
  have e1 : ((k : Int) + (n : Int)).toNat = k + n := by omega
  have e3 : (x.take (k + n)).drop k = (x.drop k).take n := by rw [List.drop_take, show k + n - k = n by omega]
  have e4 : ((x.drop k).take n).length = n := by rw [List.length_take, List.length_drop]; omega
  rw [e1, Int.toNat_natCast, e3, e4] at h1
  rw [e1, Int.toNat_natCast, e3, e4] at h2
  exact ⟨A', h1, fun w hw => reads_CB.1 (h2 w (reads_CB.2 hw))⟩
theorem cb_nil (w : World) : CB w none 0 [] := ⟨rfl, by simp, fun h => absurd h (Nat.lt_irrefl 0)⟩
theorem cell_keep0 {w w1 : World} {a : Addr} {v : Value} (hb : Below w.heap.size w w1) (h : w.cell? a = some v) : w1.cell? a = some v := (hb.cell (World.block_lt_of_cell? w _ h)).trans h
theorem one_int (w : World) (i : Nat) : Kd.C (Kd.int .i64) (w.alloc (.cells #[.int .i64 (i : Int)] 3)) (some ⟨w.heap.size, 0, none⟩) 1 [(i : Int)] := by
  refine ⟨rfl, by decide, fun _ => ⟨_, rfl, fun j p hj => ?_⟩⟩
  have hj0 : j = 0 := by
    have := (List.getElem?_eq_some_iff.1 hj).1
    simp at this
    exact this
  subst hj0
  cases hj
  refine ⟨[.int .i64 (i : Int)], rfl, rfl, fun k u hu => ?_⟩
  have e : k = 0 := by
    rcases k with _ | k
    · rfl
    · cases hu
  subst e
  cases hu
  rw [add_at]
  exact (blk_cell (blk_new w _) 0).trans rfl
section
variable {W W' : World} {B q gb cb go co gw cw : Nat} {s t : D}
theorem rr_cap (h : RRx W B q gb cb go co gw cw s) : s.b.length ≤ cb ∧ s.wet.length ≤ cw := by
  obtain ⟨e1, _, h1⟩ := h.rb
  obtain ⟨e3, _, h3⟩ := h.rw_
  exact ⟨by omega, by omega⟩
/-- the old bytes and the marks laid anew -/
theorem rr_new {W1 : World} (h : RRx W B q gb cb go co gw cw s) (hb : Below B W W1) (hk : ∀ k, B ≤ k → k < W.heap.size → W1.heap[k]? = W.heap[k]?) {g1 c1 : Nat} (h1 : Row W1 g1 c1 s.b) (hg1 : W.heap.size ≤ g1) :
    RRx (((W1.setCell ⟨q, 1, none⟩ (.slice (some ⟨g1, 0, none⟩) s.b.length c1)).alloc (.cells (Array.replicate s.wet.length (Value.bool false)) 4)).setCell ⟨q, 2, none⟩ (.slice (some ⟨W1.heap.size, 0, none⟩) s.wet.length s.wet.length)) B q gb cb g1 c1 W1.heap.size s.wet.length { s with old := s.b, wet := List.replicate s.wet.length false }
      ∧ Below B W (((W1.setCell ⟨q, 1, none⟩ (.slice (some ⟨g1, 0, none⟩) s.b.length c1)).alloc (.cells (Array.replicate s.wet.length (Value.bool false)) 4)).setCell ⟨q, 2, none⟩ (.slice (some ⟨W1.heap.size, 0, none⟩) s.wet.length s.wet.length)) := by
  have hl := h.lt
  have hB := h.hb
  have hn := h.nes
  have h1W := h.keep hk
  have hbq := h1W.blk
  generalize hu : Value.slice (some ⟨g1, 0, none⟩) s.b.length c1 = u
  have k2 : ∀ k, k ≠ q → (W1.setCell ⟨q, 1, none⟩ u).heap[k]? = W1.heap[k]? := fun k hk => Below.heap_setCell W1 ⟨q, 1, none⟩ u k hk
  have b2 := blk_put hbq 1 u rfl
  generalize hW2 : W1.setCell ⟨q, 1, none⟩ u = W2
  have hs2 : W2.heap.size = W1.heap.size := by rw [← hW2, World.size_setCell]
  rw [hW2] at k2 b2
  have h3 := rowB_rep W2 s.wet.length
  have k3 : ∀ k, k < W2.heap.size → (W2.alloc (.cells (Array.replicate s.wet.length (Value.bool false)) 4)).heap[k]? = W2.heap[k]? := fun k hk => (below_alloc (Below.refl W2.heap.size W2) _).block k hk
  have hs3 := size_alloc W2 (.cells (Array.replicate s.wet.length (Value.bool false)) 4)
  generalize hW3 : W2.alloc (.cells (Array.replicate s.wet.length (Value.bool false)) 4) = W3
  rw [hW3] at h3 k3 hs3
  have hl1 := hb.size
  have b3 := (k3 q (by omega)).trans b2
  rw [← hs2]
  generalize hv : Value.slice (some ⟨W2.heap.size, 0, none⟩) s.wet.length s.wet.length = v
  have k4 : ∀ k, k ≠ q → (W3.setCell ⟨q, 2, none⟩ v).heap[k]? = W3.heap[k]? := fun k hk => Below.heap_setCell W3 ⟨q, 2, none⟩ v k hk
  have b4 := blk_put b3 2 v rfl
  have hg1l := h1.lt
  refine ⟨⟨?_, ?_, ?_, ?_, by omega, ⟨hB.1, hB.2.1, by omega, by omega⟩, h.cap.1, by have := rr_cap h; have := h.cap; omega⟩, ?_⟩
  · rw [b4, ← hu, ← hv]
    show some (Obj.cells #[_, _, _, _, _, _, _] _ _) = some (Obj.cells #[_, _, .slice _ (List.replicate s.wet.length false).length _, _, _, _, _] _ _)
    rw [List.length_replicate]
  · exact (((h1W.rb.keep (k2 gb (Ne.symm hn.1))).keep (k3 gb (by omega))).keep (k4 gb (Ne.symm hn.1)))
  · exact (((h1.keep (k2 g1 (by omega))).keep (k3 g1 (by omega))).keep (k4 g1 (by omega)))
  · exact h3.keep (k4 _ (by omega))
  · refine ⟨?_, ?_, ?_, by rw [World.size_setCell]; omega, fun k hk => (k4 k (by omega)).trans ((k3 k (by omega)).trans ((k2 k (by omega)).trans (hb.block k hk)))⟩
    · rw [← hW3, ← hW2]; exact hb.os
    · rw [← hW3, ← hW2]; exact hb.tape
    · rw [← hW3, ← hW2]; exact hb.output
theorem rr_new_cells (h : RRx W B q gb cb go co gw cw s) (u : Value) (ob : Obj) :
    (W.setCell ⟨q, 1, none⟩ u).cell? ⟨q, 2, none⟩ = some (.slice (some ⟨gw, 0, none⟩) s.wet.length cw) ∧ ((W.setCell ⟨q, 1, none⟩ u).alloc ob).cell? ⟨q, 2, none⟩ = some (.slice (some ⟨gw, 0, none⟩) s.wet.length cw) ∧ ((W.setCell ⟨q, 1, none⟩ u).alloc ob).frozen? ⟨q, 2, none⟩ = false := by
  have b2 := blk_put h.blk 1 u rfl
  have b3 := blk_below b2 (below_alloc (Below.refl _ _) ob)
  exact ⟨(blk_cell b2 2).trans rfl, (blk_cell b3 2).trans rfl, blk_frozen b3 2⟩
/-- what is known behind the append of Sync and Crash -/
theorem rr_app {w2 : World} {A1 : Option Addr} {c1 bl wl : Nat} (h : RRx W B q gb cb go co gw cw s) (hbl : s.b.length = bl) (hwl : s.wet.length = wl) (h0 : 0 < bl) (hr : Kd.R (Kd.int .u8) 5 w2 W.heap.size (fun _ => True) (.slice A1 bl c1) s.b) (hb2 : Below W.heap.size (W.alloc (.cells #[] 5)) w2) :
    ∃ g1, A1 = some ⟨g1, 0, none⟩ ∧ (∃ v, w2.cell? ⟨q, 1, none⟩ = some v) ∧ w2.frozen? ⟨q, 1, none⟩ = false ∧
      (w2.setCell ⟨q, 1, none⟩ (.slice (some ⟨g1, 0, none⟩) bl c1)).cell? ⟨q, 2, none⟩ = some (.slice (some ⟨gw, 0, none⟩) wl cw) ∧ ((w2.setCell ⟨q, 1, none⟩ (.slice (some ⟨g1, 0, none⟩) bl c1)).alloc (.cells (Array.replicate wl (Value.bool false)) 4)).cell? ⟨q, 2, none⟩ = some (.slice (some ⟨gw, 0, none⟩) wl cw) ∧
      ((w2.setCell ⟨q, 1, none⟩ (.slice (some ⟨g1, 0, none⟩) bl c1)).alloc (.cells (Array.replicate wl (Value.bool false)) 4)).frozen? ⟨q, 2, none⟩ = false ∧
      (∃ go' co' gw' cw', RRx (((w2.setCell ⟨q, 1, none⟩ (.slice (some ⟨g1, 0, none⟩) bl c1)).alloc (.cells (Array.replicate wl (Value.bool false)) 4)).setCell ⟨q, 2, none⟩ (.slice (some ⟨w2.heap.size, 0, none⟩) wl wl)) B q gb cb go' co' gw' cw' { s with old := s.b, wet := List.replicate s.wet.length false }) ∧
      Below B W (((w2.setCell ⟨q, 1, none⟩ (.slice (some ⟨g1, 0, none⟩) bl c1)).alloc (.cells (Array.replicate wl (Value.bool false)) 4)).setCell ⟨q, 2, none⟩ (.slice (some ⟨w2.heap.size, 0, none⟩) wl wl)) := by
  subst hbl hwl
  obtain ⟨g1, rfl, hg1, _, hrow, hc1⟩ := Row.of_R hr h0
  have hBW := RR.size ⟨_, _, _, _, _, _, h⟩
  have hal := below_alloc (Below.refl W.heap.size W) (.cells #[] 5)
  have hkk : ∀ k, B ≤ k → k < W.heap.size → w2.heap[k]? = W.heap[k]? := fun k _ hk => (hb2.block k hk).trans (hal.block k hk)
  have h2 := h.keep hkk
  obtain ⟨hn1, hn2⟩ := rr_new h ((hal.mono hBW).trans (hb2.mono hBW)) hkk hrow hg1
  obtain ⟨_, c1', _⟩ := cells7 h2.blk
  obtain ⟨g2b, c2b, fr2b⟩ := rr_new_cells h2 (.slice (some ⟨g1, 0, none⟩) s.b.length c1) (.cells (Array.replicate s.wet.length (Value.bool false)) 4)
  exact ⟨g1, rfl, ⟨_, c1'⟩, blk_frozen h2.blk 1, g2b, c2b, fr2b, ⟨_, _, _, _, hn1⟩, hn2⟩
set_option maxHeartbeats 4000000 in
set_option maxRecDepth 100000 in
theorem rsync_calls (h : RR W B q s) (o : Ok s) (ha : s.acts ≤ 1000000000) :
    Calls Try.prog 24 #[.pointer (some ⟨q, 0, none⟩)] W fun e w' => e = .returned (.int .i64 s.sync.2) ∧ RR w' B q s.sync.1 ∧ Below B W w' := by
  have HP := Lib.hid (rpower_calls h)
  cases hoff : s.off with
  | true =>
    have e : s.sync = ({ s with down := true }, 31) := by unfold D.sync; rw [if_pos hoff]
    have hd : s.died = { s with down := true } := by unfold D.died; rw [hoff, if_pos rfl]
    rw [e]
    rw [hoff, hd] at HP
    clear h o ha hoff e hd
    go_enter Try.func24, Try.ntmps24
    go_wp2_with (go_at_call 38; refine HP.out.mono ?_; rintro e w' ⟨rfl, h1, h2⟩)
    go_ret
    exact ⟨rfl, h1, h2⟩
  | false =>
    have hd : s.died = s := by unfold D.died; rw [hoff]; rfl
    have e : s.sync = ({ s.did with old := s.b, wet := List.replicate s.wet.length false }, 0) := by unfold D.sync; rw [if_neg (by rw [hoff]; decide)]
    rw [hoff, hd] at HP
    rw [e]
    have HDID := Lib.hid (fun W' (hr : RR W' B q { s with old := s.b, wet := List.replicate s.wet.length false }) => rdid_calls (s := { s with old := s.b, wet := List.replicate s.wet.length false }) hr hoff o.fl o.fu ha)
    have hbl : s.b.length ≤ 65536 := by have := o.bl; have := o.n2; omega
    have HNB := Lib.hid (And.intro o.n1 (And.intro o.n2 o.bl))
    clear h o ha hoff e hd
    go_enter Try.func24, Try.ntmps24
    go_wp2_with fail
    refine HP.out.mono ?_
    rintro e w1 ⟨rfl, h1, h2⟩
    obtain ⟨gb, cb, go, co, gw, cw, h1⟩ := h1
    have HR1 := Lib.hid h1
    have HB1 := Lib.hid h2
    obtain ⟨g0, _, g2, _, _, _, _⟩ := cells7 h1.blk
    have f1 := blk_frozen h1.blk 1
    have f2 := blk_frozen h1.blk 2
    obtain ⟨bl, hbl2⟩ : ∃ n, s.b.length = n := ⟨_, rfl⟩
    obtain ⟨wl, hwl⟩ : ∃ n, s.wet.length = n := ⟨_, rfl⟩
    have HBL := Lib.hid hbl2
    have HWL := Lib.hid hwl
    rw [hbl2] at g0 hbl
    rw [hwl] at g2
    have hwl4 : wl ≤ 4096 := by have := HNB.out; omega
    have hmk := fun w => make_bools wl (by omega) w
    have HCB := Lib.hid (show CB w1 (some ⟨gb, 0, none⟩) bl s.b by have := h1.rb.CB (by rw [hbl2]; omega); rwa [hbl2] at this)
    have hbl0 : 0 < bl := by have := HNB.out; omega
    have g0a := fun o : Obj => cell_keep0 (below_alloc (Below.refl _ _) o) g0
    clear h1 h2 HP hbl2 hwl f1 f2 g2 g0
    go_wp2_with (at_builtin; refine app_bytes rfl (.tmp 9) (.tmp 13) rfl (g := w1.heap.size) rfl (blk_new w1 _) (n := bl) rfl (Kd.C_below HCB.out (below_alloc (Below.refl _ _) _)) (by omega) ?_; intro A1 c1 w2 hr hb2; obtain ⟨g1, rfl, ⟨v1, c1'⟩, fr1, g2b, c2b, fr2b, hn1, hn2⟩ := rr_app HR1.out HBL.out HWL.out hbl0 hr hb2; have HN1 := Lib.hid hn1; have HN2 := Lib.hid hn2; clear hr hb2 hn1 hn2 g0a)
    obtain ⟨go', co', gw', cw', hn1⟩ := HN1.out
    have HD := Lib.hid (HDID.out _ ⟨gb, cb, go', co', gw', cw', hn1⟩)
    clear hn1
    refine HD.out.mono ?_
    rintro e w3 ⟨rfl, k1, k2⟩
    go_wp2_with fail
    go_ret
    exact ⟨rfl, k1, HB1.out.trans (HN2.out.trans k2)⟩
set_option maxHeartbeats 4000000 in
set_option maxRecDepth 100000 in
theorem rread_calls (h : RR W B q s) (o : Ok s) (a n : Int) : Calls Try.prog 25 #[.pointer (some ⟨q, 0, none⟩), .int .i64 a, .int .i64 n] W fun e w' => ∃ A' c', e = .returned (.tuple #[.slice A' (s.read a n).1.length c', .int .i64 (s.read a n).2]) ∧ CB w' A' (s.read a n).1.length (s.read a n).1 ∧ Below W.heap.size W w' := by
  obtain ⟨gb, cb, go, co, gw, cw, h⟩ := h
  obtain ⟨g0, _, _, _, _, _, g6⟩ := cells7 h.blk
  have hbl : s.b.length ≤ 65536 := by have := o.bl; have := o.n2; omega
  have HCB := Lib.hid (h.rb.CB (by omega))
  have hcap := (rr_cap h).1
  cases hd : s.down with
  | true =>
    have e : s.read a n = ([], 31) := by unfold D.read; rw [if_pos hd]
    rw [e]
    rw [hd] at g6
    clear h g0 hd e o
    go_enter Try.func25, Try.ntmps25
    go_wp2_with fail
    go_ret2
    exact ⟨none, 0, rfl, ⟨rfl, by simp, fun h => absurd h (Nat.lt_irrefl 0)⟩, Below.refl _ _⟩
  | false =>
    rw [hd] at g6
    obtain ⟨N, hN⟩ : ∃ N, s.b.length = N := ⟨_, rfl⟩
    have hsub : a ≥ 0 → a ≤ 65536 → IntKind.i64.wrap ((N : Int) - a) = (N : Int) - a := fun h1 h2 => IntWalk.i64_in _ (by omega)
    cases hw : within s.b.length a n with
    | false =>
      have e : s.read a n = ([], 1) := by unfold D.read; rw [if_neg (by rw [hd]; decide), if_neg (by rw [hw]; decide)]
      rw [e]
      rw [hN] at hw g0 hbl
      rcases (show a < 0 ∨ (¬ a < 0 ∧ n < 0) ∨ (¬ a < 0 ∧ ¬ n < 0 ∧ a > (N : Int)) ∨ (¬ a < 0 ∧ ¬ n < 0 ∧ ¬ a > (N : Int) ∧ n > (N : Int) - a) by
        unfold within at hw
        by_cases c1 : 0 ≤ a
        · by_cases c0 : 0 ≤ n
          · by_cases c2 : a ≤ (N : Int)
            · by_cases c3 : n ≤ (N : Int) - a
              · rw [decide_eq_true c1, decide_eq_true c2, decide_eq_true c3, decide_eq_true c0] at hw
                cases hw
              · omega
            · omega
          · omega
        · omega) with d1 | ⟨d1, d2⟩ | ⟨d1, d2, d3⟩ | ⟨d1, d2, d3, d4⟩
      · clear h hd e o hcap hw hN hsub
        go_enter Try.func25, Try.ntmps25
        go_wp2_with fail
        go_ret2
        first | exact ⟨none, 0, rfl, cb_nil _, Below.refl _ _⟩ | exact ⟨none, ⟨0, rfl⟩, cb_nil _, Below.refl _ _⟩
      · clear h hd e o hcap hw hN hsub
        go_enter Try.func25, Try.ntmps25
        go_wp2_with fail
        go_ret2
        first | exact ⟨none, 0, rfl, cb_nil _, Below.refl _ _⟩ | exact ⟨none, ⟨0, rfl⟩, cb_nil _, Below.refl _ _⟩
      · clear h hd e o hcap hw hN hsub
        go_enter Try.func25, Try.ntmps25
        go_wp2_with fail
        go_ret2
        first | exact ⟨none, 0, rfl, cb_nil _, Below.refl _ _⟩ | exact ⟨none, ⟨0, rfl⟩, cb_nil _, Below.refl _ _⟩
      · have hsub2 := hsub (by omega) (by omega)
        clear h hd e o hcap hw hN hsub
        go_enter Try.func25, Try.ntmps25
        go_wp2_with fail
        go_ret2
        first | exact ⟨none, 0, rfl, cb_nil _, Below.refl _ _⟩ | exact ⟨none, ⟨0, rfl⟩, cb_nil _, Below.refl _ _⟩
    | true =>
      obtain ⟨w1, w2, w3, w4⟩ := within_iff hw
      obtain ⟨k, rfl⟩ : ∃ k : Nat, a = (k : Int) := ⟨a.toNat, by omega⟩
      obtain ⟨j, rfl⟩ : ∃ j : Nat, n = (j : Int) := ⟨n.toNat, by omega⟩
      have e : s.read (k : Int) (j : Int) = ((s.b.drop k).take j, 0) := by unfold D.read; rw [if_neg (by rw [hd]; decide), if_pos hw, Int.toNat_natCast, Int.toNat_natCast]
      rw [e]
      obtain ⟨A', r1, r2⟩ := cut_run (some ⟨gb, 0, none⟩) cb s.b hcap k j (by omega)
      have hlen : ((s.b.drop k).take j).length = j := by rw [List.length_take, List.length_drop]; omega
      rw [hlen]
      have HLEN := Lib.hid hlen
      have HR2 := Lib.hid (fun w' (hb : Below W.heap.size W w') => r2 w' (Kd.C_below HCB.out hb))
      rw [hN] at w3 w4 g0 r1 hbl
      have hsub2 := hsub (by omega) (by omega)
      have d1 : ¬ (k : Int) < 0 := by omega
      have d2 : ¬ (j : Int) < 0 := by omega
      have d3 : ¬ (k : Int) > (N : Int) := by omega
      have d4 : ¬ (j : Int) > (N : Int) - (k : Int) := by omega
      have q1 : IntKind.i64.wrap ((k : Int) + (j : Int)) = (k : Int) + (j : Int) := IntWalk.i64_in _ (by omega)
      have hj6 : j ≤ 65536 := by omega
      have g0a := fun o : Obj => cell_keep0 (below_alloc (Below.refl _ _) o) g0
      clear h hd e o hw r2 hlen hcap hsub w1 w2 w3 w4 hN
      go_enter Try.func25, Try.ntmps25
      go_wp2_with (at_builtin; refine app_bytes rfl (.tmp 38) (.tmp 47) rfl (g := W.heap.size) rfl (blk_new W _) (n := j) rfl (HR2.out _ (below_alloc (Below.refl _ _) _)) (by omega) ?_; intro A1 c1 w2 hr hb2; have HR := Lib.hid (rC hr); have HB := Lib.hid (show Below W.heap.size W w2 from (below_alloc (Below.refl W.heap.size W) (.cells #[] 5)).trans hb2); clear hr hb2)
      go_ret2
      first | exact ⟨A1, c1, rfl, by have := HR.out; rwa [HLEN.out] at this, HB.out⟩ | exact ⟨A1, ⟨c1, rfl⟩, by have := HR.out; rwa [HLEN.out] at this, HB.out⟩
/-! ### Loose -/
def looseTo (wet : List Bool) (i : Nat) : List Int := (((List.range i).filter fun j => wet.getD j false)).map fun j : Nat => (j : Int)
theorem looseTo_all (wet : List Bool) : looseTo wet wet.length = looseI wet := rfl
theorem looseTo_yes (wet : List Bool) (i : Nat) (h : wet.getD i false = true) : looseTo wet (i + 1) = looseTo wet i ++ [(i : Int)] := by
  unfold looseTo
  rw [List.getD_eq_getElem?_getD] at h
  rw [List.range_succ, List.filter_append, List.map_append]
  simp [h]
theorem looseTo_no (wet : List Bool) (i : Nat) (h : wet.getD i false = false) : looseTo wet (i + 1) = looseTo wet i := by
  unfold looseTo
  rw [List.getD_eq_getElem?_getD] at h
  rw [List.range_succ, List.filter_append, List.map_append]
  simp [h]
theorem looseTo_len (wet : List Bool) (i : Nat) : (looseTo wet i).length ≤ i := by
  unfold looseTo
  rw [List.length_map]
  exact Nat.le_trans (List.length_filter_le _ _) (by rw [List.length_range]; exact Nat.le_refl _)
set_option maxHeartbeats 4000000 in
set_option maxRecDepth 100000 in
theorem rloose_calls (h : RR W B q s) (o : Ok s) : Calls Try.prog 29 #[.pointer (some ⟨q, 0, none⟩)] W fun e w' => ∃ v, e = .returned v ∧ Kd.R (Kd.int .i64) 3 w' W.heap.size (fun _ => True) v (looseI s.wet) ∧ Below W.heap.size W w' := by
  obtain ⟨gb, cb, go, co, gw, cw, h⟩ := h
  have HH := Lib.hid h
  have hn2 := o.n2
  obtain ⟨n, hn⟩ : ∃ n, s.wet.length = n := ⟨_, rfl⟩
  have HN := Lib.hid hn
  rw [hn] at hn2
  clear h o hn
  go_enter Try.func29, Try.ntmps29
  go_wp2_with fail
  go_loopg [3, 4] n (fun gg s3 s4 wr => ∃ i : Nat, i ≤ n ∧ n - i ≤ gg ∧ s4 = .int .i64 i ∧ Hid (Kd.R (Kd.int .i64) 3 wr W.heap.size (fun _ => True) s3 (looseTo s.wet i)) ∧ Hid (Below W.heap.size W wr))
  case atStart => exact ⟨0, Nat.zero_le _, by omega, rfl, Kd.R_nil _ _ _ _ _, Below.refl _ _⟩
  case round =>
    obtain ⟨i, hi, hgg, rfl, HR, HB⟩ := hrel
    have HHr := Lib.hid (HH.out.keep (W' := wr) (fun k _ hk => HB.out.block k hk))
    obtain ⟨_, _, g2, _, _, _, _⟩ := cells7 HHr.out.blk
    rw [HN.out] at g2
    by_cases hlt : i < n
    · have hltz : decide ((i : Int) < (n : Int)) = true := decide_eq_true (by omega)
      have hx := HHr.out.rw_.cell i (by rw [HN.out]; exact hlt)
      have HLT := Lib.hid hlt
      have hge : s.wet[i]'(by rw [HN.out]; exact hlt) = s.wet.getD i false := by rw [List.getD_eq_getElem?_getD, List.getElem?_eq_getElem (by rw [HN.out]; exact hlt)]; rfl
      rw [hge] at hx
      cases hb : s.wet.getD i false with
      | false =>
        rw [hb] at hx
        have HL := Lib.hid (looseTo_no s.wet i hb)
        clear hge hb
        go_wp2_with fail
        go_roundg (n - (i + 1))
        case measure => omega
        case rel => exact ⟨i + 1, by omega, by omega, by go_num, by rw [HL.out]; exact HR, HB⟩
      | true =>
        rw [hb] at hx
        have HL := Lib.hid (looseTo_yes s.wet i hb)
        have hll := looseTo_len s.wet i
        obtain ⟨A3, c3, e3⟩ := Kd.R_slice HR.out
        subst e3
        have HW := Lib.hid (HB.out.size)
        clear hge hb
        go_wp2_with (at_builtin; refine Kd.R_append_row (Value.int .i64) (0 : Int) (h1 := fun _ => rfl) (w0 := wr) W.heap.size rfl (.tmp 21) (.tmp 23) 34 3 (.int .i64 0) 8 rfl Try.underlying34 infoInt rfl (by decide) (.slice A3 (looseTo s.wet i).length c3) (looseTo s.wet i) [(i : Int)] (some ⟨wr.heap.size, 0, none⟩) 1 1 (fun _ => True) rfl rfl (fun _ _ => trivial) (Kd.R_below HR.out (below_alloc (Below.refl _ _) _)) (one_int wr i) (Below.mono (below_alloc (Below.refl _ _) _) HW.out) (by rw [size_alloc]; exact Nat.le_succ_of_le HW.out) (by omega) ?_; intro v1 w2 hr hb2 _ _; obtain ⟨A4, c4, rfl⟩ := Kd.R_slice hr; have HR2 := Lib.hid hr; have HB2 := Lib.hid (HB.out.trans hb2); clear hr hb2)
        go_roundg (n - (i + 1))
        case measure => have := HLT.out; omega
        case rel => exact ⟨i + 1, by have := HLT.out; omega, by omega, by go_num, by rw [HL.out]; rw [List.length_append] at HR2; exact HR2, HB2⟩
    · have hltz : decide ((i : Int) < (n : Int)) = false := decide_eq_false (by omega)
      obtain rfl : i = n := by omega
      rw [show looseTo s.wet i = looseI s.wet by rw [← HN.out]; rfl] at HR
      obtain ⟨A3, c3, e3⟩ := Kd.R_slice HR.out
      subst e3
      go_wp2_with fail
      go_ret
      exact ⟨_, rfl, HR.out, HB.out⟩
/-! ### Same -/
set_option maxHeartbeats 4000000 in
set_option maxRecDepth 100000 in
theorem rsame_calls (A1 A2 : Option Addr) (c1 c2 : Nat) (l : List Int) (h1 : Kd.C (Kd.int .i64) W A1 l.length l) (h2 : Kd.C (Kd.int .i64) W A2 l.length l) : Calls Try.prog 28 #[.slice A1 l.length c1, .slice A2 l.length c2] W fun e w' => e = .returned (.bool true) ∧ ∃ m, w' = W.drewN m := by
  have H1 := Lib.hid h1
  have H2 := Lib.hid h2
  obtain ⟨n, hn⟩ : ∃ n, l.length = n := ⟨_, rfl⟩
  have hn9 : (n : Int) ≤ 9223372036854775807 := by have := h1.2.1; omega
  rw [hn] at H1 H2 ⊢
  clear h1 h2 hn
  go_enter Try.func28, Try.ntmps28
  go_wp2_with fail
  go_loopg [5] n (fun gg s5 wr => ∃ i : Nat, i ≤ n ∧ n - i ≤ gg ∧ s5 = .int .i64 i ∧ Hid (∃ m, wr = W.drewN m))
  case atStart => exact ⟨0, Nat.zero_le _, by omega, rfl, Lib.hid ⟨0, rfl⟩⟩
  case round =>
    obtain ⟨i, hi, hgg, rfl, HQ⟩ := hrel
    by_cases hlt : i < n
    · have hltz : decide ((i : Int) < (n : Int)) = true := decide_eq_true (by omega)
      have hb : Below W.heap.size W wr := by obtain ⟨q, hq⟩ := HQ.out; rw [hq]; exact below_drewN (Below.refl _ _) q
      obtain ⟨ad1, ea1, x1⟩ := Kd.at_int (Kd.C_below H1.out hb) (i : Int) (by omega) (by omega)
      obtain ⟨ad2, ea2, x2⟩ := Kd.at_int (Kd.C_below H2.out hb) (i : Int) (by omega) (by omega)
      obtain ⟨x, hx⟩ : ∃ x, rd l (i : Int) = x := ⟨_, rfl⟩
      rw [hx, Int.toNat_natCast] at x1 x2
      cases ea1
      cases ea2
      clear hb hx
      go_wp2_with fail
      go_quiet (fail)
      go_wp2_with fail
      go_roundg (n - (i + 1))
      case measure => omega
      case rel => exact ⟨i + 1, by omega, by omega, by go_num, by obtain ⟨q, hq⟩ := HQ.out; rw [hq]; exact Lib.hid ⟨q + nq, World.drewN_drewN _ _ _⟩⟩
    · have hltz : decide ((i : Int) < (n : Int)) = false := decide_eq_false (by omega)
      go_wp2_with fail
      go_ret
      exact ⟨rfl, HQ.out⟩
end
end Go.Proofs.Ytpchobikpamfcaa.Sk
