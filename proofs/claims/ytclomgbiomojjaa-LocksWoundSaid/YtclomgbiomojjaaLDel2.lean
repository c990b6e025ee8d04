/- The walk of slices.DeleteFunc at rows of api.Hold of the call's own. -/
import Derived.Test.YtclomgbiomojjaaLDel
namespace Go.Proofs.Ytclomgbiomojjaa.LDel2
open Go Go.RowKit Go.Shelf Go.Proofs Go.Proofs.Ytclomgbiomojjaa.Q Go.Proofs.Ytclomgbiomojjaa.IHold Go.Proofs.Ytclomgbiomojjaa.OHold Go.Proofs.Ytclomgbiomojjaa.LDel Go.Proofs.YtclomgbiomojjaaW.PrintWords Go.Proofs.YtclomgbiomojjaaW.PrintLast Go.Proofs.YtclomgbiomojjaaW.PrintMore
set_option linter.unusedVariables false

/-- what stands besides the row -/
def Frame (w W : World) (g : Nat) : Prop := (∀ k, k < w.heap.size → k ≠ g → W.heap[k]? = w.heap[k]?) ∧ w.heap.size ≤ W.heap.size
theorem frame_refl (w : World) (g : Nat) : Frame w w g := ⟨fun _ _ _ => rfl, Nat.le_refl _⟩
theorem frame_below {w W W2 : World} {g : Nat} (h : Frame w W g) (hb : Below W.heap.size W W2) : Frame w W2 g :=
  ⟨fun k h1 h2 => (hb.block k (Nat.lt_of_lt_of_le h1 h.2)).trans (h.1 k h1 h2), Nat.le_trans h.2 hb.size⟩
theorem frame_set {w W : World} {g : Nat} (h : Frame w W g) (o : Nat) (v : Value) : Frame w (W.setCell ⟨g, o, none⟩ v) g :=
  ⟨fun k h1 h2 => (Below.heap_setCell W ⟨g, o, none⟩ v k h2).trans (h.1 k h1 h2), by rw [World.size_setCell]; exact h.2⟩
theorem row_cells {w : World} {base g n cap i : Nat} {xs : List S34} (hR : Kd.R k34 34 w base (fun _ => True) (.slice (some ⟨g, 0, none⟩) n cap) xs) (hn : xs.length = n) (hi : i ≤ n) :
    ∀ q, q < (n - i) * 3 → (w.cell? ⟨g, i * 3 + q, none⟩).isSome = true ∧ w.frozen? ⟨g, i * 3 + q, none⟩ = false := by
  subst hn
  intro q hq
  obtain ⟨g9, cap9, cur9, hv9, hg9, hnc9, hcap9, hh9⟩ := R_form hR (by omega)
  have hg8 : g9 = g := by injection hv9 with h1 _ _; injection h1 with h2; injection h2 with h3; exact h3.symm
  subst hg8
  refine ⟨?_, blk_frozen hh9 _⟩
  obtain ⟨_, inner, hown, _⟩ := hR
  have hown2 : w.ownsRow base 34 3 (.slice (some ⟨g9, 0, none⟩) xs.length cap) xs.length inner := hown
  obtain ⟨hl, h2⟩ := hown2
  rcases h2 with ⟨h3, _⟩ | ⟨g', cap', cur8, hv, hg, hh, hn', hm, hcz, hct⟩
  · cases h3
  · have : g' = g9 := by injection hv with h1 _ _; injection h1 with h2; injection h2 with h3; exact h3.symm
    subst this
    rw [blk_cell hh]
    have hcz2 : cur8.size = cap' * 3 := hcz
    have : i * 3 + q < cur8.size := by rw [hcz2]; omega
    rw [Array.getElem?_eq_getElem this]
    rfl
theorem row_cap {w : World} {base g n cap : Nat} {xs : List S34} (hR : Kd.R k34 34 w base (fun _ => True) (.slice (some ⟨g, 0, none⟩) n cap) xs) (hp : 0 < xs.length) : n ≤ cap := by
  obtain ⟨g9, cap9, cur9, hv9, hg9, hnc9, hcap9, hh9⟩ := R_form hR hp
  injection hv9 with h1 h2 h3
  omega
theorem below_cells {base g : Nat} {w : World} (hg : base ≤ g) : ∀ (vs : List Value) (o : Nat) (W : World), Below base w W → Below base w (W.setCells g o vs)
  | [], _, _, h => h
  | v :: r, o, W, h => below_cells hg r (o + 1) (W.setCell ⟨g, o, none⟩ v) (Below.setCell (p := ⟨g, o, none⟩) h hg v)
def PredO (fn : Nat) (lb : Array Value) (p : S34 → Bool) (g : Nat) (w : World) : Prop :=
  ∀ (W : World) (x : S34), Frame w W g → Calls Try.prog fn (#[.agg #[.string x.f0, .int .i64 x.f1, .int .i64 x.f2]] ++ lb) W fun e w' => e = .returned (.bool (p x)) ∧ Below W.heap.size W w'
theorem predB_of {fn : Nat} {lb : Array Value} {p : S34 → Bool} {g : Nat} {w : World} (h : PredO fn lb p g w) (l : List S34) : PredB fn lb p l w :=
  fun W x _ hb => h W x (frame_below (frame_refl w g) hb)
set_option maxHeartbeats 4000000 in
set_option maxRecDepth 100000 in
theorem del_some (fn : Nat) (lb : Array Value) (eg : ∀ args w, (callFunc fn args).run Try.prog w = .ok (.enter fn args) w) (p : S34 → Bool) (base g cap n : Nat) (l : List S34) (w : World)
    (hR : Kd.R k34 34 w base (fun _ => True) (.slice (some ⟨g, 0, none⟩) n cap) l) (hn : l.length = n) (hl : n ≤ 1000000) (hgb : base ≤ g) (hbase : base ≤ w.heap.size) (hp : PredO fn lb p g w) (ha : l.any p = true) :
    Calls Try.prog 36 #[.slice (some ⟨g, 0, none⟩) n cap, .func (.func fn) #[] lb] w fun e w' => ∃ v, e = .returned v ∧ Kd.R k34 34 w' base (fun _ => True) v (l.filter (fun x => !p x)) ∧ Below base w w' := by
  have HI := Lib.hid (index_calls fn lb eg p (some ⟨g, 0, none⟩) cap l w (predB_of hp l) (Kd.R_reads' hR).2.2 (by omega))
  obtain ⟨s1, s2, s3⟩ := cur_start p l ha
  obtain ⟨i0, hi0⟩ : ∃ i, l.findIdx p = i := ⟨_, rfl⟩
  have e1 : idxI p l = (i0 : Int) := by unfold idxI; rw [if_pos ha, hi0]
  rw [e1, hn] at HI
  rw [hi0] at s1 s2 s3
  have HN := Lib.hid hn
  have HP := Lib.hid hp
  have HR := Lib.hid hR
  have HA := Lib.hid ha
  have HS1 := Lib.hid s1
  have HS2 := Lib.hid s2
  clear hn hp hR ha s1 s2 hi0 e1
  have hi0n : i0 < n := by have := HN.out; omega
  clear s3
  go_enter Try.func36, Try.ntmps36
  go_wp2_with fail
  refine HI.out.mono ?_
  rintro e w1 ⟨rfl, hb1⟩
  have hne : ¬ (i0 : Int) = -1 := by omega
  have HB1 := Lib.hid hb1
  clear hb1 HI
  go_wp2_with fail
  go_loopg [5, 6] n (fun gg s5 s6 wr => ∃ j : Nat, j ≤ n ∧ n - j ≤ gg ∧ (F p l j).length < j ∧ s5 = .int .i64 ((F p l j).length : Nat) ∧ s6 = .int .i64 j ∧ Hid (Kd.R k34 34 wr base (fun _ => True) (.slice (some ⟨g, 0, none⟩) n cap) (cur p l j)) ∧ Hid (Below base w wr) ∧ Hid (Frame w wr g))
  case atStart =>
    refine ⟨i0 + 1, by omega, by omega, by rw [HS2.out]; omega, by rw [HS2.out], by go_num, ?_, ?_, ?_⟩
    · rw [HS1.out]; exact Kd.R_below HR.out HB1.out
    · exact HB1.out.mono hbase
    · exact frame_below (frame_refl w g) HB1.out
  case round =>
    obtain ⟨j, hj, hg, hij, rfl, rfl, hRr, hB, hFr⟩ := hrel
    by_cases hlt : j < n
    · have hltz : (j : Int) < (n : Int) := by omega
      obtain ⟨ad, ea, hx0, hx1, hx2⟩ := at_T34 (Kd.R_reads' hRr.out).2.2 (j : Int) (by omega) (by rw [cur_len p l j (by have := HN.out; omega)]; have := HN.out; omega)
      cases ea
      rw [cur_at p l j (by have := HN.out; omega)] at hx0 hx1 hx2
      simp only [Int.toNat_natCast, Addr.add_lit, Nat.zero_add] at hx0 hx1 hx2
      obtain ⟨x, hxx⟩ : ∃ x, rd_T34 l (j : Int) = x := ⟨_, rfl⟩
      rw [hxx] at hx0 hx1 hx2
      have HX := Lib.hid hxx
      clear hxx
      go_wp2_with (first | ((with_reducible refine gate_dst (N := 7) rfl ?_); refine box_event ?hg (N := 7) ?hd (cs := #[.string (⟨#[]⟩ : ByteArray), .int .i64 0, .int .i64 0]) (t := 34) ?hr ?_; (case hd => rfl); (case hg => rfl); (case hr => first | (go_simp; done) | (go_simp; rfl)); intro gb hgb1 w3 hbox hb3; have y0 := (hb3.cell (World.block_lt_of_cell? _ _ hx0)).trans hx0; have y1 := (hb3.cell (World.block_lt_of_cell? _ _ hx1)).trans hx1; have y2 := (hb3.cell (World.block_lt_of_cell? _ _ hx2)).trans hx2; have HBX := Lib.hid hbox; have HB3 := Lib.hid hb3; have HG3 := Lib.hid hgb1; have z0 := (blk_cell hbox 0).trans rfl; have z1 := (blk_cell hbox 1).trans rfl; have z2 := (blk_cell hbox 2).trans rfl; have f0 := blk_frozen hbox 0; have f1 := blk_frozen hbox 1; have f2 := blk_frozen hbox 2; clear hbox hb3 hgb1))
      obtain ⟨W4, hW4⟩ : ∃ W4, (((w3.setCell ⟨gb, 0, none⟩ (.string x.f0)).setCell ⟨gb, 1, none⟩ (.int .i64 x.f1)).setCell ⟨gb, 2, none⟩ (.int .i64 x.f2)) = W4 := ⟨_, rfl⟩
      have hgw : wr.heap.size ≤ gb := by rw [HG3.out]; exact Nat.le_refl _
      have hK4 : W4.heap[gb]? = some (.cells #[.string x.f0, .int .i64 x.f1, .int .i64 x.f2] 34 (0, 0)) := hW4 ▸ blk_put (cs := #[.string x.f0, .int .i64 x.f1, .int .i64 0]) (blk_put (cs := #[.string x.f0, .int .i64 0, .int .i64 0]) (blk_put HBX.out 0 _ rfl) 1 _ rfl) 2 _ rfl
      have hB4 : Below wr.heap.size wr W4 := hW4 ▸ below_set (below_set (below_set HB3.out hgw) hgw) hgw
      rw [hW4]
      clear hW4 y0 y1 y2 z0 z1 z2 f0 f1 f2 hx0 hx1 hx2
      refine (HP.out W4 x (frame_below hFr.out hB4)).mono ?_
      rintro e w5 ⟨rfl, hb5⟩
      have HK5 := Lib.hid (blk_below hK4 hb5)
      have HB5 := Lib.hid (below_step hB4 hb5)
      have HR5 := Lib.hid (Kd.R_below hRr.out HB5.out)
      have HF5 := Lib.hid (frame_below hFr.out HB5.out)
      have HBb5 := Lib.hid (Below.trans hB.out (HB5.out.mono (Nat.le_trans hbase hFr.out.2)))
      clear hb5 hK4 hB4
      cases hq : p x with
      | true =>
        have HQ := Lib.hid hq
        clear hq
        go_wp2_with fail
        go_roundg (n - (j + 1))
        case measure => omega
        case rel =>
          obtain ⟨u1, u2⟩ := cur_skip p l j (by have := HN.out; omega) (by rw [HX.out]; exact HQ.out)
          refine ⟨j + 1, by omega, by omega, by rw [u2]; omega, by rw [u2], by go_num, ?_, HBb5, HF5⟩
          rw [u1]; exact HR5
      | false =>
        have HQ := Lib.hid hq
        clear hq
        obtain ⟨u1, u2⟩ := cur_keep p l j (by have := HN.out; omega) (by rw [HX.out]; exact HQ.out)
        have HU1 := Lib.hid u1
        have HU2 := Lib.hid u2
        clear u1 u2
        obtain ⟨i, hi⟩ : ∃ i, (F p l j).length = i := ⟨_, rfl⟩
        have HI2 := Lib.hid hi
        rw [hi] at hij ⊢
        clear hi
        have hiz : (i : Int) < (n : Int) := by omega
        have hcl : (cur p l j).length = n := by rw [cur_len p l j (by have := HN.out; omega), HN.out]
        obtain ⟨ad3, ea3, hc0, hc1, hc2⟩ := at_T34 (Kd.R_reads' HR5.out).2.2 (i : Nat) (by omega) (by omega)
        obtain ⟨g9, cap9, cur9, hv9, hg9, hnc9, hcap9, hh9⟩ := R_form HR5.out (by omega)
        have hg8 : g9 = g := by injection hv9 with h1 _ _; injection h1 with h2; injection h2 with h3; exact h3.symm
        rw [hg8] at hh9
        clear hg8 hv9
        cases ea3
        simp only [Int.toNat_natCast, Addr.add_lit, Nat.zero_add] at hc0 hc1 hc2
        have r0 := blk_frozen hh9 (i * 3)
        have r1 := blk_frozen hh9 (i * 3 + 1)
        have r2 := blk_frozen hh9 (i * 3 + 2)
        have q0 : w5.cell? ⟨gb, 0, none⟩ = some (.string x.f0) := (blk_cell HK5.out 0).trans rfl
        have q1 : w5.cell? ⟨gb, 1, none⟩ = some (.int .i64 x.f1) := (blk_cell HK5.out 1).trans rfl
        have q2 : w5.cell? ⟨gb, 2, none⟩ = some (.int .i64 x.f2) := (blk_cell HK5.out 2).trans rfl
        clear hh9
        go_wp2_with fail
        go_roundg (n - (j + 1))
        case measure => omega
        case rel =>
          have HS := store_R x HR5.out (show i < (cur p l j).length by omega)
          have hs1 : base ≤ g := hgb
          refine ⟨j + 1, by omega, by omega, by rw [HU2.out, HI2.out]; omega, ?_, by go_num, ?_, ?_, ?_⟩
          · rw [HU2.out, HI2.out]; go_num
          · rw [← HU1.out, HI2.out, HX.out]; exact HS
          · exact Below.setCell (p := ⟨g, i * 3 + 2, none⟩) (Below.setCell (p := ⟨g, i * 3 + 1, none⟩) (Below.setCell (p := ⟨g, i * 3, none⟩) HBb5.out hs1 _) hs1 _) hs1 _
          · exact frame_set (frame_set (frame_set HF5.out _ _) _ _) _ _
    · have hjn : n = j := by omega
      subst hjn
      have hltz : ¬ (n : Int) < (n : Int) := by omega
      obtain ⟨i, hi⟩ : ∃ i, (F p l n).length = i := ⟨_, rfl⟩
      have HI2 := Lib.hid hi
      rw [hi] at hij ⊢
      clear hi
      have hcl : (cur p l n).length = n := by rw [cur_len p l n (by have := HN.out; omega), HN.out]
      have hiz : (i : Int) < (n : Int) := by omega
      have HCL := Lib.hid hcl
      clear hcl
      have hrow : ∀ q, q < (n - i) * 3 → (wr.cell? ⟨g, i * 3 + q, none⟩).isSome = true ∧ wr.frozen? ⟨g, i * 3 + q, none⟩ = false := row_cells hRr.out HCL.out (by omega)
      have hclr : ∀ ty, (Builtin.clear_ #[22] ty #[.slice (some ⟨g, i * 3, none⟩) (n - i) (cap - i)]).run Try.prog wr = .ok (.tuple #[]) (wr.setCells g (i * 3) (zs (n - i))) := fun ty => run_clear3 wr ty g (i * 3) (n - i) (cap - i) (by omega) (fun q hq => (hrow q hq).1) (fun q hq => (hrow q hq).2)
      have HROW := Lib.hid hrow
      clear hrow
      have hcap : n ≤ cap := row_cap hRr.out (by have := HCL.out; omega)
      have hic : (i : Int) ≤ (cap : Int) := by omega
      go_wp2_with fail
      go_ret
      have HC := cut_R hRr.out (show i ≤ (cur p l n).length by have := HCL.out; omega) HCL.out
      obtain ⟨f1, f2⟩ := F_all p l
      have hf : (cur p l n).take i = l.filter (fun x => !p x) := by rw [← HI2.out, ← f2, HN.out]
      rw [hf] at HC
      exact ⟨_, rfl, HC, below_cells hgb _ _ _ hB.out⟩
set_option maxHeartbeats 4000000 in
set_option maxRecDepth 100000 in
theorem del_none (fn : Nat) (lb : Array Value) (eg : ∀ args w, (callFunc fn args).run Try.prog w = .ok (.enter fn args) w) (p : S34 → Bool) (base : Nat) (A : Option Addr) (cap : Nat) (l : List S34) (w : World)
    (hR : Kd.R k34 34 w base (fun _ => True) (.slice A l.length cap) l) (hl : l.length ≤ 1000000) (hbase : base ≤ w.heap.size) (hp : PredB fn lb p l w) (ha : l.any p = false) :
    Calls Try.prog 36 #[.slice A l.length cap, .func (.func fn) #[] lb] w fun e w' => ∃ v, e = .returned v ∧ Kd.R k34 34 w' base (fun _ => True) v (l.filter (fun x => !p x)) ∧ Below base w w' := by
  have HI := Lib.hid (index_calls fn lb eg p A cap l w hp (Kd.R_reads' hR).2.2 (by omega))
  have e1 : idxI p l = -1 := by unfold idxI; rw [ha]; rfl
  rw [e1] at HI
  rw [F_none p l ha]
  have HR := Lib.hid hR
  obtain ⟨n, hn⟩ : ∃ n, l.length = n := ⟨_, rfl⟩
  rw [hn] at HI HR hl ⊢
  clear hp hR ha e1 hn
  go_enter Try.func36, Try.ntmps36
  go_wp2_with fail
  refine HI.out.mono ?_
  rintro e w1 ⟨rfl, hb1⟩
  have HB1 := Lib.hid hb1
  clear hb1 HI
  go_wp2_with fail
  go_ret
  exact ⟨_, rfl, Kd.R_below HR.out HB1.out, HB1.out.mono hbase⟩
/-- slices.DeleteFunc at a row of one's own. -/
theorem del_calls (fn : Nat) (lb : Array Value) (eg : ∀ args w, (callFunc fn args).run Try.prog w = .ok (.enter fn args) w) (p : S34 → Bool) (base : Nat) (v : Value) (l : List S34) (w : World)
    (hR : Kd.R k34 34 w base (fun _ => True) v l) (hl : l.length ≤ 1000000) (hbase : base ≤ w.heap.size) (hp : ∀ g, base ≤ g → PredO fn lb p g w) :
    Calls Try.prog 36 #[v, .func (.func fn) #[] lb] w fun e w' => ∃ v', e = .returned v' ∧ Kd.R k34 34 w' base (fun _ => True) v' (l.filter (fun x => !p x)) ∧ Below base w w' := by
  cases ha : l.any p with
  | false =>
    obtain ⟨A, cap, rfl⟩ := Kd.R_slice hR
    exact del_none fn lb eg p base A cap l w hR hl hbase (predB_of (hp base (Nat.le_refl _)) l) ha
  | true =>
    have hpos : 0 < l.length := by
      rcases l with _ | ⟨x, t⟩
      · cases ha
      · simp
    obtain ⟨g, cap, cur8, rfl, hg, _, _, _⟩ := R_form hR hpos
    exact del_some fn lb eg p base g cap l.length l w hR rfl hl hg hbase (hp g hg) ha
end Go.Proofs.Ytclomgbiomojjaa.LDel2
