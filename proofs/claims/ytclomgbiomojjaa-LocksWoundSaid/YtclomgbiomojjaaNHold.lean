/- The walk of slices.Insert, of one element, at rows of api.Hold of the call's own. -/
import Derived.Test.YtclomgbiomojjaaQx0
import Derived.Shelf.Spec.SlicesInsert
import Derived.Lib.AppendZerosOnto
import Derived.Laws.NewBlocks
import Derived.Maps.AppendAt
import Derived.WalkLawsBesides
import Derived.WalkSpells
import Derived.Lib.Hide
namespace Go.Proofs.Ytclomgbiomojjaa.NHold
open Go Go.RowKit Go.Lib Go.Proofs Go.Proofs.YtclomgbiomojjaaW.PrintWords Go.Proofs.YtclomgbiomojjaaW.PrintLast Go.Proofs.YtclomgbiomojjaaW.PrintMore

theorem run_copy_sz {P : Program} (sz : Nat) (w : World) (dT sT ty elem : TypeId) (b o dLen dCap : Nat) (a : Addr) (sLen sCap : Nat) (cs : List Value)
    (hu : P.underlying dT = some (.slice elem)) (hs : (P.info? elem).map (·.size) = some sz) (hn : cs.length = Nat.min sLen dLen * sz)
    (hsrc : ∀ j v, cs[j]? = some v → w.cell? (a.add j) = some v) (hc : ∀ j, j < cs.length → (w.cell? ⟨b, o + j, none⟩).isSome = true) (hf : ∀ j, j < cs.length → w.frozen? ⟨b, o + j, none⟩ = false) (h1 : ∀ v ∈ cs, v.oneCell' = true) :
    (Builtin.copy_ #[dT, sT] ty #[.slice (some ⟨b, o, none⟩) dLen dCap, .slice (some a) sLen sCap]).run P w = .ok (goInt (Nat.min sLen dLen)) (w.setCells b o cs) := by
  have hl := run_loadCells_list (P := P) w a cs hsrc
  have hst := run_storeCells_cells (P := P) b o cs 0 w (by simpa using hc) (by simpa using hf) h1
  cases hq : P.info? elem with
  | none => simp [hq] at hs
  | some i =>
    have hi : i.size = sz := by simpa [hq] using hs
    simp [Builtin.copy_, run_underlying hu, Builtin.lenOf, Builtin.firstCells, sizeOf, typeInfo, hq, hi, ← hn, hl, hst]

theorem info_e : (Try.prog.info? 34).map (fun i => (i.zero, i.size, i.bytes)) = some (some (.agg #[.string ⟨#[]⟩, .int .i64 0, .int .i64 0]), 3, 32) := by kernel_rfl
theorem size_e : (Try.prog.info? 34).map (·.size) = some 3 := by kernel_rfl
theorem zeros_size (k : Nat) : (Builtin.zeroCells (Value.cells (.agg #[.string ⟨#[]⟩, .int .i64 0, .int .i64 0])) k).size = k * 3 := by simp [Builtin.zeroCells, Value.cells]
theorem copies : Try.prog.follows .mixedOrders = true := by kernel_rfl

set_option maxHeartbeats 4000000 in
set_option maxRecDepth 100000 in
/-- There is room, and it is not at the end: in place. -/
theorem shift (b n c i vb vc : Nat) (cs vs : List Value) (w : World) (hi : i < n) (hroom : n + 1 ≤ c) (hc63 : c ≤ 9223372036854775807) (hvb : vb ≠ b)
    (hcl : cs.length = n * 3) (hvl : vs.length = 3)
    (hcs : ∀ j v, cs[j]? = some v → w.cell? ⟨b, j, none⟩ = some v) (hsp : ∀ j, j < (n + 1) * 3 → (w.cell? ⟨b, j, none⟩).isSome = true) (hfz : ∀ j, j < (n + 1) * 3 → w.frozen? ⟨b, j, none⟩ = false)
    (hvs : ∀ j v, vs[j]? = some v → w.cell? ⟨vb, j, none⟩ = some v) (h1c : ∀ v ∈ cs, v.oneCell' = true) (h1v : ∀ v ∈ vs, v.oneCell' = true)
    (tA tB : TypeId) (kA kB : Nat) (hsa : w.shape? vb = some (tA, kA)) (hsb : w.shape? b = some (tB, kB)) (hkB : kB ≠ 0) (hfa : w.frozen? ⟨vb, 0, none⟩ = false) (hfe : w.frozen? ⟨vb, kA, none⟩ = false) :
    Calls Try.prog 33 #[.slice (some ⟨b, 0, none⟩) n c, .int .i64 i, .slice (some ⟨vb, 0, none⟩) 1 vc] w fun e w' =>
      e = .returned (.slice (some ⟨b, 0, none⟩) (n + 1) c) ∧ w' = (w.drew.setCells b ((i + 1) * 3) (cs.drop (i * 3))).setCells b (i * 3) vs := by
  have hz2 : ¬ ((i : Int) = (n : Int)) := by omega
  have hov : ∀ o lb cb, (callFunc 49 #[.slice (some ⟨vb, 0, none⟩) 1 vc, .slice (some ⟨b, o, none⟩) lb cb]).run Try.prog w = .ok (.value (.bool false)) w := fun o lb cb => by
    rw [run_callFunc_extern (P := Try.prog) (f := 49) Try.func49 (by kernel_rfl) (by kernel_rfl) (by kernel_rfl) (e := Extern.SlicesOverlaps.overlaps #[22, 22] #[4]) (by kernel_rfl),
      Lib.run_overlaps_apart w 22 4 34 Try.underlying22 3 Try.sizeOf34 ⟨vb, 0, none⟩ ⟨b, o, none⟩ 1 vc lb cb hvb tA tB kA kB hsa hsb hkB hfa hfe]
    rfl
  have hdl : (cs.drop (i * 3)).length = (n - i) * 3 := by rw [List.length_drop, hcl, Nat.sub_mul]
  have hw1 : IntKind.i64.wrap ((i : Int) + 1) = (i : Int) + 1 := by rw [IntKind.wrap_i64]; omega
  have hw2 : IntKind.i64.wrap ((n : Int) + 1) = (n : Int) + 1 := by rw [IntKind.wrap_i64]; omega
  have hb1 : (0 : Int) ≤ (i : Int) + 1 := by omega
  have hin : i ≤ n := by omega
  have htn : ((i : Int) + 1).toNat = i + 1 := by omega
  have htn2 : ((n : Int) + 1).toNat = n + 1 := by omega
  have hb2 : ¬ (c = i + 1) := by omega
  have hb3 : (i : Int) ≤ (n : Int) + 1 := by omega
  have hb4 : ¬ (c = i) := by omega
  have hcp1 : ∀ ty dc sc, (Builtin.copy_ #[22, 22] ty #[.slice (some ⟨b, (i + 1) * 3, none⟩) (n - i) dc, .slice (some ⟨b, i * 3, none⟩) (n + 1 - i) sc]).run Try.prog w.drew = .ok (goInt (Nat.min (n + 1 - i) (n - i))) (w.drew.setCells b ((i + 1) * 3) (cs.drop (i * 3))) := fun ty dc sc =>
    run_copy_sz 3 w.drew _ _ ty 34 b ((i + 1) * 3) (n - i) dc ⟨b, i * 3, none⟩ (n + 1 - i) sc (cs.drop (i * 3)) Try.underlying22 size_e (by rw [hdl, show Nat.min (n + 1 - i) (n - i) = n - i from by simp only [Nat.min_def]; split <;> omega])
      (fun j v hj => by rw [Addr.add_lit]; exact hcs (i * 3 + j) v (by rwa [List.getElem?_drop] at hj))
      (fun j hj => hsp _ (by rw [hdl] at hj; omega)) (fun j hj => hfz _ (by rw [hdl] at hj; omega)) (fun v hv => h1c v (List.mem_of_mem_drop hv))
  obtain ⟨W1, hW1⟩ : ∃ W1, W1 = w.drew.setCells b ((i + 1) * 3) (cs.drop (i * 3)) := ⟨_, rfl⟩
  have hsp1 : ∀ k, k < (n + 1) * 3 → (W1.cell? ⟨b, k, none⟩).isSome = true := fun k hk => by
    rw [hW1]
    exact isSome_setCells b (cs.drop (i * 3)) ((i + 1) * 3) w.drew (fun j hj => hsp _ (by rw [hdl] at hj; omega)) k (hsp k hk)
  have hcp2 : ∀ (W : World), (∀ x, W.cell? x = W1.cell? x) → (∀ x, W.frozen? x = W1.frozen? x) → ∀ ty dc, (Builtin.copy_ #[22, 22] ty #[.slice (some ⟨b, i * 3, none⟩) (n + 1 - i) dc, .slice (some ⟨vb, 0, none⟩) 1 vc]).run Try.prog W = .ok (goInt (Nat.min 1 (n + 1 - i))) (W.setCells b (i * 3) vs) := fun W hWc hWf ty dc =>
    run_copy_sz 3 W _ _ ty 34 b (i * 3) (n + 1 - i) dc ⟨vb, 0, none⟩ 1 vc vs Try.underlying22 size_e (by rw [hvl, show Nat.min 1 (n + 1 - i) = 1 from by simp only [Nat.min_def]; split <;> omega])
      (fun j v hj => by
        rw [Addr.add_lit, Nat.zero_add, hWc, hW1, World.cell?_setCells_out b _ _ _ _ (fun h _ => absurd h hvb)]
        exact hvs j v hj)
      (fun j hj => by rw [hWc]; exact hsp1 _ (by rw [hvl] at hj; omega)) (fun j hj => by rw [hWf, hW1, World.frozen?_setCells]; exact hfz _ (by rw [hvl] at hj; omega)) h1v
  rw [← hW1] at hcp1
  have mixed := copies
  go_enter Try.func33, Try.ntmps33
  go_wp2_with (simp only [hov])
  go_region_law_o (refine step_copy_runI rfl _ _ 22 22 rfl _ _ (by simp [Act.eval, Act.put]) (by simp [Act.eval, Act.put]) (hcp1 _ _ _) ?_)
  go_wp2_with (at_builtin; refine wpList_copy_runI _ rfl _ _ 22 22 rfl _ _ rfl rfl (hcp2 _ (fun _ => rfl) (fun _ => rfl) _ _) ?_)
  go_ret
  first | exact ⟨rfl, rfl⟩ | exact ⟨rfl, by rw [hW1]⟩
set_option maxHeartbeats 4000000 in
set_option maxRecDepth 100000 in
/-- No room, and not at the end: a new row. -/
theorem grow_ (b n c i vb vc : Nat) (cs vs : List Value) (w : World) (hi : i < n) (hnc : n ≤ c) (hroom : c < n + 1) (hbig : (n + 1) * 32 ≤ 140737488355328)
    (hcl : cs.length = n * 3) (hvl : vs.length = 3)
    (hcs : ∀ j v, cs[j]? = some v → w.cell? ⟨b, j, none⟩ = some v)
    (hvs : ∀ j v, vs[j]? = some v → w.cell? ⟨vb, j, none⟩ = some v) (h1c : ∀ v ∈ cs, v.oneCell' = true) (h1v : ∀ v ∈ vs, v.oneCell' = true) :
    Calls Try.prog 33 #[.slice (some ⟨b, 0, none⟩) n c, .int .i64 i, .slice (some ⟨vb, 0, none⟩) 1 vc] w fun e w' =>
      e = .returned (.slice (some ⟨w.heap.size, 0, none⟩) (n + 1) (grownCap w (n + 1) c 34)) ∧
      w' = (((w.alloc (.cells ((cs.take (i * 3)).toArray ++ Builtin.zeroCells (Value.cells (.agg #[.string ⟨#[]⟩, .int .i64 0, .int .i64 0])) (n + 1 - i) ++ Builtin.zeroCells (Value.cells (.agg #[.string ⟨#[]⟩, .int .i64 0, .int .i64 0])) (grownCap w (n + 1) c 34 - (n + 1))) 34)).drew.setCells w.heap.size (i * 3) vs).drew).setCells w.heap.size ((i + 1) * 3) (cs.drop (i * 3)) := by
  have mixed := copies
  obtain ⟨i0, hi0, hzz⟩ := Option.map_eq_some_iff.1 info_e
  simp only [Prod.mk.injEq] at hzz
  obtain ⟨hz0, hzs, hzb⟩ := hzz
  have hz2 : ¬ ((i : Int) = (n : Int)) := by omega
  have hz3 : (c : Int) < (n : Int) + 1 := by omega
  have hbw : b < w.heap.size := block_lt_of_cell (hcs 0 _ (List.getElem?_eq_getElem (by omega)))
  have hvw : vb < w.heap.size := block_lt_of_cell (hvs 0 _ (List.getElem?_eq_getElem (by omega)))
  have hkk : (n : Int) + 1 - (i : Int) = ((n + 1 - i : Nat) : Int) := by omega
  have hik : i + (n + 1 - i) = n + 1 := by omega
  have htl : (cs.take (i * 3)).length = i * 3 := by rw [List.length_take, hcl]; have := Nat.mul_le_mul_right 3 (Nat.le_of_lt hi); omega
  have hold : (Builtin.firstCells i0.size i (.slice (some ⟨b, 0, none⟩) i c)).run Try.prog w.drew = .ok (cs.take (i * 3)).toArray w.drew := by
    rw [hzs]
    exact run_firstCells_some w.drew 3 i ⟨b, 0, none⟩ i c (cs.take (i * 3)) htl (fun j v hj => by
      rw [Addr.add_lit, Nat.zero_add]
      rw [List.getElem?_take] at hj
      split at hj
      · exact hcs j v hj
      · cases hj)
  have hrz : ∀ ty, (Builtin.append_ #[22, 3] ty #[.slice (some ⟨b, 0, none⟩) i c, .int .i64 ((n : Int) + 1 - (i : Int))]).run Try.prog w =
      .ok (.slice (some ⟨w.heap.size, 0, none⟩) (n + 1) (grownCap w (n + 1) c 34)) (w.drew.alloc (.cells ((cs.take (i * 3)).toArray ++ Builtin.zeroCells (Value.cells (.agg #[.string ⟨#[]⟩, .int .i64 0, .int .i64 0])) (n + 1 - i) ++ Builtin.zeroCells (Value.cells (.agg #[.string ⟨#[]⟩, .int .i64 0, .int .i64 0])) (grownCap w (n + 1) c 34 - (n + 1))) 34)) := fun ty => by
    have h := Lib.run_append_grow_zeros w 22 3 ty 34 i0 _ .i64 .i64 Try.underlying22 Try.underlying3 hi0 hz0 (some ⟨b, 0, none⟩) i c (cs.take (i * 3)) hold (n + 1 - i) (by omega) (by omega) (by omega) (by omega) (by rw [hzb]; omega) (by rw [hzb, hik]; exact growslice_fits hroom hbig)
    rw [hik] at h
    rw [hkk]
    exact h
  obtain ⟨G, hG⟩ : ∃ G, G = grownCap w (n + 1) c 34 := ⟨_, rfl⟩
  obtain ⟨ROW, hROW⟩ : ∃ ROW : Array Value, ROW = (cs.take (i * 3)).toArray ++ Builtin.zeroCells (Value.cells (.agg #[.string ⟨#[]⟩, .int .i64 0, .int .i64 0])) (n + 1 - i) ++ Builtin.zeroCells (Value.cells (.agg #[.string ⟨#[]⟩, .int .i64 0, .int .i64 0])) (G - (n + 1)) := ⟨_, rfl⟩
  rw [← hG] at hrz ⊢
  rw [← hROW] at hrz ⊢
  have hRl : (n + 1) * 3 ≤ ROW.size := by
    rw [hROW]
    have e1 : (Value.cells (.agg #[.string ⟨#[]⟩, .int .i64 0, .int .i64 0])).size = 3 := rfl
    have e2 : ∀ k, (Builtin.zeroCells (Value.cells (.agg #[.string ⟨#[]⟩, .int .i64 0, .int .i64 0])) k).size = k * 3 := zeros_size
    rw [Array.size_append, Array.size_append, e2, e2, List.size_toArray, htl]
    omega
  obtain ⟨W1, hW1⟩ : ∃ W1, W1 = w.drew.alloc (.cells ROW 34) := ⟨_, rfl⟩
  rw [← hW1] at hrz
  have hN : ∀ j, j < (n + 1) * 3 → (W1.cell? ⟨w.heap.size, j, none⟩).isSome = true := fun j hj => by
    rw [hW1, World.cell?_alloc_at (w := w.drew) ROW _ w.heap.size j rfl, Array.getElem?_eq_getElem (by omega)]; rfl
  have hNf : ∀ j, W1.frozen? ⟨w.heap.size, j, none⟩ = false := fun j => by rw [hW1]; exact World.frozen?_alloc_at (w := w.drew) ROW _ w.heap.size j rfl
  have hOb : ∀ j v, w.cell? ⟨b, j, none⟩ = some v → W1.cell? ⟨b, j, none⟩ = some v := fun j v h => by rw [hW1, World.cell?_alloc_past (w := w.drew) _ b j hbw]; exact h
  have hOv : ∀ j v, w.cell? ⟨vb, j, none⟩ = some v → W1.cell? ⟨vb, j, none⟩ = some v := fun j v h => by rw [hW1, World.cell?_alloc_past (w := w.drew) _ vb j hvw]; exact h
  have hcpA : ∀ (W : World), (∀ x, W.cell? x = W1.cell? x) → (∀ x, W.frozen? x = W1.frozen? x) → ∀ ty dc, (Builtin.copy_ #[22, 22] ty #[.slice (some ⟨w.heap.size, i * 3, none⟩) (n + 1 - i) dc, .slice (some ⟨vb, 0, none⟩) 1 vc]).run Try.prog W = .ok (goInt (Nat.min 1 (n + 1 - i))) (W.setCells w.heap.size (i * 3) vs) := fun W hWc hWf ty dc =>
    run_copy_sz 3 W _ _ ty 34 w.heap.size (i * 3) (n + 1 - i) dc ⟨vb, 0, none⟩ 1 vc vs Try.underlying22 size_e (by rw [hvl, show Nat.min 1 (n + 1 - i) = 1 from by simp only [Nat.min_def]; split <;> omega])
      (fun j v hj => by rw [Addr.add_lit, Nat.zero_add, hWc]; exact hOv _ v (hvs j v hj))
      (fun j hj => by rw [hWc]; exact hN _ (by rw [hvl] at hj; omega)) (fun j hj => by rw [hWf]; exact hNf _) h1v
  have hGn : n + 1 ≤ G := by rw [hG]; exact grownCap_ge w _ _ _
  have hG63 : G ≤ 9223372036854775807 := by
    have := grownCap_le_maxLen w (n + 1) c 34 (by unfold maxLen; omega)
    rw [← hG] at this
    unfold maxLen at this
    omega
  have hGi : ¬ (G = i) := by omega
  have hGim : ¬ (G = i + 1) := by omega
  have hci : ¬ (c = i) := by omega
  have hbN : b ≠ w.heap.size := by omega
  have hdl : (cs.drop (i * 3)).length = (n - i) * 3 := by rw [List.length_drop, hcl, Nat.sub_mul]
  have hcpB : ∀ (W : World), (∀ x, W.cell? x = (W1.setCells w.heap.size (i * 3) vs).cell? x) → (∀ x, W.frozen? x = (W1.setCells w.heap.size (i * 3) vs).frozen? x) → ∀ ty dc sc, (Builtin.copy_ #[22, 22] ty #[.slice (some ⟨w.heap.size, (i + 1) * 3, none⟩) (n - i) dc, .slice (some ⟨b, i * 3, none⟩) (n - i) sc]).run Try.prog W = .ok (goInt (Nat.min (n - i) (n - i))) (W.setCells w.heap.size ((i + 1) * 3) (cs.drop (i * 3))) := fun W hWc hWf ty dc sc =>
    run_copy_sz 3 W _ _ ty 34 w.heap.size ((i + 1) * 3) (n - i) dc ⟨b, i * 3, none⟩ (n - i) sc (cs.drop (i * 3)) Try.underlying22 size_e (by rw [hdl, show Nat.min (n - i) (n - i) = n - i from Nat.min_self _])
      (fun j v hj => by
        rw [Addr.add_lit, hWc, World.cell?_setCells_out _ _ _ _ _ (fun h _ => absurd h hbN)]
        exact hOb _ v (hcs (i * 3 + j) v (by rwa [List.getElem?_drop] at hj)))
      (fun j hj => by rw [hWc]; exact isSome_setCells w.heap.size vs (i * 3) W1 (fun t ht => hN _ (by rw [hvl] at ht; omega)) _ (hN _ (by rw [hdl] at hj; omega)))
      (fun j hj => by rw [hWf, World.frozen?_setCells]; exact hNf _) (fun v hv => h1c v (List.mem_of_mem_drop hv))
  subst hW1
  have hE1 : ∀ x, ((w.alloc (.cells ROW 34)).drew).cell? x = (w.drew.alloc (.cells ROW 34)).cell? x := fun x => rfl
  have hE2 : ∀ x, ((w.alloc (.cells ROW 34)).drew).frozen? x = (w.drew.alloc (.cells ROW 34)).frozen? x := fun x => rfl
  have hF1 : ∀ x, (((w.alloc (.cells ROW 34)).drew.setCells w.heap.size (i * 3) vs).drew).cell? x = ((w.drew.alloc (.cells ROW 34)).setCells w.heap.size (i * 3) vs).cell? x := fun x => rfl
  have hF2 : ∀ x, (((w.alloc (.cells ROW 34)).drew.setCells w.heap.size (i * 3) vs).drew).frozen? x = ((w.drew.alloc (.cells ROW 34)).setCells w.heap.size (i * 3) vs).frozen? x := fun x => rfl
  have hw1 : IntKind.i64.wrap ((i : Int) + 1) = (i : Int) + 1 := by rw [IntKind.wrap_i64]; omega
  have hw2 : IntKind.i64.wrap ((n : Int) + 1) = (n : Int) + 1 := by rw [IntKind.wrap_i64]; omega
  have hw3 : IntKind.i64.wrap ((n : Int) + 1 - (i : Int)) = (n : Int) + 1 - (i : Int) := by rw [IntKind.wrap_i64]; omega
  have hb1 : (0 : Int) ≤ (i : Int) + 1 := by omega
  have hin : i ≤ n := by omega
  have htn : ((i : Int) + 1).toNat = i + 1 := by omega
  have hb3 : (i : Int) ≤ (n : Int) := by omega
  clear hkk hik hold hROW hG hRl htl
  go_enter Try.func33, Try.ntmps33
  go_wp2_with (first
    | (at_builtin; refine Lib.wpList_append_run _ rfl _ _ _ _ rfl _ _ rfl rfl _ _ (hrz _) ?_)
    | (at_builtin; refine wpList_copy_runI _ rfl _ _ 22 22 rfl _ _ rfl rfl (hcpA _ hE1 hE2 _ _) ?_)
    | (at_builtin; refine wpList_copy_runI _ rfl _ _ 22 22 rfl _ _ rfl rfl (hcpB _ (fun _ => rfl) (fun _ => rfl) _ _ _) ?_))
  go_region_law_o (refine step_copy_runI rfl _ _ 22 22 rfl (.slice (some ⟨w.heap.size, (i + 1) * 3, none⟩) (n - i) (G - (i + 1))) (.slice (some ⟨b, i * 3, none⟩) (n - i) (c - i)) (by simp [Act.eval, Act.put]) (by simp [Act.eval, Act.put]) (hcpB _ hF1 hF2 3 (G - (i + 1)) (c - i)) ?_)
  go_wp2
  go_ret
  exact ⟨rfl, rfl⟩
set_option maxHeartbeats 4000000 in
set_option maxRecDepth 100000 in
/-- At the end. -/
theorem at_end (base : Nat) (v : Value) (n vb vc : Nat) (cs vs : List Value) (w : World) (hown : w.ownsRow base 34 3 v n cs) (hbase : base ≤ w.heap.size) (hbig : (n + 1) * 32 ≤ 140737488355328)
    (hvl : vs.length = 3) (hvs : ∀ j u, vs[j]? = some u → w.cell? ⟨vb, j, none⟩ = some u) (h1v : ∀ u ∈ vs, u.oneCell' = true) :
    Calls Try.prog 33 #[v, .int .i64 n, .slice (some ⟨vb, 0, none⟩) 1 vc] w fun e w' => ∃ v', e = .returned v' ∧ w'.ownsRow base 34 3 v' (n + 1) (cs ++ vs) ∧ Below base w w' := by
  obtain ⟨i0, hi0, hzz⟩ := Option.map_eq_some_iff.1 info_e
  simp only [Prod.mk.injEq] at hzz
  obtain ⟨hz0, hzs, hzb⟩ := hzz
  have hrun : ∀ ty, ∃ v' w', (Builtin.append_ #[22, 22] ty #[v, .slice (some ⟨vb, 0, none⟩) 1 vc]).run Try.prog w = .ok v' w' ∧ w'.ownsRow base 34 3 v' (n + 1) (cs ++ vs) ∧ Below base w w' := fun ty => by
    obtain ⟨v', w', h1, h2, h3, _, _⟩ := run_append_own_at (P := Try.prog) (w := w) base 22 ty 34 i0 _ 3 32 Try.underlying22 hi0 hz0 hzs hzb rfl (by decide) v n cs hown ⟨vb, 0, none⟩ 1 vc vs (by rw [hvl]) (fun j u hj => by rw [Addr.add_lit, Nat.zero_add]; exact hvs j u hj) h1v (by unfold maxLen; omega) hbig hbase
    exact ⟨v', w', h1, h2, (Below.refl base w).grown h3 hbase (own_base hown)⟩
  obtain ⟨v1, w1, hr, ho1, hb1⟩ := hrun 22
  have HO := Lib.hid ho1
  have HB := Lib.hid hb1
  have hin : (n : Int) ≤ (n : Int) := Int.le_refl _
  obtain ⟨_, hv⟩ := hown
  clear hrun ho1 hb1
  rcases hv with ⟨rfl, rfl⟩ | ⟨g, cap, cur, rfl, hg, hh, hnc, hcm, hcz, hct⟩
  · go_enter Try.func33, Try.ntmps33
    go_wp2_with (at_builtin; refine Lib.wpList_append_run _ rfl _ _ _ _ rfl _ _ rfl rfl _ _ hr ?_)
    go_ret
    exact ⟨_, rfl, HO.out, HB.out⟩
  · have hc63 : cap ≤ 9223372036854775807 := by unfold maxLen at hcm; omega
    have hz2 : ((n : Int) == (n : Int)) = true := by simp
    clear hh hcz hct hcm
    by_cases hcn : cap = n
    all_goals
      go_enter Try.func33, Try.ntmps33
      go_wp2_with (at_builtin; refine Lib.wpList_append_run _ rfl _ _ _ _ rfl _ _ rfl rfl _ _ hr ?_)
      go_ret
      exact ⟨_, rfl, HO.out, HB.out⟩

theorem list_shift {α : Type} (cur cs vs D : List α) (N a z : Nat) (ha : a ≤ N) (hc : cur.take N = cs) (hl : N + z ≤ cur.length) (hvl : vs.length = z) (hD : D = cs.drop a) :
    (((cur.take (a + z) ++ D ++ cur.drop (a + z + D.length)).take a ++ vs ++ (cur.take (a + z) ++ D ++ cur.drop (a + z + D.length)).drop (a + vs.length))).take (N + z) = cs.take a ++ vs ++ D := by
  have hcl : cs.length = N := by rw [← hc, List.length_take]; omega
  have hDl : D.length = N - a := by rw [hD, List.length_drop, hcl]
  have e1 : (cur.take (a + z) ++ D ++ cur.drop (a + z + D.length)).take a = cs.take a := by
    rw [List.append_assoc, List.take_append_of_le_length (by rw [List.length_take]; omega), List.take_take, ← hc, List.take_take]
    congr 1
    omega
  have e2 : (cur.take (a + z) ++ D ++ cur.drop (a + z + D.length)).drop (a + vs.length) = D ++ cur.drop (a + z + D.length) := by
    have : (cur.take (a + z)).length = a + vs.length := by rw [List.length_take]; omega
    rw [List.append_assoc, ← this, List.drop_left]
  rw [e1, e2, ← List.append_assoc]
  have : (cs.take a ++ vs ++ D).length = N + z := by rw [List.length_append, List.length_append, List.length_take, hcl, hvl, hDl]; omega
  rw [← this, List.take_left]
theorem list_grow {α : Type} (cur cs vs D : List α) (N a z : Nat) (ha : a ≤ N) (hcl : cs.length = N) (hc : cur.take a = cs.take a) (hvl : vs.length = z) (hD : D = cs.drop a) :
    ((cur.take a ++ vs ++ cur.drop (a + vs.length)).take (a + z) ++ D ++ (cur.take a ++ vs ++ cur.drop (a + vs.length)).drop (a + z + D.length)).take (N + z) = cs.take a ++ vs ++ D := by
  have hDl : D.length = N - a := by rw [hD, List.length_drop, hcl]
  have e0 : (cs.take a ++ vs).length = a + z := by rw [List.length_append, List.length_take, hcl, hvl]; omega
  have e1 : (cur.take a ++ vs ++ cur.drop (a + vs.length)).take (a + z) = cs.take a ++ vs := by
    rw [hc, ← e0, List.take_left]
  rw [e1]
  have : (cs.take a ++ vs ++ D).length = N + z := by rw [List.length_append, e0, hDl]; omega
  rw [← this, List.take_left]

/-- slices.Insert of one element, at a row of the call's own. -/
theorem insert_calls (base : Nat) (v : Value) (n i vb vc : Nat) (cs vs : List Value) (tv : TypeId) (w : World) (hown : w.ownsRow base 34 3 v n cs) (hbase : base ≤ w.heap.size) (hi : i ≤ n) (hbig : (n + 1) * 32 ≤ 140737488355328)
    (hvl : vs.length = 3) (hv : w.heap[vb]? = some (.cells vs.toArray tv (0, 0))) (hne : some vb ≠ v.ownBlock) (h1c : ∀ u ∈ cs, u.oneCell' = true) (h1v : ∀ u ∈ vs, u.oneCell' = true) :
    Calls Try.prog 33 #[v, .int .i64 i, .slice (some ⟨vb, 0, none⟩) 1 vc] w fun e w' => ∃ v', e = .returned v' ∧ w'.ownsRow base 34 3 v' (n + 1) (cs.take (i * 3) ++ vs ++ cs.drop (i * 3)) ∧ Below base w w' := by
  have hcl : cs.length = n * 3 := hown.1
  have hvs : ∀ j u, vs[j]? = some u → w.cell? ⟨vb, j, none⟩ = some u := fun j u hj => by rw [cell_of_row w vb j _ tv (0, 0) hv]; simpa using hj
  by_cases hin : i = n
  · subst hin
    have := at_end base v i vb vc cs vs w hown hbase hbig hvl hvs h1v
    rw [List.take_of_length_le (by omega), List.drop_eq_nil_of_le (by omega), List.append_nil]
    exact this
  · have hlt : i < n := by omega
    rcases hown.2 with ⟨rfl, rfl⟩ | ⟨g, cap, cur, rfl, hg, hh, hnc, hcm, hcz, hct⟩
    · omega
    have hvb : vb ≠ g := fun e => hne (by rw [e]; rfl)
    have hcs : ∀ j u, cs[j]? = some u → w.cell? ⟨g, j, none⟩ = some u := fun j u hj => by
      rw [cell_of_row w g j _ _ (0, 0) hh]
      rw [← hct, List.getElem?_take] at hj
      split at hj
      · simpa using hj
      · cases hj
    have hm1 := Nat.mul_le_mul_right 3 (Nat.le_of_lt hlt)
    have hDl : (cs.drop (i * 3)).length = n * 3 - i * 3 := by rw [List.length_drop, hcl]
    by_cases hroom : n + 1 ≤ cap
    · have hm2 := Nat.mul_le_mul_right 3 hroom
      refine (shift g n cap i vb vc cs vs w hlt hroom (by unfold maxLen at hcm; omega) hvb hcl hvl hcs (fun j hj => by rw [cell_of_row w g j _ _ (0, 0) hh, Array.getElem?_eq_getElem (by omega)]; rfl) (fun j _ => blk_frozen hh _) hvs h1c h1v tv 34 vs.length cur.size (by simp [World.shape?, hv]) (by simp [World.shape?, hh]) (by omega) (blk_frozen hv _) (blk_frozen hv _)).mono ?_
      rintro e w' ⟨rfl, rfl⟩
      have hh1 : w.drew.heap[g]? = some (.cells cur 34 (0, 0)) := hh
      obtain ⟨c1, k1, k2, k3⟩ := setCells_row (cs.drop (i * 3)) ((i + 1) * 3) w.drew cur hh1 (by omega)
      obtain ⟨c2, l1, l2, l3⟩ := setCells_row vs (i * 3) _ c1 k1 (by omega)
      obtain ⟨s1, s2, s3, s4⟩ := setCells_same g (cs.drop (i * 3)) ((i + 1) * 3) w.drew
      obtain ⟨r1, r2, r3, r4⟩ := setCells_same g vs (i * 3) (w.drew.setCells g ((i + 1) * 3) (cs.drop (i * 3)))
      refine ⟨_, rfl, ⟨?_, .inr ⟨g, cap, c2, rfl, hg, l1, hroom, hcm, by rw [l2, k2, hcz], ?_⟩⟩, ⟨r1.trans s1, ?_, r3.trans s3, by rw [r4, s4]; exact Nat.le_refl _, fun k hk => by rw [setCells_far _ _ k (by omega), setCells_far _ _ k (by omega)]; rfl⟩⟩
      · rw [List.length_append, List.length_append, List.length_take, hvl, hDl, hcl]; omega
      · rw [l3, k3]
        have := list_shift cur.toList cs vs (cs.drop (i * 3)) (n * 3) (i * 3) 3 hm1 hct (by rw [Array.length_toList]; omega) hvl rfl
        rw [show (n + 1) * 3 = n * 3 + 3 by omega, show (i + 1) * 3 = i * 3 + 3 by omega]
        exact this
      · exact r2.trans s2
    · refine (grow_ g n cap i vb vc cs vs w hlt hnc (by omega) hbig hcl hvl hcs hvs h1c h1v).mono ?_
      rintro e w' ⟨rfl, rfl⟩
      obtain ⟨G, hG⟩ : ∃ G, grownCap w (n + 1) cap 34 = G := ⟨_, rfl⟩
      have hGn : n + 1 ≤ G := by rw [← hG]; exact grownCap_ge w _ _ _
      have hGm : G ≤ maxLen := by rw [← hG]; exact grownCap_le_maxLen w (n + 1) cap 34 (by unfold maxLen; omega)
      rw [hG]
      have htl : (cs.take (i * 3)).length = i * 3 := by rw [List.length_take, hcl]; omega
      obtain ⟨ROW, hROW⟩ : ∃ ROW : Array Value, (cs.take (i * 3)).toArray ++ Builtin.zeroCells (Value.cells (.agg #[.string ⟨#[]⟩, .int .i64 0, .int .i64 0])) (n + 1 - i) ++ Builtin.zeroCells (Value.cells (.agg #[.string ⟨#[]⟩, .int .i64 0, .int .i64 0])) (G - (n + 1)) = ROW := ⟨_, rfl⟩
      rw [hROW]
      have hRs : ROW.size = G * 3 := by
        rw [← hROW, Array.size_append, Array.size_append, zeros_size, zeros_size, List.size_toArray, htl]
        omega
      have hRt : ROW.toList.take (i * 3) = cs.take (i * 3) := by
        rw [← hROW, Array.toList_append, Array.toList_append, List.append_assoc, List.take_append_of_le_length (by simp [htl])]
        have e3 : (cs.take (i * 3)).toArray.toList = cs.take (i * 3) := rfl
        rw [e3, List.take_of_length_le (by omega)]
      have hh1 : ((w.alloc (.cells ROW 34)).drew).heap[w.heap.size]? = some (.cells ROW 34 (0, 0)) := by
        show (w.heap.push (.cells ROW 34))[w.heap.size]? = _
        simp
      have hm2 := Nat.mul_le_mul_right 3 hGn
      obtain ⟨c1, k1, k2, k3⟩ := setCells_row vs (i * 3) _ ROW hh1 (by omega)
      have k1' : (((w.alloc (.cells ROW 34)).drew.setCells w.heap.size (i * 3) vs).drew).heap[w.heap.size]? = some (.cells c1 34 (0, 0)) := k1
      obtain ⟨c2, l1, l2, l3⟩ := setCells_row (cs.drop (i * 3)) ((i + 1) * 3) _ c1 k1' (by omega)
      obtain ⟨s1, s2, s3, s4⟩ := setCells_same w.heap.size vs (i * 3) ((w.alloc (.cells ROW 34)).drew)
      obtain ⟨r1, r2, r3, r4⟩ := setCells_same w.heap.size (cs.drop (i * 3)) ((i + 1) * 3) (((w.alloc (.cells ROW 34)).drew.setCells w.heap.size (i * 3) vs).drew)
      refine ⟨_, rfl, ⟨?_, .inr ⟨w.heap.size, G, c2, rfl, hbase, l1, hGn, hGm, by rw [l2, k2, hRs], ?_⟩⟩, ⟨r1.trans s1, r2.trans s2, r3.trans s3, ?_, fun k hk => ?_⟩⟩
      · rw [List.length_append, List.length_append, List.length_take, hvl, hDl, hcl]; omega
      · rw [l3, k3]
        have := list_grow ROW.toList cs vs (cs.drop (i * 3)) (n * 3) (i * 3) 3 hm1 hcl hRt hvl rfl
        rw [show (n + 1) * 3 = n * 3 + 3 by omega, show (i + 1) * 3 = i * 3 + 3 by omega]
        exact this
      · rw [r4]
        show _ ≤ ((w.alloc (.cells ROW 34)).drew.setCells w.heap.size (i * 3) vs).heap.size
        rw [s4]
        show _ ≤ (w.heap.push (.cells ROW 34)).size
        simp
      · rw [setCells_far _ _ k (by omega)]
        show ((w.alloc (.cells ROW 34)).drew.setCells w.heap.size (i * 3) vs).heap[k]? = _
        rw [setCells_far _ _ k (by omega)]
        exact (((Below.refl base w).alloc hbase (.cells ROW 34))).block k hk
end Go.Proofs.Ytclomgbiomojjaa.NHold
