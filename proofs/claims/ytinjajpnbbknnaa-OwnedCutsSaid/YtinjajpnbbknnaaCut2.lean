/- The walk of owned.Cut. -/
import Derived.Test.YtinjajpnbbknnaaSq
import Derived.Test.YtinjajpnbbknnaaCut
import Derived.Test.YtinjajpnbbknnaaPart
import Derived.Test.YtinjajpnbbknnaaRngA
import Derived.Laws.EntriesVeiled
import Derived.Test.YtinjajpnbbknnaaQx5
namespace Go.Proofs.Ytinjajpnbbknnaa.Cut2
open Go Go.RowKit Go.Proofs.Ytinjajpnbbknnaa.Q Go.Proofs.Ytinjajpnbbknnaa.Cut Go.Proofs.YtinjajpnbbknnaaW.PrintWords Go.Proofs.YtinjajpnbbknnaaW.PrintLast Go.Proofs.YtinjajpnbbknnaaW.PrintMore
set_option linter.unusedVariables false

def Post (w : World) (a : List S40) (b : List S59) (a' : List S40) (b' : List S59) (e : Ending) (w' : World) : Prop := ∃ v0 v1 v2 v3 : Value, e = .returned (.tuple #[.agg #[v0, v1], .agg #[v2, v3]]) ∧ Kd.R k40 40 w' w.heap.size (fun k => some k ≠ v2.ownBlock) v0 a ∧ Kd.R k59 59 w' w.heap.size (fun k => some k ≠ v3.ownBlock) v1 b ∧ Kd.R k40 40 w' w.heap.size (fun k => some k ≠ v0.ownBlock) v2 a' ∧ Kd.R k59 59 w' w.heap.size (fun k => some k ≠ v1.ownBlock) v3 b' ∧ Below w.heap.size w w'
set_option maxHeartbeats 4000000 in
set_option maxRecDepth 100000 in
theorem cut_no (A0 : Option Addr) (c0 : Nat) (n : List S40) (A1 : Option Addr) (c1 : Nat) (t : List S59) (A : Option Addr) (c : Nat) (l : List S45) (p : ByteArray) (w : World) (hn : Kd.C k40 w A0 n.length n) (ht : Kd.C k59 w A1 t.length t) (ln : n.length ≤ 100000000000) (lt : t.length ≤ 100000000000) (hs : Part.storeB n t = false) :
    Calls Try.prog 25 #[.agg #[.slice A0 n.length c0, .slice A1 t.length c1], .slice A l.length c, .string p] w (Post w [] [] [] []) := by
  have HP := Lib.hid (fun (V : World) (hV : Below w.heap.size w V) => Part.right_calls A0 c0 n A1 c1 t V (Kd.C_below hn hV) (by omega) (Kd.C_below ht hV) (by omega))
  simp only [hs] at HP
  have HB := am_ (Below.refl w.heap.size w)
  clear hn ht ln lt hs
  go_enter Try.func25, Try.ntmps25
  go_upto_region 2 with (first | ((with_reducible refine gate_dst (N := 3) rfl ?_); refine box_event ?hg (N := 3) ?hd (cs := #[.slice A0 n.length c0, .slice A1 t.length c1]) (t := 34) ?hr ?_; (case hd => rfl); (case hg => rfl); (case hr => first | (go_simp; done) | (go_simp; rfl)); intro g3 hg wg3 hbox hb; have n0_ := am_ (below_step HB.out hb); have n1_ := am_ hbox; have n2_ := am_ ((gW hg HB.out) : w.heap.size ≤ g3); clear HB; have HB := n0_; have BKg3 := n1_; have GEg3 := n2_; clear n0_ n1_ n2_; clear hb hbox hg) | ((with_reducible refine gate_dst (N := 4) rfl ?_); refine box_event ?hg (N := 4) ?hd (cs := #[.slice A l.length c]) (t := 22) ?hr ?_; (case hd => rfl); (case hg => rfl); (case hr => first | (go_simp; done) | (go_simp; rfl)); intro g4 hg wg4 hbox hb; have n0_ := am_ (blk_below BKg3.out hb); have n1_ := am_ (below_step HB.out hb); have n2_ := am_ hbox; have n3_ := am_ ((gW hg HB.out) : w.heap.size ≤ g4); have n4_ := am_ ((gN hg BKg3.out) : g3 ≠ g4); have n5_ := am_ ((gM hg BKg3.out) : g4 ≠ g3); clear BKg3; clear HB; have BKg3 := n0_; have HB := n1_; have BKg4 := n2_; have GEg4 := n3_; have NBg3_g4 := n4_; have NBg4_g3 := n5_; clear n0_ n1_ n2_ n3_ n4_ n5_; clear hb hbox hg) | ((with_reducible refine gate_dst (N := 5) rfl ?_); refine box_event ?hg (N := 5) ?hd (cs := #[.string p]) (t := 9) ?hr ?_; (case hd => rfl); (case hg => rfl); (case hr => first | (go_simp; done) | (go_simp; rfl)); intro g5 hg wg5 hbox hb; have n0_ := am_ (blk_below BKg3.out hb); have n1_ := am_ (blk_below BKg4.out hb); have n2_ := am_ (below_step HB.out hb); have n3_ := am_ hbox; have n4_ := am_ ((gW hg HB.out) : w.heap.size ≤ g5); have n5_ := am_ ((gN hg BKg3.out) : g3 ≠ g5); have n6_ := am_ ((gM hg BKg3.out) : g5 ≠ g3); have n7_ := am_ ((gN hg BKg4.out) : g4 ≠ g5); have n8_ := am_ ((gM hg BKg4.out) : g5 ≠ g4); clear BKg3; clear BKg4; clear HB; have BKg3 := n0_; have BKg4 := n1_; have HB := n2_; have BKg5 := n3_; have GEg5 := n4_; have NBg3_g5 := n5_; have NBg5_g3 := n6_; have NBg4_g5 := n7_; have NBg5_g4 := n8_; clear n0_ n1_ n2_ n3_ n4_ n5_ n6_ n7_ n8_; clear hb hbox hg) | ((with_reducible refine gate_dst (N := 6) rfl ?_); refine box_event ?hg (N := 6) ?hd (cs := #[.slice none 0 0, .slice none 0 0]) (t := 34) ?hr ?_; (case hd => rfl); (case hg => rfl); (case hr => first | (go_simp; done) | (go_simp; rfl)); intro g6 hg wg6 hbox hb; have n0_ := am_ (blk_below BKg3.out hb); have n1_ := am_ (blk_below BKg4.out hb); have n2_ := am_ (blk_below BKg5.out hb); have n3_ := am_ (below_step HB.out hb); have n4_ := am_ hbox; have n5_ := am_ ((gW hg HB.out) : w.heap.size ≤ g6); have n6_ := am_ ((gN hg BKg3.out) : g3 ≠ g6); have n7_ := am_ ((gM hg BKg3.out) : g6 ≠ g3); have n8_ := am_ ((gN hg BKg4.out) : g4 ≠ g6); have n9_ := am_ ((gM hg BKg4.out) : g6 ≠ g4); have n10_ := am_ ((gN hg BKg5.out) : g5 ≠ g6); have n11_ := am_ ((gM hg BKg5.out) : g6 ≠ g5); clear BKg3; clear BKg4; clear BKg5; clear HB; have BKg3 := n0_; have BKg4 := n1_; have BKg5 := n2_; have HB := n3_; have BKg6 := n4_; have GEg6 := n5_; have NBg3_g6 := n6_; have NBg6_g3 := n7_; have NBg4_g6 := n8_; have NBg6_g4 := n9_; have NBg5_g6 := n10_; have NBg6_g5 := n11_; clear n0_ n1_ n2_ n3_ n4_ n5_ n6_ n7_ n8_ n9_ n10_ n11_; clear hb hbox hg) | ((with_reducible refine gate_dst (N := 7) rfl ?_); refine box_event ?hg (N := 7) ?hd (cs := #[.slice none 0 0, .slice none 0 0]) (t := 34) ?hr ?_; (case hd => rfl); (case hg => rfl); (case hr => first | (go_simp; done) | (go_simp; rfl)); intro g7 hg wg7 hbox hb; have n0_ := am_ (blk_below BKg3.out hb); have n1_ := am_ (blk_below BKg4.out hb); have n2_ := am_ (blk_below BKg5.out hb); have n3_ := am_ (blk_below BKg6.out hb); have n4_ := am_ (below_step HB.out hb); have n5_ := am_ hbox; have n6_ := am_ ((gW hg HB.out) : w.heap.size ≤ g7); have n7_ := am_ ((gN hg BKg3.out) : g3 ≠ g7); have n8_ := am_ ((gM hg BKg3.out) : g7 ≠ g3); have n9_ := am_ ((gN hg BKg4.out) : g4 ≠ g7); have n10_ := am_ ((gM hg BKg4.out) : g7 ≠ g4); have n11_ := am_ ((gN hg BKg5.out) : g5 ≠ g7); have n12_ := am_ ((gM hg BKg5.out) : g7 ≠ g5); have n13_ := am_ ((gN hg BKg6.out) : g6 ≠ g7); have n14_ := am_ ((gM hg BKg6.out) : g7 ≠ g6); clear BKg3; clear BKg4; clear BKg5; clear BKg6; clear HB; have BKg3 := n0_; have BKg4 := n1_; have BKg5 := n2_; have BKg6 := n3_; have HB := n4_; have BKg7 := n5_; have GEg7 := n6_; have NBg3_g7 := n7_; have NBg7_g3 := n8_; have NBg4_g7 := n9_; have NBg7_g4 := n10_; have NBg5_g7 := n11_; have NBg7_g5 := n12_; have NBg6_g7 := n13_; have NBg7_g6 := n14_; clear n0_ n1_ n2_ n3_ n4_ n5_ n6_ n7_ n8_ n9_ n10_ n11_ n12_ n13_ n14_; clear hb hbox hg) | ((with_reducible refine gate_dst (N := 8) rfl ?_); refine box_event ?hg (N := 8) ?hd (cs := #[.slice none 0 0, .slice none 0 0]) (t := 34) ?hr ?_; (case hd => rfl); (case hg => rfl); (case hr => first | (go_simp; done) | (go_simp; rfl)); intro g8 hg wg8 hbox hb; have n0_ := am_ (blk_below BKg3.out hb); have n1_ := am_ (blk_below BKg4.out hb); have n2_ := am_ (blk_below BKg5.out hb); have n3_ := am_ (blk_below BKg6.out hb); have n4_ := am_ (blk_below BKg7.out hb); have n5_ := am_ (below_step HB.out hb); have n6_ := am_ hbox; have n7_ := am_ ((gW hg HB.out) : w.heap.size ≤ g8); have n8_ := am_ ((gN hg BKg3.out) : g3 ≠ g8); have n9_ := am_ ((gM hg BKg3.out) : g8 ≠ g3); have n10_ := am_ ((gN hg BKg4.out) : g4 ≠ g8); have n11_ := am_ ((gM hg BKg4.out) : g8 ≠ g4); have n12_ := am_ ((gN hg BKg5.out) : g5 ≠ g8); have n13_ := am_ ((gM hg BKg5.out) : g8 ≠ g5); have n14_ := am_ ((gN hg BKg6.out) : g6 ≠ g8); have n15_ := am_ ((gM hg BKg6.out) : g8 ≠ g6); have n16_ := am_ ((gN hg BKg7.out) : g7 ≠ g8); have n17_ := am_ ((gM hg BKg7.out) : g8 ≠ g7); clear BKg3; clear BKg4; clear BKg5; clear BKg6; clear BKg7; clear HB; have BKg3 := n0_; have BKg4 := n1_; have BKg5 := n2_; have BKg6 := n3_; have BKg7 := n4_; have HB := n5_; have BKg8 := n6_; have GEg8 := n7_; have NBg3_g8 := n8_; have NBg8_g3 := n9_; have NBg4_g8 := n10_; have NBg8_g4 := n11_; have NBg5_g8 := n12_; have NBg8_g5 := n13_; have NBg6_g8 := n14_; have NBg8_g6 := n15_; have NBg7_g8 := n16_; have NBg8_g7 := n17_; clear n0_ n1_ n2_ n3_ n4_ n5_ n6_ n7_ n8_ n9_ n10_ n11_ n12_ n13_ n14_ n15_ n16_ n17_; clear hb hbox hg) | ((with_reducible refine gate_dst (N := 9) rfl ?_); refine box_event ?hg (N := 9) ?hd (cs := #[.slice none 0 0, .slice none 0 0]) (t := 34) ?hr ?_; (case hd => rfl); (case hg => rfl); (case hr => first | (go_simp; done) | (go_simp; rfl)); intro g9 hg wg9 hbox hb; have n0_ := am_ (blk_below BKg3.out hb); have n1_ := am_ (blk_below BKg4.out hb); have n2_ := am_ (blk_below BKg5.out hb); have n3_ := am_ (blk_below BKg6.out hb); have n4_ := am_ (blk_below BKg7.out hb); have n5_ := am_ (blk_below BKg8.out hb); have n6_ := am_ (below_step HB.out hb); have n7_ := am_ hbox; have n8_ := am_ ((gW hg HB.out) : w.heap.size ≤ g9); have n9_ := am_ ((gN hg BKg3.out) : g3 ≠ g9); have n10_ := am_ ((gM hg BKg3.out) : g9 ≠ g3); have n11_ := am_ ((gN hg BKg4.out) : g4 ≠ g9); have n12_ := am_ ((gM hg BKg4.out) : g9 ≠ g4); have n13_ := am_ ((gN hg BKg5.out) : g5 ≠ g9); have n14_ := am_ ((gM hg BKg5.out) : g9 ≠ g5); have n15_ := am_ ((gN hg BKg6.out) : g6 ≠ g9); have n16_ := am_ ((gM hg BKg6.out) : g9 ≠ g6); have n17_ := am_ ((gN hg BKg7.out) : g7 ≠ g9); have n18_ := am_ ((gM hg BKg7.out) : g9 ≠ g7); have n19_ := am_ ((gN hg BKg8.out) : g8 ≠ g9); have n20_ := am_ ((gM hg BKg8.out) : g9 ≠ g8); clear BKg3; clear BKg4; clear BKg5; clear BKg6; clear BKg7; clear BKg8; clear HB; have BKg3 := n0_; have BKg4 := n1_; have BKg5 := n2_; have BKg6 := n3_; have BKg7 := n4_; have BKg8 := n5_; have HB := n6_; have BKg9 := n7_; have GEg9 := n8_; have NBg3_g9 := n9_; have NBg9_g3 := n10_; have NBg4_g9 := n11_; have NBg9_g4 := n12_; have NBg5_g9 := n13_; have NBg9_g5 := n14_; have NBg6_g9 := n15_; have NBg9_g6 := n16_; have NBg7_g9 := n17_; have NBg9_g7 := n18_; have NBg8_g9 := n19_; have NBg9_g8 := n20_; clear n0_ n1_ n2_ n3_ n4_ n5_ n6_ n7_ n8_ n9_ n10_ n11_ n12_ n13_ n14_ n15_ n16_ n17_ n18_ n19_ n20_; clear hb hbox hg))
  (try simp only [Act.put, List.setIfInBounds_toArray, List.set_cons_zero, List.set_cons_succ])
  have hc0 : wg9.cell? ⟨g3, 0, none⟩ = some (.slice A0 n.length c0) := (blk_cell BKg3.out 0).trans rfl
  have hc1 : wg9.cell? ⟨g3, 1, none⟩ = some (.slice A1 t.length c1) := (blk_cell BKg3.out 1).trans rfl
  go_wp2_with fail
  refine (HP.out _ HB.out).mono ?_
  rintro e w1 ⟨rfl, hb1⟩
  have n0_ := am_ (blk_below (BKg3.out) hb1)
  have n1_ := am_ (blk_below (BKg4.out) hb1)
  have n2_ := am_ (blk_below (BKg5.out) hb1)
  have n3_ := am_ (blk_below (BKg6.out) hb1)
  have n4_ := am_ (blk_below (BKg7.out) hb1)
  have n5_ := am_ (blk_below (BKg8.out) hb1)
  have n6_ := am_ (blk_below (BKg9.out) hb1)
  have n7_ := am_ (below_step HB.out hb1)
  clear BKg3 BKg4 BKg5 BKg6 BKg7 BKg8 BKg9
  clear HB
  have BKg3 := n0_
  have BKg4 := n1_
  have BKg5 := n2_
  have BKg6 := n3_
  have BKg7 := n4_
  have BKg8 := n5_
  have BKg9 := n6_
  have HB := n7_
  clear n0_ n1_ n2_ n3_ n4_ n5_ n6_ n7_
  clear hc0 hc1 hb1
  go_wp2_with fail
  refine start_ (n := 4) (S := fun w' => w'.cell? ⟨g8, 0, none⟩ = some (.slice none 0 0) ∧ w'.cell? ⟨g8, 1, none⟩ = some (.slice none 0 0) ∧ w'.cell? ⟨g9, 0, none⟩ = some (.slice none 0 0) ∧ w'.cell? ⟨g9, 1, none⟩ = some (.slice none 0 0)) (ds := []) #[false, false, false, false] (by kernel_rfl) rfl rfl ⟨(blk_cell (blk_drew BKg8.out) 0).trans rfl, (blk_cell (blk_drew BKg8.out) 1).trans rfl, (blk_cell (blk_drew BKg9.out) 0).trans rfl, (blk_cell (blk_drew BKg9.out) 1).trans rfl⟩ (fun hHeld => ?_)
  have n_ := am_ (blk_drew BKg3.out)
  clear BKg3
  have BKg3 := n_
  clear n_
  have n_ := am_ (blk_drew BKg4.out)
  clear BKg4
  have BKg4 := n_
  clear n_
  have n_ := am_ (blk_drew BKg5.out)
  clear BKg5
  have BKg5 := n_
  clear n_
  have n_ := am_ (blk_drew BKg6.out)
  clear BKg6
  have BKg6 := n_
  clear n_
  have n_ := am_ (blk_drew BKg7.out)
  clear BKg7
  have BKg7 := n_
  clear n_
  have n_ := am_ (blk_drew BKg8.out)
  clear BKg8
  have BKg8 := n_
  clear n_
  have n_ := am_ (blk_drew BKg9.out)
  clear BKg9
  have BKg9 := n_
  clear n_
  have n_ := am_ (below_drew1 HB.out)
  clear HB
  have HB := n_
  clear n_
  generalize World.drew _ = wz at BKg3 BKg4 BKg5 BKg6 BKg7 BKg8 BKg9 HB hHeld ⊢
  refine take_ (i := 0) (N := some 19) (v := ?_) (a' := ?_) #[true, false, false, false] rfl rfl (by kernel_rfl) (fun _ _ _ h => h) (Or.inl ⟨by rfl, ?_⟩) hHeld ?_ ?_
  rotate_left
  · rintro w' ⟨s0, s1, s2, s3⟩
    go_simp
    with_reducible rfl
  rotate_left
  · simp only [Act.put, List.setIfInBounds_toArray, List.set_cons_zero, List.set_cons_succ]
    rfl
  refine take_ (i := 1) (N := some 20) (v := ?_) (a' := ?_) #[true, true, false, false] rfl rfl (by kernel_rfl) (fun _ _ _ h => h) (Or.inl ⟨by rfl, ?_⟩) hHeld ?_ ?_
  rotate_left
  · rintro w' ⟨s0, s1, s2, s3⟩
    go_simp
    with_reducible rfl
  rotate_left
  · simp only [Act.put, List.setIfInBounds_toArray, List.set_cons_zero, List.set_cons_succ]
    rfl
  refine one_ (i := 2) (N := none) #[true, true, true, false] rfl rfl (by kernel_rfl) (by decide) (fun K hK => ?_)
  have hs2 : wz.cell? ⟨g6, 0, none⟩ = some (.slice none 0 0) := (blk_cell BKg6.out 0).trans rfl
  have ht2 : wz.cell? ⟨g6, 1, none⟩ = some (.slice none 0 0) := (blk_cell BKg6.out 1).trans rfl
  have hu2 := blk_frozen BKg6.out 0
  have hv2 := blk_frozen BKg6.out 1
  have hn2_g3 := NBg3_g6.out
  have hm2_g3 := NBg6_g3.out
  have hn2_g4 := NBg4_g6.out
  have hm2_g4 := NBg6_g4.out
  have hn2_g5 := NBg5_g6.out
  have hm2_g5 := NBg6_g5.out
  have hn2_g7 := NBg7_g6.out
  have hm2_g7 := NBg6_g7.out
  have hn2_g8 := NBg8_g6.out
  have hm2_g8 := NBg6_g8.out
  have hn2_g9 := NBg9_g6.out
  have hm2_g9 := NBg6_g9.out
  refine skip_ (w1 := ?_) (by rfl) rfl ?_ ?_
  rotate_left
  · go_simp
    rfl
  refine hK.out _ _ ⟨((cell_far (p := ⟨g6, _, none⟩) NBg8_g6.out _).trans ((cell_far (p := ⟨g6, _, none⟩) NBg8_g6.out _).trans (hHeld.1))), ((cell_far (p := ⟨g6, _, none⟩) NBg8_g6.out _).trans ((cell_far (p := ⟨g6, _, none⟩) NBg8_g6.out _).trans (hHeld.2.1))), ((cell_far (p := ⟨g6, _, none⟩) NBg9_g6.out _).trans ((cell_far (p := ⟨g6, _, none⟩) NBg9_g6.out _).trans (hHeld.2.2.1))), ((cell_far (p := ⟨g6, _, none⟩) NBg9_g6.out _).trans ((cell_far (p := ⟨g6, _, none⟩) NBg9_g6.out _).trans (hHeld.2.2.2)))⟩ (fun hHeld => ?_)
  clear hK K
  refine one_ (i := 3) (N := none) #[true, true, true, true] rfl rfl (by kernel_rfl) (by decide) (fun K hK => ?_)
  have hs3 : wz.cell? ⟨g7, 0, none⟩ = some (.slice none 0 0) := (blk_cell BKg7.out 0).trans rfl
  have ht3 : wz.cell? ⟨g7, 1, none⟩ = some (.slice none 0 0) := (blk_cell BKg7.out 1).trans rfl
  have hu3 := blk_frozen BKg7.out 0
  have hv3 := blk_frozen BKg7.out 1
  have hn3_g3 := NBg3_g7.out
  have hm3_g3 := NBg7_g3.out
  have hn3_g4 := NBg4_g7.out
  have hm3_g4 := NBg7_g4.out
  have hn3_g5 := NBg5_g7.out
  have hm3_g5 := NBg7_g5.out
  have hn3_g6 := NBg6_g7.out
  have hm3_g6 := NBg7_g6.out
  have hn3_g8 := NBg8_g7.out
  have hm3_g8 := NBg7_g8.out
  have hn3_g9 := NBg9_g7.out
  have hm3_g9 := NBg7_g9.out
  refine skip_ (w1 := ?_) (by rfl) rfl ?_ ?_
  rotate_left
  · go_simp
    rfl
  refine hK.out _ _ ⟨((cell_far (p := ⟨g7, _, none⟩) NBg8_g7.out _).trans ((cell_far (p := ⟨g7, _, none⟩) NBg8_g7.out _).trans (hHeld.1))), ((cell_far (p := ⟨g7, _, none⟩) NBg8_g7.out _).trans ((cell_far (p := ⟨g7, _, none⟩) NBg8_g7.out _).trans (hHeld.2.1))), ((cell_far (p := ⟨g7, _, none⟩) NBg9_g7.out _).trans ((cell_far (p := ⟨g7, _, none⟩) NBg9_g7.out _).trans (hHeld.2.2.1))), ((cell_far (p := ⟨g7, _, none⟩) NBg9_g7.out _).trans ((cell_far (p := ⟨g7, _, none⟩) NBg9_g7.out _).trans (hHeld.2.2.2)))⟩ (fun hHeld => ?_)
  clear hK K
  refine done_ (by kernel_rfl) ?_
  try go_wp2
  refine bodyPost_ret (results_cc rfl _ _ g6 g7 34 34 #[.slice none 0 0, .slice none 0 0] #[.slice none 0 0, .slice none 0 0] (0, 0) (0, 0) _ _ rfl (by refine blk_far ?_ NBg6_g7.out _; refine blk_far ?_ NBg6_g7.out _; refine blk_put (cs := #[.slice none 0 0, .slice none 0 0]) ?_ 1 _ rfl; refine blk_put (cs := #[.slice none 0 0, .slice none 0 0]) ?_ 0 _ rfl; exact BKg6.out) Try.underlying34 rfl (by kernel_rfl) rfl (by refine blk_put (cs := #[.slice none 0 0, .slice none 0 0]) ?_ 1 _ rfl; refine blk_put (cs := #[.slice none 0 0, .slice none 0 0]) ?_ 0 _ rfl; refine blk_far ?_ NBg7_g6.out _; refine blk_far ?_ NBg7_g6.out _; exact BKg7.out) Try.underlying34 rfl (by kernel_rfl)) rfl ?_
  exact ⟨_, _, _, _, rfl, Kd.R_nil _ _ _ _ _, Kd.R_nil _ _ _ _ _, Kd.R_nil _ _ _ _ _, Kd.R_nil _ _ _ _ _, below_set (below_set (below_set (below_set HB.out GEg6.out) GEg6.out) GEg7.out) GEg7.out⟩
set_option maxHeartbeats 4000000 in
set_option maxRecDepth 100000 in
theorem cut_no2 (k : Nat) (A0 : Option Addr) (c0 : Nat) (n : List S40) (A1 : Option Addr) (c1 : Nat) (t : List S59) (A : Option Addr) (c : Nat) (l : List S45) (p : ByteArray) (w : World) (hn : Kd.C k40 w A0 n.length n) (ht : Kd.C k59 w A1 t.length t) (ln : n.length ≤ 100000000000) (lt : t.length ≤ 100000000000) (hr : Kd.C k45 w A l.length l) (hc : l.length ≤ c) (hs : Part.storeB n t = true) (hR : owned_Right.f k l = some false) :
    Calls Try.prog 25 #[.agg #[.slice A0 n.length c0, .slice A1 t.length c1], .slice A l.length c, .string p] w (Post w [] [] [] []) := by
  have HP := Lib.hid (fun (V : World) (hV : Below w.heap.size w V) => Part.right_calls A0 c0 n A1 c1 t V (Kd.C_below hn hV) (by omega) (Kd.C_below ht hV) (by omega))
  have HO := Lib.hid (fun (V : World) (hV : Below w.heap.size w V) => owned_Right.calls k A c l false V (Kd.C_below hr hV) hc hR)
  simp only [hs] at HP
  have HB := am_ (Below.refl w.heap.size w)
  clear hn ht ln lt hs hr hc hR
  go_enter Try.func25, Try.ntmps25
  go_upto_region 2 with (first | ((with_reducible refine gate_dst (N := 3) rfl ?_); refine box_event ?hg (N := 3) ?hd (cs := #[.slice A0 n.length c0, .slice A1 t.length c1]) (t := 34) ?hr ?_; (case hd => rfl); (case hg => rfl); (case hr => first | (go_simp; done) | (go_simp; rfl)); intro g3 hg wg3 hbox hb; have n0_ := am_ (below_step HB.out hb); have n1_ := am_ hbox; have n2_ := am_ ((gW hg HB.out) : w.heap.size ≤ g3); clear HB; have HB := n0_; have BKg3 := n1_; have GEg3 := n2_; clear n0_ n1_ n2_; clear hb hbox hg) | ((with_reducible refine gate_dst (N := 4) rfl ?_); refine box_event ?hg (N := 4) ?hd (cs := #[.slice A l.length c]) (t := 22) ?hr ?_; (case hd => rfl); (case hg => rfl); (case hr => first | (go_simp; done) | (go_simp; rfl)); intro g4 hg wg4 hbox hb; have n0_ := am_ (blk_below BKg3.out hb); have n1_ := am_ (below_step HB.out hb); have n2_ := am_ hbox; have n3_ := am_ ((gW hg HB.out) : w.heap.size ≤ g4); have n4_ := am_ ((gN hg BKg3.out) : g3 ≠ g4); have n5_ := am_ ((gM hg BKg3.out) : g4 ≠ g3); clear BKg3; clear HB; have BKg3 := n0_; have HB := n1_; have BKg4 := n2_; have GEg4 := n3_; have NBg3_g4 := n4_; have NBg4_g3 := n5_; clear n0_ n1_ n2_ n3_ n4_ n5_; clear hb hbox hg) | ((with_reducible refine gate_dst (N := 5) rfl ?_); refine box_event ?hg (N := 5) ?hd (cs := #[.string p]) (t := 9) ?hr ?_; (case hd => rfl); (case hg => rfl); (case hr => first | (go_simp; done) | (go_simp; rfl)); intro g5 hg wg5 hbox hb; have n0_ := am_ (blk_below BKg3.out hb); have n1_ := am_ (blk_below BKg4.out hb); have n2_ := am_ (below_step HB.out hb); have n3_ := am_ hbox; have n4_ := am_ ((gW hg HB.out) : w.heap.size ≤ g5); have n5_ := am_ ((gN hg BKg3.out) : g3 ≠ g5); have n6_ := am_ ((gM hg BKg3.out) : g5 ≠ g3); have n7_ := am_ ((gN hg BKg4.out) : g4 ≠ g5); have n8_ := am_ ((gM hg BKg4.out) : g5 ≠ g4); clear BKg3; clear BKg4; clear HB; have BKg3 := n0_; have BKg4 := n1_; have HB := n2_; have BKg5 := n3_; have GEg5 := n4_; have NBg3_g5 := n5_; have NBg5_g3 := n6_; have NBg4_g5 := n7_; have NBg5_g4 := n8_; clear n0_ n1_ n2_ n3_ n4_ n5_ n6_ n7_ n8_; clear hb hbox hg) | ((with_reducible refine gate_dst (N := 6) rfl ?_); refine box_event ?hg (N := 6) ?hd (cs := #[.slice none 0 0, .slice none 0 0]) (t := 34) ?hr ?_; (case hd => rfl); (case hg => rfl); (case hr => first | (go_simp; done) | (go_simp; rfl)); intro g6 hg wg6 hbox hb; have n0_ := am_ (blk_below BKg3.out hb); have n1_ := am_ (blk_below BKg4.out hb); have n2_ := am_ (blk_below BKg5.out hb); have n3_ := am_ (below_step HB.out hb); have n4_ := am_ hbox; have n5_ := am_ ((gW hg HB.out) : w.heap.size ≤ g6); have n6_ := am_ ((gN hg BKg3.out) : g3 ≠ g6); have n7_ := am_ ((gM hg BKg3.out) : g6 ≠ g3); have n8_ := am_ ((gN hg BKg4.out) : g4 ≠ g6); have n9_ := am_ ((gM hg BKg4.out) : g6 ≠ g4); have n10_ := am_ ((gN hg BKg5.out) : g5 ≠ g6); have n11_ := am_ ((gM hg BKg5.out) : g6 ≠ g5); clear BKg3; clear BKg4; clear BKg5; clear HB; have BKg3 := n0_; have BKg4 := n1_; have BKg5 := n2_; have HB := n3_; have BKg6 := n4_; have GEg6 := n5_; have NBg3_g6 := n6_; have NBg6_g3 := n7_; have NBg4_g6 := n8_; have NBg6_g4 := n9_; have NBg5_g6 := n10_; have NBg6_g5 := n11_; clear n0_ n1_ n2_ n3_ n4_ n5_ n6_ n7_ n8_ n9_ n10_ n11_; clear hb hbox hg) | ((with_reducible refine gate_dst (N := 7) rfl ?_); refine box_event ?hg (N := 7) ?hd (cs := #[.slice none 0 0, .slice none 0 0]) (t := 34) ?hr ?_; (case hd => rfl); (case hg => rfl); (case hr => first | (go_simp; done) | (go_simp; rfl)); intro g7 hg wg7 hbox hb; have n0_ := am_ (blk_below BKg3.out hb); have n1_ := am_ (blk_below BKg4.out hb); have n2_ := am_ (blk_below BKg5.out hb); have n3_ := am_ (blk_below BKg6.out hb); have n4_ := am_ (below_step HB.out hb); have n5_ := am_ hbox; have n6_ := am_ ((gW hg HB.out) : w.heap.size ≤ g7); have n7_ := am_ ((gN hg BKg3.out) : g3 ≠ g7); have n8_ := am_ ((gM hg BKg3.out) : g7 ≠ g3); have n9_ := am_ ((gN hg BKg4.out) : g4 ≠ g7); have n10_ := am_ ((gM hg BKg4.out) : g7 ≠ g4); have n11_ := am_ ((gN hg BKg5.out) : g5 ≠ g7); have n12_ := am_ ((gM hg BKg5.out) : g7 ≠ g5); have n13_ := am_ ((gN hg BKg6.out) : g6 ≠ g7); have n14_ := am_ ((gM hg BKg6.out) : g7 ≠ g6); clear BKg3; clear BKg4; clear BKg5; clear BKg6; clear HB; have BKg3 := n0_; have BKg4 := n1_; have BKg5 := n2_; have BKg6 := n3_; have HB := n4_; have BKg7 := n5_; have GEg7 := n6_; have NBg3_g7 := n7_; have NBg7_g3 := n8_; have NBg4_g7 := n9_; have NBg7_g4 := n10_; have NBg5_g7 := n11_; have NBg7_g5 := n12_; have NBg6_g7 := n13_; have NBg7_g6 := n14_; clear n0_ n1_ n2_ n3_ n4_ n5_ n6_ n7_ n8_ n9_ n10_ n11_ n12_ n13_ n14_; clear hb hbox hg) | ((with_reducible refine gate_dst (N := 8) rfl ?_); refine box_event ?hg (N := 8) ?hd (cs := #[.slice none 0 0, .slice none 0 0]) (t := 34) ?hr ?_; (case hd => rfl); (case hg => rfl); (case hr => first | (go_simp; done) | (go_simp; rfl)); intro g8 hg wg8 hbox hb; have n0_ := am_ (blk_below BKg3.out hb); have n1_ := am_ (blk_below BKg4.out hb); have n2_ := am_ (blk_below BKg5.out hb); have n3_ := am_ (blk_below BKg6.out hb); have n4_ := am_ (blk_below BKg7.out hb); have n5_ := am_ (below_step HB.out hb); have n6_ := am_ hbox; have n7_ := am_ ((gW hg HB.out) : w.heap.size ≤ g8); have n8_ := am_ ((gN hg BKg3.out) : g3 ≠ g8); have n9_ := am_ ((gM hg BKg3.out) : g8 ≠ g3); have n10_ := am_ ((gN hg BKg4.out) : g4 ≠ g8); have n11_ := am_ ((gM hg BKg4.out) : g8 ≠ g4); have n12_ := am_ ((gN hg BKg5.out) : g5 ≠ g8); have n13_ := am_ ((gM hg BKg5.out) : g8 ≠ g5); have n14_ := am_ ((gN hg BKg6.out) : g6 ≠ g8); have n15_ := am_ ((gM hg BKg6.out) : g8 ≠ g6); have n16_ := am_ ((gN hg BKg7.out) : g7 ≠ g8); have n17_ := am_ ((gM hg BKg7.out) : g8 ≠ g7); clear BKg3; clear BKg4; clear BKg5; clear BKg6; clear BKg7; clear HB; have BKg3 := n0_; have BKg4 := n1_; have BKg5 := n2_; have BKg6 := n3_; have BKg7 := n4_; have HB := n5_; have BKg8 := n6_; have GEg8 := n7_; have NBg3_g8 := n8_; have NBg8_g3 := n9_; have NBg4_g8 := n10_; have NBg8_g4 := n11_; have NBg5_g8 := n12_; have NBg8_g5 := n13_; have NBg6_g8 := n14_; have NBg8_g6 := n15_; have NBg7_g8 := n16_; have NBg8_g7 := n17_; clear n0_ n1_ n2_ n3_ n4_ n5_ n6_ n7_ n8_ n9_ n10_ n11_ n12_ n13_ n14_ n15_ n16_ n17_; clear hb hbox hg) | ((with_reducible refine gate_dst (N := 9) rfl ?_); refine box_event ?hg (N := 9) ?hd (cs := #[.slice none 0 0, .slice none 0 0]) (t := 34) ?hr ?_; (case hd => rfl); (case hg => rfl); (case hr => first | (go_simp; done) | (go_simp; rfl)); intro g9 hg wg9 hbox hb; have n0_ := am_ (blk_below BKg3.out hb); have n1_ := am_ (blk_below BKg4.out hb); have n2_ := am_ (blk_below BKg5.out hb); have n3_ := am_ (blk_below BKg6.out hb); have n4_ := am_ (blk_below BKg7.out hb); have n5_ := am_ (blk_below BKg8.out hb); have n6_ := am_ (below_step HB.out hb); have n7_ := am_ hbox; have n8_ := am_ ((gW hg HB.out) : w.heap.size ≤ g9); have n9_ := am_ ((gN hg BKg3.out) : g3 ≠ g9); have n10_ := am_ ((gM hg BKg3.out) : g9 ≠ g3); have n11_ := am_ ((gN hg BKg4.out) : g4 ≠ g9); have n12_ := am_ ((gM hg BKg4.out) : g9 ≠ g4); have n13_ := am_ ((gN hg BKg5.out) : g5 ≠ g9); have n14_ := am_ ((gM hg BKg5.out) : g9 ≠ g5); have n15_ := am_ ((gN hg BKg6.out) : g6 ≠ g9); have n16_ := am_ ((gM hg BKg6.out) : g9 ≠ g6); have n17_ := am_ ((gN hg BKg7.out) : g7 ≠ g9); have n18_ := am_ ((gM hg BKg7.out) : g9 ≠ g7); have n19_ := am_ ((gN hg BKg8.out) : g8 ≠ g9); have n20_ := am_ ((gM hg BKg8.out) : g9 ≠ g8); clear BKg3; clear BKg4; clear BKg5; clear BKg6; clear BKg7; clear BKg8; clear HB; have BKg3 := n0_; have BKg4 := n1_; have BKg5 := n2_; have BKg6 := n3_; have BKg7 := n4_; have BKg8 := n5_; have HB := n6_; have BKg9 := n7_; have GEg9 := n8_; have NBg3_g9 := n9_; have NBg9_g3 := n10_; have NBg4_g9 := n11_; have NBg9_g4 := n12_; have NBg5_g9 := n13_; have NBg9_g5 := n14_; have NBg6_g9 := n15_; have NBg9_g6 := n16_; have NBg7_g9 := n17_; have NBg9_g7 := n18_; have NBg8_g9 := n19_; have NBg9_g8 := n20_; clear n0_ n1_ n2_ n3_ n4_ n5_ n6_ n7_ n8_ n9_ n10_ n11_ n12_ n13_ n14_ n15_ n16_ n17_ n18_ n19_ n20_; clear hb hbox hg))
  (try simp only [Act.put, List.setIfInBounds_toArray, List.set_cons_zero, List.set_cons_succ])
  have hc0 : wg9.cell? ⟨g3, 0, none⟩ = some (.slice A0 n.length c0) := (blk_cell BKg3.out 0).trans rfl
  have hc1 : wg9.cell? ⟨g3, 1, none⟩ = some (.slice A1 t.length c1) := (blk_cell BKg3.out 1).trans rfl
  go_wp2_with fail
  refine (HP.out _ HB.out).mono ?_
  rintro e w1 ⟨rfl, hb1⟩
  have n0_ := am_ (blk_below (BKg3.out) hb1)
  have n1_ := am_ (blk_below (BKg4.out) hb1)
  have n2_ := am_ (blk_below (BKg5.out) hb1)
  have n3_ := am_ (blk_below (BKg6.out) hb1)
  have n4_ := am_ (blk_below (BKg7.out) hb1)
  have n5_ := am_ (blk_below (BKg8.out) hb1)
  have n6_ := am_ (blk_below (BKg9.out) hb1)
  have n7_ := am_ (below_step HB.out hb1)
  clear BKg3 BKg4 BKg5 BKg6 BKg7 BKg8 BKg9
  clear HB
  have BKg3 := n0_
  have BKg4 := n1_
  have BKg5 := n2_
  have BKg6 := n3_
  have BKg7 := n4_
  have BKg8 := n5_
  have BKg9 := n6_
  have HB := n7_
  clear n0_ n1_ n2_ n3_ n4_ n5_ n6_ n7_
  clear hc0 hc1 hb1
  have hd0 : w1.cell? ⟨g4, 0, none⟩ = some (.slice A l.length c) := (blk_cell BKg4.out 0).trans rfl
  go_wp2_with fail
  refine (HO.out _ HB.out).mono ?_
  rintro e w2 ⟨rfl, hb2⟩
  have n0_ := am_ (blk_below (BKg3.out) hb2)
  have n1_ := am_ (blk_below (BKg4.out) hb2)
  have n2_ := am_ (blk_below (BKg5.out) hb2)
  have n3_ := am_ (blk_below (BKg6.out) hb2)
  have n4_ := am_ (blk_below (BKg7.out) hb2)
  have n5_ := am_ (blk_below (BKg8.out) hb2)
  have n6_ := am_ (blk_below (BKg9.out) hb2)
  have n7_ := am_ (below_step HB.out hb2)
  clear BKg3 BKg4 BKg5 BKg6 BKg7 BKg8 BKg9
  clear HB
  have BKg3 := n0_
  have BKg4 := n1_
  have BKg5 := n2_
  have BKg6 := n3_
  have BKg7 := n4_
  have BKg8 := n5_
  have BKg9 := n6_
  have HB := n7_
  clear n0_ n1_ n2_ n3_ n4_ n5_ n6_ n7_
  clear hd0 hb2
  go_wp2_with fail
  refine start_ (n := 4) (S := fun w' => w'.cell? ⟨g8, 0, none⟩ = some (.slice none 0 0) ∧ w'.cell? ⟨g8, 1, none⟩ = some (.slice none 0 0) ∧ w'.cell? ⟨g9, 0, none⟩ = some (.slice none 0 0) ∧ w'.cell? ⟨g9, 1, none⟩ = some (.slice none 0 0)) (ds := []) #[false, false, false, false] (by kernel_rfl) rfl rfl ⟨(blk_cell (blk_drew BKg8.out) 0).trans rfl, (blk_cell (blk_drew BKg8.out) 1).trans rfl, (blk_cell (blk_drew BKg9.out) 0).trans rfl, (blk_cell (blk_drew BKg9.out) 1).trans rfl⟩ (fun hHeld => ?_)
  have n_ := am_ (blk_drew BKg3.out)
  clear BKg3
  have BKg3 := n_
  clear n_
  have n_ := am_ (blk_drew BKg4.out)
  clear BKg4
  have BKg4 := n_
  clear n_
  have n_ := am_ (blk_drew BKg5.out)
  clear BKg5
  have BKg5 := n_
  clear n_
  have n_ := am_ (blk_drew BKg6.out)
  clear BKg6
  have BKg6 := n_
  clear n_
  have n_ := am_ (blk_drew BKg7.out)
  clear BKg7
  have BKg7 := n_
  clear n_
  have n_ := am_ (blk_drew BKg8.out)
  clear BKg8
  have BKg8 := n_
  clear n_
  have n_ := am_ (blk_drew BKg9.out)
  clear BKg9
  have BKg9 := n_
  clear n_
  have n_ := am_ (below_drew1 HB.out)
  clear HB
  have HB := n_
  clear n_
  generalize World.drew _ = wz at BKg3 BKg4 BKg5 BKg6 BKg7 BKg8 BKg9 HB hHeld ⊢
  refine take_ (i := 0) (N := some 19) (v := ?_) (a' := ?_) #[true, false, false, false] rfl rfl (by kernel_rfl) (fun _ _ _ h => h) (Or.inl ⟨by rfl, ?_⟩) hHeld ?_ ?_
  rotate_left
  · rintro w' ⟨s0, s1, s2, s3⟩
    go_simp
    with_reducible rfl
  rotate_left
  · simp only [Act.put, List.setIfInBounds_toArray, List.set_cons_zero, List.set_cons_succ]
    rfl
  refine take_ (i := 1) (N := some 20) (v := ?_) (a' := ?_) #[true, true, false, false] rfl rfl (by kernel_rfl) (fun _ _ _ h => h) (Or.inl ⟨by rfl, ?_⟩) hHeld ?_ ?_
  rotate_left
  · rintro w' ⟨s0, s1, s2, s3⟩
    go_simp
    with_reducible rfl
  rotate_left
  · simp only [Act.put, List.setIfInBounds_toArray, List.set_cons_zero, List.set_cons_succ]
    rfl
  refine one_ (i := 2) (N := none) #[true, true, true, false] rfl rfl (by kernel_rfl) (by decide) (fun K hK => ?_)
  have hs2 : wz.cell? ⟨g6, 0, none⟩ = some (.slice none 0 0) := (blk_cell BKg6.out 0).trans rfl
  have ht2 : wz.cell? ⟨g6, 1, none⟩ = some (.slice none 0 0) := (blk_cell BKg6.out 1).trans rfl
  have hu2 := blk_frozen BKg6.out 0
  have hv2 := blk_frozen BKg6.out 1
  have hn2_g3 := NBg3_g6.out
  have hm2_g3 := NBg6_g3.out
  have hn2_g4 := NBg4_g6.out
  have hm2_g4 := NBg6_g4.out
  have hn2_g5 := NBg5_g6.out
  have hm2_g5 := NBg6_g5.out
  have hn2_g7 := NBg7_g6.out
  have hm2_g7 := NBg6_g7.out
  have hn2_g8 := NBg8_g6.out
  have hm2_g8 := NBg6_g8.out
  have hn2_g9 := NBg9_g6.out
  have hm2_g9 := NBg6_g9.out
  refine skip_ (w1 := ?_) (by rfl) rfl ?_ ?_
  rotate_left
  · go_simp
    rfl
  refine hK.out _ _ ⟨((cell_far (p := ⟨g6, _, none⟩) NBg8_g6.out _).trans ((cell_far (p := ⟨g6, _, none⟩) NBg8_g6.out _).trans (hHeld.1))), ((cell_far (p := ⟨g6, _, none⟩) NBg8_g6.out _).trans ((cell_far (p := ⟨g6, _, none⟩) NBg8_g6.out _).trans (hHeld.2.1))), ((cell_far (p := ⟨g6, _, none⟩) NBg9_g6.out _).trans ((cell_far (p := ⟨g6, _, none⟩) NBg9_g6.out _).trans (hHeld.2.2.1))), ((cell_far (p := ⟨g6, _, none⟩) NBg9_g6.out _).trans ((cell_far (p := ⟨g6, _, none⟩) NBg9_g6.out _).trans (hHeld.2.2.2)))⟩ (fun hHeld => ?_)
  clear hK K
  refine one_ (i := 3) (N := none) #[true, true, true, true] rfl rfl (by kernel_rfl) (by decide) (fun K hK => ?_)
  have hs3 : wz.cell? ⟨g7, 0, none⟩ = some (.slice none 0 0) := (blk_cell BKg7.out 0).trans rfl
  have ht3 : wz.cell? ⟨g7, 1, none⟩ = some (.slice none 0 0) := (blk_cell BKg7.out 1).trans rfl
  have hu3 := blk_frozen BKg7.out 0
  have hv3 := blk_frozen BKg7.out 1
  have hn3_g3 := NBg3_g7.out
  have hm3_g3 := NBg7_g3.out
  have hn3_g4 := NBg4_g7.out
  have hm3_g4 := NBg7_g4.out
  have hn3_g5 := NBg5_g7.out
  have hm3_g5 := NBg7_g5.out
  have hn3_g6 := NBg6_g7.out
  have hm3_g6 := NBg7_g6.out
  have hn3_g8 := NBg8_g7.out
  have hm3_g8 := NBg7_g8.out
  have hn3_g9 := NBg9_g7.out
  have hm3_g9 := NBg7_g9.out
  refine skip_ (w1 := ?_) (by rfl) rfl ?_ ?_
  rotate_left
  · go_simp
    rfl
  refine hK.out _ _ ⟨((cell_far (p := ⟨g7, _, none⟩) NBg8_g7.out _).trans ((cell_far (p := ⟨g7, _, none⟩) NBg8_g7.out _).trans (hHeld.1))), ((cell_far (p := ⟨g7, _, none⟩) NBg8_g7.out _).trans ((cell_far (p := ⟨g7, _, none⟩) NBg8_g7.out _).trans (hHeld.2.1))), ((cell_far (p := ⟨g7, _, none⟩) NBg9_g7.out _).trans ((cell_far (p := ⟨g7, _, none⟩) NBg9_g7.out _).trans (hHeld.2.2.1))), ((cell_far (p := ⟨g7, _, none⟩) NBg9_g7.out _).trans ((cell_far (p := ⟨g7, _, none⟩) NBg9_g7.out _).trans (hHeld.2.2.2)))⟩ (fun hHeld => ?_)
  clear hK K
  refine done_ (by kernel_rfl) ?_
  try go_wp2
  refine bodyPost_ret (results_cc rfl _ _ g6 g7 34 34 #[.slice none 0 0, .slice none 0 0] #[.slice none 0 0, .slice none 0 0] (0, 0) (0, 0) _ _ rfl (by refine blk_far ?_ NBg6_g7.out _; refine blk_far ?_ NBg6_g7.out _; refine blk_put (cs := #[.slice none 0 0, .slice none 0 0]) ?_ 1 _ rfl; refine blk_put (cs := #[.slice none 0 0, .slice none 0 0]) ?_ 0 _ rfl; exact BKg6.out) Try.underlying34 rfl (by kernel_rfl) rfl (by refine blk_put (cs := #[.slice none 0 0, .slice none 0 0]) ?_ 1 _ rfl; refine blk_put (cs := #[.slice none 0 0, .slice none 0 0]) ?_ 0 _ rfl; refine blk_far ?_ NBg7_g6.out _; refine blk_far ?_ NBg7_g6.out _; exact BKg7.out) Try.underlying34 rfl (by kernel_rfl)) rfl ?_
  exact ⟨_, _, _, _, rfl, Kd.R_nil _ _ _ _ _, Kd.R_nil _ _ _ _ _, Kd.R_nil _ _ _ _ _, Kd.R_nil _ _ _ _ _, below_set (below_set (below_set (below_set HB.out GEg6.out) GEg6.out) GEg7.out) GEg7.out⟩
set_option maxHeartbeats 4000000 in
set_option maxRecDepth 100000 in
theorem cut_yes (k : Nat) (A0 : Option Addr) (c0 : Nat) (n : List S40) (A1 : Option Addr) (c1 : Nat) (t : List S59) (A : Option Addr) (c : Nat) (l : List S45) (p : ByteArray) (w : World) (hn : Kd.C k40 w A0 n.length n) (ht : Kd.C k59 w A1 t.length t) (ln : n.length ≤ 100000000000) (lt : t.length ≤ 100000000000) (hr : Kd.C k45 w A l.length l) (hc : l.length ≤ c) (hs : Part.storeB n t = true) (hR : owned_Right.f k l = some true) (hof : ∀ d, ∃ r : Int, owned_Of.f k l d = some r ∧ r < l.length) (hpa : ∀ x ∈ n, (path_Parent.f k x.f0).isSome = true) :
    Calls Try.prog 25 #[.agg #[.slice A0 n.length c0, .slice A1 t.length c1], .slice A l.length c, .string p] w (Post w (n.filter fun x => mineB k l p (homeK k x.f0)) (t.filter fun x => mineB k l p x.f0) (n.filter fun x => !mineB k l p (homeK k x.f0)) (t.filter fun x => !mineB k l p x.f0)) := by
  have HP := Lib.hid (fun (V : World) (hV : Below w.heap.size w V) => Part.right_calls A0 c0 n A1 c1 t V (Kd.C_below hn hV) (by omega) (Kd.C_below ht hV) (by omega))
  have HO := Lib.hid (fun (V : World) (hV : Below w.heap.size w V) => owned_Right.calls k A c l true V (Kd.C_below hr hV) hc hR)
  simp only [hs] at HP
  have HB := am_ (Below.refl w.heap.size w)
  have HN := Lib.hid hn
  have HT := Lib.hid ht
  have LN := Lib.hid ln
  have LT := Lib.hid lt
  have HOF := Lib.hid hof
  have HPA := Lib.hid hpa
  have HRr := Lib.hid hr
  have HCc := Lib.hid hc
  clear hn ht hs hR hr hc ln lt hof hpa
  go_enter Try.func25, Try.ntmps25
  go_upto_region 2 with (first | ((with_reducible refine gate_dst (N := 3) rfl ?_); refine box_event ?hg (N := 3) ?hd (cs := #[.slice A0 n.length c0, .slice A1 t.length c1]) (t := 34) ?hr ?_; (case hd => rfl); (case hg => rfl); (case hr => first | (go_simp; done) | (go_simp; rfl)); intro g3 hg wg3 hbox hb; have n0_ := am_ (below_step HB.out hb); have n1_ := am_ hbox; have n2_ := am_ ((gW hg HB.out) : w.heap.size ≤ g3); clear HB; have HB := n0_; have BKg3 := n1_; have GEg3 := n2_; clear n0_ n1_ n2_; clear hb hbox hg) | ((with_reducible refine gate_dst (N := 4) rfl ?_); refine box_event ?hg (N := 4) ?hd (cs := #[.slice A l.length c]) (t := 22) ?hr ?_; (case hd => rfl); (case hg => rfl); (case hr => first | (go_simp; done) | (go_simp; rfl)); intro g4 hg wg4 hbox hb; have n0_ := am_ (blk_below BKg3.out hb); have n1_ := am_ (below_step HB.out hb); have n2_ := am_ hbox; have n3_ := am_ ((gW hg HB.out) : w.heap.size ≤ g4); have n4_ := am_ ((gN hg BKg3.out) : g3 ≠ g4); have n5_ := am_ ((gM hg BKg3.out) : g4 ≠ g3); clear BKg3; clear HB; have BKg3 := n0_; have HB := n1_; have BKg4 := n2_; have GEg4 := n3_; have NBg3_g4 := n4_; have NBg4_g3 := n5_; clear n0_ n1_ n2_ n3_ n4_ n5_; clear hb hbox hg) | ((with_reducible refine gate_dst (N := 5) rfl ?_); refine box_event ?hg (N := 5) ?hd (cs := #[.string p]) (t := 9) ?hr ?_; (case hd => rfl); (case hg => rfl); (case hr => first | (go_simp; done) | (go_simp; rfl)); intro g5 hg wg5 hbox hb; have n0_ := am_ (blk_below BKg3.out hb); have n1_ := am_ (blk_below BKg4.out hb); have n2_ := am_ (below_step HB.out hb); have n3_ := am_ hbox; have n4_ := am_ ((gW hg HB.out) : w.heap.size ≤ g5); have n5_ := am_ ((gN hg BKg3.out) : g3 ≠ g5); have n6_ := am_ ((gM hg BKg3.out) : g5 ≠ g3); have n7_ := am_ ((gN hg BKg4.out) : g4 ≠ g5); have n8_ := am_ ((gM hg BKg4.out) : g5 ≠ g4); clear BKg3; clear BKg4; clear HB; have BKg3 := n0_; have BKg4 := n1_; have HB := n2_; have BKg5 := n3_; have GEg5 := n4_; have NBg3_g5 := n5_; have NBg5_g3 := n6_; have NBg4_g5 := n7_; have NBg5_g4 := n8_; clear n0_ n1_ n2_ n3_ n4_ n5_ n6_ n7_ n8_; clear hb hbox hg) | ((with_reducible refine gate_dst (N := 6) rfl ?_); refine box_event ?hg (N := 6) ?hd (cs := #[.slice none 0 0, .slice none 0 0]) (t := 34) ?hr ?_; (case hd => rfl); (case hg => rfl); (case hr => first | (go_simp; done) | (go_simp; rfl)); intro g6 hg wg6 hbox hb; have n0_ := am_ (blk_below BKg3.out hb); have n1_ := am_ (blk_below BKg4.out hb); have n2_ := am_ (blk_below BKg5.out hb); have n3_ := am_ (below_step HB.out hb); have n4_ := am_ hbox; have n5_ := am_ ((gW hg HB.out) : w.heap.size ≤ g6); have n6_ := am_ ((gN hg BKg3.out) : g3 ≠ g6); have n7_ := am_ ((gM hg BKg3.out) : g6 ≠ g3); have n8_ := am_ ((gN hg BKg4.out) : g4 ≠ g6); have n9_ := am_ ((gM hg BKg4.out) : g6 ≠ g4); have n10_ := am_ ((gN hg BKg5.out) : g5 ≠ g6); have n11_ := am_ ((gM hg BKg5.out) : g6 ≠ g5); clear BKg3; clear BKg4; clear BKg5; clear HB; have BKg3 := n0_; have BKg4 := n1_; have BKg5 := n2_; have HB := n3_; have BKg6 := n4_; have GEg6 := n5_; have NBg3_g6 := n6_; have NBg6_g3 := n7_; have NBg4_g6 := n8_; have NBg6_g4 := n9_; have NBg5_g6 := n10_; have NBg6_g5 := n11_; clear n0_ n1_ n2_ n3_ n4_ n5_ n6_ n7_ n8_ n9_ n10_ n11_; clear hb hbox hg) | ((with_reducible refine gate_dst (N := 7) rfl ?_); refine box_event ?hg (N := 7) ?hd (cs := #[.slice none 0 0, .slice none 0 0]) (t := 34) ?hr ?_; (case hd => rfl); (case hg => rfl); (case hr => first | (go_simp; done) | (go_simp; rfl)); intro g7 hg wg7 hbox hb; have n0_ := am_ (blk_below BKg3.out hb); have n1_ := am_ (blk_below BKg4.out hb); have n2_ := am_ (blk_below BKg5.out hb); have n3_ := am_ (blk_below BKg6.out hb); have n4_ := am_ (below_step HB.out hb); have n5_ := am_ hbox; have n6_ := am_ ((gW hg HB.out) : w.heap.size ≤ g7); have n7_ := am_ ((gN hg BKg3.out) : g3 ≠ g7); have n8_ := am_ ((gM hg BKg3.out) : g7 ≠ g3); have n9_ := am_ ((gN hg BKg4.out) : g4 ≠ g7); have n10_ := am_ ((gM hg BKg4.out) : g7 ≠ g4); have n11_ := am_ ((gN hg BKg5.out) : g5 ≠ g7); have n12_ := am_ ((gM hg BKg5.out) : g7 ≠ g5); have n13_ := am_ ((gN hg BKg6.out) : g6 ≠ g7); have n14_ := am_ ((gM hg BKg6.out) : g7 ≠ g6); clear BKg3; clear BKg4; clear BKg5; clear BKg6; clear HB; have BKg3 := n0_; have BKg4 := n1_; have BKg5 := n2_; have BKg6 := n3_; have HB := n4_; have BKg7 := n5_; have GEg7 := n6_; have NBg3_g7 := n7_; have NBg7_g3 := n8_; have NBg4_g7 := n9_; have NBg7_g4 := n10_; have NBg5_g7 := n11_; have NBg7_g5 := n12_; have NBg6_g7 := n13_; have NBg7_g6 := n14_; clear n0_ n1_ n2_ n3_ n4_ n5_ n6_ n7_ n8_ n9_ n10_ n11_ n12_ n13_ n14_; clear hb hbox hg) | ((with_reducible refine gate_dst (N := 8) rfl ?_); refine box_event ?hg (N := 8) ?hd (cs := #[.slice none 0 0, .slice none 0 0]) (t := 34) ?hr ?_; (case hd => rfl); (case hg => rfl); (case hr => first | (go_simp; done) | (go_simp; rfl)); intro g8 hg wg8 hbox hb; have n0_ := am_ (blk_below BKg3.out hb); have n1_ := am_ (blk_below BKg4.out hb); have n2_ := am_ (blk_below BKg5.out hb); have n3_ := am_ (blk_below BKg6.out hb); have n4_ := am_ (blk_below BKg7.out hb); have n5_ := am_ (below_step HB.out hb); have n6_ := am_ hbox; have n7_ := am_ ((gW hg HB.out) : w.heap.size ≤ g8); have n8_ := am_ ((gN hg BKg3.out) : g3 ≠ g8); have n9_ := am_ ((gM hg BKg3.out) : g8 ≠ g3); have n10_ := am_ ((gN hg BKg4.out) : g4 ≠ g8); have n11_ := am_ ((gM hg BKg4.out) : g8 ≠ g4); have n12_ := am_ ((gN hg BKg5.out) : g5 ≠ g8); have n13_ := am_ ((gM hg BKg5.out) : g8 ≠ g5); have n14_ := am_ ((gN hg BKg6.out) : g6 ≠ g8); have n15_ := am_ ((gM hg BKg6.out) : g8 ≠ g6); have n16_ := am_ ((gN hg BKg7.out) : g7 ≠ g8); have n17_ := am_ ((gM hg BKg7.out) : g8 ≠ g7); clear BKg3; clear BKg4; clear BKg5; clear BKg6; clear BKg7; clear HB; have BKg3 := n0_; have BKg4 := n1_; have BKg5 := n2_; have BKg6 := n3_; have BKg7 := n4_; have HB := n5_; have BKg8 := n6_; have GEg8 := n7_; have NBg3_g8 := n8_; have NBg8_g3 := n9_; have NBg4_g8 := n10_; have NBg8_g4 := n11_; have NBg5_g8 := n12_; have NBg8_g5 := n13_; have NBg6_g8 := n14_; have NBg8_g6 := n15_; have NBg7_g8 := n16_; have NBg8_g7 := n17_; clear n0_ n1_ n2_ n3_ n4_ n5_ n6_ n7_ n8_ n9_ n10_ n11_ n12_ n13_ n14_ n15_ n16_ n17_; clear hb hbox hg) | ((with_reducible refine gate_dst (N := 9) rfl ?_); refine box_event ?hg (N := 9) ?hd (cs := #[.slice none 0 0, .slice none 0 0]) (t := 34) ?hr ?_; (case hd => rfl); (case hg => rfl); (case hr => first | (go_simp; done) | (go_simp; rfl)); intro g9 hg wg9 hbox hb; have n0_ := am_ (blk_below BKg3.out hb); have n1_ := am_ (blk_below BKg4.out hb); have n2_ := am_ (blk_below BKg5.out hb); have n3_ := am_ (blk_below BKg6.out hb); have n4_ := am_ (blk_below BKg7.out hb); have n5_ := am_ (blk_below BKg8.out hb); have n6_ := am_ (below_step HB.out hb); have n7_ := am_ hbox; have n8_ := am_ ((gW hg HB.out) : w.heap.size ≤ g9); have n9_ := am_ ((gN hg BKg3.out) : g3 ≠ g9); have n10_ := am_ ((gM hg BKg3.out) : g9 ≠ g3); have n11_ := am_ ((gN hg BKg4.out) : g4 ≠ g9); have n12_ := am_ ((gM hg BKg4.out) : g9 ≠ g4); have n13_ := am_ ((gN hg BKg5.out) : g5 ≠ g9); have n14_ := am_ ((gM hg BKg5.out) : g9 ≠ g5); have n15_ := am_ ((gN hg BKg6.out) : g6 ≠ g9); have n16_ := am_ ((gM hg BKg6.out) : g9 ≠ g6); have n17_ := am_ ((gN hg BKg7.out) : g7 ≠ g9); have n18_ := am_ ((gM hg BKg7.out) : g9 ≠ g7); have n19_ := am_ ((gN hg BKg8.out) : g8 ≠ g9); have n20_ := am_ ((gM hg BKg8.out) : g9 ≠ g8); clear BKg3; clear BKg4; clear BKg5; clear BKg6; clear BKg7; clear BKg8; clear HB; have BKg3 := n0_; have BKg4 := n1_; have BKg5 := n2_; have BKg6 := n3_; have BKg7 := n4_; have BKg8 := n5_; have HB := n6_; have BKg9 := n7_; have GEg9 := n8_; have NBg3_g9 := n9_; have NBg9_g3 := n10_; have NBg4_g9 := n11_; have NBg9_g4 := n12_; have NBg5_g9 := n13_; have NBg9_g5 := n14_; have NBg6_g9 := n15_; have NBg9_g6 := n16_; have NBg7_g9 := n17_; have NBg9_g7 := n18_; have NBg8_g9 := n19_; have NBg9_g8 := n20_; clear n0_ n1_ n2_ n3_ n4_ n5_ n6_ n7_ n8_ n9_ n10_ n11_ n12_ n13_ n14_ n15_ n16_ n17_ n18_ n19_ n20_; clear hb hbox hg))
  (try simp only [Act.put, List.setIfInBounds_toArray, List.set_cons_zero, List.set_cons_succ])
  have hc0 : wg9.cell? ⟨g3, 0, none⟩ = some (.slice A0 n.length c0) := (blk_cell BKg3.out 0).trans rfl
  have hc1 : wg9.cell? ⟨g3, 1, none⟩ = some (.slice A1 t.length c1) := (blk_cell BKg3.out 1).trans rfl
  go_wp2_with fail
  refine (HP.out _ HB.out).mono ?_
  rintro e w1 ⟨rfl, hb1⟩
  have n0_ := am_ (blk_below (BKg3.out) hb1)
  have n1_ := am_ (blk_below (BKg4.out) hb1)
  have n2_ := am_ (blk_below (BKg5.out) hb1)
  have n3_ := am_ (blk_below (BKg6.out) hb1)
  have n4_ := am_ (blk_below (BKg7.out) hb1)
  have n5_ := am_ (blk_below (BKg8.out) hb1)
  have n6_ := am_ (blk_below (BKg9.out) hb1)
  have n7_ := am_ (below_step HB.out hb1)
  clear BKg3 BKg4 BKg5 BKg6 BKg7 BKg8 BKg9
  clear HB
  have BKg3 := n0_
  have BKg4 := n1_
  have BKg5 := n2_
  have BKg6 := n3_
  have BKg7 := n4_
  have BKg8 := n5_
  have BKg9 := n6_
  have HB := n7_
  clear n0_ n1_ n2_ n3_ n4_ n5_ n6_ n7_
  clear hc0 hc1 hb1
  have hd0 : w1.cell? ⟨g4, 0, none⟩ = some (.slice A l.length c) := (blk_cell BKg4.out 0).trans rfl
  go_wp2_with fail
  refine (HO.out _ HB.out).mono ?_
  rintro e w2 ⟨rfl, hb2⟩
  have n0_ := am_ (blk_below (BKg3.out) hb2)
  have n1_ := am_ (blk_below (BKg4.out) hb2)
  have n2_ := am_ (blk_below (BKg5.out) hb2)
  have n3_ := am_ (blk_below (BKg6.out) hb2)
  have n4_ := am_ (blk_below (BKg7.out) hb2)
  have n5_ := am_ (blk_below (BKg8.out) hb2)
  have n6_ := am_ (blk_below (BKg9.out) hb2)
  have n7_ := am_ (below_step HB.out hb2)
  clear BKg3 BKg4 BKg5 BKg6 BKg7 BKg8 BKg9
  clear HB
  have BKg3 := n0_
  have BKg4 := n1_
  have BKg5 := n2_
  have BKg6 := n3_
  have BKg7 := n4_
  have BKg8 := n5_
  have BKg9 := n6_
  have HB := n7_
  clear n0_ n1_ n2_ n3_ n4_ n5_ n6_ n7_
  clear hd0 hb2
  have hc0 : w2.cell? ⟨g3, 0, none⟩ = some (.slice A0 n.length c0) := (blk_cell BKg3.out 0).trans rfl
  have hc1 : w2.cell? ⟨g3, 1, none⟩ = some (.slice A1 t.length c1) := (blk_cell BKg3.out 1).trans rfl
  have hx0 : ∀ o, (w2.alloc o).cell? ⟨g3, 0, none⟩ = some (.slice A0 n.length c0) := fun o => (blk_cell (blk_alloc BKg3.out o) 0).trans rfl
  go_wp2_with fail
  clear hx0 hc0 hc1
  have GEg10 := am_ (below_size HB.out)
  have NBg3_g10 := am_ (Nat.ne_of_lt (blk_lt BKg3.out))
  have NBg10_g3 := am_ (Nat.ne_of_gt (blk_lt BKg3.out))
  have NBg4_g10 := am_ (Nat.ne_of_lt (blk_lt BKg4.out))
  have NBg10_g4 := am_ (Nat.ne_of_gt (blk_lt BKg4.out))
  have NBg5_g10 := am_ (Nat.ne_of_lt (blk_lt BKg5.out))
  have NBg10_g5 := am_ (Nat.ne_of_gt (blk_lt BKg5.out))
  have NBg6_g10 := am_ (Nat.ne_of_lt (blk_lt BKg6.out))
  have NBg10_g6 := am_ (Nat.ne_of_gt (blk_lt BKg6.out))
  have NBg7_g10 := am_ (Nat.ne_of_lt (blk_lt BKg7.out))
  have NBg10_g7 := am_ (Nat.ne_of_gt (blk_lt BKg7.out))
  have NBg8_g10 := am_ (Nat.ne_of_lt (blk_lt BKg8.out))
  have NBg10_g8 := am_ (Nat.ne_of_gt (blk_lt BKg8.out))
  have NBg9_g10 := am_ (Nat.ne_of_lt (blk_lt BKg9.out))
  have NBg10_g9 := am_ (Nat.ne_of_gt (blk_lt BKg9.out))
  have hal_ : Below w2.heap.size w2 (w2.alloc (.cells #[.func (.func 40) #[] #[.pointer (some ⟨g4, 0, none⟩), .pointer (some ⟨g5, 0, none⟩)]] 42 (0, 0))) := below_alloc (Below.refl _ _) _
  have n0_ := am_ (blk_below (BKg3.out) hal_)
  have n1_ := am_ (blk_below (BKg4.out) hal_)
  have n2_ := am_ (blk_below (BKg5.out) hal_)
  have n3_ := am_ (blk_below (BKg6.out) hal_)
  have n4_ := am_ (blk_below (BKg7.out) hal_)
  have n5_ := am_ (blk_below (BKg8.out) hal_)
  have n6_ := am_ (blk_below (BKg9.out) hal_)
  have n7_ := am_ (below_step HB.out hal_)
  clear BKg3 BKg4 BKg5 BKg6 BKg7 BKg8 BKg9
  clear HB
  have BKg3 := n0_
  have BKg4 := n1_
  have BKg5 := n2_
  have BKg6 := n3_
  have BKg7 := n4_
  have BKg8 := n5_
  have BKg9 := n6_
  have HB := n7_
  clear n0_ n1_ n2_ n3_ n4_ n5_ n6_ n7_
  clear hal_
  have BKg10 := am_ (heap_alloc_new w2 (.cells #[.func (.func 40) #[] #[.pointer (some ⟨g4, 0, none⟩), .pointer (some ⟨g5, 0, none⟩)]] 42 (0, 0)))
  generalize w2.heap.size = g10 at BKg10 GEg10 NBg3_g10 NBg10_g3 NBg4_g10 NBg10_g4 NBg5_g10 NBg10_g5 NBg6_g10 NBg10_g6 NBg7_g10 NBg10_g7 NBg8_g10 NBg10_g8 NBg9_g10 NBg10_g9 ⊢
  generalize World.alloc w2 _ = V at BKg10 BKg3 BKg4 BKg5 BKg6 BKg7 BKg8 BKg9 HB ⊢
  refine (PNode.parted_calls 42 #[.pointer (some ⟨g10, 0, none⟩)] (enters_of Try.func42 (by kernel_rfl) rfl) (fun x => mineB k l p (homeK k x.f0)) A0 c0 n V (node_pred k A c l p g4 g5 g10 _ n V BKg4.out BKg5.out BKg10.out (Kd.C_below HRr.out HB.out) HCc.out HOF.out HPA.out) (Kd.C_below HN.out HB.out) LN.out).mono ?_
  rintro e w3 ⟨v, u, rfl, hv, hu, hb3⟩
  obtain ⟨Av, mv, cv, rfl⟩ : ∃ A_ m_ c_, v = .slice A_ m_ c_ := by obtain ⟨a_, c_, e_⟩ := Kd.R_slice hv; exact ⟨_, _, _, e_⟩
  obtain ⟨Au, mu, cu, rfl⟩ : ∃ A_ m_ c_, u = .slice A_ m_ c_ := by obtain ⟨a_, c_, e_⟩ := Kd.R_slice hu; exact ⟨_, _, _, e_⟩
  have HV := am_ (Kd.R_lower hv (below_size HB.out))
  have HU := am_ (Kd.R_lower hu (below_size HB.out))
  have n0_ := am_ (blk_below (BKg3.out) hb3)
  have n1_ := am_ (blk_below (BKg4.out) hb3)
  have n2_ := am_ (blk_below (BKg5.out) hb3)
  have n3_ := am_ (blk_below (BKg6.out) hb3)
  have n4_ := am_ (blk_below (BKg7.out) hb3)
  have n5_ := am_ (blk_below (BKg8.out) hb3)
  have n6_ := am_ (blk_below (BKg9.out) hb3)
  have n7_ := am_ (blk_below (BKg10.out) hb3)
  have n8_ := am_ (below_step HB.out hb3)
  clear BKg3 BKg4 BKg5 BKg6 BKg7 BKg8 BKg9 BKg10
  clear HB
  have BKg3 := n0_
  have BKg4 := n1_
  have BKg5 := n2_
  have BKg6 := n3_
  have BKg7 := n4_
  have BKg8 := n5_
  have BKg9 := n6_
  have BKg10 := n7_
  have HB := n8_
  clear n0_ n1_ n2_ n3_ n4_ n5_ n6_ n7_ n8_
  clear hv hu hb3
  have hs8a : w3.cell? ⟨g8, 0, none⟩ = some (.slice none 0 0) := (blk_cell BKg8.out 0).trans rfl
  have hs8b := blk_frozen BKg8.out 0
  have hs9a : w3.cell? ⟨g9, 0, none⟩ = some (.slice none 0 0) := (blk_cell BKg9.out 0).trans rfl
  have hs9b := blk_frozen BKg9.out 0
  have hz1 := NBg8_g9.out
  have hz2 := NBg9_g8.out
  have hz3 := NBg8_g3.out
  have hz4 := NBg9_g3.out
  have hz5 := NBg3_g8.out
  have hz6 := NBg3_g9.out
  have hc0 : w3.cell? ⟨g3, 0, none⟩ = some (.slice A0 n.length c0) := (blk_cell BKg3.out 0).trans rfl
  have hc1 : w3.cell? ⟨g3, 1, none⟩ = some (.slice A1 t.length c1) := (blk_cell BKg3.out 1).trans rfl
  go_wp2_with fail
  clear hs8a hs8b hs9a hs9b hz1 hz2 hz3 hz4 hz5 hz6 hc0 hc1
  have n0_ : Aside0 (((w3.setCell ⟨g8, 0, none⟩ (.slice Av mv cv)).setCell ⟨g9, 0, none⟩ (.slice Au mu cu)).heap[g3]? = some (.cells #[.slice A0 n.length c0, .slice A1 t.length c1] 34 (0, 0))) := am_ (blk_far (blk_far BKg3.out NBg3_g8.out _) NBg3_g9.out _)
  have n1_ : Aside0 (((w3.setCell ⟨g8, 0, none⟩ (.slice Av mv cv)).setCell ⟨g9, 0, none⟩ (.slice Au mu cu)).heap[g4]? = some (.cells #[.slice A l.length c] 22 (0, 0))) := am_ (blk_far (blk_far BKg4.out NBg4_g8.out _) NBg4_g9.out _)
  have n2_ : Aside0 (((w3.setCell ⟨g8, 0, none⟩ (.slice Av mv cv)).setCell ⟨g9, 0, none⟩ (.slice Au mu cu)).heap[g5]? = some (.cells #[.string p] 9 (0, 0))) := am_ (blk_far (blk_far BKg5.out NBg5_g8.out _) NBg5_g9.out _)
  have n3_ : Aside0 (((w3.setCell ⟨g8, 0, none⟩ (.slice Av mv cv)).setCell ⟨g9, 0, none⟩ (.slice Au mu cu)).heap[g6]? = some (.cells #[.slice none 0 0, .slice none 0 0] 34 (0, 0))) := am_ (blk_far (blk_far BKg6.out NBg6_g8.out _) NBg6_g9.out _)
  have n4_ : Aside0 (((w3.setCell ⟨g8, 0, none⟩ (.slice Av mv cv)).setCell ⟨g9, 0, none⟩ (.slice Au mu cu)).heap[g7]? = some (.cells #[.slice none 0 0, .slice none 0 0] 34 (0, 0))) := am_ (blk_far (blk_far BKg7.out NBg7_g8.out _) NBg7_g9.out _)
  have n5_ : Aside0 (((w3.setCell ⟨g8, 0, none⟩ (.slice Av mv cv)).setCell ⟨g9, 0, none⟩ (.slice Au mu cu)).heap[g8]? = some (.cells #[.slice Av mv cv, .slice none 0 0] 34 (0, 0))) := am_ (blk_far (blk_put (cs' := #[.slice Av mv cv, .slice none 0 0]) BKg8.out 0 _ rfl) NBg8_g9.out _)
  have n6_ : Aside0 (((w3.setCell ⟨g8, 0, none⟩ (.slice Av mv cv)).setCell ⟨g9, 0, none⟩ (.slice Au mu cu)).heap[g9]? = some (.cells #[.slice Au mu cu, .slice none 0 0] 34 (0, 0))) := am_ (blk_put (cs' := #[.slice Au mu cu, .slice none 0 0]) (blk_far BKg9.out NBg9_g8.out _) 0 _ rfl)
  have n7_ : Aside0 (((w3.setCell ⟨g8, 0, none⟩ (.slice Av mv cv)).setCell ⟨g9, 0, none⟩ (.slice Au mu cu)).heap[g10]? = some (.cells #[.func (.func 40) #[] #[.pointer (some ⟨g4, 0, none⟩), .pointer (some ⟨g5, 0, none⟩)]] 42 (0, 0))) := am_ (blk_far (blk_far BKg10.out NBg10_g8.out _) NBg10_g9.out _)
  have n8_ : Aside0 (Below w.heap.size w ((w3.setCell ⟨g8, 0, none⟩ (.slice Av mv cv)).setCell ⟨g9, 0, none⟩ (.slice Au mu cu))) := am_ (below_set (below_set HB.out GEg8.out) GEg9.out)
  have n9_ : Aside0 (Kd.R k40 40 ((w3.setCell ⟨g8, 0, none⟩ (.slice Av mv cv)).setCell ⟨g9, 0, none⟩ (.slice Au mu cu)) w.heap.size _ _ _) := am_ (Kd.R_set (Kd.R_set HV.out BKg8.out (by decide) 0 _) (blk_far (p := ⟨g8, 0, none⟩) BKg9.out NBg9_g8.out (.slice Av mv cv)) (by decide) 0 _)
  have n10_ : Aside0 (Kd.R k40 40 ((w3.setCell ⟨g8, 0, none⟩ (.slice Av mv cv)).setCell ⟨g9, 0, none⟩ (.slice Au mu cu)) w.heap.size _ _ _) := am_ (Kd.R_set (Kd.R_set HU.out BKg8.out (by decide) 0 _) (blk_far (p := ⟨g8, 0, none⟩) BKg9.out NBg9_g8.out (.slice Av mv cv)) (by decide) 0 _)
  clear BKg3 BKg4 BKg5 BKg6 BKg7 BKg8 BKg9 BKg10 HB HV HU
  have BKg3 := n0_
  have BKg4 := n1_
  have BKg5 := n2_
  have BKg6 := n3_
  have BKg7 := n4_
  have BKg8 := n5_
  have BKg9 := n6_
  have BKg10 := n7_
  have HB := n8_
  have HV := n9_
  have HU := n10_
  clear n0_ n1_ n2_ n3_ n4_ n5_ n6_ n7_ n8_ n9_ n10_
  generalize ((w3.setCell ⟨g8, 0, none⟩ (.slice Av mv cv)).setCell ⟨g9, 0, none⟩ (.slice Au mu cu)) = w4 at BKg3 BKg4 BKg5 BKg6 BKg7 BKg8 BKg9 BKg10 HB HV HU ⊢
  refine (PTurn.parted_calls 45 #[.pointer (some ⟨g10, 0, none⟩)] (enters_of Try.func45 (by kernel_rfl) rfl) (fun x => mineB k l p x.f0) A1 c1 t _ (turn_pred k A c l p g4 g5 g10 _ t _ BKg4.out BKg5.out BKg10.out (Kd.C_below HRr.out HB.out) HCc.out HOF.out) (Kd.C_below HT.out HB.out) LT.out).mono ?_
  rintro e w5 ⟨v2, u2, rfl, hv, hu, hb3⟩
  obtain ⟨Av2, mv2, cv2, rfl⟩ : ∃ A_ m_ c_, v2 = .slice A_ m_ c_ := by obtain ⟨a_, c_, e_⟩ := Kd.R_slice hv; exact ⟨_, _, _, e_⟩
  obtain ⟨Au2, mu2, cu2, rfl⟩ : ∃ A_ m_ c_, u2 = .slice A_ m_ c_ := by obtain ⟨a_, c_, e_⟩ := Kd.R_slice hu; exact ⟨_, _, _, e_⟩
  have HV2 := am_ (Kd.R_lower hv (below_size HB.out))
  have HU2 := am_ (Kd.R_lower hu (below_size HB.out))
  have n_ := am_ (Kd.R_below HV.out hb3)
  clear HV
  have HV := n_
  clear n_
  have n_ := am_ (Kd.R_below HU.out hb3)
  clear HU
  have HU := n_
  clear n_
  have n0_ := am_ (blk_below (BKg3.out) hb3)
  have n1_ := am_ (blk_below (BKg4.out) hb3)
  have n2_ := am_ (blk_below (BKg5.out) hb3)
  have n3_ := am_ (blk_below (BKg6.out) hb3)
  have n4_ := am_ (blk_below (BKg7.out) hb3)
  have n5_ := am_ (blk_below (BKg8.out) hb3)
  have n6_ := am_ (blk_below (BKg9.out) hb3)
  have n7_ := am_ (blk_below (BKg10.out) hb3)
  have n8_ := am_ (below_step HB.out hb3)
  clear BKg3 BKg4 BKg5 BKg6 BKg7 BKg8 BKg9 BKg10
  clear HB
  have BKg3 := n0_
  have BKg4 := n1_
  have BKg5 := n2_
  have BKg6 := n3_
  have BKg7 := n4_
  have BKg8 := n5_
  have BKg9 := n6_
  have BKg10 := n7_
  have HB := n8_
  clear n0_ n1_ n2_ n3_ n4_ n5_ n6_ n7_ n8_
  clear hv hu hb3
  have hs8a : w5.cell? ⟨g8, 1, none⟩ = some (.slice none 0 0) := (blk_cell BKg8.out 1).trans rfl
  have hs8b := blk_frozen BKg8.out 1
  have hs9a : w5.cell? ⟨g9, 1, none⟩ = some (.slice none 0 0) := (blk_cell BKg9.out 1).trans rfl
  have hs9b := blk_frozen BKg9.out 1
  have hz1 := NBg8_g9.out
  have hz2 := NBg9_g8.out
  go_wp2_with fail
  clear hs8a hs8b hs9a hs9b hz1 hz2
  have n0_ : Aside0 (((w5.setCell ⟨g8, 1, none⟩ (.slice Av2 mv2 cv2)).setCell ⟨g9, 1, none⟩ (.slice Au2 mu2 cu2)).heap[g3]? = some (.cells #[.slice A0 n.length c0, .slice A1 t.length c1] 34 (0, 0))) := am_ (blk_far (blk_far BKg3.out NBg3_g8.out _) NBg3_g9.out _)
  have n1_ : Aside0 (((w5.setCell ⟨g8, 1, none⟩ (.slice Av2 mv2 cv2)).setCell ⟨g9, 1, none⟩ (.slice Au2 mu2 cu2)).heap[g4]? = some (.cells #[.slice A l.length c] 22 (0, 0))) := am_ (blk_far (blk_far BKg4.out NBg4_g8.out _) NBg4_g9.out _)
  have n2_ : Aside0 (((w5.setCell ⟨g8, 1, none⟩ (.slice Av2 mv2 cv2)).setCell ⟨g9, 1, none⟩ (.slice Au2 mu2 cu2)).heap[g5]? = some (.cells #[.string p] 9 (0, 0))) := am_ (blk_far (blk_far BKg5.out NBg5_g8.out _) NBg5_g9.out _)
  have n3_ : Aside0 (((w5.setCell ⟨g8, 1, none⟩ (.slice Av2 mv2 cv2)).setCell ⟨g9, 1, none⟩ (.slice Au2 mu2 cu2)).heap[g6]? = some (.cells #[.slice none 0 0, .slice none 0 0] 34 (0, 0))) := am_ (blk_far (blk_far BKg6.out NBg6_g8.out _) NBg6_g9.out _)
  have n4_ : Aside0 (((w5.setCell ⟨g8, 1, none⟩ (.slice Av2 mv2 cv2)).setCell ⟨g9, 1, none⟩ (.slice Au2 mu2 cu2)).heap[g7]? = some (.cells #[.slice none 0 0, .slice none 0 0] 34 (0, 0))) := am_ (blk_far (blk_far BKg7.out NBg7_g8.out _) NBg7_g9.out _)
  have n5_ : Aside0 (((w5.setCell ⟨g8, 1, none⟩ (.slice Av2 mv2 cv2)).setCell ⟨g9, 1, none⟩ (.slice Au2 mu2 cu2)).heap[g8]? = some (.cells #[.slice Av mv cv, .slice Av2 mv2 cv2] 34 (0, 0))) := am_ (blk_far (blk_put (cs' := #[.slice Av mv cv, .slice Av2 mv2 cv2]) BKg8.out 1 _ rfl) NBg8_g9.out _)
  have n6_ : Aside0 (((w5.setCell ⟨g8, 1, none⟩ (.slice Av2 mv2 cv2)).setCell ⟨g9, 1, none⟩ (.slice Au2 mu2 cu2)).heap[g9]? = some (.cells #[.slice Au mu cu, .slice Au2 mu2 cu2] 34 (0, 0))) := am_ (blk_put (cs' := #[.slice Au mu cu, .slice Au2 mu2 cu2]) (blk_far BKg9.out NBg9_g8.out _) 1 _ rfl)
  have n7_ : Aside0 (((w5.setCell ⟨g8, 1, none⟩ (.slice Av2 mv2 cv2)).setCell ⟨g9, 1, none⟩ (.slice Au2 mu2 cu2)).heap[g10]? = some (.cells #[.func (.func 40) #[] #[.pointer (some ⟨g4, 0, none⟩), .pointer (some ⟨g5, 0, none⟩)]] 42 (0, 0))) := am_ (blk_far (blk_far BKg10.out NBg10_g8.out _) NBg10_g9.out _)
  have n8_ : Aside0 (Below w.heap.size w ((w5.setCell ⟨g8, 1, none⟩ (.slice Av2 mv2 cv2)).setCell ⟨g9, 1, none⟩ (.slice Au2 mu2 cu2))) := am_ (below_set (below_set HB.out GEg8.out) GEg9.out)
  have n9_ : Aside0 (Kd.R k40 40 ((w5.setCell ⟨g8, 1, none⟩ (.slice Av2 mv2 cv2)).setCell ⟨g9, 1, none⟩ (.slice Au2 mu2 cu2)) w.heap.size _ _ _) := am_ (Kd.R_set (Kd.R_set HV.out BKg8.out (by decide) 1 _) (blk_far (p := ⟨g8, 1, none⟩) BKg9.out NBg9_g8.out (.slice Av2 mv2 cv2)) (by decide) 1 _)
  have n10_ : Aside0 (Kd.R k40 40 ((w5.setCell ⟨g8, 1, none⟩ (.slice Av2 mv2 cv2)).setCell ⟨g9, 1, none⟩ (.slice Au2 mu2 cu2)) w.heap.size _ _ _) := am_ (Kd.R_set (Kd.R_set HU.out BKg8.out (by decide) 1 _) (blk_far (p := ⟨g8, 1, none⟩) BKg9.out NBg9_g8.out (.slice Av2 mv2 cv2)) (by decide) 1 _)
  have n11_ : Aside0 (Kd.R k59 59 ((w5.setCell ⟨g8, 1, none⟩ (.slice Av2 mv2 cv2)).setCell ⟨g9, 1, none⟩ (.slice Au2 mu2 cu2)) w.heap.size _ _ _) := am_ (Kd.R_set (Kd.R_set HV2.out BKg8.out (by decide) 1 _) (blk_far (p := ⟨g8, 1, none⟩) BKg9.out NBg9_g8.out (.slice Av2 mv2 cv2)) (by decide) 1 _)
  have n12_ : Aside0 (Kd.R k59 59 ((w5.setCell ⟨g8, 1, none⟩ (.slice Av2 mv2 cv2)).setCell ⟨g9, 1, none⟩ (.slice Au2 mu2 cu2)) w.heap.size _ _ _) := am_ (Kd.R_set (Kd.R_set HU2.out BKg8.out (by decide) 1 _) (blk_far (p := ⟨g8, 1, none⟩) BKg9.out NBg9_g8.out (.slice Av2 mv2 cv2)) (by decide) 1 _)
  clear BKg3 BKg4 BKg5 BKg6 BKg7 BKg8 BKg9 BKg10 HB HV HU HV2 HU2
  have BKg3 := n0_
  have BKg4 := n1_
  have BKg5 := n2_
  have BKg6 := n3_
  have BKg7 := n4_
  have BKg8 := n5_
  have BKg9 := n6_
  have BKg10 := n7_
  have HB := n8_
  have HV := n9_
  have HU := n10_
  have HV2 := n11_
  have HU2 := n12_
  clear n0_ n1_ n2_ n3_ n4_ n5_ n6_ n7_ n8_ n9_ n10_ n11_ n12_
  generalize ((w5.setCell ⟨g8, 1, none⟩ (.slice Av2 mv2 cv2)).setCell ⟨g9, 1, none⟩ (.slice Au2 mu2 cu2)) = w6 at BKg3 BKg4 BKg5 BKg6 BKg7 BKg8 BKg9 BKg10 HB HV HU HV2 HU2 ⊢
  refine start_ (n := 4) (S := fun w' => w'.cell? ⟨g8, 0, none⟩ = some (.slice Av mv cv) ∧ w'.cell? ⟨g8, 1, none⟩ = some (.slice Av2 mv2 cv2) ∧ w'.cell? ⟨g9, 0, none⟩ = some (.slice Au mu cu) ∧ w'.cell? ⟨g9, 1, none⟩ = some (.slice Au2 mu2 cu2)) (ds := []) #[false, false, false, false] (by kernel_rfl) rfl rfl ⟨(blk_cell (blk_drew BKg8.out) 0).trans rfl, (blk_cell (blk_drew BKg8.out) 1).trans rfl, (blk_cell (blk_drew BKg9.out) 0).trans rfl, (blk_cell (blk_drew BKg9.out) 1).trans rfl⟩ (fun hHeld => ?_)
  have n_ := am_ (blk_drew BKg3.out)
  clear BKg3
  have BKg3 := n_
  clear n_
  have n_ := am_ (blk_drew BKg4.out)
  clear BKg4
  have BKg4 := n_
  clear n_
  have n_ := am_ (blk_drew BKg5.out)
  clear BKg5
  have BKg5 := n_
  clear n_
  have n_ := am_ (blk_drew BKg6.out)
  clear BKg6
  have BKg6 := n_
  clear n_
  have n_ := am_ (blk_drew BKg7.out)
  clear BKg7
  have BKg7 := n_
  clear n_
  have n_ := am_ (blk_drew BKg8.out)
  clear BKg8
  have BKg8 := n_
  clear n_
  have n_ := am_ (blk_drew BKg9.out)
  clear BKg9
  have BKg9 := n_
  clear n_
  have n_ := am_ (blk_drew BKg10.out)
  clear BKg10
  have BKg10 := n_
  clear n_
  have n_ := am_ (below_drew1 HB.out)
  clear HB
  have HB := n_
  clear n_
  have n_ := am_ (Kd.R_below HV.out (below_drew1 (Below.refl _ _)))
  clear HV
  have HV := n_
  clear n_
  have n_ := am_ (Kd.R_below HU.out (below_drew1 (Below.refl _ _)))
  clear HU
  have HU := n_
  clear n_
  have n_ := am_ (Kd.R_below HV2.out (below_drew1 (Below.refl _ _)))
  clear HV2
  have HV2 := n_
  clear n_
  have n_ := am_ (Kd.R_below HU2.out (below_drew1 (Below.refl _ _)))
  clear HU2
  have HU2 := n_
  clear n_
  generalize World.drew _ = wz at BKg3 BKg4 BKg5 BKg6 BKg7 BKg8 BKg9 BKg10 HB HV HU HV2 HU2 hHeld ⊢
  refine take_ (i := 0) (N := some 40) (v := ?_) (a' := ?_) #[true, false, false, false] rfl rfl (by kernel_rfl) (fun _ _ _ h => h) (Or.inl ⟨by rfl, ?_⟩) hHeld ?_ ?_
  rotate_left
  · rintro w' ⟨s0, s1, s2, s3⟩
    go_simp
    with_reducible rfl
  rotate_left
  · simp only [Act.put, List.setIfInBounds_toArray, List.set_cons_zero, List.set_cons_succ]
    rfl
  refine take_ (i := 1) (N := some 41) (v := ?_) (a' := ?_) #[true, true, false, false] rfl rfl (by kernel_rfl) (fun _ _ _ h => h) (Or.inl ⟨by rfl, ?_⟩) hHeld ?_ ?_
  rotate_left
  · rintro w' ⟨s0, s1, s2, s3⟩
    go_simp
    with_reducible rfl
  rotate_left
  · simp only [Act.put, List.setIfInBounds_toArray, List.set_cons_zero, List.set_cons_succ]
    rfl
  refine one_ (i := 2) (N := none) #[true, true, true, false] rfl rfl (by kernel_rfl) (by decide) (fun K hK => ?_)
  have hs2 : wz.cell? ⟨g6, 0, none⟩ = some (.slice none 0 0) := (blk_cell BKg6.out 0).trans rfl
  have ht2 : wz.cell? ⟨g6, 1, none⟩ = some (.slice none 0 0) := (blk_cell BKg6.out 1).trans rfl
  have hu2 := blk_frozen BKg6.out 0
  have hv2 := blk_frozen BKg6.out 1
  have hn2_g3 := NBg3_g6.out
  have hm2_g3 := NBg6_g3.out
  have hn2_g4 := NBg4_g6.out
  have hm2_g4 := NBg6_g4.out
  have hn2_g5 := NBg5_g6.out
  have hm2_g5 := NBg6_g5.out
  have hn2_g7 := NBg7_g6.out
  have hm2_g7 := NBg6_g7.out
  have hn2_g8 := NBg8_g6.out
  have hm2_g8 := NBg6_g8.out
  have hn2_g9 := NBg9_g6.out
  have hm2_g9 := NBg6_g9.out
  have hn2_g10 := NBg10_g6.out
  have hm2_g10 := NBg6_g10.out
  refine skip_ (w1 := ?_) (by rfl) rfl ?_ ?_
  rotate_left
  · go_simp
    rfl
  refine hK.out _ _ ⟨((cell_far (p := ⟨g6, _, none⟩) NBg8_g6.out _).trans ((cell_far (p := ⟨g6, _, none⟩) NBg8_g6.out _).trans (hHeld.1))), ((cell_far (p := ⟨g6, _, none⟩) NBg8_g6.out _).trans ((cell_far (p := ⟨g6, _, none⟩) NBg8_g6.out _).trans (hHeld.2.1))), ((cell_far (p := ⟨g6, _, none⟩) NBg9_g6.out _).trans ((cell_far (p := ⟨g6, _, none⟩) NBg9_g6.out _).trans (hHeld.2.2.1))), ((cell_far (p := ⟨g6, _, none⟩) NBg9_g6.out _).trans ((cell_far (p := ⟨g6, _, none⟩) NBg9_g6.out _).trans (hHeld.2.2.2)))⟩ (fun hHeld => ?_)
  clear hK K
  refine one_ (i := 3) (N := none) #[true, true, true, true] rfl rfl (by kernel_rfl) (by decide) (fun K hK => ?_)
  have hs3 : wz.cell? ⟨g7, 0, none⟩ = some (.slice none 0 0) := (blk_cell BKg7.out 0).trans rfl
  have ht3 : wz.cell? ⟨g7, 1, none⟩ = some (.slice none 0 0) := (blk_cell BKg7.out 1).trans rfl
  have hu3 := blk_frozen BKg7.out 0
  have hv3 := blk_frozen BKg7.out 1
  have hn3_g3 := NBg3_g7.out
  have hm3_g3 := NBg7_g3.out
  have hn3_g4 := NBg4_g7.out
  have hm3_g4 := NBg7_g4.out
  have hn3_g5 := NBg5_g7.out
  have hm3_g5 := NBg7_g5.out
  have hn3_g6 := NBg6_g7.out
  have hm3_g6 := NBg7_g6.out
  have hn3_g8 := NBg8_g7.out
  have hm3_g8 := NBg7_g8.out
  have hn3_g9 := NBg9_g7.out
  have hm3_g9 := NBg7_g9.out
  have hn3_g10 := NBg10_g7.out
  have hm3_g10 := NBg7_g10.out
  refine skip_ (w1 := ?_) (by rfl) rfl ?_ ?_
  rotate_left
  · go_simp
    rfl
  refine hK.out _ _ ⟨((cell_far (p := ⟨g7, _, none⟩) NBg8_g7.out _).trans ((cell_far (p := ⟨g7, _, none⟩) NBg8_g7.out _).trans (hHeld.1))), ((cell_far (p := ⟨g7, _, none⟩) NBg8_g7.out _).trans ((cell_far (p := ⟨g7, _, none⟩) NBg8_g7.out _).trans (hHeld.2.1))), ((cell_far (p := ⟨g7, _, none⟩) NBg9_g7.out _).trans ((cell_far (p := ⟨g7, _, none⟩) NBg9_g7.out _).trans (hHeld.2.2.1))), ((cell_far (p := ⟨g7, _, none⟩) NBg9_g7.out _).trans ((cell_far (p := ⟨g7, _, none⟩) NBg9_g7.out _).trans (hHeld.2.2.2)))⟩ (fun hHeld => ?_)
  clear hK K
  refine done_ (by kernel_rfl) ?_
  try go_wp2
  refine bodyPost_ret (results_cc rfl _ _ g6 g7 34 34 #[.slice Av mv cv, .slice Av2 mv2 cv2] #[.slice Au mu cu, .slice Au2 mu2 cu2] (0, 0) (0, 0) _ _ rfl (by refine blk_far ?_ NBg6_g7.out _; refine blk_far ?_ NBg6_g7.out _; refine blk_put (cs := #[.slice Av mv cv, .slice none 0 0]) ?_ 1 _ rfl; refine blk_put (cs := #[.slice none 0 0, .slice none 0 0]) ?_ 0 _ rfl; exact BKg6.out) Try.underlying34 rfl (by kernel_rfl) rfl (by refine blk_put (cs := #[.slice Au mu cu, .slice none 0 0]) ?_ 1 _ rfl; refine blk_put (cs := #[.slice none 0 0, .slice none 0 0]) ?_ 0 _ rfl; refine blk_far ?_ NBg7_g6.out _; refine blk_far ?_ NBg7_g6.out _; exact BKg7.out) Try.underlying34 rfl (by kernel_rfl)) rfl ?_
  exact ⟨.slice Av mv cv, .slice Av2 mv2 cv2, .slice Au mu cu, .slice Au2 mu2 cu2, rfl, Kd.R_set (Kd.R_set (Kd.R_set (Kd.R_set HV.out BKg6.out (by decide) 0 _) (blk_set BKg6.out 0 _) (by decide) 1 _) (blk_far (p := ⟨g6, 1, none⟩) (blk_far (p := ⟨g6, 0, none⟩) BKg7.out NBg7_g6.out _) NBg7_g6.out _) (by decide) 0 _) (blk_set (blk_far (p := ⟨g6, 1, none⟩) (blk_far (p := ⟨g6, 0, none⟩) BKg7.out NBg7_g6.out _) NBg7_g6.out _) 0 _) (by decide) 1 _, Kd.R_set (Kd.R_set (Kd.R_set (Kd.R_set HV2.out BKg6.out (by decide) 0 _) (blk_set BKg6.out 0 _) (by decide) 1 _) (blk_far (p := ⟨g6, 1, none⟩) (blk_far (p := ⟨g6, 0, none⟩) BKg7.out NBg7_g6.out _) NBg7_g6.out _) (by decide) 0 _) (blk_set (blk_far (p := ⟨g6, 1, none⟩) (blk_far (p := ⟨g6, 0, none⟩) BKg7.out NBg7_g6.out _) NBg7_g6.out _) 0 _) (by decide) 1 _, Kd.R_set (Kd.R_set (Kd.R_set (Kd.R_set HU.out BKg6.out (by decide) 0 _) (blk_set BKg6.out 0 _) (by decide) 1 _) (blk_far (p := ⟨g6, 1, none⟩) (blk_far (p := ⟨g6, 0, none⟩) BKg7.out NBg7_g6.out _) NBg7_g6.out _) (by decide) 0 _) (blk_set (blk_far (p := ⟨g6, 1, none⟩) (blk_far (p := ⟨g6, 0, none⟩) BKg7.out NBg7_g6.out _) NBg7_g6.out _) 0 _) (by decide) 1 _, Kd.R_set (Kd.R_set (Kd.R_set (Kd.R_set HU2.out BKg6.out (by decide) 0 _) (blk_set BKg6.out 0 _) (by decide) 1 _) (blk_far (p := ⟨g6, 1, none⟩) (blk_far (p := ⟨g6, 0, none⟩) BKg7.out NBg7_g6.out _) NBg7_g6.out _) (by decide) 0 _) (blk_set (blk_far (p := ⟨g6, 1, none⟩) (blk_far (p := ⟨g6, 0, none⟩) BKg7.out NBg7_g6.out _) NBg7_g6.out _) 0 _) (by decide) 1 _, below_set (below_set (below_set (below_set HB.out GEg6.out) GEg6.out) GEg7.out) GEg7.out⟩
def kC (l : List S45) : Nat := 2 * l.length + 1000
def owned_Cut.f (l0_0 : List S40) (l0_1 : List S59) (l1 : List S45) (a2 : ByteArray) : Option (List S40 × List S59 × List S40 × List S59) :=
  if l0_0.length ≤ 100000000000 ∧ l0_1.length ≤ 100000000000 ∧ l1.length ≤ 1000000000000 then
    (if Part.storeB l0_0 l0_1 = true then
      (if Rng.RightB l1 = true then
        (if l0_0.all (fun x => (path_Parent.f (kC l1) x.f0).isSome) = true then
          some (l0_0.filter (fun x => mineB (kC l1) l1 a2 (homeK (kC l1) x.f0)), l0_1.filter (fun x => mineB (kC l1) l1 a2 x.f0), l0_0.filter (fun x => !mineB (kC l1) l1 a2 (homeK (kC l1) x.f0)), l0_1.filter (fun x => !mineB (kC l1) l1 a2 x.f0))
        else none)
      else some ([], [], [], []))
    else some ([], [], [], []))
  else none
theorem owned_Cut.calls (A0_0 : Option Addr) (c0_0 : Nat) (l0_0 : List S40) (A0_1 : Option Addr) (c0_1 : Nat) (l0_1 : List S59) (A1 : Option Addr) (c1 : Nat) (l1 : List S45) (a2 : ByteArray) (r1 : List S40) (r2 : List S59) (r3 : List S40) (r4 : List S59) (w : World) (hr0_0 : Kd.C k40 w A0_0 l0_0.length l0_0) (hc0_0 : l0_0.length ≤ c0_0) (hr0_1 : Kd.C k59 w A0_1 l0_1.length l0_1) (hc0_1 : l0_1.length ≤ c0_1) (hr1 : Kd.C k45 w A1 l1.length l1) (hc1 : l1.length ≤ c1) (h : owned_Cut.f l0_0 l0_1 l1 a2 = some (r1, r2, r3, r4)) :
    Calls Try.prog 25 #[.agg #[.slice A0_0 l0_0.length c0_0, .slice A0_1 l0_1.length c0_1], .slice A1 l1.length c1, .string a2] w fun e w' => ∃ v0_ v1_ v2_ v3_ : Value, e = .returned (.tuple #[.agg #[v0_, v1_], .agg #[v2_, v3_]]) ∧ Kd.R k40 40 w' w.heap.size (fun k_ => some k_ ≠ (v2_ : Value).ownBlock) v0_ r1 ∧ Kd.R k59 59 w' w.heap.size (fun k_ => some k_ ≠ (v3_ : Value).ownBlock) v1_ r2 ∧ Kd.R k40 40 w' w.heap.size (fun k_ => some k_ ≠ (v0_ : Value).ownBlock) v2_ r3 ∧ Kd.R k59 59 w' w.heap.size (fun k_ => some k_ ≠ (v1_ : Value).ownBlock) v3_ r4 ∧ Below w.heap.size w w' := by
  show Calls Try.prog 25 _ w (Post w r1 r2 r3 r4)
  unfold owned_Cut.f at h
  by_cases hl : l0_0.length ≤ 100000000000 ∧ l0_1.length ≤ 100000000000 ∧ l1.length ≤ 1000000000000
  · rw [if_pos hl] at h
    have hR := Rng.right_is l1 (by omega) (kC l1) (by unfold kC; omega)
    by_cases hs : Part.storeB l0_0 l0_1 = true
    · rw [if_pos hs] at h
      by_cases hq : Rng.RightB l1 = true
      · rw [if_pos hq] at h
        rw [hq] at hR
        by_cases hp : l0_0.all (fun x => (path_Parent.f (kC l1) x.f0).isSome) = true
        · rw [if_pos hp] at h
          cases h
          refine cut_yes (kC l1) A0_0 c0_0 l0_0 A0_1 c0_1 l0_1 A1 c1 l1 a2 w hr0_0 hr0_1 hl.1 hl.2.1 hr1 hc1 hs hR (fun d => ?_) (fun x hx => List.all_eq_true.1 hp x hx)
          obtain ⟨y, hy, hf⟩ := Rng.of_is l1 d (by omega) (kC l1) (by unfold kC; omega)
          refine ⟨y, hf, ?_⟩
          rcases hy with ⟨rfl, _⟩ | ⟨a, rfl, ha, _⟩
          · omega
          · omega
        · rw [if_neg hp] at h; cases h
      · rw [if_neg hq] at h
        cases h
        have hq' : Rng.RightB l1 = false := by simpa using hq
        rw [hq'] at hR
        exact cut_no2 (kC l1) A0_0 c0_0 l0_0 A0_1 c0_1 l0_1 A1 c1 l1 a2 w hr0_0 hr0_1 hl.1 hl.2.1 hr1 hc1 hs hR
    · rw [if_neg hs] at h
      cases h
      exact cut_no A0_0 c0_0 l0_0 A0_1 c0_1 l0_1 A1 c1 l1 a2 w hr0_0 hr0_1 hl.1 hl.2.1 (by simpa using hs)
  · rw [if_neg hl] at h; cases h
end Go.Proofs.Ytinjajpnbbknnaa.Cut2
-- GIVEN 25 Cut2 owned_Cut ps=st:34;sl45:st:45;str rs=st:34;st:34 rounds=0 making=1
