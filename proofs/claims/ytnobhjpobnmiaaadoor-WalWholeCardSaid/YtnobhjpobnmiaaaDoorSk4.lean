/- A disk in memory: the walk of act. -/
import Derived.Test.YtnobhjpobnmiaaaDoorSk3
namespace Go.Proofs.YtnobhjpobnmiaaaDoor.Sk
open Go Go.RowKit Go.Maps Go.Proofs Go.Proofs.YtnobhjpobnmiaaaDoorW.PrintWords Go.Proofs.YtnobhjpobnmiaaaDoorW.PrintLast Go.Proofs.YtnobhjpobnmiaaaDoorW.PrintMore
set_option linter.unusedVariables false
set_option linter.unusedSimpArgs false

section
variable {W W' : World} {p g cap m : Nat} {s t : D}
/-- a store into the disk's own block -/
theorem sr_put (h : SR W p g cap m s) (j : Nat) (u : Value) (hb : (W.setCell ⟨p, j, none⟩ u).heap[p]? = some (.cells #[.slice (some ⟨g, 0, none⟩) t.b.length cap, .map (some m), .int .i64 (t.acts : Int), .int .i64 t.fuse, .bool t.down] 55 (0, 0))) (e1 : t.b = s.b) (e2 : t.old = s.old) (e3 : t.wet = s.wet) :
    SR (W.setCell ⟨p, j, none⟩ u) p g cap m t ∧ Fr W (W.setCell ⟨p, j, none⟩ u) p g m := by
  have hne := h.ne
  obtain ⟨k, E, hm, hk⟩ := h.map
  have h2 := Below.heap_setCell W ⟨p, j, none⟩ u g (Ne.symm hne.1)
  have h3 := Below.heap_setCell W ⟨p, j, none⟩ u m (Ne.symm hne.2.1)
  have hf := (Fr.refl W p g m).set ⟨p, j, none⟩ (.inl rfl) u
  generalize W.setCell ⟨p, j, none⟩ u = W' at hb h2 h3 hf ⊢
  exact ⟨⟨hb, by rw [e1]; exact h.row.keep h2, ⟨k, E, by rw [e2, e3]; exact hm.keep h3, hk⟩, h.cap_⟩, hf⟩
def D.lit (s : D) (v : Bool) : D := { s with down := v }
def D.burn (s : D) : D := { s with fuse := tick s.fuse }
def D.more (s : D) : D := { s with acts := s.acts + 1 }
theorem did_is (h : s.off = false) : (((s.lit false).burn).more) = s.did := rfl
theorem sr_lit (h : SR W p g cap m s) (v : Bool) : SR (W.setCell ⟨p, 4, none⟩ (.bool v)) p g cap m (s.lit v) ∧ Fr W (W.setCell ⟨p, 4, none⟩ (.bool v)) p g m := sr_put h 4 _ (blk_put h.blk 4 _ rfl) rfl rfl rfl
theorem sr_burn (h : SR W p g cap m s) : SR (W.setCell ⟨p, 3, none⟩ (.int .i64 (max (s.fuse - 1) (-1)))) p g cap m s.burn ∧ Fr W (W.setCell ⟨p, 3, none⟩ (.int .i64 (max (s.fuse - 1) (-1)))) p g m := sr_put h 3 _ (blk_put h.blk 3 _ rfl) rfl rfl rfl
theorem sr_more (h : SR W p g cap m s) : SR (W.setCell ⟨p, 2, none⟩ (.int .i64 ((s.acts : Int) + 1))) p g cap m s.more ∧ Fr W (W.setCell ⟨p, 2, none⟩ (.int .i64 ((s.acts : Int) + 1))) p g m := sr_put h 2 _ (blk_put h.blk 2 _ rfl) rfl rfl rfl
set_option maxHeartbeats 2000000 in
set_option maxRecDepth 100000 in
theorem act_off (h : SR W p g cap m s) (hf : s.off = true) (fn : Value) : Calls Tryd.prog 51 #[.pointer (some ⟨p, 0, none⟩), fn] W fun e w' => e = .returned (.int .i64 31) ∧ SR w' p g cap m { s with down := true } ∧ Fr W w' p g m := by
  obtain ⟨h0, h1, h2, h3, h4⟩ := cells5 h.blk
  have f4 := blk_frozen h.blk 4
  have HL := Lib.hid (sr_lit h true)
  have key : s.down = true ∨ (s.down = false ∧ (s.fuse == 0) = true) := by
    unfold D.off at hf
    cases hd : s.down with
    | true => exact .inl rfl
    | false => rw [hd] at hf; exact .inr ⟨rfl, by simpa using hf⟩
  obtain ⟨dn, hdn⟩ : ∃ d, s.down = d := ⟨_, rfl⟩
  obtain ⟨fu, hfu⟩ : ∃ d, s.fuse = d := ⟨_, rfl⟩
  rw [hdn] at h4 key
  rw [hfu] at h3 key
  clear h h0 h1 h2 hf hdn hfu
  rcases key with rfl | ⟨rfl, k2⟩
  · go_enter Tryd.func51, Tryd.ntmps51
    go_wp2_with fail
    go_ret
    exact ⟨rfl, HL.out⟩
  · go_enter Tryd.func51, Tryd.ntmps51
    go_wp2_with fail
    go_ret
    exact ⟨rfl, HL.out⟩
set_option maxHeartbeats 4000000 in
set_option maxRecDepth 100000 in
theorem act_write (h : SR W p g cap m s) (o : Ok s) (ha : s.acts ≤ 1000000000) (hf : s.off = false) (q0 q1 q2 : Nat) (P : World → Prop)
    (hdo : ∀ w, SR w p g cap m s.did → Fr W w p g m → Calls Tryd.prog 61 #[.pointer (some ⟨q0, 0, none⟩), .pointer (some ⟨q1, 0, none⟩), .pointer (some ⟨q2, 0, none⟩)] w fun e w' => e = .returned (.tuple #[]) ∧ P w') :
    Calls Tryd.prog 51 #[.pointer (some ⟨p, 0, none⟩), .func (.func 61) #[] #[.pointer (some ⟨q0, 0, none⟩), .pointer (some ⟨q1, 0, none⟩), .pointer (some ⟨q2, 0, none⟩)]] W fun e w' => e = .returned (.int .i64 0) ∧ P w' := by
  obtain ⟨h0, h1, h2, h3, h4⟩ := cells5 h.blk
  have f4 := blk_frozen h.blk 4
  have f3 := blk_frozen h.blk 3
  have f2 := blk_frozen h.blk 2
  have k1 := sr_lit h false
  have k2 := sr_burn k1.1
  have k3 := sr_more k2.1
  have HD := Lib.hid (hdo _ k3.1 ((k1.2.trans k2.2).trans k3.2))
  have hd : s.down = false ∧ (s.fuse == 0) = false := by
    unfold D.off at hf
    exact Bool.or_eq_false_iff.1 hf
  have hl := o.fl
  have hu := o.fu
  change Hid (Calls _ _ _ (((W.setCell ⟨p, 4, none⟩ (.bool false)).setCell ⟨p, 3, none⟩ (.int .i64 (max (s.fuse - 1) (-1)))).setCell ⟨p, 2, none⟩ (.int .i64 ((s.acts : Int) + 1))) _) at HD
  obtain ⟨dn, hdn⟩ : ∃ d, s.down = d := ⟨_, rfl⟩
  obtain ⟨fu, hfu⟩ : ∃ d, s.fuse = d := ⟨_, rfl⟩
  obtain ⟨ac, hac⟩ : ∃ d, s.acts = d := ⟨_, rfl⟩
  rw [hdn] at h4 hd
  rw [hfu] at h3 hd hl hu HD
  rw [hac] at h2 ha HD
  obtain ⟨rfl, hfz⟩ := hd
  clear h h0 h1 k1 k2 k3 o hf hdo hdn hfu hac
  go_enter Tryd.func51, Tryd.ntmps51
  go_wp2_with fail
  refine HD.out.mono ?_
  rintro e w' ⟨rfl, hp⟩
  go_wp2_with fail
  go_ret
  exact ⟨rfl, hp⟩
set_option maxHeartbeats 4000000 in
set_option maxRecDepth 100000 in
theorem act_sync (h : SR W p g cap m s) (o : Ok s) (ha : s.acts ≤ 1000000000) (hf : s.off = false) (q0 : Nat) (P : World → Prop)
    (hdo : ∀ w, SR w p g cap m s.did → Fr W w p g m → Calls Tryd.prog 52 #[.pointer (some ⟨q0, 0, none⟩)] w fun e w' => e = .returned (.tuple #[]) ∧ P w') :
    Calls Tryd.prog 51 #[.pointer (some ⟨p, 0, none⟩), .func (.func 52) #[] #[.pointer (some ⟨q0, 0, none⟩)]] W fun e w' => e = .returned (.int .i64 0) ∧ P w' := by
  obtain ⟨h0, h1, h2, h3, h4⟩ := cells5 h.blk
  have f4 := blk_frozen h.blk 4
  have f3 := blk_frozen h.blk 3
  have f2 := blk_frozen h.blk 2
  have k1 := sr_lit h false
  have k2 := sr_burn k1.1
  have k3 := sr_more k2.1
  have HD := Lib.hid (hdo _ k3.1 ((k1.2.trans k2.2).trans k3.2))
  have hd : s.down = false ∧ (s.fuse == 0) = false := by
    unfold D.off at hf
    exact Bool.or_eq_false_iff.1 hf
  have hl := o.fl
  have hu := o.fu
  change Hid (Calls _ _ _ (((W.setCell ⟨p, 4, none⟩ (.bool false)).setCell ⟨p, 3, none⟩ (.int .i64 (max (s.fuse - 1) (-1)))).setCell ⟨p, 2, none⟩ (.int .i64 ((s.acts : Int) + 1))) _) at HD
  obtain ⟨dn, hdn⟩ : ∃ d, s.down = d := ⟨_, rfl⟩
  obtain ⟨fu, hfu⟩ : ∃ d, s.fuse = d := ⟨_, rfl⟩
  obtain ⟨ac, hac⟩ : ∃ d, s.acts = d := ⟨_, rfl⟩
  rw [hdn] at h4 hd
  rw [hfu] at h3 hd hl hu HD
  rw [hac] at h2 ha HD
  obtain ⟨rfl, hfz⟩ := hd
  clear h h0 h1 k1 k2 k3 o hf hdo hdn hfu hac
  go_enter Tryd.func51, Tryd.ntmps51
  go_wp2_with fail
  refine HD.out.mono ?_
  rintro e w' ⟨rfl, hp⟩
  go_wp2_with fail
  go_ret
  exact ⟨rfl, hp⟩
end
end Go.Proofs.YtnobhjpobnmiaaaDoor.Sk
