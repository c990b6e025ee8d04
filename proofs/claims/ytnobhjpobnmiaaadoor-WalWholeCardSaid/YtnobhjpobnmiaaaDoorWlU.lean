/- A log, without memory: what a crash leaves; what a record's writing, cut anywhere, leaves. -/
import Derived.Test.YtnobhjpobnmiaaaDoorWlS
namespace Go.Proofs.YtnobhjpobnmiaaaDoor.Wl
open Go Go.RowKit Go.Proofs.YtnobhjpobnmiaaaDoor.Sk
set_option linter.unusedVariables false
set_option linter.unusedSimpArgs false

theorem touched_sec (x i : Nat) : touched (x * 16) 16 i = decide (x = i) := by
  unfold touched
  rw [show decide (0 < 16) = true from rfl, Bool.true_and, Bool.eq_iff_iff]
  simp only [Bool.and_eq_true, decide_eq_true_eq]
  omega
theorem sec_put {b x : By} {i : Nat} (h : i * 16 + 16 ≤ b.length) (hx : x.length = 16) : sec (splice b (i * 16) x) i = x := by
  apply List.ext_getElem?
  intro j
  by_cases hj : j < 16
  · rw [sec_get _ _ _ hj, getElem?_splice _ _ _ (by omega), if_pos (by omega), show i * 16 + j - i * 16 = j by omega]
  · have e : (sec (splice b (i * 16) x) i).length = 16 := sec_len _ _ (by rw [splice_len _ _ _ (by omega)]; omega)
    rw [List.getElem?_eq_none (l := sec (splice b (i * 16) x) i) (by omega), List.getElem?_eq_none (l := x) (by omega)]
theorem restore_sec (old : By) (keep : List Bool) (i : Nat) : ∀ (l : List Nat) (k : Nat) (b : By), (∀ x ∈ l, (x + 1) * 16 ≤ b.length ∧ (x + 1) * 16 ≤ old.length) → l.Pairwise (fun x y => x < y) →
    (∀ j, l[j]? = some i → sec (restore old keep l k b) i = if keep.getD (k + j) false then sec b i else sec old i) ∧ (i ∉ l → sec (restore old keep l k b) i = sec b i)
  | [], _, _, _, _ => ⟨fun j hj => by simp at hj, fun _ => rfl⟩
  | x :: l, k, b, h, hp => by
    obtain ⟨h1, h2⟩ := h x (by simp)
    have hx : (sec old x).length = 16 := sec_len _ _ h2
    rw [List.pairwise_cons] at hp
    have hl : (if keep.getD k false then b else splice b (x * 16) (sec old x)).length = b.length := by
      split
      · rfl
      · exact splice_len _ _ _ (by omega)
    obtain ⟨k1, k2⟩ := restore_sec old keep i l (k + 1) (if keep.getD k false then b else splice b (x * 16) (sec old x)) (fun y hy => by rw [hl]; exact h y (by simp [hy])) hp.2
    have hne : x ≠ i → sec (if keep.getD k false then b else splice b (x * 16) (sec old x)) i = sec b i := fun hn => by
      split
      · rfl
      · exact sec_splice (by omega) (by rw [hx, touched_sec]; exact decide_eq_false hn)
    refine ⟨fun j hj => ?_, fun hn => ?_⟩
    · show sec (restore old keep l (k + 1) _) i = _
      cases j with
      | zero =>
        have e : x = i := by simpa using hj
        subst e
        have hnm : x ∉ l := fun hm => by have := hp.1 x hm; omega
        rw [k2 hnm]
        show sec (if keep.getD k false then b else _) x = if keep.getD k false then _ else _
        split
        · rfl
        · exact sec_put (by omega) hx
      | succ j =>
        have hj' : l[j]? = some i := by simpa using hj
        have hne' : x ≠ i := fun e => by
          have := hp.1 i (List.mem_of_getElem? hj')
          omega
        rw [k1 j hj', hne hne', show k + 1 + j = k + (j + 1) by omega]
    · show sec (restore old keep l (k + 1) _) i = _
      rw [k2 (fun hm => hn (by simp [hm])), hne (fun e => hn (by simp [e]))]
theorem loose_up (wet : List Bool) : (loose wet).Pairwise (fun x y => x < y) := by
  unfold loose
  exact List.pairwise_lt_range.filter _
theorem crash_sec {s : D} (h : Ok s) (keep : List Bool) (i : Nat) :
    (∀ j, (loose s.wet)[j]? = some i → sec (s.crash keep).b i = if keep.getD j false then sec s.b i else sec s.old i) ∧ (i ∉ loose s.wet → sec (s.crash keep).b i = sec s.b i) := by
  obtain ⟨h1, h2⟩ := restore_sec s.old keep i (loose s.wet) 0 s.b (fun x hx => ok_fit h (loose_mem hx).1) (loose_up _)
  exact ⟨fun j hj => by rw [show (s.crash keep).b = restore s.old keep (loose s.wet) 0 s.b from rfl, h1 j hj, Nat.zero_add], h2⟩
/-- each sector is as it is, or as it was -/
theorem crash_each {s : D} (h : Ok s) (keep : List Bool) (i : Nat) : sec (s.crash keep).b i = sec s.b i ∨ sec (s.crash keep).b i = sec s.old i := by
  obtain ⟨h1, h2⟩ := crash_sec h keep i
  by_cases hm : i ∈ loose s.wet
  · obtain ⟨j, hj⟩ := List.mem_iff_getElem?.1 hm
    have := h1 j hj
    split at this
    · exact .inl this
    · exact .inr this
  · exact .inl (h2 hm)
theorem crash_blen {s : D} (h : Ok s) (keep : List Bool) : (s.crash keep).b.length = s.b.length := crash_len h keep
/-- where both are alike nothing changes -/
theorem crash_alike {s : D} (h : Ok s) (keep : List Bool) {i : Nat} (hi : s.old[i]? = s.b[i]?) (hs : ∀ j, j / 16 = i / 16 → s.old[j]? = s.b[j]?) : (s.crash keep).b[i]? = s.b[i]? := by
  have e : i = i / 16 * 16 + i % 16 := by omega
  have hr : i % 16 < 16 := Nat.mod_lt _ (by decide)
  have hso : sec s.old (i / 16) = sec s.b (i / 16) := sec_ext fun j hj => hs _ (by omega)
  have : sec (s.crash keep).b (i / 16) = sec s.b (i / 16) := by
    rcases crash_each h keep (i / 16) with c | c
    · exact c
    · exact c.trans hso
  have h3 := congrArg (fun l : By => l[i % 16]?) this
  simp only [sec_get _ _ _ hr] at h3
  rw [← e] at h3
  exact h3
/-- all that differ lie in one sector: it is the one or the other -/
theorem crash_one {s : D} (h : Ok s) (keep : List Bool) (k : Nat) (hs : ∀ j, j / 16 ≠ k → s.old[j]? = s.b[j]?) : (s.crash keep).b = s.b ∨ (s.crash keep).b = s.old := by
  have hl := crash_blen h keep
  have hol : s.old.length = s.b.length := h.ol.trans h.bl.symm
  have hother : ∀ i, i / 16 ≠ k → (s.crash keep).b[i]? = s.b[i]? := fun i hi => crash_alike h keep (hs i hi) (fun j hj => hs j (by omega))
  have hin : ∀ (c : By), sec (s.crash keep).b k = sec c k → ∀ i, i / 16 = k → (s.crash keep).b[i]? = c[i]? := fun c hc i hi => by
    have e : i = k * 16 + i % 16 := by omega
    have hr : i % 16 < 16 := Nat.mod_lt _ (by decide)
    have h3 := congrArg (fun l : By => l[i % 16]?) hc
    simp only [sec_get _ _ _ hr] at h3
    rw [← e] at h3
    exact h3
  rcases crash_each h keep k with c | c
  · left
    apply List.ext_getElem?
    intro i
    by_cases hi : i / 16 = k
    · exact hin _ c i hi
    · exact hother i hi
  · right
    apply List.ext_getElem?
    intro i
    by_cases hi : i / 16 = k
    · exact hin _ c i hi
    · exact (hother i hi).trans (hs i hi).symm
theorem crash_up {s : D} (keep : List Bool) : Up (s.crash keep) := ⟨rfl, rfl⟩
theorem crash_old {s : D} (keep : List Bool) : (s.crash keep).old = (s.crash keep).b := rfl
theorem wst_b {s : D} (h : Ok s) {a : Nat} {x : By} (hdn : s.down = false) (hw : a + x.length ≤ s.b.length) :
    (wst s (a : Int) x = (s, 0) ∧ x = []) ∨ (s.fuse = 0 ∧ x ≠ [] ∧ wst s (a : Int) x = ({ s with down := true }, 31)) ∨ (s.fuse ≠ 0 ∧ x ≠ [] ∧ (wst s (a : Int) x).2 = 0 ∧ (wst s (a : Int) x).1.b = splice s.b a x ∧ (wst s (a : Int) x).1.old = s.old ∧ (wst s (a : Int) x).1.down = false ∧ (s.fuse = -1 → (wst s (a : Int) x).1.fuse = -1)) := by
  unfold wst
  by_cases c : x.length = 0
  · rw [if_pos c]
    exact .inl ⟨rfl, List.length_eq_zero_iff.1 c⟩
  · rw [if_neg c]
    have hx : x ≠ [] := fun e => c (by rw [e]; rfl)
    unfold D.write D.off
    rw [hdn]
    by_cases c2 : s.fuse = 0
    · rw [if_pos (by rw [c2]; rfl)]
      exact .inr (.inl ⟨c2, hx, rfl⟩)
    · rw [if_neg (by simp [c2]), if_pos (within_nat hw)]
      refine .inr (.inr ⟨c2, hx, rfl, by simp, rfl, rfl, fun e => by show tick s.fuse = -1; rw [e]; rfl⟩)
theorem sync_b {s : D} (hdn : s.down = false) : (s.fuse = 0 ∧ s.sync = ({ s with down := true }, 31)) ∨ (s.fuse ≠ 0 ∧ s.sync.2 = 0 ∧ s.sync.1.b = s.b ∧ s.sync.1.old = s.b ∧ s.sync.1.down = false ∧ (s.fuse = -1 → s.sync.1.fuse = -1)) := by
  unfold D.sync D.off
  rw [hdn]
  by_cases c2 : s.fuse = 0
  · rw [if_pos (by rw [c2]; rfl)]
    exact .inl ⟨c2, rfl⟩
  · rw [if_neg (by simp [c2])]
    exact .inr ⟨c2, rfl, rfl, rfl, rfl, fun e => by show tick s.fuse = -1; rw [e]; rfl⟩
theorem splice_nil (b : By) (o : Nat) : splice b o [] = b := by unfold splice; simp
theorem thn_go {r : D × Int} {f : D → D × Int} (h : r.2 = 0) : thn r f = f r.1 := by unfold thn; rw [if_pos h]
theorem thn_stop {r : D × Int} {f : D → D × Int} (h : ¬ r.2 = 0) : thn r f = r := by unfold thn; rw [if_neg h]
/-- what the writing of a record leaves, wherever it is cut -/
theorem put_any {s : D} (o : Ok s) (hdn : s.down = false) (a k : Nat) {x : By} (hx : ∀ y ∈ x, 0 ≤ y ∧ y ≤ 255) (hw : a + need x.length * 16 ≤ s.b.length) :
    ((putD s a k x).2 = 0 ∧ (putD s a k x).1.b = splice (splice s.b (a + 16) (pad x)) a (hd k x) ∧ (putD s a k x).1.old = splice (splice s.b (a + 16) (pad x)) a (hd k x) ∧ (putD s a k x).1.down = false ∧ (s.fuse = -1 → (putD s a k x).1.fuse = -1)) ∨
    ((putD s a k x).2 = 31 ∧ s.fuse ≠ -1 ∧ (putD s a k x).1.old = s.old ∧ ((putD s a k x).1.b = s.b ∨ (putD s a k x).1.b = splice s.b (a + 16) (pad x))) ∨
    ((putD s a k x).2 = 31 ∧ s.fuse ≠ -1 ∧ (putD s a k x).1.old = splice s.b (a + 16) (pad x) ∧ ((putD s a k x).1.b = splice s.b (a + 16) (pad x) ∨ (putD s a k x).1.b = splice (splice s.b (a + 16) (pad x)) a (hd k x))) := by
  have hn := need_pos x.length
  have hpl := pad_len x
  have hf1 : a + 16 + (pad x).length ≤ s.b.length := by omega
  obtain ⟨F1, hF1⟩ : ∃ F1, splice s.b (a + 16) (pad x) = F1 := ⟨_, rfl⟩
  have hF1l : F1.length = s.b.length := by rw [← hF1]; exact splice_len _ _ _ hf1
  rw [hF1]
  have step1 : (s.fuse = 0 ∧ putD s a k x = ({ s with down := true }, 31)) ∨ (∃ s1 : D, Ok s1 ∧ s1.b = F1 ∧ s1.old = s.old ∧ s1.down = false ∧ (s.fuse = -1 → s1.fuse = -1) ∧ putD s a k x = thn s1.sync fun s => thn (wst s (a : Int) (hd k x)) fun s => thn s.sync fin) := by
    have o1 := wst_ok o ((a + 16 : Nat) : Int) (pad x) (pad_range hx)
    rcases wst_b o (a := a + 16) (x := pad x) hdn hf1 with ⟨h1, h2⟩ | ⟨h1, _, h2⟩ | ⟨_, _, h2, h3, h4, h5, h6⟩
    · refine .inr ⟨s, o, by rw [← hF1, h2, splice_nil], rfl, hdn, fun h => h, ?_⟩
      unfold putD
      rw [h1, thn_go rfl]
    · refine .inl ⟨h1, ?_⟩
      unfold putD
      rw [h2, thn_stop (show ¬ (31 : Int) = 0 by decide)]
    · refine .inr ⟨_, o1, h3.trans hF1, h4, h5, h6, ?_⟩
      unfold putD
      rw [thn_go h2]
  rcases step1 with ⟨h1, h2⟩ | ⟨s1, o1, b1, l1, d1, f1, e1⟩
  · refine .inr (.inl ?_)
    rw [h2]
    exact ⟨rfl, by rw [h1]; decide, rfl, .inl rfl⟩
  · rw [e1]
    rcases sync_b d1 with ⟨h1, h2⟩ | ⟨_, h2, b2, l2, d2, f2⟩
    · refine .inr (.inl ?_)
      rw [h2, thn_stop (show ¬ (31 : Int) = 0 by decide)]
      exact ⟨rfl, fun c => by have := f1 c; omega, l1, .inr b1⟩
    · rw [thn_go h2]
      have o2 := ok_sync o1
      rcases wst_b o2 (a := a) (x := hd k x) d2 (by rw [b2, b1, hF1l, hd_len]; omega) with ⟨_, h3⟩ | ⟨h3, _, h4⟩ | ⟨_, _, h4, b3, l3, d3, f3⟩
      · exact absurd h3 (by unfold hd; exact List.cons_ne_nil _ _)
      · refine .inr (.inr ?_)
        rw [h4, thn_stop (show ¬ (31 : Int) = 0 by decide)]
        exact ⟨rfl, fun c => by have := f2 (f1 c); omega, l2.trans b1, .inl (b2.trans b1)⟩
      · rw [thn_go h4]
        have b3' : (wst s1.sync.1 (a : Int) (hd k x)).1.b = splice F1 a (hd k x) := by rw [b3, b2, b1]
        rcases sync_b d3 with ⟨h5, h6⟩ | ⟨_, h6, b4, l4, d4, f4⟩
        · refine .inr (.inr ?_)
          rw [h6, thn_stop (show ¬ (31 : Int) = 0 by decide)]
          exact ⟨rfl, fun c => by have := f3 (f2 (f1 c)); omega, l3.trans (l2.trans b1), .inr b3'⟩
        · refine .inl ?_
          rw [thn_go h6]
          exact ⟨rfl, b4.trans b3', l4.trans b3', d4, fun c => f4 (f3 (f2 (f1 c)))⟩
theorem put_cases {s : D} (o : Ok s) (hdn : s.down = false) (hold : s.old = s.b) (a k : Nat) {x : By} (hx : ∀ y ∈ x, 0 ≤ y ∧ y ≤ 255) (hw : a + need x.length * 16 ≤ s.b.length) :
    ((putD s a k x).2 = 0 ∧ (putD s a k x).1.b = splice (splice s.b (a + 16) (pad x)) a (hd k x) ∧ (putD s a k x).1.old = splice (splice s.b (a + 16) (pad x)) a (hd k x) ∧ (putD s a k x).1.down = false ∧ (s.fuse = -1 → (putD s a k x).1.fuse = -1)) ∨
    ((putD s a k x).2 = 31 ∧ s.fuse ≠ -1 ∧ (putD s a k x).1.old = s.b ∧ ((putD s a k x).1.b = s.b ∨ (putD s a k x).1.b = splice s.b (a + 16) (pad x))) ∨
    ((putD s a k x).2 = 31 ∧ s.fuse ≠ -1 ∧ (putD s a k x).1.old = splice s.b (a + 16) (pad x) ∧ ((putD s a k x).1.b = splice s.b (a + 16) (pad x) ∨ (putD s a k x).1.b = splice (splice s.b (a + 16) (pad x)) a (hd k x))) := by
  have := put_any o hdn a k hx hw
  rw [hold] at this
  exact this
end Go.Proofs.YtnobhjpobnmiaaaDoor.Wl
