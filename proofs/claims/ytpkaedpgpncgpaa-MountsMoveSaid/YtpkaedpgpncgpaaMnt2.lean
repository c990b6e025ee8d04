/- Mounts: what a Begin and a Flip make, by their elements. -/
import Derived.Test.YtpkaedpgpncgpaaMnt1
namespace Go.Proofs.Ytpkaedpgpncgpaa.Mnt
open Go Go.RowKit Go.Proofs.Ytpkaedpgpncgpaa.Rune Go.Proofs.Ytpkaedpgpncgpaa.Split Go.Proofs.Ytpkaedpgpncgpaa.PathT Go.Proofs.Ytpkaedpgpncgpaa.PathF Go.Proofs.Ytpkaedpgpncgpaa.Q Go.Proofs.Ytpkaedpgpncgpaa.MBegin Go.Proofs.YtpkaedpgpncgpaaW.PrintWords Go.Proofs.YtpkaedpgpncgpaaW.PrintLast Go.Proofs.YtpkaedpgpncgpaaW.PrintMore

theorem rd_mem (l : List S) (i : Nat) (h : i < l.length) : rd l (i : Int) ∈ l := by rw [rd_get l i h]; exact List.getElem_mem _
theorem mem_rd {l : List S} {y : S} (h : y ∈ l) : ∃ i : Nat, i < l.length ∧ rd l (i : Int) = y := by
  obtain ⟨i, hi, rfl⟩ := List.getElem_of_mem h
  exact ⟨i, hi, rd_get l i hi⟩
theorem uniq {l : List S} (h : l.Pairwise Less) {y z : S} (hy : y ∈ l) (hz : z ∈ l) (e : y.f0 = z.f0) : y = z := by
  obtain ⟨i, hi, rfl⟩ := mem_rd hy
  obtain ⟨j, hj, rfl⟩ := mem_rd hz
  rw [up_inj h hi hj e]
/-- the mount of a directory, as an element -/
structure OfM (l : List S) (d : ByteArray) (y : S) : Prop where
  mem : y ∈ l
  isin : inP d y.f0 = true
  most : ∀ z ∈ l, inP d z.f0 = true → z.f0.size ≤ y.f0.size
theorem ofM {l : List S} {d : ByteArray} {a : Nat} (h : IsOf l d a) : OfM l d (rd l (a : Int)) :=
  ⟨rd_mem l a h.lt, h.isin, fun z hz hd => by obtain ⟨j, hj, rfl⟩ := mem_rd hz; exact h.most j hj hd⟩
theorem ofM_only {l : List S} (h : l.Pairwise Less) {d : ByteArray} {y z : S} (hy : OfM l d y) (hz : OfM l d z) : y = z :=
  uniq h hy.mem hz.mem (in_eq (in_chain hz.isin hy.isin (hy.most z hz.mem hz.isin)) (hz.most y hy.mem hy.isin))
theorem own_mem {l : List S} {p : ByteArray} (h : own_ p l = true) : rd l (at_ p l : Nat) ∈ l ∧ (rd l (at_ p l : Nat)).f0 = p :=
  ⟨rd_mem l _ (own_spec p h).1, (own_spec p h).2⟩
theorem own_at {l : List S} (hu : l.Pairwise Less) {y : S} (hy : y ∈ l) : own_ y.f0 l = true ∧ rd l (at_ y.f0 l : Nat) = y := by
  obtain ⟨i, hi, rfl⟩ := mem_rd hy
  obtain ⟨h1, h2⟩ := own_of hu hi
  exact ⟨h1, by rw [h2]⟩
theorem own_none {l : List S} (hu : l.Pairwise Less) {p : ByteArray} (h : own_ p l = false) : ∀ y ∈ l, y.f0 ≠ p := fun y hy e => by
  have := (own_at hu hy).1
  rw [e, h] at this; cases this
theorem near_self {p : ByteArray} (h : isP p = true) : near p p = true := by unfold near; rw [in_self, h]; rfl
theorem root_less {p : ByteArray} (h : isP p = true) (hne : p ≠ ⟨#[47]⟩) : lessB ⟨#[47]⟩ p = true := by
  obtain ⟨ls, hls, hp⟩ := (isP_iff p).1 h
  obtain ⟨r, hr⟩ := text_start ls
  unfold lessB
  rw [toL, toL, hp, hr]
  cases r with
  | nil => exact absurd (L_inj (by rw [hp, hr]; rfl)) hne
  | cons c r => rfl
theorem pair_map (l : List S) : l.Pairwise Less ↔ (l.map fun x => x.f0).Pairwise (fun a b => lessB a b = true) := by
  rw [List.pairwise_map]; rfl
section
variable {l : List S} {p : ByteArray} {x : S}
theorem set_map (ho : own_ p l = true) (hx : x.f0 = p) : ((l.set (at_ p l) x).map fun x => x.f0) = l.map fun x => x.f0 := by
  rw [List.map_set, hx]
  have h := own_spec p ho
  obtain ⟨i, hi⟩ : ∃ i, at_ p l = i := ⟨_, rfl⟩
  rw [hi] at h ⊢
  have e : (l.map fun x => x.f0)[i]'(by simpa using h.1) = p := by
    have h2 := h.2
    rw [rd_get l _ h.1] at h2
    rw [List.getElem_map]
    exact h2
  rw [← e]
  exact List.set_getElem_self _
theorem mem_set (hR : RightM l) (ho : own_ p l = true) (hx : x.f0 = p) (y : S) : y ∈ l.set (at_ p l) x ↔ y = x ∨ (y ∈ l ∧ y.f0 ≠ p) := by
  have h := own_spec p ho
  constructor
  · intro hy
    obtain ⟨i, hi, rfl⟩ := List.getElem_of_mem hy
    rw [List.getElem_set]
    by_cases e : at_ p l = i
    · rw [if_pos e]; exact .inl rfl
    · rw [if_neg e]
      have hi' : i < l.length := by simpa using hi
      refine .inr ⟨List.getElem_mem _, fun e2 => e ?_⟩
      refine up_inj hR.up h.1 hi' ?_
      rw [h.2, rd_get l i hi']
      exact e2.symm
  · rintro (rfl | ⟨hy, hne⟩)
    · exact List.mem_iff_getElem.2 ⟨at_ p l, by simpa using h.1, by simp⟩
    · obtain ⟨i, hi, rfl⟩ := List.getElem_of_mem hy
      have e : at_ p l ≠ i := fun e => hne (by
        have := h.2
        rw [rd_get l _ h.1] at this
        simp only [e] at this
        exact this)
      exact List.mem_iff_getElem.2 ⟨i, by simpa using hi, by rw [List.getElem_set, if_neg e]⟩
theorem mem_ins (hR : RightM l) (ho : own_ p l = false) (y : S) : y ∈ l.take (at_ p l) ++ x :: l.drop (at_ p l) ↔ y = x ∨ (y ∈ l ∧ y.f0 ≠ p) := by
  have h := own_none hR.up ho
  constructor
  · intro hy
    rcases List.mem_append.1 hy with hy | hy
    · exact .inr ⟨List.mem_of_mem_take hy, h y (List.mem_of_mem_take hy)⟩
    · rcases List.mem_cons.1 hy with rfl | hy
      · exact .inl rfl
      · exact .inr ⟨List.mem_of_mem_drop hy, h y (List.mem_of_mem_drop hy)⟩
  · rintro (rfl | ⟨hy, _⟩)
    · simp
    · have : y ∈ l.take (at_ p l) ++ l.drop (at_ p l) := by rw [List.take_append_drop]; exact hy
      rcases List.mem_append.1 this with h1 | h1
      · exact List.mem_append_left _ h1
      · exact List.mem_append_right _ (List.mem_cons_of_mem _ h1)
theorem mem_put (hR : RightM l) (hx : x.f0 = p) (y : S) : y ∈ putM l p x ↔ y = x ∨ (y ∈ l ∧ y.f0 ≠ p) := by
  unfold putM
  cases ho : own_ p l with
  | true => rw [if_pos rfl]; exact mem_set hR ho hx y
  | false => rw [if_neg (by simp)]; exact mem_ins hR ho y
theorem put_right (hR : RightM l) (hp : isP p = true) (hx : x.f0 = p) (hok : okE x = true) (hfew : own_ p l = true ∨ l.length < 32) : RightM (putM l p x) ∧ l.length ≤ (putM l p x).length := by
  have hmem := mem_put hR hx
  have hall : ∀ y ∈ putM l p x, okE y = true := fun y hy => by
    rcases (hmem y).1 hy with rfl | ⟨h, _⟩
    · exact hok
    · exact hR.ok y h
  unfold putM at hall ⊢
  cases ho : own_ p l with
  | true =>
    rw [ho, if_pos rfl] at hall
    rw [if_pos rfl]
    have hm := set_map (x := x) ho hx
    refine ⟨⟨hall, (pair_map _).2 (by rw [hm]; exact (pair_map l).1 hR.up), by simpa using hR.pos, by simpa using hR.few, ?_⟩, by simp⟩
    have hpos := hR.pos
    have h0 := hR.root
    rw [show (0 : Int) = ((0 : Nat) : Int) by rfl, rd_get l 0 hpos] at h0
    rw [show (0 : Int) = ((0 : Nat) : Int) by rfl, rd_get _ 0 (by simpa using hpos)]
    have e1 : ((l.set (at_ p l) x)[0]'(by simpa using hpos)).f0 = ((l.set (at_ p l) x).map fun x => x.f0)[0]'(by simpa using hpos) := (List.getElem_map (fun x : S => x.f0)).symm
    have e2 : (l[0]).f0 = (l.map fun x => x.f0)[0]'(by simpa using hpos) := (List.getElem_map (fun x : S => x.f0)).symm
    rw [e1]
    simp only [hm]
    rw [← e2, h0]
  | false =>
    rw [ho, if_neg (by simp)] at hall
    rw [if_neg (by simp)]
    obtain ⟨h1, h2, h3⟩ := at_spec hR.up p
    have hne := own_none hR.up ho
    have hlen : (l.take (at_ p l) ++ x :: l.drop (at_ p l)).length = l.length + 1 := by
      simp; omega
    have hup : (l.take (at_ p l) ++ x :: l.drop (at_ p l)).Pairwise Less := by
      rw [List.pairwise_append]
      refine ⟨hR.up.sublist (List.take_sublist _ _), ?_, ?_⟩
      · refine List.pairwise_cons.2 ⟨fun y hy => ?_, hR.up.sublist (List.drop_sublist _ _)⟩
        obtain ⟨j, hj, rfl⟩ := List.getElem_of_mem hy
        rw [List.getElem_drop]
        simp at hj
        have h4 := h3 (at_ p l + j) (by omega) (by omega)
        rw [rd_get l _ (by omega)] at h4
        unfold Less
        rw [hx]
        cases h5 : lessB p l[at_ p l + j].f0 with
        | true => rfl
        | false => exact absurd (lessB_total h4 h5) (hne _ (List.getElem_mem _))
      · intro y hy z hz
        have hyp : lessB y.f0 p = true := by
          obtain ⟨j, hj, rfl⟩ := List.getElem_of_mem hy
          rw [List.getElem_take]
          simp at hj
          have h4 := h2 j (by omega)
          rw [rd_get l _ (by omega)] at h4
          exact h4
        rcases List.mem_cons.1 hz with rfl | hz
        · unfold Less
          rw [hx]; exact hyp
        · obtain ⟨j, hj, rfl⟩ := List.getElem_of_mem hz
          rw [List.getElem_drop]
          simp at hj
          have h4 := h3 (at_ p l + j) (by omega) (by omega)
          rw [rd_get l _ (by omega)] at h4
          unfold Less
          cases h5 : lessB p l[at_ p l + j].f0 with
          | true => exact lessB_trans hyp h5
          | false => exact absurd (lessB_total h4 h5) (hne _ (List.getElem_mem _))
    have hroot : 0 < at_ p l := by
      rcases Nat.eq_zero_or_pos (at_ p l) with e | e
      · have h4 := h3 0 (by omega) hR.pos
        have hm0 : rd l ((0 : Nat) : Int) ∈ l := rd_mem l 0 hR.pos
        have h5 := hne _ hm0
        rw [show (((0 : Nat) : Int)) = 0 by rfl, hR.root] at h4 h5
        rw [root_less hp (fun e => h5 e.symm)] at h4; cases h4
      · exact e
    refine ⟨⟨hall, hup, by omega, ?_, ?_⟩, by omega⟩
    · rcases hfew with h | h
      · rw [ho] at h; cases h
      · omega
    · have h0 := hR.root
      rw [show (0 : Int) = ((0 : Nat) : Int) by rfl, rd_get l 0 hR.pos] at h0
      rw [show (0 : Int) = ((0 : Nat) : Int) by rfl, rd_get _ 0 (by omega), List.getElem_append_left (by simp; omega), List.getElem_take, h0]
end
/-- behind a Begin that is OK -/
structure Moved (l : List S) (p : ByteArray) (d : Int) (m : List S) : Prop where
  asks : Asks l p d
  right : RightM m
  long : l.length ≤ m.length
  own : ∃ x ∈ m, x.f0 = p ∧ movB x = true ∧ x.f3 = d
  rest : ∀ y : S, y.f0 ≠ p → (y ∈ m ↔ y ∈ l)
theorem ok_new {l : List S} {p : ByteArray} {d : Int} {a : Nat} (h : Asks l p d) (ha : IsOf l p a) : okE ⟨p, (rd l (a : Int)).f1, (rd l (a : Int)).f2, d⟩ = true := by
  have h1 := (okE_iff _).1 (h.1.ok _ (rd_mem l a ha.lt))
  have h2 := h.2.2
  unfold grp at h2
  simp only [Bool.and_eq_true, decide_eq_true_eq] at h2
  exact (okE_iff _).2 ⟨h.2.1, h1.2.1, h2, h1.2.2.2⟩
theorem moved {l m : List S} {p r2 : ByteArray} {d r3 r4 r5 : Int} (h : BeginR l p d m r2 r3 r4 r5 0) : Moved l p d m := by
  obtain ⟨z, hz⟩ : ∃ z : Int, z = 0 := ⟨0, rfl⟩
  rw [← hz] at h
  cases h with
  | bad h => omega
  | same h ho hm hd => exact ⟨h, h.1, Nat.le_refl _, ⟨_, (own_mem ho).1, (own_mem ho).2, hm, hd⟩, fun y _ => Iff.rfl⟩
  | busy h => omega
  | there h => omega
  | many h => omega
  | new h hb a ha ht hm he =>
    have h1 := put_right (x := ⟨p, (rd l (a : Int)).f1, (rd l (a : Int)).f2, d⟩) h.1 h.2.1 rfl (ok_new h ha) hm
    have h2 := mem_put (x := ⟨p, (rd l (a : Int)).f1, (rd l (a : Int)).f2, d⟩) h.1 rfl
    refine ⟨h, h1.1, h1.2, ⟨_, (h2 _).2 (.inl rfl), rfl, ?_, rfl⟩, fun y hy => ?_⟩
    · unfold movB
      exact bne_iff_ne.2 (fun e => ht e.symm)
    · rw [h2]
      constructor
      · rintro (rfl | ⟨h3, _⟩)
        · exact absurd rfl hy
        · exact h3
      · exact fun h3 => .inr ⟨h3, hy⟩
theorem any_busy {l : List S} {p : ByteArray} : l.any (busyB p) = true ↔ ∃ y ∈ l, movB y = true ∧ near p y.f0 = true := by
  rw [List.any_eq_true]
  constructor
  · rintro ⟨y, hy, hb⟩
    rw [busy_is, Bool.and_eq_true] at hb
    exact ⟨y, hy, hb⟩
  · rintro ⟨y, hy, hb⟩
    exact ⟨y, hy, by rw [busy_is, Bool.and_eq_true]; exact hb⟩
/-- a Begin of a prefix whose own mount moves there is OK, and changes nothing -/
theorem begin_own {l m : List S} {p r2 : ByteArray} {d r3 r4 r5 r6 : Int} (h : BeginR l p d m r2 r3 r4 r5 r6) (hA : Asks l p d) {x : S} (hx : x ∈ l) (hx0 : x.f0 = p) (hm : movB x = true) (hd : x.f3 = d) :
    r6 = 0 ∧ m = l ∧ r2 = x.f0 ∧ r3 = x.f1 ∧ r4 = x.f2 ∧ r5 = x.f3 := by
  have h1 := own_at hA.1.up hx
  rw [hx0] at h1
  have hbusy : l.any (busyB p) = true := any_busy.2 ⟨x, hx, hm, by rw [hx0]; exact near_self hA.2.1⟩
  cases h with
  | bad h => exact absurd hA h
  | same h ho hm hd => rw [h1.2]; exact ⟨rfl, rfl, rfl, rfl, rfl, rfl⟩
  | busy h hn => exact absurd ⟨h1.1, by rw [h1.2]; exact hm, by rw [h1.2]; exact hd⟩ hn
  | there h hb => rw [hbusy] at hb; cases hb
  | many h hb => rw [hbusy] at hb; cases hb
  | new h hb => rw [hbusy] at hb; cases hb
end Go.Proofs.Ytpkaedpgpncgpaa.Mnt
