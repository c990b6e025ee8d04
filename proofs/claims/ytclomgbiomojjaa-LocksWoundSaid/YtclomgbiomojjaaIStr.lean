/- The walks of slices.IndexFunc and ContainsFunc at rows of string, for any predicate that lays no more than new memory. -/
import Derived.Test.YtclomgbiomojjaaQx0
import Derived.WalkLawsBesides
import Derived.Lib.Hide
import Derived.Deep.LoopGhost
/- The walks of slices.IndexFunc and ContainsFunc at rows of api.Hold, for any predicate that lays no more than new memory. -/
namespace Go.Proofs.Ytclomgbiomojjaa.IHold
open Go Go.RowKit Go.Proofs.Ytclomgbiomojjaa.Q Go.Proofs.YtclomgbiomojjaaW.PrintWords Go.Proofs.YtclomgbiomojjaaW.PrintLast Go.Proofs.YtclomgbiomojjaaW.PrintMore

def idxI (p : S34 → Bool) (l : List S34) : Int := if l.any p = true then (l.findIdx p : Int) else -1
theorem rd_is (l : List S34) (i : Nat) (h : i < l.length) : rd_T34 l (i : Int) = l[i] := by
  unfold rd_T34; simp [h]
theorem idx_hit (p : S34 → Bool) (l : List S34) (i : Nat) (h : i < l.length) (hp : p (rd_T34 l (i : Int)) = true) (hn : ∀ j : Nat, j < i → p (rd_T34 l (j : Int)) = false) : idxI p l = i := by
  rw [rd_is l i h] at hp
  have h1 : l.any p = true := List.any_eq_true.2 ⟨_, List.getElem_mem h, hp⟩
  have h2 : l.findIdx p = i := (List.findIdx_eq h).2 ⟨hp, fun j hj => by have := hn j hj; rwa [rd_is l j (by omega)] at this⟩
  unfold idxI
  rw [if_pos h1, h2]
theorem idx_miss (p : S34 → Bool) (l : List S34) (hn : ∀ j : Nat, j < l.length → p (rd_T34 l (j : Int)) = false) : idxI p l = -1 := by
  have h1 : ¬ l.any p = true := by
    intro h
    obtain ⟨x, hx, hp⟩ := List.any_eq_true.1 h
    obtain ⟨j, hj, rfl⟩ := List.getElem_of_mem hx
    have := hn j hj
    rw [rd_is l j hj, hp] at this
    cases this
  unfold idxI
  rw [if_neg h1]
theorem idx_any (p : S34 → Bool) (l : List S34) : decide (0 ≤ idxI p l) = l.any p := by
  unfold idxI
  cases h : l.any p
  · simp
  · first | (simp; done) | (simp; omega)

def PredB (g : Nat) (lb : Array Value) (p : S34 → Bool) (l : List S34) (w : World) : Prop :=
  ∀ (W : World) (x : S34), x ∈ l → Below w.heap.size w W → Calls Try.prog g (#[.agg #[.string x.f0, .int .i64 x.f1, .int .i64 x.f2]] ++ lb) W fun e w' => e = .returned (.bool (p x)) ∧ Below W.heap.size W w'

set_option maxRecDepth 100000 in
theorem index_calls (g : Nat) (lb : Array Value) (eg : ∀ args w, (callFunc g args).run Try.prog w = .ok (.enter g args) w) (p : S34 → Bool) (A : Option Addr) (c : Nat) (l : List S34) (w : World) (hp : PredB g lb p l w)
    (hr : Kd.C k34 w A l.length l) (hl : l.length ≤ 4611686018427387904) :
    Calls Try.prog 34 #[.slice A l.length c, .func (.func g) #[] lb] w fun e w' => e = .returned (.int .i64 (idxI p l)) ∧ Below w.heap.size w w' := by
  have HR := Lib.hid hr
  have HP := Lib.hid hp
  clear hr hp
  obtain ⟨n, hn⟩ : ∃ n, l.length = n := ⟨_, rfl⟩
  have HN := Lib.hid hn
  rw [hn] at hl ⊢
  clear hn
  go_enter Try.func34, Try.ntmps34
  go_wp2_with fail
  go_loopg [5, 8] n (fun gg _ s8 wr => ∃ i : Nat, i ≤ n ∧ n - i ≤ gg ∧ s8 = .int .i64 i ∧ Hid (Below w.heap.size w wr) ∧ Hid (∀ j : Nat, j < i → p (rd_T34 l (j : Int)) = false))
  case atStart => exact ⟨0, Nat.zero_le _, by omega, rfl, Below.refl _ w, fun j hj => absurd hj (Nat.not_lt_zero _)⟩
  case round =>
    obtain ⟨i, hi, hg, rfl, hB, hA⟩ := hrel
    by_cases hlt : i < n
    · have hltz : (i : Int) < (n : Int) := by omega
      have hb := hB.out
      obtain ⟨ad, ea, hx0, hx1, hx2⟩ := at_T34 HR.out (i : Int) (by omega) (by have := HN.out; omega)
      replace hx0 := (hb.cell (World.block_lt_of_cell? w _ hx0)).trans hx0
      replace hx1 := (hb.cell (World.block_lt_of_cell? w _ hx1)).trans hx1
      replace hx2 := (hb.cell (World.block_lt_of_cell? w _ hx2)).trans hx2
      simp only [Int.toNat_natCast] at hx0 hx1 hx2
      have HCALL := Lib.hid (HP.out _ (rd_T34 l (i : Int)) (by rw [rd_is l i (by have := HN.out; omega)]; exact List.getElem_mem _) hb)
      clear hb
      obtain ⟨x, hxx⟩ : ∃ x, rd_T34 l (i : Int) = x := ⟨_, rfl⟩
      rw [hxx] at hx0 hx1 hx2 HCALL
      have HX := Lib.hid hxx
      clear hxx
      cases ea
      cases hq : p x with
      | true =>
        rw [hq] at HCALL
        have HQ := Lib.hid hq
        clear hq
        go_wp2_with fail
        refine HCALL.out.mono ?_
        rintro e w' ⟨rfl, hb2⟩
        have HB2 := Lib.hid (hB.out.trans (hb2.mono hB.out.size))
        clear hb2 HCALL
        go_wp2_with fail
        go_ret
        exact ⟨by rw [idx_hit p l i (by have := HN.out; omega) (by rw [HX.out]; exact HQ.out) hA.out]; rfl, HB2.out⟩
      | false =>
        rw [hq] at HCALL
        have HQ := Lib.hid hq
        clear hq
        go_wp2_with fail
        refine HCALL.out.mono ?_
        rintro e w' ⟨rfl, hb2⟩
        have HB2 := Lib.hid (hB.out.trans (hb2.mono hB.out.size))
        clear hb2 HCALL
        go_wp2_with fail
        go_roundg (n - (i + 1))
        case measure => omega
        case rel =>
          refine ⟨i + 1, by omega, by omega, by go_num, HB2, (show Hid _ from fun j hj => ?_)⟩
          by_cases e : j = i
          · subst e
            rw [HX.out]; exact HQ.out
          · exact hA.out j (by omega)
    · have hltz : ¬ (i : Int) < (n : Int) := by omega
      have : i = n := by omega
      subst this
      go_wp2_with fail
      go_ret
      exact ⟨by rw [idx_miss p l (fun j hj => hA.out j (by have := HN.out; omega))]; rfl, hB.out⟩

theorem contains_calls (g : Nat) (lb : Array Value) (eg : ∀ args w, (callFunc g args).run Try.prog w = .ok (.enter g args) w) (p : S34 → Bool) (A : Option Addr) (c : Nat) (l : List S34) (w : World) (hp : PredB g lb p l w) (hr : Kd.C k34 w A l.length l) (hl : l.length ≤ 4611686018427387904) : Calls Try.prog 22 #[.slice A l.length c, .func (.func g) #[] lb] w fun e w' => e = .returned (.bool (l.any p)) ∧ Below w.heap.size w w' := by
  have hc := fun W hp hr => index_calls g lb eg p A c l W hp hr hl
  have HC := Lib.hid hc
  have HP := Lib.hid hp
  have HR := Lib.hid hr
  clear hc hp hr eg
  go_enter Try.func22, Try.ntmps22
  go_wp2_with fail
  refine (HC.out _ HP.out HR.out).mono ?_
  rintro e w' ⟨rfl, hb⟩
  have HB := Lib.hid hb
  clear hb
  go_wp2_with fail
  go_ret
  exact ⟨by rw [← idx_any]; rfl, HB.out⟩
end Go.Proofs.Ytclomgbiomojjaa.IHold
namespace Go.Proofs.Ytclomgbiomojjaa.IStr
open Go Go.RowKit Go.Proofs.Ytclomgbiomojjaa.Q Go.Proofs.YtclomgbiomojjaaW.PrintWords Go.Proofs.YtclomgbiomojjaaW.PrintLast Go.Proofs.YtclomgbiomojjaaW.PrintMore

def idxI (p : ByteArray → Bool) (l : List ByteArray) : Int := if l.any p = true then (l.findIdx p : Int) else -1
theorem rd_is (l : List ByteArray) (i : Nat) (h : i < l.length) : rdOf ByteArray.empty l (i : Int) = l[i] := by
  unfold rdOf; simp [h]
theorem idx_hit (p : ByteArray → Bool) (l : List ByteArray) (i : Nat) (h : i < l.length) (hp : p (rdOf ByteArray.empty l (i : Int)) = true) (hn : ∀ j : Nat, j < i → p (rdOf ByteArray.empty l (j : Int)) = false) : idxI p l = i := by
  rw [rd_is l i h] at hp
  have h1 : l.any p = true := List.any_eq_true.2 ⟨_, List.getElem_mem h, hp⟩
  have h2 : l.findIdx p = i := (List.findIdx_eq h).2 ⟨hp, fun j hj => by have := hn j hj; rwa [rd_is l j (by omega)] at this⟩
  unfold idxI
  rw [if_pos h1, h2]
theorem idx_miss (p : ByteArray → Bool) (l : List ByteArray) (hn : ∀ j : Nat, j < l.length → p (rdOf ByteArray.empty l (j : Int)) = false) : idxI p l = -1 := by
  have h1 : ¬ l.any p = true := by
    intro h
    obtain ⟨x, hx, hp⟩ := List.any_eq_true.1 h
    obtain ⟨j, hj, rfl⟩ := List.getElem_of_mem hx
    have := hn j hj
    rw [rd_is l j hj, hp] at this
    cases this
  unfold idxI
  rw [if_neg h1]
theorem idx_any (p : ByteArray → Bool) (l : List ByteArray) : decide (0 ≤ idxI p l) = l.any p := by
  unfold idxI
  cases h : l.any p
  · simp
  · first | (simp; done) | (simp; omega)

def PredB (g : Nat) (lb : Array Value) (p : ByteArray → Bool) (l : List ByteArray) (w : World) : Prop :=
  ∀ (W : World) (x : ByteArray), x ∈ l → Below w.heap.size w W → Calls Try.prog g (#[.string x] ++ lb) W fun e w' => e = .returned (.bool (p x)) ∧ Below W.heap.size W w'

set_option maxRecDepth 100000 in
theorem index_calls (g : Nat) (lb : Array Value) (eg : ∀ args w, (callFunc g args).run Try.prog w = .ok (.enter g args) w) (p : ByteArray → Bool) (A : Option Addr) (c : Nat) (l : List ByteArray) (w : World) (hp : PredB g lb p l w)
    (hr : Kd.C Kd.string w A l.length l) (hl : l.length ≤ 4611686018427387904) :
    Calls Try.prog 41 #[.slice A l.length c, .func (.func g) #[] lb] w fun e w' => e = .returned (.int .i64 (idxI p l)) ∧ Below w.heap.size w w' := by
  have HR := Lib.hid hr
  have HP := Lib.hid hp
  clear hr hp
  obtain ⟨n, hn⟩ : ∃ n, l.length = n := ⟨_, rfl⟩
  have HN := Lib.hid hn
  rw [hn] at hl ⊢
  clear hn
  go_enter Try.func41, Try.ntmps41
  go_wp2_with fail
  go_loopg [5, 8] n (fun gg _ s8 wr => ∃ i : Nat, i ≤ n ∧ n - i ≤ gg ∧ s8 = .int .i64 i ∧ Hid (Below w.heap.size w wr) ∧ Hid (∀ j : Nat, j < i → p (rdOf ByteArray.empty l (j : Int)) = false))
  case atStart => exact ⟨0, Nat.zero_le _, by omega, rfl, Below.refl _ w, fun j hj => absurd hj (Nat.not_lt_zero _)⟩
  case round =>
    obtain ⟨i, hi, hg, rfl, hB, hA⟩ := hrel
    by_cases hlt : i < n
    · have hltz : (i : Int) < (n : Int) := by omega
      have hb := hB.out
      obtain ⟨ad, ea, hx0⟩ := Kd.at_string HR.out (i : Int) (by omega) (by have := HN.out; omega)
      replace hx0 := (hb.cell (World.block_lt_of_cell? w _ hx0)).trans hx0
      simp only [Int.toNat_natCast] at hx0
      have HCALL := Lib.hid (HP.out _ (rdOf ByteArray.empty l (i : Int)) (by rw [rd_is l i (by have := HN.out; omega)]; exact List.getElem_mem _) hb)
      clear hb
      obtain ⟨x, hxx⟩ : ∃ x, rdOf ByteArray.empty l (i : Int) = x := ⟨_, rfl⟩
      rw [hxx] at hx0 HCALL
      have HX := Lib.hid hxx
      clear hxx
      cases ea
      cases hq : p x with
      | true =>
        rw [hq] at HCALL
        have HQ := Lib.hid hq
        clear hq
        go_wp2_with fail
        refine HCALL.out.mono ?_
        rintro e w' ⟨rfl, hb2⟩
        have HB2 := Lib.hid (hB.out.trans (hb2.mono hB.out.size))
        clear hb2 HCALL
        go_wp2_with fail
        go_ret
        exact ⟨by rw [idx_hit p l i (by have := HN.out; omega) (by rw [HX.out]; exact HQ.out) hA.out]; rfl, HB2.out⟩
      | false =>
        rw [hq] at HCALL
        have HQ := Lib.hid hq
        clear hq
        go_wp2_with fail
        refine HCALL.out.mono ?_
        rintro e w' ⟨rfl, hb2⟩
        have HB2 := Lib.hid (hB.out.trans (hb2.mono hB.out.size))
        clear hb2 HCALL
        go_wp2_with fail
        go_roundg (n - (i + 1))
        case measure => omega
        case rel =>
          refine ⟨i + 1, by omega, by omega, by go_num, HB2, (show Hid _ from fun j hj => ?_)⟩
          by_cases e : j = i
          · subst e
            rw [HX.out]; exact HQ.out
          · exact hA.out j (by omega)
    · have hltz : ¬ (i : Int) < (n : Int) := by omega
      have : i = n := by omega
      subst this
      go_wp2_with fail
      go_ret
      exact ⟨by rw [idx_miss p l (fun j hj => hA.out j (by have := HN.out; omega))]; rfl, hB.out⟩

theorem contains_calls (g : Nat) (lb : Array Value) (eg : ∀ args w, (callFunc g args).run Try.prog w = .ok (.enter g args) w) (p : ByteArray → Bool) (A : Option Addr) (c : Nat) (l : List ByteArray) (w : World) (hp : PredB g lb p l w) (hr : Kd.C Kd.string w A l.length l) (hl : l.length ≤ 4611686018427387904) : Calls Try.prog 19 #[.slice A l.length c, .func (.func g) #[] lb] w fun e w' => e = .returned (.bool (l.any p)) ∧ Below w.heap.size w w' := by
  have hc := fun W hp hr => index_calls g lb eg p A c l W hp hr hl
  have HC := Lib.hid hc
  have HP := Lib.hid hp
  have HR := Lib.hid hr
  clear hc hp hr eg
  go_enter Try.func19, Try.ntmps19
  go_wp2_with fail
  refine (HC.out _ HP.out HR.out).mono ?_
  rintro e w' ⟨rfl, hb⟩
  have HB := Lib.hid hb
  clear hb
  go_wp2_with fail
  go_ret
  exact ⟨by rw [← idx_any]; rfl, HB.out⟩
end Go.Proofs.Ytclomgbiomojjaa.IStr
