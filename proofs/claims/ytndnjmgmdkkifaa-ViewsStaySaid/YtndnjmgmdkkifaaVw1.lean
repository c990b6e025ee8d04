/- Views in memory: its maps; the walks of rightLog, Saved, newer, turn. -/
import Derived.Test.YtndnjmgmdkkifaaVw0
namespace Go.Proofs.Ytndnjmgmdkkifaa.Vw1
open Go Go.RowKit Go.Maps Go.Proofs Go.Proofs.Ytndnjmgmdkkifaa.New Go.Proofs.Ytndnjmgmdkkifaa.Vw Go.Proofs.Ytndnjmgmdkkifaa.Vw0 Go.Proofs.YtndnjmgmdkkifaaW.PrintWords Go.Proofs.YtndnjmgmdkkifaaW.PrintLast Go.Proofs.YtndnjmgmdkkifaaW.PrintMore
set_option linter.unusedVariables false
set_option linter.unusedSimpArgs false

theorem u3 : Try.prog.underlying 3 = some (.int .i64) := by kernel_rfl
theorem u70 : Try.prog.underlying 70 = some (.map 3 3) := by kernel_rfl
theorem u71 : Try.prog.underlying 71 = some (.map 3 80) := by kernel_rfl
theorem law3 : Keyed Try.prog 3 := int_keyed u3
theorem zero3 (w : World) : (zeroValue 3).run Try.prog w = .ok (.int .i64 0) w := by kernel_rfl
theorem zero80 (w : World) : (zeroValue 80).run Try.prog w = .ok (.agg #[.int .i64 0, .slice none 0 0]) w := by kernel_rfl
/-! ### the strings of a log, as they stand in rows of strings -/
/-- a value that reads as a log, through a block that is a row of strings -/
def Rd (W : World) (v : Value) (l : Log) : Prop := ∃ A c, v = .slice A l.length c ∧ l.length ≤ c ∧ Kd.C Kd.string W A l.length l ∧ ∀ ad, A = some ad → 0 < l.length → ∃ cells fr, W.heap[ad.block]? = some (.cells cells 9 fr)
/-- what may have changed: a part's block and its maps -/
def Mut (p am cm : Nat) (k : Nat) : Prop := k = p ∨ k = am ∨ k = cm
/-! ### rightLog -/
theorem bytesN_snoc (l : Log) (i : Nat) (h : i < l.length) : bytesN (l.take (i + 1)) = bytesN (l.take i) + l[i].size := by
  rw [List.take_succ_eq_append_getElem h]
  unfold bytesN
  have : ∀ (a : Log) (z : ByteArray), (a ++ [z]).foldr (fun s n => s.size + n) 0 = a.foldr (fun s n => s.size + n) 0 + z.size := by
    intro a z
    induction a with
    | nil => simp
    | cons x a ih => simp only [List.cons_append, List.foldr_cons, ih]; omega
  exact this _ _
theorem bytesN_le (l : Log) (h : ∀ s ∈ l, s.size ≤ 4096) : bytesN l ≤ l.length * 4096 := by
  induction l with
  | nil => simp [bytesN]
  | cons x l ih =>
    have h1 := ih (fun s hs => h s (by simp [hs]))
    have h2 := h x (by simp)
    show x.size + bytesN l ≤ _
    simp only [List.length_cons]
    omega
set_option maxRecDepth 100000 in
theorem rightLog_calls (A : Option Addr) (c : Nat) (l : Log) (W : World) (hr : Kd.C Kd.string W A l.length l) (hl : l.length ≤ 1000000) (hs : ∀ s ∈ l, s.size ≤ 140737488355328) :
    Calls Try.prog 34 #[.slice A l.length c] W fun e w' => e = .returned (.bool (rightL l)) ∧ w' = W := by
  have HR := Lib.hid hr
  have HS := Lib.hid hs
  clear hr hs
  go_enter Try.func34, Try.ntmps34
  go_wp2_with fail
  go_loopg [3, 8] (l.length) (fun gg s3 s8 wr => ∃ i : Nat, i ≤ l.length ∧ l.length - i ≤ gg ∧ s8 = .int .i64 i ∧ s3 = .int .i64 (bytesN (l.take i) : Nat) ∧ Hid (∀ s ∈ l.take i, s.size ≤ 4096) ∧ wr = W)
  case atStart => exact ⟨0, Nat.zero_le _, by omega, rfl, rfl, (show Hid _ from fun s hs => by simp at hs), rfl⟩
  case round =>
    obtain ⟨i, hi, hg, rfl, rfl, hA, rfl⟩ := hrel
    have hb := bytesN_le _ hA.out
    have htl : (l.take i).length ≤ l.length := by simp; omega
    by_cases hlt : i < l.length
    · have hltz : (i : Int) < (l.length : Int) := by omega
      obtain ⟨ad, ea, hx0⟩ := Kd.at_string HR.out (i : Int) (by omega) (by omega)
      simp only [Int.toNat_natCast] at hx0
      have hrd : rdOf ByteArray.empty l (i : Int) = l[i] := by unfold rdOf; simp [hlt]
      have hsn := bytesN_snoc l i hlt
      have hsz := HS.out l[i] (List.getElem_mem hlt)
      have hmem : ∀ s ∈ l.take (i + 1), s ∈ l.take i ∨ s = l[i] := fun s hs => by
        rw [List.take_succ_eq_append_getElem hlt, List.mem_append, List.mem_singleton] at hs; exact hs
      have hmem2 : l[i] ∈ l := List.getElem_mem hlt
      rw [hrd] at hx0
      obtain ⟨d, hd⟩ : ∃ d, l[i] = d := ⟨_, rfl⟩
      rw [hd] at hx0 hsn hsz hmem hmem2
      have HSN := Lib.hid hsn
      have HM := Lib.hid hmem
      have HM2 := Lib.hid hmem2
      clear hrd hsn hmem hmem2 hd
      cases ea
      obtain ⟨q, hq⟩ : ∃ q, bytesN (l.take i) = q := ⟨_, rfl⟩
      rw [hq] at hb HSN ⊢
      clear hq
      by_cases hc : (d.size : Int) > 4096
      · go_wp2_with fail
        go_ret
        refine ⟨?_, rfl⟩
        have : rightL l = false := by
          unfold rightL
          have : l.all (fun s => decide (s.size ≤ 4096)) = false := List.all_eq_false.2 ⟨d, HM2.out, by simp; omega⟩
          rw [this]; rfl
        rw [this]; rfl
      · go_wp2_with fail
        go_roundg (l.length - (i + 1))
        case measure => omega
        case rel =>
          exact ⟨i + 1, by omega, by omega, by go_num, by rw [HSN.out]; go_num, (show Hid _ from fun s hs => (HM.out s hs).elim (hA.out s) (fun e => by rw [e]; omega)), rfl⟩
    · have hi2 : i = l.length := by omega
      subst hi2
      rw [List.take_length] at hb hA ⊢
      have hall : l.all (fun s => decide (s.size ≤ 4096)) = true := List.all_eq_true.2 fun s hs => decide_eq_true (hA.out s hs)
      have hR : rightL l = (decide (l.length ≤ 96) && decide (bytesN l ≤ 14000)) := by unfold rightL; rw [hall]; rfl
      have HRR := Lib.hid hR
      clear hall hR
      obtain ⟨q, hq⟩ : ∃ q, bytesN l = q := ⟨_, rfl⟩
      rw [hq] at hb HRR ⊢
      clear hq hA
      by_cases c1 : (l.length : Int) ≤ 96
      · have d1 : decide (l.length ≤ 96) = true := decide_eq_true (by omega)
        go_wp2_with fail
        go_ret
        refine ⟨?_, rfl⟩
        rw [HRR.out, d1]
        have : decide ((q : Int) ≤ 14000) = decide (q ≤ 14000) := by rw [decide_eq_decide]; omega
        first | rfl | (rw [Bool.true_and, ← this]; rfl)
      · have d1 : decide (l.length ≤ 96) = false := decide_eq_false (by omega)
        go_wp2_with fail
        go_ret
        exact ⟨by rw [HRR.out, d1]; rfl, rfl⟩
/-! ### Clone, at a log -/
theorem rd_of_own {W : World} {base : Nat} {v : Value} {l : Log} (h : W.ownsRow base 9 1 v l.length (l.map Value.string)) : Rd W v l := by
  have hR : Kd.R Kd.string 9 W base (fun _ => True) v l := Kd.R_of_own (enc := Value.string) (h1 := fun _ => rfl) h (fun _ _ => trivial)
  obtain ⟨A, c, rfl, h1, h2⟩ := Kd.R_reads hR
  refine ⟨A, c, rfl, h1, h2, fun ad hA hp => ?_⟩
  subst hA
  obtain ⟨g, cap, e, _⟩ := h.form hp
  cases e
  obtain ⟨cells, hc⟩ := own_typed h g rfl
  exact ⟨cells, _, hc⟩
theorem info9 : (Try.prog.info? 9).map (fun i => (i.zero, i.size, i.bytes)) = some (some (.string ⟨#[]⟩), 1, 16) := by kernel_rfl
theorem clone_calls (A : Option Addr) (c : Nat) (l : Log) (w : World) (hr : Kd.C Kd.string w A l.length l) (hl : l.length * 16 ≤ 140737488355328) :
    Calls Try.prog 35 #[.slice A l.length c] w fun e w' => ∃ v : Value, e = .returned v ∧ Kd.R Kd.string 9 w' w.heap.size (fun _ => True) v l ∧ Below w.heap.size w w' := by
  have he := fun W a n c => Lib.run_eql_slice_nil (P := Try.prog) W 22 9 a n c 0 0 Try.underlying22
  cases A with
  | none =>
    have hz : l = [] := by
      cases l with
      | nil => rfl
      | cons x r => obtain ⟨ad, _, h, _⟩ := Kd.C_get hr ByteArray.empty 0 (by omega) (by simp); cases h
    subst hz
    go_enter Try.func35, Try.ntmps35
    go_wp2_with fail
    go_ret
    exact ⟨_, rfl, Kd.R_nil _ _ _ _ _, Below.refl _ _⟩
  | some ad =>
    have HR := Lib.hid hr
    have HB := Lib.hid (Below.refl w.heap.size w)
    clear hr
    go_enter Try.func35, Try.ntmps35
    go_wp2_with (first | ((with_reducible refine gate_dst (N := 5) rfl ?_); refine Kd.R_lit Kd.string _ 9 ?hg (N := 5) ?hd (xs := ([] : List ByteArray)) (inner := []) (ok := fun _ => True) (okp := fun _ => True) ?hr ?hp (fun _ hk => hk) trivial (Below.refl _ _) (Nat.le_refl _) (by simp) ?_; (case hd => rfl); (case hg => rfl); (case hr => first | (go_simp; done) | (go_simp; rfl)); (case hp => exact (Reps.none _ _)); intro v1 w1 ho1 hb1 hg_ hnew_; clear hg_ hnew_; have HO1 := Lib.hid ho1; have HB1 := Lib.hid hb1; clear ho1 hb1) | ((with_reducible refine gate_builtin (b := .append) (xs := #[.tmp 5, .tmp 6]) rfl ?_); at_builtin; refine Kd.R_append_rows Kd.string (Rr := Kd.string.K w1) (w0 := w) w.heap.size rfl (.tmp 5) (.tmp 6) 22 9 (.string ⟨#[]⟩) 16 rfl Try.underlying22 info9 rfl (by decide) (by omega) v1 [] l (some ad) l.length c (fun _ => True) (fun _ => False) rfl rfl ?aO ?aR ?aK (fun _ hk => hk.elim) (fun _ _ => trivial) ?aB ?aS ?aL ?_; (case aO => exact HO1.out); (case aR => exact Kd.C_below HR.out HB1.out); (case aK => exact fun _ _ h => h); (case aB => exact HB1.out); (case aS => exact HB1.out.size); (case aL => simpa using hl); intro v2 w2 ho2 hb2 hg2 hat2; have HO2 := Lib.hid ho2; have HB2 := Lib.hid hb2; clear ho2 hb2 hg2 hat2))
    go_ret
    exact ⟨_, rfl, by simpa using HO2.out, HB2.out⟩
theorem rd_of_R {W : World} {base : Nat} {ok : Nat → Prop} {v : Value} {l : Log} (h : Kd.R Kd.string 9 W base ok v l) : Rd W v l := rd_of_own (Kd.own_of_R (enc := Value.string) (h1 := fun _ => rfl) h)
/-- a log lives on where rows of strings are as they were -/
theorem Rd.keep {W W' : World} {v : Value} {l : Log} (h : Rd W v l) (hk : ∀ (k : Nat) (cells : Array Value) (fr : Nat × Nat), W.heap[k]? = some (Obj.cells cells 9 fr) → W'.heap[k]? = W.heap[k]?) : Rd W' v l := by
  obtain ⟨A, c, rfl, h1, h2, h3⟩ := h
  refine ⟨A, c, rfl, h1, ?_, fun ad hA hp => ?_⟩
  · refine ⟨h2.1, h2.2.1, fun hp => ?_⟩
    obtain ⟨ad, hA, hc⟩ := h2.2.2 hp
    obtain ⟨cells, fr, hb⟩ := h3 ad hA hp
    refine ⟨ad, hA, fun j q hj => ?_⟩
    obtain ⟨cs, e1, e2, e3⟩ := hc j q hj
    refine ⟨cs, e1, e2, fun i u hu => ?_⟩
    have := e3 i u hu
    have hblk : (ad.add (j * Kd.string.sz + i)).block = ad.block := by unfold Addr.add; split <;> rfl
    rw [← this]
    unfold World.cell?
    rw [hblk, hk _ _ _ hb]
  · obtain ⟨cells, fr, hb⟩ := h3 ad hA hp
    exact ⟨cells, fr, (hk _ _ _ hb).trans hb⟩
/-! ### the maps -/
/-- the acknowledged, as a map: the datum -/
abbrev Da := DataW Unit
def aOf (D : Da) (i : Int) : Int := match D.atKey (.int .i64 i) (.lit (.int .i64 0)) with | .lit (.int _ c) => c | _ => 0
/-- how many of the first n whole numbers are keys -/
def cntH {H : Type} (D : DataW H) (n : Nat) : Nat := (List.range n).countP (fun i : Nat => Maps.has D (.int .i64 (i : Int)))
/-- block am is a map that reads as the acknowledged -/
structure OA (W : World) (am : Nat) (a : List Int) (n : Nat) (D : Da) : Prop where
  own : W.ownsMap Try.prog 3 (plainElem Try.prog 3) am n D
  at_ : ∀ i : Nat, i < a.length → aOf D (i : Int) = a.getD i 0
  has : ∀ i : Int, Maps.has D (.int .i64 i) = true → 0 ≤ i ∧ i < a.length
  sz : Maps.size D = cntH D a.length
abbrev Dc := DataW Value
/-- an element of the map of changes -/
def cCells : List Value → Bool
  | [.int .i64 _, .slice _ _ _] => true
  | _ => false
def cElem (v : Value) : Option (DataW Value × List MemPlace) :=
  match v with
  | .agg cs => if cCells cs.toList = true then some (.held (.agg cs), []) else none
  | _ => none
theorem cElem_inv {v : Value} {z : DataW Value × List MemPlace} (h : cElem v = some z) : ∃ n A l c, v = .agg #[.int .i64 n, .slice A l c] ∧ z = (.held v, []) := by
  unfold cElem at h
  split at h
  · next cs =>
    split at h
    · next hc =>
      cases h
      obtain ⟨L⟩ := cs
      change cCells L = true at hc
      unfold cCells at hc
      split at hc
      · exact ⟨_, _, _, _, rfl, rfl⟩
      · cases hc
    · cases h
  · cases h
theorem cElem_mk (n : Int) (A : Option Addr) (l c : Nat) : cElem (.agg #[.int .i64 n, .slice A l c]) = some (.held (.agg #[.int .i64 n, .slice A l c]), []) := rfl
/-- a change in memory -/
def IsC (W : World) (v : Value) (x : Int × Log) : Prop := ∃ lv, v = .agg #[.int .i64 x.1, lv] ∧ Rd W lv x.2
structure OC (W : World) (cm : Nat) (cs : List (Option (Int × Log))) (n : Nat) (D : Dc) : Prop where
  own : W.ownsMap Try.prog 3 cElem cm n D
  none_ : ∀ i : Nat, i < cs.length → cs.getD i none = none → Maps.has D (.int .i64 (i : Int)) = false
  some_ : ∀ i : Nat, ∀ x, i < cs.length → cs.getD i none = some x → Maps.has D (.int .i64 (i : Int)) = true ∧ ∃ v, (∀ z, D.atKey (.int .i64 (i : Int)) z = .held v) ∧ IsC W v x
  has : ∀ i : Int, Maps.has D (.int .i64 i) = true → 0 ≤ i ∧ i < cs.length
  sz : Maps.size D = cntH D cs.length
theorem own_block {W W' : World} {P : Program} {k : TypeId} {H : Type} {R : Value → Option (DataW H × List MemPlace)} {b n : Nat} {D : DataW H} (h : W.ownsMap P k R b n D) (hb : W'.heap[b]? = W.heap[b]?) : W'.ownsMap P k R b n D := by
  obtain ⟨es, clock, h0, F, hs, hD⟩ := h
  exact ⟨es, clock, hb.trans h0, F, hs, hD⟩
theorem own_kind {W : World} {P : Program} {k : TypeId} {H : Type} {R : Value → Option (DataW H × List MemPlace)} {b n : Nat} {D : DataW H} (h : W.ownsMap P k R b n D) : ∃ es clock, W.heap[b]? = some (Obj.map es clock) := by
  obtain ⟨es, clock, h0, _⟩ := h
  exact ⟨es, clock, h0⟩
/-- a part in memory: its block, its log, its maps -/
structure VRep (W : World) (p am cm : Nat) (s : V) : Prop where
  blk : ∃ A c, Blk W p am cm A c s ∧ Rd W (.slice A s.log.length c) s.log
  ack : ∃ n D, OA W am s.acked n D ∧ n ≤ 5
  chg : ∃ n D, OC W cm s.changes n D ∧ n ≤ 5
  ne : am ≠ cm
/-- the block that a part's log lies in; the frame of a call: a part's block and its maps alone may have changed, and its log lies where it lay, or in a new block -/
def LogB (w : World) (p : Nat) : Option Nat :=
  match w.heap[p]? with
  | some (.cells cs _ _) => (match cs[2]? with | some v => v.ownBlock | none => none)
  | _ => none
structure Fr (w w' : World) (p am cm : Nat) : Prop where
  size : w.heap.size ≤ w'.heap.size
  block : ∀ k, k < w.heap.size → k ≠ p → k ≠ am → k ≠ cm → w'.heap[k]? = w.heap[k]?
  os : w'.os = w.os
  tape : w'.tape = w.tape
  output : w'.output = w.output
  log : p < w.heap.size → ∀ g, LogB w' p = some g → LogB w p = some g ∨ w.heap.size ≤ g
/-- the like, of several parts' blocks: without a word on the log -/
theorem LogB_of {w w' : World} {p : Nat} (h : w'.heap[p]? = w.heap[p]?) : LogB w' p = LogB w p := by unfold LogB; rw [h]
end Go.Proofs.Ytndnjmgmdkkifaa.Vw1
