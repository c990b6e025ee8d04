/- The row of the law LocksWound, over its walk and its pure statement. -/
import Derived.Test.YtclomgbiomojjaaQx0
import Derived.Deep.Slices
import Derived.ChangeArms
import Derived.RowKit
import Derived.SizedLaws
import Derived.Test.YtclomgbiomojjaaLWnd2
import Derived.Test.YtclomgbiomojjaaRows
import Derived.WalkKit
import Derived.ProofKit
import Derived.OpenShut
import Derived.ShutString
import Derived.ChangeOld
import Derived.Below
import Derived.Carry
/- What an argument's data say of its cells, kind by kind: the rows of laws over slices of structs lean on it. -/
namespace Go.Proofs.Ytclomgbiomojjaa.Opens
open Go Go.RowKit Go.ChangeShapes Go.WideShapes Go.Proofs.YtclomgbiomojjaaW.PrintWords

/-- Whatever reads at type t is of kind d; its weights allow Wf. -/
def Op (P : Program) (t : TypeId) {α : Type} (d : Kd α) (Wf : α → Prop) : Prop :=
  ∀ {H : Type} {enc : TypeId × Value → H} {w : World} {base : Nat} {spare : Nat → Bool} {held : Bool} {fuel : Nat} {cs : List Value} {x : DataW H × List MemPlace},
    DataW.trod enc P w base spare held fuel t cs = some x → (∀ n ∈ x.1.weights P t, n ≤ reachBytes) → ∃ a : α, d.K w a cs ∧ Wf a

theorem op_int {P : Program} {t : TypeId} {k : IntKind} (ht : P.underlying t = some (.int k)) : Op P t (Kd.int k) (fun n => (Lit.int k n).wf = true) := by
  intro H enc w base spare held fuel cs x h _
  obtain ⟨n, rfl, rfl, hw⟩ := DataW.trod_int ht h
  exact ⟨n, rfl, hw⟩
theorem op_string {P : Program} {t : TypeId} (ht : P.underlying t = some .string) : Op P t Kd.string (fun s => s.size ≤ 140737488351232) := by
  intro H enc w base spare held fuel cs x h hw
  obtain ⟨s, rfl, rfl, _⟩ := DataW.trod_string ht h
  refine ⟨s, rfl, ?_⟩
  have h1 := hw s.data.toList.length (by simp [DataW.weights])
  have h2 : s.data.toList.length = s.size := by simp
  have h3 : reachBytes ≤ 140737488351232 := by decide
  omega
theorem op_bool {P : Program} {t : TypeId} (ht : P.underlying t = some .bool) : Op P t Kd.bool (fun _ => True) := by
  intro H enc w base spare held fuel cs x h _
  obtain ⟨b, rfl, _⟩ := DataW.trod_bool ht h
  exact ⟨b, rfl, trivial⟩
theorem weightsAll_mem {H : Type} {P : Program} {e : TypeId} : ∀ {l : List (DataW H)} {d : DataW H}, d ∈ l → ∀ n ∈ d.weights P e, n ∈ DataW.weightsAll P e l
  | d0 :: l, d, h, n, hn => by
    rw [DataW.weightsAll, List.mem_append]
    rcases List.mem_cons.1 h with rfl | h
    · exact .inl hn
    · exact .inr (weightsAll_mem h n hn)
/-- The cells of a row, read one by one. -/
theorem cells_at {w : World} {base : Nat} {a : Addr} {n : Nat} {cs : List Value} (h : w.cells? base a n = some cs) : cs.length = n ∧ ∀ i u, cs[i]? = some u → w.cell? (a.add i) = some u := by
  obtain ⟨_, hl, hat⟩ := World.cells?_some h
  refine ⟨hl, fun i u hu => ?_⟩
  have hi : i < n := by rw [← hl]; exact (List.getElem?_eq_some_iff.1 hu).1
  rw [hat i hi, hu]
theorem list_of {α : Type} (Q : Nat → α → Prop) : ∀ len : Nat, (∀ i, i < len → ∃ y, Q i y) → ∃ l : List α, l.length = len ∧ ∀ i y, l[i]? = some y → Q i y
  | 0, _ => ⟨[], rfl, fun i y h => by simp at h⟩
  | len + 1, h => by
    obtain ⟨l, hl, hq⟩ := list_of Q len (fun i hi => h i (by omega))
    obtain ⟨y, hy⟩ := h len (by omega)
    refine ⟨l ++ [y], by simp [hl], fun i z hz => ?_⟩
    rcases Nat.lt_or_ge i l.length with hi | hi
    · rw [List.getElem?_append_left hi] at hz
      exact hq i z hz
    · rw [List.getElem?_append_right hi] at hz
      have : i = l.length := by
        have := (List.getElem?_eq_some_iff.1 hz).1
        simp at this
        omega
      subst this
      simp at hz
      subst hz
      rw [hl]
      exact hy
theorem op_slice {P : Program} {t e : TypeId} {α : Type} {d : Kd α} {Wf : α → Prop} (q : Nat) (ht : P.underlying t = some (.slice e)) (hc : P.cellsOf e = d.sz) {B : Nat} (hB : P.bytesOf e = B) (he : Op P e d Wf) :
    Op P t (Kd.slice q d) (fun l => l.length ≤ 9223372036854775807 ∧ l.length * B ≤ 140737488351232 ∧ ∀ x ∈ l, Wf x) := by
  intro H enc w base spare held fuel cs x h hw
  rcases Go.Deep.open_slice ht h with ⟨rfl, rfl⟩ | ⟨a, len, cap, m, n, D, Pl, rfl, _, hl, hm, hmm, rfl, hi⟩
  · exact ⟨[], ⟨none, 0, rfl, Nat.le_refl _, ⟨rfl, by simp, fun h0 => absurd h0 (Nat.lt_irrefl 0)⟩⟩, by simp, by simp, fun x hx => by simp at hx⟩
  · have hlm : len ≤ m := by rw [hmm]; split <;> omega
    have hwt : ∀ i, i < len → ∀ n ∈ (D i).weights P e, n ≤ reachBytes := fun i hil n hn => hw n (by
      rw [DataW.weights, ht]
      exact List.mem_cons_of_mem _ (List.mem_append_left _ (weightsAll_mem (List.mem_map.2 ⟨i, List.mem_range.2 hil, rfl⟩) n hn)))
    obtain ⟨l, hll, hq⟩ := list_of (fun i (y : α) => ∃ c : List Value, c.length = d.sz ∧ d.K w y c ∧ Wf y ∧ ∀ j u, c[j]? = some u → w.cell? (a.add (i * d.sz + j)) = some u) len (fun i hil => by
      obtain ⟨cs', hcs, htr⟩ := hi i (by omega)
      obtain ⟨y, hy, hwy⟩ := he htr (hwt i hil)
      rw [hc] at hcs
      obtain ⟨hlen, hat⟩ := cells_at hcs
      exact ⟨y, cs', hlen, hy, hwy, fun j u hu => by rw [← Go.Deep.add_add]; exact hat j u hu⟩)
    have hmax : len ≤ 9223372036854775807 := by unfold maxLen at hm; omega
    subst hll
    refine ⟨l, ⟨some a, cap, rfl, hl, ⟨rfl, hmax, fun _ => ⟨a, rfl, fun j p hj => ?_⟩⟩⟩, hmax, ?_, fun y hy => ?_⟩
    · obtain ⟨c, h1, h2, _, h3⟩ := hq j p hj
      exact ⟨c, h1, h2, h3⟩
    · have h3 : reachBytes ≤ 140737488351232 := by decide
      have z := hw ((((List.range l.length).map D).length + ((List.range (m - l.length)).map fun j => D (l.length + j)).length) * P.bytesOf e) (by rw [DataW.weights, ht]; exact List.mem_cons_self)
      rw [hB] at z
      have : l.length * B ≤ (((List.range l.length).map D).length + ((List.range (m - l.length)).map fun j => D (l.length + j)).length) * B := Nat.mul_le_mul_right _ (by simp)
      exact Nat.le_trans (Nat.le_trans this z) h3
    · obtain ⟨j, hj, rfl⟩ := List.getElem_of_mem hy
      obtain ⟨_, _, _, h2, _⟩ := hq j _ (List.getElem?_eq_getElem hj)
      exact h2
/-! Structs: the fields from a place on. -/
def OpF (P : Program) (fs : List Field) (o : Nat) {α : Type} (d : Kd α) (Wf : α → Prop) : Prop :=
  ∀ {H : Type} {enc : TypeId × Value → H} {w : World} {base : Nat} {spare : Nat → Bool} {held : Bool} {n : Nat} {cs : List Value} {xs : List (DataW H × List MemPlace)},
    xs.length = fs.length → (∀ (i : Nat) (f : Field), fs[i]? = some f → DataW.trod enc P w base spare held n f.type ((cs.drop f.offset).take (P.cellsOf f.type)) = xs[i]?) → cs.length = o + d.sz →
      (∀ n ∈ DataW.weightsEach P (fs.map fun f : Field => f.type) (xs.map (·.1)), n ≤ reachBytes) → ∃ a : α, d.K w a (cs.drop o) ∧ Wf a
theorem opF_one {P : Program} {f : Field} {o : Nat} {α : Type} {d : Kd α} {Wf : α → Prop} (ho : f.offset = o) (hc : P.cellsOf f.type = d.sz) (h : Op P f.type d Wf) : OpF P [f] o d Wf := by
  intro H enc w base spare held n cs xs hl hf hcs hw
  match xs, hl with
  | [x], _ =>
    have h0 := hf 0 f rfl
    rw [ho, hc, List.take_of_length_le (by rw [List.length_drop]; omega)] at h0
    exact h h0 (fun n hn => hw n (by simp only [List.map_cons, List.map_nil, DataW.weightsEach, List.append_nil]; exact hn))
theorem opF_cons {P : Program} {f : Field} {fs : List Field} {o : Nat} {α β : Type} {d : Kd α} {d' : Kd β} {Wf : α → Prop} {Wg : β → Prop} (ho : f.offset = o) (hc : P.cellsOf f.type = d.sz) (h : Op P f.type d Wf) (hs : OpF P fs (o + d.sz) d' Wg) :
    OpF P (f :: fs) o (Kd.pair d d') (fun x => Wf x.1 ∧ Wg x.2) := by
  intro H enc w base spare held n cs xs hl hf hcs hw
  match xs, hl with
  | x :: xs, hl =>
    have hcs' : cs.length = o + (d.sz + d'.sz) := hcs
    have h0 := hf 0 f rfl
    rw [ho, hc] at h0
    obtain ⟨a, ha, hwa⟩ := h h0 (fun n hn => hw n (by simp only [List.map_cons, DataW.weightsEach]; exact List.mem_append_left _ hn))
    obtain ⟨b, hb, hwb⟩ := hs (cs := cs) (xs := xs) (by simpa using hl) (fun i g hg => by simpa using hf (i + 1) g (by simpa using hg)) (by omega) (fun n hn => hw n (by simp only [List.map_cons, DataW.weightsEach]; exact List.mem_append_right _ hn))
    refine ⟨(a, b), ⟨_, _, ?_, ha, hb⟩, hwa, hwb⟩
    rw [← List.drop_drop, List.take_append_drop]
theorem op_struct {P : Program} {t : TypeId} {fs : Array Field} {α : Type} {d : Kd α} {Wf : α → Prop} (ht : P.underlying t = some (.struct fs)) (hc : P.cellsOf t = d.sz) (h : OpF P fs.toList 0 d Wf) : Op P t d Wf := by
  intro H enc w base spare held fuel cs x htr hw
  obtain ⟨xs, n, _, rfl, hl, hxl, hf⟩ := DataW.trod_struct ht htr
  have := h (xs := xs) (cs := cs) (n := n) (by simpa using hxl) (fun i f hi => hf i f (by simpa using hi)) (by omega) (fun n hn => hw n (by rw [DataW.weights, ht]; exact hn))
  simpa using this
theorem op_iso {P : Program} {t : TypeId} {α β : Type} {d : Kd α} {Wf : α → Prop} (f : β → α) (g : α → β) (hfg : ∀ a, f (g a) = a) (h : Op P t d Wf) : Op P t (Kd.iso d f) (fun b => Wf (f b)) := by
  intro H enc w base spare held fuel cs x htr hw
  obtain ⟨a, ha, hwa⟩ := h htr hw
  exact ⟨g a, by show d.K w (f (g a)) cs; rw [hfg]; exact ha, by show Wf (f (g a)); rw [hfg]; exact hwa⟩
theorem op_imp {P : Program} {t : TypeId} {α : Type} {d : Kd α} {Wf Wg : α → Prop} (h : Op P t d Wf) (hi : ∀ a, Wf a → Wg a) : Op P t d Wg := by
  intro H enc w base spare held fuel cs x htr hw
  obtain ⟨a, ha, hwa⟩ := h htr hw
  exact ⟨a, ha, hi a hwa⟩
/-- An argument's own weights. -/
theorem own_weights {H : Type} {P : Program} {ts : List TypeId} {ds : List (DataW H)} (h : (DataW.weightsEach P ts ds).all (· ≤ reachBytes) = true) {j : Nat} {t : TypeId} {d : DataW H} (ht : ts[j]? = some t) (hd : ds[j]? = some d) : ∀ n ∈ d.weights P t, n ≤ reachBytes := by
  intro n hn
  have := List.all_eq_true.1 h _ (DataW.weights_mem_each ht hd n hn)
  simpa using this
/-- An argument: its cells. -/
theorem arg_open {H : Type} {enc : TypeId × Value → H} {P : Program} {w : World} {base : Nat} {spare : Nat → Bool} {held : Bool} {t : TypeId} {v : Value} {d : DataW H} {ps : List MemPlace} {α : Type} {k : Kd α} {Wf : α → Prop} (ho : Op P t k Wf) (h : DataW.Trod enc P w base spare held t v d ps) (hw : ∀ n ∈ d.weights P t, n ≤ reachBytes) : ∃ a : α, k.K w a v.cells.toList ∧ Wf a := by
  obtain ⟨fuel, hf⟩ := h
  exact ho hf hw
end Go.Proofs.Ytclomgbiomojjaa.Opens
/- What the law LocksWound asks, without memory; how its arguments open. -/
namespace Go.Proofs.Ytclomgbiomojjaa.OpensLocksWound
open Go Go.RowKit Go.Proofs.Ytclomgbiomojjaa.Opens Go.Proofs.Ytclomgbiomojjaa.Q Go.Proofs.YtclomgbiomojjaaW.PrintWords Go.Proofs.Ytclomgbiomojjaa.LWnd
def wf34 (x : S34) : Prop := (x.f0.size ≤ 140737488351232) ∧ ((Lit.int .i64 x.f1).wf = true) ∧ ((Lit.int .i64 x.f2).wf = true)
theorem op34 : Opens.Op Try.prog 34 k34 wf34 := op_imp (op_iso (fun x : S34 => (x.f0, x.f1, x.f2)) (fun p => ⟨p.1, p.2.1, p.2.2⟩) (fun _ => rfl) (op_struct Try.underlying34 (by kernel_rfl) (opF_cons rfl (by kernel_rfl) (op_string Try.underlying9) (opF_cons rfl (by kernel_rfl) (op_int Try.underlying2) (opF_one rfl (by kernel_rfl) (op_int Try.underlying2)))))) (fun _ h => h)
theorem opArg0 : Opens.Op Try.prog 22 (Kd.slice 34 k34) (fun x => x.length ≤ 9223372036854775807 ∧ x.length * 32 ≤ 140737488351232 ∧ ∀ y ∈ x, wf34 y) := (op_slice 34 Try.underlying22 (by kernel_rfl) (by kernel_rfl) op34)
theorem opArg3 : Opens.Op Try.prog 23 (Kd.slice 9 Kd.string) (fun x => x.length ≤ 9223372036854775807 ∧ x.length * 16 ≤ 140737488351232 ∧ ∀ y ∈ x, y.size ≤ 140737488351232) := (op_slice 9 Try.underlying23 (by kernel_rfl) (by kernel_rfl) (op_string Try.underlying9))
/-- THE ONE PURE STATEMENT. -/
def Pure : Prop := ∀ (l0 : (List S34)) (a1 : Int) (a2 : Int) (l3 : (List ByteArray)), (l0.length ≤ 9223372036854775807 ∧ l0.length * 32 ≤ 140737488351232 ∧ ∀ y ∈ l0, wf34 y) → ((Lit.int .i64 a1).wf = true) → ((Lit.int .i64 a2).wf = true) → (l3.length ≤ 9223372036854775807 ∧ l3.length * 16 ≤ 140737488351232 ∧ ∀ y ∈ l3, y.size ≤ 140737488351232) → cantonlaw10_LocksWound.f l0 a1 a2 l3 = some true
end Go.Proofs.Ytclomgbiomojjaa.OpensLocksWound
/- LocksWound, without memory: the walk shows it true wherever its arguments are of their kinds. -/
namespace Go.Proofs.Ytclomgbiomojjaa.Pure
open Go Go.RowKit Go.Proofs.Ytclomgbiomojjaa.Q Go.Proofs.Ytclomgbiomojjaa.LWnd Go.Proofs.Ytclomgbiomojjaa.OpensLocksWound

theorem LocksWound : OpensLocksWound.Pure := by
  intro l a1 a2 ds hl h1 h2 hd
  obtain ⟨_, hl32, hlw⟩ := hl
  obtain ⟨_, hd16, hdw⟩ := hd
  unfold cantonlaw10_LocksWound.f
  rw [if_pos ⟨⟨by omega, fun y hy => (hlw y hy).1⟩, h1, h2, by omega, hdw⟩]
end Go.Proofs.Ytclomgbiomojjaa.Pure
namespace Go.Proofs.Ytclomgbiomojjaa.locksWound
open Go.ChangeShapes Go.WideShapes Go.ChangeAt Go.RowKit
open Go.ChangeMaps (open_string shut_string)
set_option linter.unusedVariables false
theorem own : ownKnob Try.prog.godebug = none := by kernel_rfl
theorem laidOut : laidOutB Try.prog = true := by kernel_rfl
set_option maxRecDepth 100000 in
theorem lifted (os : Os) (started : os.Started) (H : Type) (enc : TypeId × Value → H) :
    ReturnsInHanded {} Try.checked os 7 .any (Rows.locksWoundSpec.pre6 enc Try.prog Try.f7 Rows.locksWoundRow.domain false) (Rows.locksWoundSpec.post enc Try.prog Try.f7 false true false false) := by
  refine returnsInHanded_of_change_sized (C := Try.checked) own started (by kernel_rfl) Try.func7
    (ChangeSpec.witness6 (enc := enc) (C := Try.checked) false ⟨#[], #[.slice none 0 0, .int .i64 0, .int .i64 0, .slice none 0 0], []⟩ 8 (by kernel_rfl) (by kernel_rfl) (by kernel_rfl) (by kernel_rfl)) ?_
  intro W base args ds gs before hval0 hW hcnd hsz0 _
  have hsz : (DataW.weightsEach Try.prog (Try.f7.params.toList ++ Rows.locksWoundSpec.plain.varTypes Try.prog) (ds ++ gs)).all (· ≤ reachBytes) = true := hsz0
  have hval : ∀ (j : Nat) t v, Try.f7.params[j]? = some t → args[j]? = some v → Value.okWide Try.prog W .any base t v := hval0
  have hW' := hW
  obtain ⟨p, q, hA0, hV, rfl, hfz, hnd⟩ := hW
  have hA : DataW.TrodAll enc Try.prog W 0 (fun _ => true) true Try.f7.params.toList args.toList ds p := hA0
  rw [Try.params7] at hA hval hsz
  obtain ⟨v0, vs0, d0, ds0, p0, q0, hargs, rfl, rfl, h0, r0⟩ := trodAll_cons hA
  obtain ⟨v1, vs1, d1, ds1, p1, q1, rfl, rfl, rfl, h1, r1⟩ := trodAll_cons r0
  obtain ⟨v2, vs2, d2, ds2, p2, q2, rfl, rfl, rfl, h2, r2⟩ := trodAll_cons r1
  obtain ⟨v3, vs3, d3, ds3, p3, q3, rfl, rfl, rfl, h3, r3⟩ := trodAll_cons r2
  obtain ⟨rfl, rfl, rfl⟩ := trodAll_nil r3
  obtain rfl : args = #[v0, v1, v2, v3] := by cases args; simp_all
  obtain ⟨rfl, rfl⟩ := trodVars_none hV
  have k0 := h0
  have lt0 : ∀ x ∈ p0, x.block < W.heap.size := by obtain ⟨m, hm⟩ := k0; exact DataW.trod_lt m _ _ _ hm
  obtain ⟨ad0, len0, cap0, rfl⟩ := okWide_slice Try.underlying22 (hval 0 22 v0 rfl rfl)
  obtain ⟨l0, ⟨A0, c0, he0, hc0, hr0⟩, w0⟩ := Opens.arg_open OpensLocksWound.opArg0 h0 (Opens.own_weights hsz (j := 0) (t := 22) rfl rfl)
  simp [Value.cells] at he0
  obtain ⟨rfl, rfl, rfl⟩ := he0
  obtain ⟨a1, rfl, rfl, rfl, w1⟩ := open_int Try.underlying2 (hval 1 2 v1 rfl rfl) h1
  obtain ⟨a2, rfl, rfl, rfl, w2⟩ := open_int Try.underlying2 (hval 2 2 v2 rfl rfl) h2
  have k3 := h3
  have lt3 : ∀ x ∈ p3, x.block < W.heap.size := by obtain ⟨m, hm⟩ := k3; exact DataW.trod_lt m _ _ _ hm
  obtain ⟨ad3, len3, cap3, rfl⟩ := okWide_slice Try.underlying23 (hval 3 23 v3 rfl rfl)
  obtain ⟨l3, ⟨A3, c3, he3, hc3, hr3⟩, w3⟩ := Opens.arg_open OpensLocksWound.opArg3 h3 (Opens.own_weights hsz (j := 3) (t := 23) rfl rfl)
  simp [Value.cells] at he3
  obtain ⟨rfl, rfl, rfl⟩ := he3
  clear hA0 hval0 hsz0 hsz
  have hk := Pure.LocksWound l0 a1 a2 l3 w0 w1 w2 w3
  refine (LWnd.cantonlaw10_LocksWound.calls _ _ l0 a1 a2 _ _ l3 true W hr0 hc0 hr3 hc3 hk).mono fun e W' ⟨he, bel⟩ => ?_
  subst he
  exact ⟨_, rfl, _, _, _, [], _, [], hW', trodAll_mk1 (shut_bool Try.underlying4 _), (trodAll_cons_mk (Below.trod laidOut (by kernel_rfl) (of_decide_eq_true (by kernel_rfl)) k0 bel lt0) (trodAll_cons_mk (shut_int Try.underlying2 w1) (trodAll_cons_mk (shut_int Try.underlying2 w2) (trodAll_cons_mk (Below.trod laidOut (by kernel_rfl) (of_decide_eq_true (by kernel_rfl)) k3 bel lt3) trodAll_mk0)))), rfl, bel.frame _, fun h => by cases h⟩
theorem over : Rows.locksWoundRow.holds Try.pinned (OpenSpec.ofChange Rows.locksWoundSpec) :=
  OpenClaim.holds_of_wide 7 Try.f7 rfl rfl rfl rfl rfl rfl rfl ⟨rfl, rfl, rfl, rfl, rfl⟩ rfl rfl rfl rfl rfl (by kernel_rfl) Try.func7 (by kernel_rfl)
    (of_decide_eq_true (by kernel_rfl)) (by unfold Func.isWrapper; first | (rw [if_pos (by decide +kernel)]; kernel_rfl) | (rw [if_neg (by decide +kernel)]; exact ⟨rfl, rfl⟩))
    (fun os started H enc _ => lifted os started H enc)
theorem proved : Rows.LocksWoundSaid := over
#print axioms proved
end Go.Proofs.Ytclomgbiomojjaa.locksWound
namespace Go.Proofs.Ytclomgbiomojjaa
/-- The row, under a short name, for the claim. -/
theorem locksWound_holds : Rows.LocksWoundSaid := locksWound.proved
end Go.Proofs.Ytclomgbiomojjaa
