/- What an argument's data say of its cells, kind by kind: the rows of laws over slices of structs lean on it. -/
import Derived.Test.YtnobhjpobnmiaaaDoorWl19
import Derived.Deep.Slices
import Derived.ChangeArms
import Derived.RowKit
import Derived.SizedLaws
namespace Go.Proofs.YtnobhjpobnmiaaaDoor.Opens
open Go Go.RowKit Go.ChangeShapes Go.WideShapes Go.Proofs.YtnobhjpobnmiaaaDoorW.PrintWords

/-- Whatever reads at type t is of kind d; its weights allow Wf. -/
def Op (P : Program) (t : TypeId) {α : Type} (d : Kd α) (Wf : α → Prop) : Prop :=
  ∀ {H : Type} {enc : TypeId × Value → H} {w : World} {base : Nat} {spare : Nat → Bool} {held : Bool} {fuel : Nat} {cs : List Value} {x : DataW H × List MemPlace},
    DataW.trod enc P w base spare held fuel t cs = some x → (∀ n ∈ x.1.weights P t, n ≤ reachBytes) → ∃ a : α, d.K w a cs ∧ Wf a

theorem op_int {P : Program} {t : TypeId} {k : IntKind} (ht : P.underlying t = some (.int k)) : Op P t (Kd.int k) (fun n => (Lit.int k n).wf = true) := by
  intro H enc w base spare held fuel cs x h _
  obtain ⟨n, rfl, rfl, hw⟩ := DataW.trod_int ht h
  exact ⟨n, rfl, hw⟩
theorem op_string {P : Program} {t : TypeId} (ht : P.underlying t = some .string) : Op P t Kd.string (fun s => s.size ≤ 140737488351232) := by
  intro H enc w base spare held fuel cs x h hw
  obtain ⟨s, rfl, rfl, _⟩ := DataW.trod_string ht h
  refine ⟨s, rfl, ?_⟩
  have h1 := hw s.data.toList.length (by simp [DataW.weights])
  have h2 : s.data.toList.length = s.size := by simp
  have h3 : reachBytes ≤ 140737488351232 := by decide
  omega
theorem op_bool {P : Program} {t : TypeId} (ht : P.underlying t = some .bool) : Op P t Kd.bool (fun _ => True) := by
  intro H enc w base spare held fuel cs x h _
  obtain ⟨b, rfl, _⟩ := DataW.trod_bool ht h
  exact ⟨b, rfl, trivial⟩
theorem weightsAll_mem {H : Type} {P : Program} {e : TypeId} : ∀ {l : List (DataW H)} {d : DataW H}, d ∈ l → ∀ n ∈ d.weights P e, n ∈ DataW.weightsAll P e l
  | d0 :: l, d, h, n, hn => by
    rw [DataW.weightsAll, List.mem_append]
    rcases List.mem_cons.1 h with rfl | h
    · exact .inl hn
    · exact .inr (weightsAll_mem h n hn)
/-- The cells of a row, read one by one. -/
theorem cells_at {w : World} {base : Nat} {a : Addr} {n : Nat} {cs : List Value} (h : w.cells? base a n = some cs) : cs.length = n ∧ ∀ i u, cs[i]? = some u → w.cell? (a.add i) = some u := by
  obtain ⟨_, hl, hat⟩ := World.cells?_some h
  refine ⟨hl, fun i u hu => ?_⟩
  have hi : i < n := by rw [← hl]; exact (List.getElem?_eq_some_iff.1 hu).1
  rw [hat i hi, hu]
theorem list_of {α : Type} (Q : Nat → α → Prop) : ∀ len : Nat, (∀ i, i < len → ∃ y, Q i y) → ∃ l : List α, l.length = len ∧ ∀ i y, l[i]? = some y → Q i y
  | 0, _ => ⟨[], rfl, fun i y h => by simp at h⟩
  | len + 1, h => by
    obtain ⟨l, hl, hq⟩ := list_of Q len (fun i hi => h i (by omega))
    obtain ⟨y, hy⟩ := h len (by omega)
    refine ⟨l ++ [y], by simp [hl], fun i z hz => ?_⟩
    rcases Nat.lt_or_ge i l.length with hi | hi
    · rw [List.getElem?_append_left hi] at hz
      exact hq i z hz
    · rw [List.getElem?_append_right hi] at hz
      have : i = l.length := by
        have := (List.getElem?_eq_some_iff.1 hz).1
        simp at this
        omega
      subst this
      simp at hz
      subst hz
      rw [hl]
      exact hy
theorem op_slice {P : Program} {t e : TypeId} {α : Type} {d : Kd α} {Wf : α → Prop} (q : Nat) (ht : P.underlying t = some (.slice e)) (hc : P.cellsOf e = d.sz) {B : Nat} (hB : P.bytesOf e = B) (he : Op P e d Wf) :
    Op P t (Kd.slice q d) (fun l => l.length ≤ 9223372036854775807 ∧ l.length * B ≤ 140737488351232 ∧ ∀ x ∈ l, Wf x) := by
  intro H enc w base spare held fuel cs x h hw
  rcases Go.Deep.open_slice ht h with ⟨rfl, rfl⟩ | ⟨a, len, cap, m, n, D, Pl, rfl, _, hl, hm, hmm, rfl, hi⟩
  · exact ⟨[], ⟨none, 0, rfl, Nat.le_refl _, ⟨rfl, by simp, fun h0 => absurd h0 (Nat.lt_irrefl 0)⟩⟩, by simp, by simp, fun x hx => by simp at hx⟩
  · have hlm : len ≤ m := by rw [hmm]; split <;> omega
    have hwt : ∀ i, i < len → ∀ n ∈ (D i).weights P e, n ≤ reachBytes := fun i hil n hn => hw n (by
      rw [DataW.weights, ht]
      exact List.mem_cons_of_mem _ (List.mem_append_left _ (weightsAll_mem (List.mem_map.2 ⟨i, List.mem_range.2 hil, rfl⟩) n hn)))
    obtain ⟨l, hll, hq⟩ := list_of (fun i (y : α) => ∃ c : List Value, c.length = d.sz ∧ d.K w y c ∧ Wf y ∧ ∀ j u, c[j]? = some u → w.cell? (a.add (i * d.sz + j)) = some u) len (fun i hil => by
      obtain ⟨cs', hcs, htr⟩ := hi i (by omega)
      obtain ⟨y, hy, hwy⟩ := he htr (hwt i hil)
      rw [hc] at hcs
      obtain ⟨hlen, hat⟩ := cells_at hcs
      exact ⟨y, cs', hlen, hy, hwy, fun j u hu => by rw [← Go.Deep.add_add]; exact hat j u hu⟩)
    have hmax : len ≤ 9223372036854775807 := by unfold maxLen at hm; omega
    subst hll
    refine ⟨l, ⟨some a, cap, rfl, hl, ⟨rfl, hmax, fun _ => ⟨a, rfl, fun j p hj => ?_⟩⟩⟩, hmax, ?_, fun y hy => ?_⟩
    · obtain ⟨c, h1, h2, _, h3⟩ := hq j p hj
      exact ⟨c, h1, h2, h3⟩
    · have h3 : reachBytes ≤ 140737488351232 := by decide
      have z := hw ((((List.range l.length).map D).length + ((List.range (m - l.length)).map fun j => D (l.length + j)).length) * P.bytesOf e) (by rw [DataW.weights, ht]; exact List.mem_cons_self)
      rw [hB] at z
      have : l.length * B ≤ (((List.range l.length).map D).length + ((List.range (m - l.length)).map fun j => D (l.length + j)).length) * B := Nat.mul_le_mul_right _ (by simp)
      exact Nat.le_trans (Nat.le_trans this z) h3
    · obtain ⟨j, hj, rfl⟩ := List.getElem_of_mem hy
      obtain ⟨_, _, _, h2, _⟩ := hq j _ (List.getElem?_eq_getElem hj)
      exact h2
/-! Structs: the fields from a place on. -/
def OpF (P : Program) (fs : List Field) (o : Nat) {α : Type} (d : Kd α) (Wf : α → Prop) : Prop :=
  ∀ {H : Type} {enc : TypeId × Value → H} {w : World} {base : Nat} {spare : Nat → Bool} {held : Bool} {n : Nat} {cs : List Value} {xs : List (DataW H × List MemPlace)},
    xs.length = fs.length → (∀ (i : Nat) (f : Field), fs[i]? = some f → DataW.trod enc P w base spare held n f.type ((cs.drop f.offset).take (P.cellsOf f.type)) = xs[i]?) → cs.length = o + d.sz →
      (∀ n ∈ DataW.weightsEach P (fs.map fun f : Field => f.type) (xs.map (·.1)), n ≤ reachBytes) → ∃ a : α, d.K w a (cs.drop o) ∧ Wf a
theorem opF_one {P : Program} {f : Field} {o : Nat} {α : Type} {d : Kd α} {Wf : α → Prop} (ho : f.offset = o) (hc : P.cellsOf f.type = d.sz) (h : Op P f.type d Wf) : OpF P [f] o d Wf := by
  intro H enc w base spare held n cs xs hl hf hcs hw
  match xs, hl with
  | [x], _ =>
    have h0 := hf 0 f rfl
    rw [ho, hc, List.take_of_length_le (by rw [List.length_drop]; omega)] at h0
    exact h h0 (fun n hn => hw n (by simp only [List.map_cons, List.map_nil, DataW.weightsEach, List.append_nil]; exact hn))
theorem opF_cons {P : Program} {f : Field} {fs : List Field} {o : Nat} {α β : Type} {d : Kd α} {d' : Kd β} {Wf : α → Prop} {Wg : β → Prop} (ho : f.offset = o) (hc : P.cellsOf f.type = d.sz) (h : Op P f.type d Wf) (hs : OpF P fs (o + d.sz) d' Wg) :
    OpF P (f :: fs) o (Kd.pair d d') (fun x => Wf x.1 ∧ Wg x.2) := by
  intro H enc w base spare held n cs xs hl hf hcs hw
  match xs, hl with
  | x :: xs, hl =>
    have hcs' : cs.length = o + (d.sz + d'.sz) := hcs
    have h0 := hf 0 f rfl
    rw [ho, hc] at h0
    obtain ⟨a, ha, hwa⟩ := h h0 (fun n hn => hw n (by simp only [List.map_cons, DataW.weightsEach]; exact List.mem_append_left _ hn))
    obtain ⟨b, hb, hwb⟩ := hs (cs := cs) (xs := xs) (by simpa using hl) (fun i g hg => by simpa using hf (i + 1) g (by simpa using hg)) (by omega) (fun n hn => hw n (by simp only [List.map_cons, DataW.weightsEach]; exact List.mem_append_right _ hn))
    refine ⟨(a, b), ⟨_, _, ?_, ha, hb⟩, hwa, hwb⟩
    rw [← List.drop_drop, List.take_append_drop]
theorem op_struct {P : Program} {t : TypeId} {fs : Array Field} {α : Type} {d : Kd α} {Wf : α → Prop} (ht : P.underlying t = some (.struct fs)) (hc : P.cellsOf t = d.sz) (h : OpF P fs.toList 0 d Wf) : Op P t d Wf := by
  intro H enc w base spare held fuel cs x htr hw
  obtain ⟨xs, n, _, rfl, hl, hxl, hf⟩ := DataW.trod_struct ht htr
  have := h (xs := xs) (cs := cs) (n := n) (by simpa using hxl) (fun i f hi => hf i f (by simpa using hi)) (by omega) (fun n hn => hw n (by rw [DataW.weights, ht]; exact hn))
  simpa using this
theorem op_iso {P : Program} {t : TypeId} {α β : Type} {d : Kd α} {Wf : α → Prop} (f : β → α) (g : α → β) (hfg : ∀ a, f (g a) = a) (h : Op P t d Wf) : Op P t (Kd.iso d f) (fun b => Wf (f b)) := by
  intro H enc w base spare held fuel cs x htr hw
  obtain ⟨a, ha, hwa⟩ := h htr hw
  exact ⟨g a, by show d.K w (f (g a)) cs; rw [hfg]; exact ha, by show Wf (f (g a)); rw [hfg]; exact hwa⟩
theorem op_imp {P : Program} {t : TypeId} {α : Type} {d : Kd α} {Wf Wg : α → Prop} (h : Op P t d Wf) (hi : ∀ a, Wf a → Wg a) : Op P t d Wg := by
  intro H enc w base spare held fuel cs x htr hw
  obtain ⟨a, ha, hwa⟩ := h htr hw
  exact ⟨a, ha, hi a hwa⟩
/-- An argument's own weights. -/
theorem own_weights {H : Type} {P : Program} {ts : List TypeId} {ds : List (DataW H)} (h : (DataW.weightsEach P ts ds).all (· ≤ reachBytes) = true) {j : Nat} {t : TypeId} {d : DataW H} (ht : ts[j]? = some t) (hd : ds[j]? = some d) : ∀ n ∈ d.weights P t, n ≤ reachBytes := by
  intro n hn
  have := List.all_eq_true.1 h _ (DataW.weights_mem_each ht hd n hn)
  simpa using this
/-- An argument: its cells. -/
theorem arg_open {H : Type} {enc : TypeId × Value → H} {P : Program} {w : World} {base : Nat} {spare : Nat → Bool} {held : Bool} {t : TypeId} {v : Value} {d : DataW H} {ps : List MemPlace} {α : Type} {k : Kd α} {Wf : α → Prop} (ho : Op P t k Wf) (h : DataW.Trod enc P w base spare held t v d ps) (hw : ∀ n ∈ d.weights P t, n ≤ reachBytes) : ∃ a : α, k.K w a v.cells.toList ∧ Wf a := by
  obtain ⟨fuel, hf⟩ := h
  exact ho hf hw
end Go.Proofs.YtnobhjpobnmiaaaDoor.Opens
