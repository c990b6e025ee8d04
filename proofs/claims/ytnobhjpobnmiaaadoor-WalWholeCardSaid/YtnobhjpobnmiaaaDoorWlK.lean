/- A region that draws its order, of which one operation comes last: what a load reads need not hold behind that one. -/
import Derived.Test.YtnobhjpobnmiaaaDoorSk0
import Derived.OrdersHeld
import Derived.Deep.DrawnRows
import Derived.Deep.RegionLaw
namespace Go.Proofs.YtnobhjpobnmiaaaDoor.Wl
open Go Go.RowKit
set_option linter.unusedVariables false
set_option linter.unusedSimpArgs false
section
variable {P : Program} {ops : Array Oper} {Q : Exit → Act → World → Prop} {md : Region.Mode} {S : World → Prop} {k : Nat}
/-- what has come up bears all that it waits for -/
def Closed (md : Region.Mode) (ops : Array Oper) (listed : Array Bool) : Prop :=
  ∀ j oj, ops[j]? = some oj → listed.getD j false = true → ∀ e ∈ oj.after, Region.binds md e = true → listed.getD e.on false = true
theorem getD_set_self {listed : Array Bool} {i : Nat} (h : listed.getD i true = false) : (listed.setIfInBounds i true).getD i false = true := by
  have hlt : i < listed.size := by
    rcases Nat.lt_or_ge i listed.size with h' | h'
    · exact h'
    · simp [Array.getElem?_eq_none h'] at h
  simp [hlt]
theorem closed_step {listed : Array Bool} {i : Nat} (h : Closed md ops listed) (hr : i ∈ Region.ready md ops listed) : Closed md ops (listed.setIfInBounds i true) := by
  obtain ⟨h0, oi, hoi, hall⟩ := mem_ready.1 hr
  intro j oj hoj hj e he hb
  by_cases hji : j = i
  · subst hji
    rw [hoi] at hoj
    cases hoj
    exact getD_set_true (hall e he hb)
  · rw [getD_set_ne false (Ne.symm hji)] at hj
    exact getD_set_true (h j oj hoj hj e he hb)
/-- a way from k back to i, each waiting for the next -/
def chain (md : Region.Mode) (ops : Array Oper) (i : Nat) : Nat → List Nat → Bool
  | k, [] => k == i
  | k, e :: l => (match ops[k]? with | some o => o.after.any fun x => Region.binds md x && x.on == e | none => false) && chain md ops i e l
theorem chain_listed {listed : Array Bool} (h : Closed md ops listed) {i : Nat} : ∀ (l : List Nat) (k : Nat), chain md ops i k l = true → listed.getD k false = true → listed.getD i false = true
  | [], k, hc, hk => by
    unfold chain at hc
    rw [← eq_of_beq hc]
    exact hk
  | e :: l, k, hc, hk => by
    unfold chain at hc
    rw [Bool.and_eq_true] at hc
    obtain ⟨h1, h2⟩ := hc
    refine chain_listed h l e h2 ?_
    cases ho : ops[k]? with
    | none => rw [ho] at h1; cases h1
    | some o =>
      rw [ho] at h1
      simp only [Array.any_eq_true', Bool.and_eq_true] at h1
      obtain ⟨x, hx, hb, he⟩ := h1
      rw [← eq_of_beq he]
      exact h k o ho hk x hx hb
theorem chain_ready {listed : Array Bool} (h : Closed md ops listed) {i : Nat} {l : List Nat} (hl : l ≠ []) (hc : chain md ops i k l = true) (hi : listed.getD i true = false) : k ∉ Region.ready md ops listed := by
  intro hr
  have h2 := closed_step h hr
  have h3 := getD_set_self (mem_ready.1 hr).1
  have h4 : listed.getD i false = true := by
    cases l with
    | nil => exact absurd rfl hl
    | cons e l =>
      unfold chain at hc
      rw [Bool.and_eq_true] at hc
      obtain ⟨h1, h2⟩ := hc
      refine chain_listed h l e h2 ?_
      obtain ⟨h0, o, ho, hall⟩ := mem_ready.1 hr
      rw [ho] at h1
      simp only [Array.any_eq_true', Bool.and_eq_true] at h1
      obtain ⟨x, hx, hb, he⟩ := h1
      rw [← eq_of_beq he]
      exact hall x hx hb
  rcases Nat.lt_or_ge i listed.size with h' | h'
  · simp [h'] at hi h4; rw [hi] at h4; cases h4
  · simp [Array.getElem?_eq_none h'] at h4
/-- whichever order is picked; behind each operation but k S is shown -/
def wpAnyK (P : Program) (md : Region.Mode) (ops : Array Oper) (Q : Exit → Act → World → Prop) (S : World → Prop) (k : Nat) : Nat → Array Bool → Act → World → Prop
  | 0, listed, a, w => Region.ready md ops listed = [] ∧ Q .normal a w
  | fuel + 1, listed, a, w =>
    (Region.ready md ops listed = [] → Q .normal a w) ∧
    ∀ i ∈ Region.ready md ops listed, wpOp P ops Q i (fun a' w' => ((listed.setIfInBounds i true).getD k false = false → S w') ∧ wpAnyK P md ops Q S k fuel (listed.setIfInBounds i true) a' w') a w
theorem wpAny_of_K : ∀ (fuel : Nat) (listed : Array Bool) (a : Act) (w : World), wpAnyK P md ops Q S k fuel listed a w → wpAny P md ops Q fuel listed a w
  | 0, _, _, _, h => h
  | fuel + 1, _, _, _, h => ⟨h.1, fun i hi => wpOp_mono (fun a' w' h' => wpAny_of_K fuel _ a' w' h'.2) (h.2 i hi)⟩
theorem wpAnyK_first {i : Nat} {oi : Oper} {v : Value} (hi : ops[i]? = some oi) (hsel : ∀ (j : Nat) (o : Oper) cs b, ops[j]? = some o → o.op ≠ .select cs b)
    (hQ : ∀ c a w, Q (.panic c) (a.put oi.dst v) w → Q (.panic c) a w) {l : List Nat} (hl : l ≠ []) (hch : chain md ops i k l = true) (hki : k ≠ i) :
    ∀ (fuel : Nat) (listed : Array Bool) (a : Act) (w : World), Closed md ops listed →
      (∀ j oj, ops[j]? = some oj → j ≠ i → listed.getD j true = false → (∀ e ∈ oj.after, Region.binds md e = true → e.on ≠ i) → oi.apart ops oj = true) →
      i ∈ Region.ready md ops listed → YieldsIf P ops S oi v a → S w →
      wpAnyK P md ops Q S k fuel (listed.setIfInBounds i true) (a.put oi.dst v) w → wpAnyK P md ops Q S k (fuel + 1) listed a w := by
  intro fuel
  induction fuel with
  | zero =>
    intro listed a w hcl _ hr hy hS H
    refine ⟨fun h => (by rw [h] at hr; cases hr), fun j hj => ?_⟩
    by_cases hji : j = i
    · subst hji; exact hy.wpOp hi hS ⟨fun _ => hS, H⟩
    · have := ready_mono hj hji
      rw [H.1] at this
      cases this
  | succ fuel ih =>
    intro listed a w hcl hfree hr hy hS H
    refine ⟨fun h => (by rw [h] at hr; cases hr), fun j hj => ?_⟩
    by_cases hji : j = i
    · subst hji; exact hy.wpOp hi hS ⟨fun _ => hS, H⟩
    · have hjk : j ≠ k := fun e => by subst e; exact chain_ready hcl hl hch (mem_ready.1 hr).1 hj
      have hkl : listed.getD k false = false := by
        cases hc : listed.getD k false with
        | false => rfl
        | true =>
          have h4 := chain_listed hcl l k hch hc
          have hi0 := (mem_ready.1 hr).1
          rcases Nat.lt_or_ge i listed.size with h' | h'
          · simp [h'] at hi0 h4; rw [hi0] at h4; cases h4
          · simp [Array.getElem?_eq_none h'] at h4
      have hks : ((listed.setIfInBounds i true).setIfInBounds j true).getD k false = false := by rw [getD_set_ne false hjk, getD_set_ne false (Ne.symm hki)]; exact hkl
      have h1 := H.2 j (ready_mono hj hji)
      obtain ⟨hjun, oj, hoj, hall⟩ := mem_ready.1 hj
      have hnot : ∀ e ∈ oj.after, Region.binds md e = true → e.on ≠ i := fun e he hb heq => by
        have h1 := hall e he hb
        have h0 := (mem_ready.1 hr).1
        rw [heq] at h1
        rcases Nat.lt_or_ge i listed.size with h' | h'
        · simp [h'] at h0 h1; rw [h0] at h1; cases h1
        · simp [Array.getElem?_eq_none h'] at h1
      have h2 := wpOp_putIf hoj (hfree j oj hoj hji hjun hnot) (fun cs b => hsel i oi cs b hi) (fun cs b => hsel j oj cs b hoj) hQ hy h1
      have hfree' : ∀ k ok, ops[k]? = some ok → k ≠ i → (listed.setIfInBounds j true).getD k true = false →
          (∀ e ∈ ok.after, Region.binds md e = true → e.on ≠ i) → oi.apart ops ok = true := fun k ok hk hki hun hno => by
        refine hfree k ok hk hki ?_ hno
        by_cases hjk : j = k
        · subst hjk; exact hjun
        · rw [getD_set_ne true hjk] at hun; exact hun
      refine wpOp_mono (fun a' w' h3 => ⟨fun _ => h3.2.1 hks, ih (listed.setIfInBounds j true) a' w' (closed_step hcl hj) hfree' (ready_mono hr (Ne.symm hji)) h3.1 (h3.2.1 hks) ?_⟩) h2
      rw [Array.setIfInBounds_comm _ _ hji]
      exact h3.2.2
/-- is what has come up closed? -/
def closedB (md : Region.Mode) (ops : Array Oper) (listed : Array Bool) : Bool :=
  (List.range ops.size).all fun j => !listed.getD j false || ((ops[j]?).map (·.after.all fun e => !Region.binds md e || listed.getD e.on false)).getD true
theorem closedB_spec {listed : Array Bool} (h : closedB md ops listed = true) : Closed md ops listed := by
  intro j oj hoj hj e he hb
  have hlt : j < ops.size := (Array.getElem?_eq_some_iff.1 hoj).1
  unfold closedB at h
  have h1 := (List.all_eq_true.1 h) j (List.mem_range.2 hlt)
  rw [hj, hoj] at h1
  simp only [Bool.not_true, Bool.false_or, Option.map_some, Option.getD_some, Array.all_eq_true_iff_forall_mem] at h1
  have h2 := h1 e he
  rw [hb] at h2
  simpa using h2
/-- what may be asked of number i when it is taken first -/
def takes (md : Region.Mode) (ops : Array Oper) (listed : Array Bool) (i k : Nat) (l : List Nat) : Bool :=
  Region.noSelect ops && (Region.free md ops listed i && ((Region.ready md ops listed).contains i && (closedB md ops listed && (chain md ops i k l && (!l.isEmpty && k != i)))))
/-- the same, closed to the checker -/
structure WK (P : Program) (md : Region.Mode) (ops : Array Oper) (Q : Exit → Act → World → Prop) (S : World → Prop) (k fuel : Nat) (listed : Array Bool) (a : Act) (w : World) : Prop where
  out : wpAnyK P md ops Q S k fuel listed a w
theorem wpAnyK_take {i : Nat} {oi : Oper} {v : Value} {fuel : Nat} {listed : Array Bool} {a : Act} {w : World} (l : List Nat) (hi : ops[i]? = some oi)
    (ht : takes md ops listed i k l = true)
    (hQ : ∀ c a w, Q (.panic c) (a.put oi.dst v) w → Q (.panic c) a w) (hy : YieldsIf P ops S oi v a) (hS : S w)
    (h : WK P md ops Q S k fuel (listed.setIfInBounds i true) (a.put oi.dst v) w) : WK P md ops Q S k (fuel + 1) listed a w := by
  unfold takes at ht
  simp only [Bool.and_eq_true] at ht
  obtain ⟨h1, h2, h3, h4, h5, h6, h7⟩ := ht
  exact ⟨wpAnyK_first hi (Region.noSelect_spec h1) hQ (l := l) (fun e => by subst e; cases h6) h5 (fun e => by subst e; simp at h7) fuel listed a w (closedB_spec h4) (Region.free_spec hi h2) (by simpa using h3) hy hS h.out⟩
/-- number i is carried out, closed to the checker -/
structure SK (P : Program) (md : Region.Mode) (ops : Array Oper) (Q : Exit → Act → World → Prop) (S : World → Prop) (k fuel : Nat) (listed : Array Bool) (a : Act) (w : World) (i : Nat) : Prop where
  out : wpOp P ops Q i (fun a' w' => ((listed.setIfInBounds i true).getD k false = false → S w') ∧ WK P md ops Q S k fuel (listed.setIfInBounds i true) a' w') a w
theorem sk_of {i : Nat} {fuel : Nat} {listed : Array Bool} {a : Act} {w : World} {o : Oper} (hi : ops[i]? = some o) (hg : o.guard = none)
    (h : o.wp P a w (fun a' w' => ((listed.setIfInBounds i true).getD k false = false → S w') ∧ WK P md ops Q S k fuel (listed.setIfInBounds i true) a' w') Q) : SK P md ops Q S k fuel listed a w i := by
  refine ⟨?_⟩
  unfold Go.wpOp
  simp only [hi]
  have hw : Region.wanted o (yielded ops a.tmps) = true := by simp [Region.wanted, hg]
  rw [if_pos hw]
  exact .inl h
theorem SK.use {i : Nat} {fuel : Nat} {listed : Array Bool} {a : Act} {w : World} (h : SK P md ops Q S k fuel listed a w i) :
    wpOp P ops Q i (fun a' w' => ((listed.setIfInBounds i true).getD k false = false → S w') ∧ wpAnyK P md ops Q S k fuel (listed.setIfInBounds i true) a' w') a w := wpOp_mono (fun a w h => ⟨h.1, h.2.out⟩) h.out
/-- those two that may come up -/
theorem wpAnyK_two {i j : Nat} {fuel : Nat} {listed : Array Bool} {a : Act} {w : World} (hr : Region.ready md ops listed = [i, j])
    (h : SK P md ops Q S k fuel listed a w i) (h2 : SK P md ops Q S k fuel listed a w j) : WK P md ops Q S k (fuel + 1) listed a w := by
  refine ⟨⟨fun h0 => (by rw [hr] at h0; cases h0), fun n hn => ?_⟩⟩
  rw [hr] at hn
  rcases List.mem_cons.1 hn with hn | hn
  · subst hn
    exact h.use
  · have hn := List.mem_singleton.1 hn
    subst hn
    exact h2.use
/-- the one that may come up -/
theorem wpAnyK_one {i : Nat} {fuel : Nat} {listed : Array Bool} {a : Act} {w : World} (hr : Region.ready md ops listed = [i])
    (h : SK P md ops Q S k fuel listed a w i) : WK P md ops Q S k (fuel + 1) listed a w := by
  refine ⟨⟨fun h0 => (by rw [hr] at h0; cases h0), fun j hj => ?_⟩⟩
  rw [hr] at hj
  have hj := List.mem_singleton.1 hj
  subst hj
  exact h.use
theorem wpAnyK_done {listed : Array Bool} {a : Act} {w : World} (hr : Region.ready md ops listed = []) (h : Q .normal a w) : ∀ fuel, WK P md ops Q S k fuel listed a w
  | 0 => ⟨⟨hr, h⟩⟩
  | _ + 1 => ⟨⟨fun _ => h, by rw [hr]; simp⟩⟩
theorem wp_region_K {id : Nat} {a : Act} {w : World} (S : World → Prop) (k : Nat) (hm : P.follows .mixedOrders = true)
    (h : WK P .any ops Q S k ops.size (Array.replicate ops.size false) a w.drew) : (Code.region id ops true).wp P Q a w :=
  wp_region_any hm (wpAny_of_K _ _ _ _ h.out)
/-- an operation that yields a value -/
theorem wp_val {o : Oper} {a : Act} {w w' : World} {K : Act → World → Prop} {v : Value} (hr : (execOp a.eval o).run P w = .ok (.value v) w') (h : K (a.put o.dst v) w') : o.wp P a w K Q := by
  unfold Oper.wp
  rw [hr]
  exact h
theorem yi_val {o : Oper} {a : Act} {v : Value} (hg : o.guard = none) (h : ∀ w, S w → (execOp a.eval o).run P w = .ok (.value v) w) : YieldsIf P ops S o v a :=
  .inl ⟨by simp [Region.wanted, hg], h⟩
/-- an operation that yields nothing -/
theorem wp_skip {o : Oper} {a : Act} {w w' : World} {K : Act → World → Prop} (hr : (execOp a.eval o).run P w = .ok .skip w') (h : K (a.put o.dst undef) w') : o.wp P a w K Q := by
  unfold Oper.wp
  rw [hr]
  exact h
/-- the last one, a store -/
theorem wk_last {fuel : Nat} {listed : Array Bool} {a : Act} {w w' : World} {o : Oper} (hi : ops[k]? = some o) (hg : o.guard = none) (hd : o.dst = none) (hr : Region.ready md ops listed = [k]) (hr2 : Region.ready md ops (listed.setIfInBounds k true) = [])
    (hrun : (execOp a.eval o).run P w = .ok .skip w') (h : Q .normal a w') : WK P md ops Q S k (fuel + 1) listed a w := by
  refine wpAnyK_one hr (sk_of hi hg (wp_skip hrun ⟨fun h => ?_, ?_⟩))
  · rw [getD_set_self (mem_ready.1 (by rw [hr]; exact List.mem_singleton.2 rfl)).1] at h
    cases h
  · refine wpAnyK_done hr2 ?_ _
    rw [hd]
    exact h
/-- the last one, a value -/
theorem wk_lastv {i : Nat} {fuel : Nat} {listed : Array Bool} {a : Act} {w w' : World} {o : Oper} {v : Value} {d : Nat} (hi : ops[i]? = some o) (hg : o.guard = none) (hd : o.dst = some d) (hr : Region.ready md ops listed = [i]) (hr2 : Region.ready md ops (listed.setIfInBounds i true) = []) (hk : listed.getD k false = true)
    (hrun : (execOp a.eval o).run P w = .ok (.value v) w') (h : Q .normal (a.put (some d) v) w') : WK P md ops Q S k (fuel + 1) listed a w := by
  refine wpAnyK_one hr (sk_of hi hg (wp_val hrun ⟨fun h => ?_, ?_⟩))
  · rw [getD_set_true hk] at h
    cases h
  · refine wpAnyK_done hr2 ?_ _
    rw [hd]
    exact h
/-- a call -/
theorem wp_calln {o : Oper} {a : Act} {w : World} {K : Act → World → Prop} {f : Nat} {fn : Func} (hfn : P.funcs[f]? = some fn) (hnm : ¬ fn.name = "runtime.NumGoroutine") (hbd : ¬ fn.body = none) {xs : Array Operand} {tys : Array TypeId} {us : Array Value}
    (ho : o.op = .call { callee := .value (.func f), args := xs, argTypes := tys }) (hx : xs.map a.eval = us) {R : Value → World → Prop} (hc : Calls P f us w fun e w' => ∃ r, e = .returned r ∧ R r w')
    (h : ∀ r w', R r w' → K (a.put o.dst r) w') : o.wp P a w K Q := by
  unfold Oper.wp
  have hf : a.eval (.func f) = .func (.func f) #[] #[] := rfl
  simp only [execOp, ho, resolve, invoke, hx, hf]
  simp [Result.andThen, Deferred.ofValue, callFunc, hfn, hnm, hbd]
  refine hc.mono ?_
  rintro e w' ⟨r, rfl, hp⟩
  exact h r w' hp
/-- a call of one argument -/
theorem wp_call1 {o : Oper} {a : Act} {w : World} {K : Act → World → Prop} {f : Nat} {fn : Func} (hfn : P.funcs[f]? = some fn) (hnm : ¬ fn.name = "runtime.NumGoroutine") (hbd : ¬ fn.body = none) (x : Operand) {ty : TypeId} {u : Value}
    (ho : o.op = .call { callee := .value (.func f), args := #[x], argTypes := #[ty] }) (hx : a.eval x = u) {R : Value → World → Prop} (hc : Calls P f #[u] w fun e w' => ∃ r, e = .returned r ∧ R r w')
    (h : ∀ r w', R r w' → K (a.put o.dst r) w') : o.wp P a w K Q := by
  unfold Oper.wp
  have hf : a.eval (.func f) = .func (.func f) #[] #[] := rfl
  simp [execOp, ho, resolve, invoke, hx, hf, Result.andThen, Deferred.ofValue, callFunc, hfn, hnm, hbd]
  refine hc.mono ?_
  rintro e w' ⟨r, rfl, hp⟩
  exact h r w' hp
theorem sk_val {i : Nat} {fuel : Nat} {listed : Array Bool} {a : Act} {w w' : World} {o : Oper} {v : Value} (hi : ops[i]? = some o) (hg : o.guard = none) (hr : (execOp a.eval o).run P w = .ok (.value v) w')
    (h : ((listed.setIfInBounds i true).getD k false = false → S w') ∧ WK P md ops Q S k fuel (listed.setIfInBounds i true) (a.put o.dst v) w') : SK P md ops Q S k fuel listed a w i := sk_of hi hg (wp_val hr h)
theorem sk_skip {i : Nat} {fuel : Nat} {listed : Array Bool} {a : Act} {w w' : World} {o : Oper} (hi : ops[i]? = some o) (hg : o.guard = none) (hd : o.dst = none) (hr : (execOp a.eval o).run P w = .ok .skip w')
    (h : ((listed.setIfInBounds i true).getD k false = false → S w') ∧ WK P md ops Q S k fuel (listed.setIfInBounds i true) a w') : SK P md ops Q S k fuel listed a w i := sk_of hi hg (wp_skip hr (by rw [hd]; exact h))
theorem sk_calln {i : Nat} {fuel : Nat} {listed : Array Bool} {a : Act} {w : World} {o : Oper} {f : Nat} {fn : Func} (hi : ops[i]? = some o) (hg : o.guard = none) (hfn : P.funcs[f]? = some fn) (hnm : ¬ fn.name = "runtime.NumGoroutine") (hbd : ¬ fn.body = none) {xs : Array Operand} {tys : Array TypeId} {us : Array Value}
    (ho : o.op = .call { callee := .value (.func f), args := xs, argTypes := tys }) (hx : xs.map a.eval = us) {R : Value → World → Prop} (hc : Calls P f us w fun e w' => ∃ r, e = .returned r ∧ R r w')
    (h : ∀ r w', R r w' → ((listed.setIfInBounds i true).getD k false = false → S w') ∧ WK P md ops Q S k fuel (listed.setIfInBounds i true) (a.put o.dst r) w') : SK P md ops Q S k fuel listed a w i := sk_of hi hg (wp_calln hfn hnm hbd ho hx hc h)
end
/-- what an activation has in its slots, behind a put -/
theorem eval_put_self {a : Act} {d : Nat} (v : Value) (h : d < a.tmps.size) : (a.put (some d) v).eval (.tmp d) = v := by
  simp [Act.eval, Act.put, h]
theorem eval_put_ne {a : Act} {d e : Nat} (v : Value) (h : d ≠ e) : (a.put (some d) v).eval (.tmp e) = a.eval (.tmp e) := by
  simp [Act.eval, Act.put, Array.getElem?_setIfInBounds_ne h]
theorem size_put (a : Act) (d : Option Nat) (v : Value) : (a.put d v).tmps.size = a.tmps.size := by
  cases d <;> simp [Act.put]
end Go.Proofs.YtnobhjpobnmiaaaDoor.Wl
