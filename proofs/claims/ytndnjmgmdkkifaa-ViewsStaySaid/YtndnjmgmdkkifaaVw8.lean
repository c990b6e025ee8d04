/- Views in memory: an acknowledgement and a change, laid into their maps. -/
import Derived.Test.YtndnjmgmdkkifaaVw7
namespace Go.Proofs.Ytndnjmgmdkkifaa.Vw1
open Go Go.RowKit Go.Maps Go.Proofs Go.Proofs.Ytndnjmgmdkkifaa.New Go.Proofs.Ytndnjmgmdkkifaa.Vw Go.Proofs.Ytndnjmgmdkkifaa.Vw0 Go.Proofs.YtndnjmgmdkkifaaW.PrintWords Go.Proofs.YtndnjmgmdkkifaaW.PrintLast Go.Proofs.YtndnjmgmdkkifaaW.PrintMore
set_option linter.unusedVariables false
set_option linter.unusedSimpArgs false

theorem own_tight {W : World} {P : Program} {k : TypeId} {H : Type} {R : Value → Option (DataW H × List MemPlace)} {b n : Nat} {D : DataW H} (h : W.ownsMap P k R b n D) : W.ownsMap P k R b (Maps.size D) D := by
  obtain ⟨es, clock, hb, F, hs, hD⟩ := h
  refine ⟨es, clock, hb, F, ?_, hD⟩
  rw [hD]
  simp [Maps.size, length_sorted]
theorem getD_ne {α : Type} (l : List α) (i x : Nat) (v d : α) (h : i ≠ x) : (l.set x v).getD i d = l.getD i d := by
  rw [List.getD_eq_getElem?_getD, List.getD_eq_getElem?_getD, List.getElem?_set_ne (Ne.symm h)]
theorem isKey (i : Int) : WideAt.IsKeyLit (.int .i64 i) := trivial
theorem key_ne {i j : Int} (h : i ≠ j) : (Lit.int .i64 i) ≠ .int .i64 j := fun e => by cases e; exact h rfl
theorem cntH_put {H : Type} {D : DataW H} (hD : IsMap D) (x n : Nat) (hx : x < n) (d : DataW H) : cntH (D.put (.int .i64 (x : Int)) d) n = if Maps.has D (.int .i64 (x : Int)) = true then cntH D n else cntH D n + 1 := by
  have key : ∀ i : Nat, Maps.has (D.put (.int .i64 (x : Int)) d) (.int .i64 (i : Int)) = (Maps.has D (.int .i64 (i : Int)) || (i == x)) := fun i => by
    by_cases e : i = x
    · subst e; rw [has_put_same hD (isKey _)]; simp
    · rw [has_put_other (key_ne (by omega)), show (i == x) = false from beq_eq_false_iff_ne.2 e, Bool.or_false]
  unfold cntH
  cases hh : Maps.has D (.int .i64 (x : Int)) with
  | true =>
    rw [if_pos rfl]
    refine List.countP_congr fun i _ => ?_
    rw [key i]
    by_cases e : i = x
    · subst e; simp [hh]
    · simp [e]
  | false =>
    rw [if_neg (by simp)]
    have := count_strike (fun i : Nat => Maps.has (D.put (.int .i64 (x : Int)) d) (.int .i64 (i : Int))) n x hx (by rw [key x]; simp)
    rw [this]
    congr 1
    refine List.countP_congr fun i _ => ?_
    rw [key i]
    by_cases e : i = x
    · subst e; simp [hh]
    · simp [e]
theorem cntH_le {H : Type} (D : DataW H) (n : Nat) : cntH D n ≤ n := by
  have : cntH D n ≤ (List.range n).length := List.countP_le_length
  rwa [List.length_range] at this
theorem turned_fr {W W' : World} {p am cm b : Nat} (h : W.mapTurned W' b) (hb : b = am ∨ b = cm) (hpb : p ≠ b) : Fr W W' p am cm := by
  have hg := h.grown
  refine ⟨hg.size, fun k hk h1 h2 h3 => hg.block k hk (fun e => ?_), hg.os, hg.tape, hg.output, fun hp g hg2 => .inl (by rw [← LogB_of (hg.block p hp (fun e => by cases e; exact hpb rfl))]; exact hg2)⟩
  cases e
  rcases hb with e | e
  · exact h2 e
  · exact h3 e
theorem ack_put {W : World} {p am cm : Nat} {s : V} (h : VRep W p am cm s) (o : OkV s) (x : Nat) (hx : x < s.acked.length) (v : Int) (hv : (Lit.int .i64 v).wf = true) :
    ∃ W', (Instr.mapUpdate 70 (.map (some am)) (.int .i64 (x : Int)) (.int .i64 v)).run Try.prog W = .ok () W' ∧ VRep W' p am cm { s with acked := s.acked.set x v } ∧ Fr W W' p am cm := by
  have h5 : s.acked.length ≤ 5 := by have e1 := o.alen; have e2 := o.many; omega
  obtain ⟨n, D, hA, hn⟩ := h.ack
  obtain ⟨W', hrun, hown, htn⟩ := hA.own.store law3 u70 (by unfold maxLen; omega) (keyOf_int_mk u3 (wf64 x (by omega))) (plainElem_int u3 hv)
  have hF : Fr W W' p am cm := turned_fr htn (.inl rfl) (Ne.symm h.ne2.1)
  have hm := hA.own.isMap
  have hsz : Maps.size (D.put (.int .i64 (x : Int)) (.lit (.int .i64 v))) = cntH (D.put (.int .i64 (x : Int)) (.lit (.int .i64 v))) s.acked.length := by
    rw [cntH_put hm x _ hx, size_put (hA.own.tidy law3), hA.sz]
  have hOA : OA W' am (s.acked.set x v) (Maps.size (D.put (.int .i64 (x : Int)) (.lit (.int .i64 v)))) (D.put (.int .i64 (x : Int)) (.lit (.int .i64 v))) := by
    refine ⟨own_tight hown, fun i hi => ?_, fun i hi => ?_, by rw [List.length_set]; exact hsz⟩
    · rw [List.length_set] at hi
      by_cases e : i = x
      · subst e
        unfold aOf
        rw [atKey_put_same hm (isKey _)]
        simp [List.getD_eq_getElem?_getD, hi]
      · have := hA.at_ i hi
        unfold aOf at this ⊢
        rw [atKey_put_other (key_ne (by omega)), this]
        simp [List.getD_eq_getElem?_getD, List.getElem?_set, Ne.symm e]
    · rw [List.length_set]
      by_cases e : i = (x : Int)
      · omega
      · rw [has_put_other (key_ne e)] at hi
        exact hA.has i hi
  obtain ⟨⟨A, c, hb, hl⟩, _, hcg, hne⟩ := h
  have hpa : p ≠ am := fun e => by
    obtain ⟨es, cl, hh⟩ := own_kind hA.own
    rw [← e, show W.heap[p]? = _ from hb] at hh; cases hh
  have hg := htn.grown
  have hvr : VRep W p am cm s := ⟨⟨A, c, hb, hl⟩, ⟨n, D, hA, hn⟩, hcg, hne⟩
  refine ⟨W', hrun, ⟨⟨A, c, (hg.block p hvr.lt.1 (fun e => by cases e; exact hpa rfl)).trans hb, hl.fr hvr hF⟩, ⟨_, _, hOA, by rw [hsz]; exact Nat.le_trans (cntH_le _ _) h5⟩, ?_, hne⟩, hF⟩
  obtain ⟨m, E, hC, hm5⟩ := hcg
  exact ⟨m, E, hC.keep (hg.block cm hvr.lt.2.2 (fun e => by cases e; exact hne rfl)) (fun hr => hr.fr hvr hF), hm5⟩
theorem chg_put {W : World} {p am cm : Nat} {s : V} (h : VRep W p am cm s) (o : OkV s) (x : Nat) (hx : x < s.changes.length) (v : Int) (lg : Log) (A0 : Option Addr) (c0 : Nat) (hv : Rd W (.slice A0 lg.length c0) lg) :
    ∃ W', (Instr.mapUpdate 71 (.map (some cm)) (.int .i64 (x : Int)) (.agg #[.int .i64 v, .slice A0 lg.length c0])).run Try.prog W = .ok () W' ∧ VRep W' p am cm { s with changes := s.changes.set x (some (v, lg)) } ∧ Fr W W' p am cm := by
  have h5 : s.changes.length ≤ 5 := by have e1 := o.clen; have e2 := o.many; omega
  obtain ⟨n, D, hA, hn⟩ := h.chg
  obtain ⟨W', hrun, hown, htn⟩ := hA.own.store law3 u71 (by unfold maxLen; omega) (keyOf_int_mk u3 (wf64 x (by omega))) (cElem_mk v A0 lg.length c0)
  have hF : Fr W W' p am cm := turned_fr htn (.inr rfl) (Ne.symm h.ne2.2)
  have hm := hA.own.isMap
  have hsz := (size_put (hA.own.tidy law3) (k := .int .i64 (x : Int)) (.held (.agg #[.int .i64 v, .slice A0 lg.length c0]))).trans ((by rw [hA.sz] : _ = _).trans (cntH_put hm x _ hx (.held (.agg #[.int .i64 v, .slice A0 lg.length c0]))).symm)
  have hk : ∀ {v : Value} {l : Log}, Rd W v l → Rd W' v l := fun hr => hr.fr h hF
  have hOC : OC W' cm (s.changes.set x (some (v, lg))) (Maps.size (D.put (.int .i64 (x : Int)) (.held (.agg #[.int .i64 v, .slice A0 lg.length c0])))) (D.put (.int .i64 (x : Int)) (.held (.agg #[.int .i64 v, .slice A0 lg.length c0]))) := by
    refine ⟨own_tight hown, fun i hi hx2 => ?_, fun i y hi hx2 => ?_, fun i hi => ?_, by rw [List.length_set]; exact hsz⟩
    · rw [List.length_set] at hi
      by_cases e : i = x
      · subst e; simp [List.getD_eq_getElem?_getD, hi] at hx2
      · rw [has_put_other (key_ne (by omega))]
        refine hA.none_ i hi ?_
        exact (getD_ne _ _ _ _ _ e).symm.trans hx2
    · rw [List.length_set] at hi
      by_cases e : i = x
      · subst e
        have e2 : y = (v, lg) := by simp [List.getD_eq_getElem?_getD, hi] at hx2; exact hx2.symm
        subst e2
        exact ⟨has_put_same hm (isKey _) _, _, fun z => atKey_put_same hm (isKey _) _ z, _, rfl, hk hv⟩
      · obtain ⟨g1, w2, g2, g3⟩ := hA.some_ i y hi ((getD_ne _ _ _ _ _ e).symm.trans hx2)
        exact ⟨by rw [has_put_other (key_ne (by omega))]; exact g1, w2, fun z => by rw [atKey_put_other (key_ne (by omega))]; exact g2 z, g3.keep hk⟩
    · rw [List.length_set]
      by_cases e : i = (x : Int)
      · omega
      · rw [has_put_other (key_ne e)] at hi
        exact hA.has i hi
  have hvr := h
  obtain ⟨⟨A, c, hb, hl⟩, ⟨m, E, hOA, hm5⟩, _, hne⟩ := h
  have hpc : p ≠ cm := fun e => by
    obtain ⟨es, cl, hh⟩ := own_kind hA.own
    rw [← e, show W.heap[p]? = _ from hb] at hh; cases hh
  have hg := htn.grown
  exact ⟨W', hrun, ⟨⟨A, c, (hg.block p hvr.lt.1 (fun e => by cases e; exact hpc rfl)).trans hb, hk hl⟩, ⟨m, E, ⟨own_block hOA.own (hg.block am hvr.lt.2.1 (fun e => by cases e; exact hne rfl)), hOA.at_, hOA.has, hOA.sz⟩, hm5⟩, ⟨_, _, hOC, by rw [hsz]; exact Nat.le_trans (cntH_le _ _) h5⟩, hne⟩, hF⟩
theorem ack_look {W : World} {am n : Nat} {a : List Int} {D : Da} (h : OA W am a n D) (x : Nat) (hx : x < a.length) (hw : x ≤ 1000000) :
    (Instr.lookup 70 (.map (some am)) (.int .i64 (x : Int)) false).run Try.prog W = .ok (.int .i64 (a.getD x 0)) W := by
  have hd := h.at_ x hx
  obtain ⟨es, clock, hb, F, _, hD⟩ := h.own
  rcases Maps.fit_look false law3 u70 (zero3 W) hb F (keyOf_int_mk u3 (wf64 x hw)) with ⟨hrun, _, hat⟩ | ⟨e0, y, _, _, hrun, hRv, hat, _⟩
  · rw [← hD] at hat
    unfold aOf at hd
    rw [hat] at hd
    rw [hrun, ← hd]; rfl
  · rw [← hD] at hat
    obtain ⟨z, hz, hy, _⟩ := plainElem_int_inv u3 hRv
    unfold aOf at hd
    rw [hat] at hd
    have hy1 : y.1 = .lit (.int .i64 z) := congrArg Prod.fst hy
    rw [hy1] at hd
    rw [hrun, hz, ← hd]; rfl
theorem right_facts {s : V} {l : Ltr} (h : s.rightB l = true) : 0 ≤ l.normal ∧ l.normal ≤ l.view ∧ l.view ≤ 281474976710656 ∧ s.view ≤ l.view ∧ 1 ≤ l.kind ∧ l.kind ≤ 3 ∧ rightL l.log = true ∧ 0 ≤ l.len ∧ l.len ≤ 96 ∧ 0 ≤ l.stays ∧ l.stays ≤ 96 := by
  unfold V.rightB at h
  simpa only [Bool.and_eq_true, decide_eq_true_eq] using h
theorem other_facts {s : V} {n : Int} (h : s.otherB n = true) : 0 ≤ n ∧ n < s.many := by
  unfold V.otherB at h
  simp only [Bool.and_eq_true, decide_eq_true_eq] at h
  exact ⟨h.1, h.2.1⟩
theorem mem_set {α : Type} {l : List α} {i : Nat} {v y : α} (h : y ∈ l.set i v) : y ∈ l ∨ y = v := List.mem_or_eq_of_mem_set h
theorem okv_ack {s : V} (o : OkV s) (x : Nat) (v : Int) (h : 0 ≤ v ∧ v ≤ 96) : OkV { s with acked := s.acked.set x v } :=
  ⟨o.many, o.me, o.normal, o.view, o.log, o.stays, by show (s.acked.set x v).length = _; rw [List.length_set]; exact o.alen, fun n hn => (mem_set hn).elim (o.ack n) (fun e => by rw [e]; exact h), o.clen, o.chg⟩
theorem okv_chg {s : V} (o : OkV s) (x : Nat) (v : Int) (lg : Log) (h : 0 ≤ v ∧ v ≤ 281474976710656) (hl : rightL lg = true) : OkV { s with changes := s.changes.set x (some (v, lg)) } :=
  ⟨o.many, o.me, o.normal, o.view, o.log, o.stays, o.alen, o.ack, by show (s.changes.set x (some (v, lg))).length = _; rw [List.length_set]; exact o.clen, fun c hc y hy => (mem_set hc).elim (fun hc => o.chg c hc y hy) (fun e => by rw [e] at hy; cases hy; exact ⟨h.1, h.2, hl⟩)⟩
theorem imax_range {a b : Int} (h : 0 ≤ a ∧ a ≤ 96) (k : 0 ≤ b ∧ b ≤ 96) : 0 ≤ imax a b ∧ imax a b ≤ 96 := by unfold imax; split <;> omega
theorem imax_is (a b : Int) : imax a b = max a b := by unfold imax; split <;> omega
theorem imin_is (a b : Int) : imin a b = min a b := by unfold imin; split <;> omega
theorem wf_96 {v : Int} (h : 0 ≤ v ∧ v ≤ 96) : (Lit.int .i64 v).wf = true := by
  obtain ⟨k, rfl⟩ : ∃ k : Nat, v = (k : Int) := ⟨v.toNat, by omega⟩
  exact wf64 k (by omega)
theorem okv_stays {s : V} (o : OkV s) (n : Int) (h : 0 ≤ n ∧ n ≤ 96) : OkV { s with stays := n } := ⟨o.many, o.me, o.normal, o.view, o.log, h, o.alen, o.ack, o.clen, o.chg⟩
theorem getD_range {s : V} (o : OkV s) (i : Nat) : 0 ≤ s.acked.getD i 0 ∧ s.acked.getD i 0 ≤ 96 := by
  rw [List.getD_eq_getElem?_getD]
  cases h : s.acked[i]? with
  | none => simp
  | some v => exact o.ack v (List.mem_of_getElem? h)
theorem okv_got {t s : V} (o : OkV t) (fr : Int) (l : Ltr) (h : s.rightB l = true) : OkV (t.got fr l) := by
  obtain ⟨f1, f2, f3, f4, f5, f6, f7, f8, f9, f10, f11⟩ := right_facts h
  have hll := rightL_len f7
  unfold V.got
  split
  · have key : ∀ u : V, OkV u → OkV { u with stays := imax u.stays (imin l.stays u.log.length) } := fun u hu => okv_stays hu _ (imax_range hu.stays (by
      have := rightL_len hu.log
      unfold imin; split <;> omega))
    dsimp only
    split
    · exact key _ (okv_adopt o l.log f7)
    · exact key _ o
  · split
    · exact okv_reckon (okv_ack o _ _ (imax_range (getD_range o _) ⟨f8, f9⟩))
    · split
      · exact okv_count (okv_chg o _ _ _ ⟨f1, by omega⟩ f7)
      · exact o
theorem okv_take {s : V} (o : OkV s) (fr : Int) (l : Ltr) : OkV (s.take fr l).1 := by
  unfold V.take
  split
  · next h =>
    simp only [Bool.and_eq_true] at h
    obtain ⟨f1, f2, f3, f4, f5, f6, f7, f8, f9, f10, f11⟩ := right_facts h.2
    dsimp only
    split
    · exact okv_got (okv_fresh o _ f4 f3) fr l h.2
    · exact okv_got o fr l h.2
  · exact o
end Go.Proofs.Ytndnjmgmdkkifaa.Vw1
