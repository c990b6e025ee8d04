/- OwnedEpochs, without memory: what was frozen is not Mine, nor can be frozen once more; it is Mine again just with a greater epoch; dropped it is Gone. -/
import Derived.Test.YtinjajpnbbknnaaAskOwnedEpochs
import Derived.Test.YtinjajpnbbknnaaRng1
namespace Go.Proofs.Ytinjajpnbbknnaa.Pure
open Go Go.RowKit Go.Proofs.Ytinjajpnbbknnaa.Q Go.Proofs.Ytinjajpnbbknnaa.PathF Go.Proofs.Ytinjajpnbbknnaa.Rng Go.Proofs.YtinjajpnbbknnaaW.PrintWords Go.Proofs.YtinjajpnbbknnaaW.PrintLast Go.Proofs.Ytinjajpnbbknnaa.OpensOwnedEpochs

theorem OwnedEpochs : OpensOwnedEpochs.Pure := by
  intro l p e hl hp he
  obtain ⟨hl, hl40, hw⟩ := hl
  obtain ⟨K, hK⟩ : ∃ K, K = 2 * l.length + 200000 := ⟨_, rfl⟩
  refine ⟨K + 1 + 1 + 1, ?_⟩
  unfold cantonlaw11_OwnedEpochs.f
  rw [head_is _ (by omega), Option.bind_some]
  obtain ⟨bb, hbb, hsz⟩ := great_is l (by omega) (fun x hx => by have := (hw x hx).1; omega) (K + 1 + 1 + 1) (by omega)
  rw [hbb, Option.bind_some]
  have stop : cantonlaw11_OwnedEpochs.j0 (K + 1 + 1 + 1) l p e true true = some true := by rw [cantonlaw11_OwnedEpochs.j0, if_pos rfl]
  by_cases c1 : bb = true
  · rw [if_pos c1, stop]
  · rw [if_neg c1]
    have hs := hsz (by simpa using c1)
    by_cases c2 : (p.size : Int) > 1000
    · rw [decide_eq_true c2, stop]
    · rw [decide_eq_false c2, cantonlaw11_OwnedEpochs.j0, if_neg (by simp), freeze_is l (by omega) p _ (by omega), Option.bind_some]
      have hcase : frzR l p = ([], false) ∨ ∃ s : S, RightM l ∧ isP p = true ∧ okE ⟨p, s.f1, 2⟩ = true ∧ frzR l p = (putL ⟨p, s.f1, 2⟩ l, true) ∧ Put l ⟨p, s.f1, 2⟩ (putL ⟨p, s.f1, 2⟩ l) := by
        unfold frzR
        cases ho : ofR l p with
        | none => exact .inl rfl
        | some s =>
          dsimp only
          by_cases c : s.f2 = 1
          · rw [if_pos c]
            have hR := (ofR_right ho).1
            have hm := ofO_some (ofR_right ho).2
            have hpp := in_left hm.isin
            have hsok := (okE_iff s).1 (hR.ok s hm.mem)
            have hok : okE ⟨p, s.f1, 2⟩ = true := okR hpp hsok.2.1 hsok.2.2.1 (by decide)
            rcases putR_cases hR hok with ⟨h1, _⟩ | ⟨h1, h2⟩
            · exact .inl h1
            · exact .inr ⟨s, hR, hpp, hok, h1, h2⟩
          · rw [if_neg c]; exact .inl rfl
      rcases hcase with hc | ⟨s, hR, hpp, hok, hc, hP⟩
      · rw [hc, if_neg (by simp), if_pos rfl]; rfl
      · rw [hc, if_pos rfl]
        dsimp only
        obtain ⟨x, hx⟩ : ∃ x : S, x = ⟨p, s.f1, 2⟩ := ⟨_, rfl⟩
        obtain ⟨a, ha⟩ : ∃ a, putL ⟨p, s.f1, 2⟩ l = a := ⟨_, rfl⟩
        rw [ha] at hP ⊢
        rw [← hx] at hP hok
        have hx0 : x.f0 = p := by rw [hx]
        have hx1 : x.f1 = s.f1 := by rw [hx]
        have hx2 : x.f2 = 2 := by rw [hx]
        clear hx ha hc
        have hRa := hP.right
        have hfa := hRa.few
        have hown := hP.own (by rw [hx0]; exact hpp)
        have hget := hP.get
        rw [hx0] at hown hget
        have hxok := (okE_iff x).1 hok
        obtain ⟨y, hy, hfy⟩ := of_is a p (by omega) (K + 1 + 1) (by omega)
        rw [hown] at hy
        rcases hy with ⟨_, h⟩ | ⟨i, rfl, hi, hxi⟩
        · cases h
        · have hxi := (Option.some.inj hxi).symm
          have hxi' : rd_T45 a (i : Int) = x := hxi
          rw [hfy, Option.bind_some, if_neg (by omega), if_neg (by omega), if_pos (by omega), if_pos (by omega), hxi', hx0, if_pos rfl, hx2]
          show cantonlaw11_OwnedEpochs.j1 (K + 1 + 1) p e true a (i : Int) false = some true
          rw [cantonlaw11_OwnedEpochs.j1, if_neg (by simp), if_pos (by omega), if_pos (by omega), hxi']
          rw [freeze_is a (by omega) p _ (by omega), Option.bind_some, install_is a (by omega) p e _ (by omega), Option.bind_some, w64 (by omega) (by omega), drop_is a (by omega) p _ _ (by omega), Option.bind_some, drop_is a (by omega) p _ _ (by omega), Option.bind_some]
          have hRaB := (right_iff a).2 hRa
          have hfz : frzR a p = ([], false) := by
            unfold frzR
            rw [hown]
            dsimp only
            rw [if_neg (by omega)]
          have hdn : drpR a p (x.f1 + 1) = ([], false) := by
            unfold drpR
            rw [if_pos hRaB, hget]
            dsimp only
            rw [if_neg (by omega)]
          have hput : ∀ z : S, z.f0 = p → okE z = true → putR a z = (putL z a, true) ∧ Put a z (putL z a) := fun z hz hzok => by
            rcases putR_cases hRa hzok with ⟨_, h1, _⟩ | h
            · rw [hz, hget] at h1; cases h1
            · exact h
          have hd3 : okE ⟨p, x.f1, 3⟩ = true := okR hpp hxok.2.1 hxok.2.2.1 (by decide)
          obtain ⟨hdp, hDP⟩ := hput ⟨p, x.f1, 3⟩ rfl hd3
          have hdr : drpR a p x.f1 = (putL ⟨p, x.f1, 3⟩ a, true) := by
            unfold drpR
            rw [if_pos hRaB, hget]
            dsimp only
            rw [if_pos ⟨hx2, rfl⟩, hdp]
          have hstc : staR (putL ⟨p, x.f1, 3⟩ a) p = 3 := by
            unfold staR
            rw [hDP.own hpp]
          have hfc := hDP.right.few
          have last : ∀ (b : List S) (q : Bool), (q = true → b.length ≤ 32 ∧ staR b p = 1) → cantonlaw11_OwnedEpochs.j2 (K + 1) p true b q (putL ⟨p, x.f1, 3⟩ a) false = some true := fun b q hq => by
            rw [cantonlaw11_OwnedEpochs.j2, if_neg (by simp), if_pos rfl, state_is _ (by omega) p K (by omega), Option.bind_some, if_pos hstc]
            cases q with
            | false => rw [if_neg (by simp)]
            | true =>
              obtain ⟨h1, h2⟩ := hq rfl
              rw [if_pos rfl, state_is _ (by omega) p K (by omega), Option.bind_some, h2]; rfl
          rw [hfz, if_neg (by simp), hdr, hdn]
          dsimp only
          by_cases c3 : e > x.f1
          · rw [if_pos c3]
            by_cases c4 : e ≤ 281474976710656
            · have hb1 : okE ⟨p, e, 1⟩ = true := okR hpp (by omega) c4 (by decide)
              obtain ⟨hip, hIP⟩ := hput ⟨p, e, 1⟩ rfl hb1
              have hin : insR a p e = (putL ⟨p, e, 1⟩ a, true) := by
                unfold insR
                rw [if_pos ⟨hRaB, hpp, by omega, c4⟩, hget]
                dsimp only
                rw [if_neg (by omega), hip]
              rw [hin, decide_eq_true c4, if_neg (by simp), if_pos rfl]
              refine last _ _ (fun _ => ⟨hIP.right.few, ?_⟩)
              unfold staR
              rw [hIP.own hpp]
            · have hin : insR a p e = ([], false) := by
                unfold insR
                rw [if_neg (fun h => c4 h.2.2.2)]
              rw [hin, decide_eq_false c4, if_neg (by simp), if_pos rfl]
              exact last _ _ (fun h => by cases h)
          · rw [if_neg c3]
            have hin : insR a p e = ([], false) := by
              unfold insR
              by_cases q : RightB a = true ∧ isP p = true ∧ 0 ≤ e ∧ e ≤ 281474976710656
              · rw [if_pos q, hget]
                dsimp only
                rw [if_pos (by omega)]
              · rw [if_neg q]
            rw [hin, if_neg (by simp), if_pos rfl]
            exact last _ _ (fun h => by cases h)
end Go.Proofs.Ytinjajpnbbknnaa.Pure
