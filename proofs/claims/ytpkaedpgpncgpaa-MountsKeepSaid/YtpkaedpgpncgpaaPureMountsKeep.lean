/- MountsKeep, without memory: a Begin changes no directory's Group; a Flip just that of the directories of its mount. -/
import Derived.Test.YtpkaedpgpncgpaaAskMountsKeep
import Derived.Test.YtpkaedpgpncgpaaMRef
import Derived.Test.YtpkaedpgpncgpaaMnt3
import Derived.Test.YtpkaedpgpncgpaaQx6
namespace Go.Proofs.Ytpkaedpgpncgpaa.Pure
open Go Go.RowKit Go.Proofs.Ytpkaedpgpncgpaa.Q Go.Proofs.Ytpkaedpgpncgpaa.PathF Go.Proofs.Ytpkaedpgpncgpaa.Mnt Go.Proofs.Ytpkaedpgpncgpaa.MBegin Go.Proofs.YtpkaedpgpncgpaaW.PrintWords Go.Proofs.YtpkaedpgpncgpaaW.PrintLast Go.Proofs.Ytpkaedpgpncgpaa.OpensMountsKeep

theorem keep_head (k : Nat) (hk : 50 ≤ k) : cantonlaw14_head.f k = some true := by
  obtain ⟨m, rfl⟩ : ∃ m, k = 50 + m := ⟨k - 50, by omega⟩
  exact cantonlaw14_head.mono_le 50 m true cantonlaw14_head.at50
/-- a Begin that is OK changes no directory's group -/
theorem begin_keeps {l m : List S} {p r2 : ByteArray} {d r3 r4 r5 : Int} (h : BeginR l p d m r2 r3 r4 r5 0) {dir : ByteArray} {y z : S} (hy : OfM m dir y) (hz : OfM l dir z) : y.f1 = z.f1 := by
  obtain ⟨u, hu⟩ : ∃ u : Int, u = 0 := ⟨0, rfl⟩
  rw [← hu] at h
  cases h with
  | bad h => omega
  | same h => rw [ofM_only h.1.up hy hz]
  | busy h => omega
  | there h => omega
  | many h => omega
  | new h hb a ha ht hm he =>
    rcases of_put (x := ⟨p, (rd l (a : Int)).f1, (rd l (a : Int)).f2, d⟩) h.1 rfl hy hz with ⟨rfl, hin, hs⟩ | ⟨rfl, _⟩
    · show (rd l (a : Int)).f1 = z.f1
      have hq := ofM ha
      have h1 := hz.most _ hq.mem (in_trans hin hq.isin)
      have h2 := hq.most _ hz.mem (in_chain hz.isin hin hs)
      have h3 := in_eq (in_chain (in_trans hin hq.isin) hz.isin h1) h2
      rw [uniq h.1.up hq.mem hz.mem h3.symm]
    · rfl
theorem keep2 (k : Nat) (p : ByteArray) (tg : Int) (b : List S) (a : Nat) (ha : a < b.length) (z : S) (h0 : (rd b (a : Int)).f0 = z.f0) (h1 : z.f0 = p → (rd b (a : Int)).f1 = tg) (h2 : z.f0 ≠ p → rd b (a : Int) = z) :
    cantonlaw14_MountsKeep.j2 (k + 1) p tg true b (a : Int) false z.f0 z.f1 z.f2 z.f3 = some true := by
  rw [cantonlaw14_MountsKeep.j2, if_neg (by simp), if_pos (by omega), if_pos (by omega)]
  show (if (rd b (a : Int)).f0.toList = z.f0.toList then (if z.f0.toList = p.toList then (if (rd b (a : Int)).f1 = tg then _ else _) else (if (!((rd b (a : Int)).f0.toList == z.f0.toList) || (!((rd b (a : Int)).f1 == z.f1) || (!((rd b (a : Int)).f2 == z.f2) || !((rd b (a : Int)).f3 == z.f3)))) = true then _ else _)) else _) = _
  rw [if_pos (by rw [h0])]
  by_cases c : z.f0 = p
  · rw [if_pos (by rw [c]), if_pos (h1 c)]
  · rw [if_neg (fun e => c (L_inj (by rw [← toL, ← toL, e]))), h2 c, if_neg (by simp)]
theorem keep1 (k : Nat) (hk : 60001 ≤ k) (l b : List S) (p : ByteArray) (ep tg : Int) (dir : ByteArray) (hd : isP dir = true) (hR : RightM l) (g : Int) (hF : FlipR l p ep tg b g) (z : S) (hz : OfM l dir z) :
    cantonlaw14_MountsKeep.j1 (k + 1) p tg dir true b g z.f0 z.f1 z.f2 z.f3 = some true := by
  obtain ⟨k, rfl⟩ : ∃ m, k = m + 1 := ⟨k - 1, by omega⟩
  rw [cantonlaw14_MountsKeep.j1]
  by_cases c : g = 0
  · rw [if_pos c]
    have main : RightM b ∧ ∀ y, OfM b dir y → y.f0 = z.f0 ∧ (z.f0 = p → y.f1 = tg) ∧ (z.f0 ≠ p → y = z) := by
      cases hF with
      | bad h => omega
      | late h => omega
      | again h x hx h0 h3 hm he hp =>
        refine ⟨hR, fun y hy => ?_⟩
        obtain rfl := ofM_only hR.up hy hz
        refine ⟨rfl, fun e => ?_, fun _ => rfl⟩
        have := uniq hR.up hx hy.mem (h0.trans e.symm)
        subst this
        have hm' : x.f3 = x.f1 := by
          unfold movB at hm
          simpa using hm
        rw [← hm', h3]
      | done h x hx h0 h3 hm he hp =>
        have hown := own_at hR.up hx
        rw [h0] at hown
        refine ⟨(put_right (x := ⟨p, tg, ep + 1, tg⟩) hR h.2.1 rfl (ok_done h hx he hp) (.inl hown.1)).1, fun y hy => ?_⟩
        rcases of_put (x := ⟨p, tg, ep + 1, tg⟩) hR rfl hy hz with ⟨rfl, hin, hs⟩ | ⟨rfl, hn, _⟩
        · have h4 := hz.most x hx (by rw [h0]; exact hin)
          have h5 : z = x := uniq hR.up hz.mem hx (by
            rw [h0]
            rw [h0] at h4
            exact (in_eq (in_chain hz.isin hin hs) h4).symm)
          rw [h5]
          exact ⟨h0.symm, fun _ => rfl, fun e => absurd h0 e⟩
        · exact ⟨rfl, fun e => absurd e hn, fun _ => rfl⟩
    obtain ⟨a, hof, ha⟩ := of_right main.1 hd (k + 1) (by omega)
    have hal := ha.lt
    have hb2 := main.2 _ (ofM ha)
    rw [hof, Option.bind_some, ref_right_l b (right_sizes main.1) (k + 1) (by omega), Option.bind_some, if_pos ((right_iff b).2 main.1), if_neg (by omega), decide_eq_false (by omega)]
    exact keep2 k p tg b a hal z hb2.1 hb2.2.1 hb2.2.2
  · rw [if_neg c]
theorem MountsKeep : OpensMountsKeep.Pure := by
  intro l p tg ep dir hl hps hto hep hds
  obtain ⟨hl, hl40, hw⟩ := hl
  refine ⟨(l.length + 200000) + 1 + 1, ?_⟩
  obtain ⟨K, hK⟩ : ∃ K, K = l.length + 200000 := ⟨_, rfl⟩
  rw [← hK]
  unfold cantonlaw14_MountsKeep.f
  rw [keep_head _ (by omega), Option.bind_some]
  obtain ⟨bb, hbb, hsz⟩ := great_is l (by omega) (fun x hx => by have := (hw x hx).1; omega) (K + 1 + 1) (by omega)
  rw [hbb, Option.bind_some]
  have stop : cantonlaw14_MountsKeep.j0 (K + 1 + 1) l p tg ep dir true true = some true := by rw [cantonlaw14_MountsKeep.j0, if_pos rfl]
  by_cases c1 : bb = true
  · rw [if_pos c1, stop]
  · rw [if_neg c1]
    have hs := hsz (by simpa using c1)
    by_cases c2 : (p.size : Int) > 1000
    · rw [if_pos c2, stop]
    · rw [if_neg c2]
      by_cases c3 : (dir.size : Int) > 1000
      · rw [if_pos c3, stop]
      · rw [if_neg c3, ref_right_l l (fun x hx => by have := hs.2 x hx; omega) (K + 1 + 1) (by omega), Option.bind_some]
        by_cases c4 : RightB l = true
        · have hR := (right_iff l).1 c4
          rw [if_pos c4, ref_right_is dir (by omega) (K + 1 + 1) (by omega), Option.bind_some]
          by_cases c5 : isP dir = true
          · rw [c5, cantonlaw14_MountsKeep.j0, if_neg (by simp)]
            obtain ⟨m, p2, p3, p4, p5, e, h1, hB1⟩ := begin_is l (by omega) p tg
            obtain ⟨b, g, h2, hF⟩ := flip_is l (by omega) p ep tg
            obtain ⟨a, h3, ha⟩ := ref_of hR c5 (K + 1) (by omega)
            have hal := ha.lt
            rw [h1, Option.bind_some, h2, Option.bind_some, h3, Option.bind_some, if_pos (by omega), if_pos (by omega)]
            have hz := ofM ha
            have last := keep1 K (by omega) l b p ep tg dir c5 hR g hF _ hz
            show (if e = 0 then _ else _) = _
            by_cases c6 : e = 0
            · subst c6
              have M := moved hB1
              obtain ⟨i, h4, hi⟩ := of_right M.right c5 (K + 1) (by omega)
              have hil := hi.lt
              rw [if_pos rfl]
              show (mounts_Of.f (K + 1) m dir).bind _ = _
              rw [h4, Option.bind_some]
              show (cantonref14_Right.f (K + 1) m).bind _ = _
              rw [ref_right_l m (right_sizes M.right) (K + 1) (by omega), Option.bind_some, if_pos ((right_iff m).2 M.right), if_neg (by omega), if_neg (by show ¬ (i : Int) ≥ (m.length : Int); omega), if_pos (by omega), if_pos (by show (i : Int) < (m.length : Int); omega)]
              rw [if_pos (show (rd m (i : Int)).f1 = (rd l (a : Int)).f1 from begin_keeps hB1 (ofM hi) hz)]
              exact last
            · rw [if_neg c6]
              exact last
          · have : isP dir = false := by simpa using c5
            rw [this]; exact stop
        · rw [if_neg c4, stop]
end Go.Proofs.Ytpkaedpgpncgpaa.Pure
