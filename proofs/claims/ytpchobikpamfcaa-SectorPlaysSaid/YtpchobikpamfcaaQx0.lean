/- Kinds of structs, for chapter 03's rows and walks. -/
import Derived.Test.YtpchobikpamfcaaSk13
namespace Go.Proofs.Ytpchobikpamfcaa.Q
open Go Go.RowKit Go.Proofs.YtpchobikpamfcaaW.PrintWords
structure S30 where
  f0 : Int
  f1 : Int
  f2 : (List Int)
  f3 : Int
  f4 : (List Bool)
def k30 : Kd S30 := Kd.iso (Kd.pair (Kd.int .i64) (Kd.pair (Kd.int .i64) (Kd.pair (Kd.slice 5 (Kd.int .u8)) (Kd.pair (Kd.int .i64) (Kd.slice 4 Kd.bool))))) (fun x : S30 => (x.f0, x.f1, x.f2, x.f3, x.f4))
theorem k30_open {w : World} {x : S30} {cs : List Value} (h : k30.K w x cs) : ∃ (A2 : Option Addr) (c2 : Nat), ∃ (A4 : Option Addr) (c4 : Nat), cs = [.int .i64 x.f0, .int .i64 x.f1, .slice A2 x.f2.length c2, .int .i64 x.f3, .slice A4 x.f4.length c4] ∧ x.f2.length ≤ c2 ∧ Kd.C (Kd.int .u8) w A2 x.f2.length x.f2 ∧ x.f4.length ≤ c4 ∧ Kd.C Kd.bool w A4 x.f4.length x.f4 := by
  simp only [k30, Kd.iso, Kd.pair] at h
  obtain ⟨e0, r0, rfl, g0, h0⟩ := h
  obtain rfl := g0
  obtain ⟨e1, r1, rfl, g1, h1⟩ := h0
  obtain rfl := g1
  obtain ⟨e2, r2, rfl, g2, h2⟩ := h1
  obtain ⟨A2, c2, rfl, hc2, hr2⟩ := g2
  obtain ⟨e3, r3, rfl, g3, h3⟩ := h2
  obtain rfl := g3
  obtain ⟨A4, c4, rfl, hc4, hr4⟩ := h3
  exact ⟨A2, c2, A4, c4, rfl, hc2, hr2, hc4, hr4⟩
end Go.Proofs.Ytpchobikpamfcaa.Q
