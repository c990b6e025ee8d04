/- Kinds of structs, for the laws' rows and walks. -/
import Derived.Test.YtndnjmgmdkkifaaVw1
namespace Go.Proofs.Ytndnjmgmdkkifaa.Q
open Go Go.RowKit Go.Proofs.YtndnjmgmdkkifaaW.PrintWords
structure S24 where
  f0 : Int
  f1 : Int
  f2 : (List ByteArray)
def k24 : Kd S24 := Kd.iso (Kd.pair (Kd.int .i64) (Kd.pair (Kd.int .i64) (Kd.slice 9 Kd.string))) (fun x : S24 => (x.f0, x.f1, x.f2))
theorem k24_open {w : World} {x : S24} {cs : List Value} (h : k24.K w x cs) : ∃ (A2 : Option Addr) (c2 : Nat), cs = [.int .i64 x.f0, .int .i64 x.f1, .slice A2 x.f2.length c2] ∧ x.f2.length ≤ c2 ∧ Kd.C Kd.string w A2 x.f2.length x.f2 := by
  simp only [k24, Kd.iso, Kd.pair] at h
  obtain ⟨e0, r0, rfl, g0, h0⟩ := h
  obtain rfl := g0
  obtain ⟨e1, r1, rfl, g1, h1⟩ := h0
  obtain rfl := g1
  obtain ⟨A2, c2, rfl, hc2, hr2⟩ := h1
  exact ⟨A2, c2, rfl, hc2, hr2⟩
structure S33 where
  f0 : Int
  f1 : Int
  f2 : Int
  f3 : Int
  f4 : Int
  f5 : (List ByteArray)
  f6 : Int
  f7 : ByteArray
def k33 : Kd S33 := Kd.iso (Kd.pair (Kd.int .i64) (Kd.pair (Kd.int .i64) (Kd.pair (Kd.int .i64) (Kd.pair (Kd.int .i64) (Kd.pair (Kd.int .i64) (Kd.pair (Kd.slice 9 Kd.string) (Kd.pair (Kd.int .i64) Kd.string))))))) (fun x : S33 => (x.f0, x.f1, x.f2, x.f3, x.f4, x.f5, x.f6, x.f7))
theorem k33_open {w : World} {x : S33} {cs : List Value} (h : k33.K w x cs) : ∃ (A5 : Option Addr) (c5 : Nat), cs = [.int .i64 x.f0, .int .i64 x.f1, .int .i64 x.f2, .int .i64 x.f3, .int .i64 x.f4, .slice A5 x.f5.length c5, .int .i64 x.f6, .string x.f7] ∧ x.f5.length ≤ c5 ∧ Kd.C Kd.string w A5 x.f5.length x.f5 := by
  simp only [k33, Kd.iso, Kd.pair] at h
  obtain ⟨e0, r0, rfl, g0, h0⟩ := h
  obtain rfl := g0
  obtain ⟨e1, r1, rfl, g1, h1⟩ := h0
  obtain rfl := g1
  obtain ⟨e2, r2, rfl, g2, h2⟩ := h1
  obtain rfl := g2
  obtain ⟨e3, r3, rfl, g3, h3⟩ := h2
  obtain rfl := g3
  obtain ⟨e4, r4, rfl, g4, h4⟩ := h3
  obtain rfl := g4
  obtain ⟨e5, r5, rfl, g5, h5⟩ := h4
  obtain ⟨A5, c5, rfl, hc5, hr5⟩ := g5
  obtain ⟨e6, r6, rfl, g6, h6⟩ := h5
  obtain rfl := g6
  obtain rfl := h6
  exact ⟨A5, c5, rfl, hc5, hr5⟩
structure S35 where
  f0 : Int
  f1 : ByteArray
  f2 : Int
  f3 : S33
def k35 : Kd S35 := Kd.iso (Kd.pair (Kd.int .i64) (Kd.pair Kd.string (Kd.pair (Kd.int .i64) k33))) (fun x : S35 => (x.f0, x.f1, x.f2, x.f3))
theorem k35_open {w : World} {x : S35} {cs : List Value} (h : k35.K w x cs) : ∃ (A8 : Option Addr) (c8 : Nat), cs = [.int .i64 x.f0, .string x.f1, .int .i64 x.f2, .int .i64 x.f3.f0, .int .i64 x.f3.f1, .int .i64 x.f3.f2, .int .i64 x.f3.f3, .int .i64 x.f3.f4, .slice A8 x.f3.f5.length c8, .int .i64 x.f3.f6, .string x.f3.f7] ∧ x.f3.f5.length ≤ c8 ∧ Kd.C Kd.string w A8 x.f3.f5.length x.f3.f5 := by
  simp only [k35, Kd.iso, Kd.pair] at h
  obtain ⟨e0, r0, rfl, g0, h0⟩ := h
  obtain rfl := g0
  obtain ⟨e1, r1, rfl, g1, h1⟩ := h0
  obtain rfl := g1
  obtain ⟨e2, r2, rfl, g2, h2⟩ := h1
  obtain rfl := g2
  obtain ⟨A8, c8, rfl, hc8, hr8⟩ := k33_open h2
  exact ⟨A8, c8, rfl, hc8, hr8⟩
end Go.Proofs.Ytndnjmgmdkkifaa.Q
