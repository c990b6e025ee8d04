/- Views in memory: Take, as the laws see it. -/
import Derived.Test.YtndnjmgmdkkifaaVw9
import Derived.Test.YtndnjmgmdkkifaaVw14
namespace Go.Proofs.Ytndnjmgmdkkifaa.Vw1
open Go Go.RowKit Go.Maps Go.Proofs Go.Proofs.Ytndnjmgmdkkifaa.New Go.Proofs.Ytndnjmgmdkkifaa.Vw Go.Proofs.Ytndnjmgmdkkifaa.Vw0 Go.Proofs.YtndnjmgmdkkifaaW.PrintWords Go.Proofs.YtndnjmgmdkkifaaW.PrintLast Go.Proofs.YtndnjmgmdkkifaaW.PrintMore
set_option linter.unusedVariables false
set_option linter.unusedSimpArgs false

section
variable {B : Nat} {W : World} {p : Nat} {s : V}
/-- a log that is read, where a part's calls change nothing: a row of strings, or memory from ahead -/
def Far (B : Nat) (W : World) (A : Option Addr) (l : Log) : Prop := Kd.C Kd.string W A l.length l ∧ ∀ ad, A = some ad → 0 < l.length → ad.block < B ∨ ∃ cells fr, W.heap[ad.block]? = some (.cells cells 9 fr)
theorem Far.lg {am cm : Nat} {A : Option Addr} {l : Log} (h : Far B W A l) (hv : VRep W p am cm s) (hp : B ≤ p) (ha : B ≤ am) (hc : B ≤ cm) : Lg p am cm W A l :=
  ⟨h.1, fun ad hA hl => by
    rcases h.2 ad hA hl with k | ⟨cells, fr, hb⟩
    · omega
    · exact hv.kinds hb⟩
theorem Far.of_rd {A : Option Addr} {n c : Nat} {l : Log} (h : Rd W (.slice A n c) l) : Far B W A l := by
  obtain ⟨A2, c2, e, _, h2, h3⟩ := h
  cases e
  exact ⟨h2, fun ad hA hp => .inr (h3 ad hA hp)⟩
theorem Far.of_arg {W0 : World} {A : Option Addr} {l : Log} (h : Kd.C Kd.string W0 A l.length l) (hB : W0.heap.size ≤ B) (hb : Below W0.heap.size W0 W) : Far B W A l :=
  ⟨Kd.C_below h hb, fun ad hA hp => .inl (by subst hA; have := C_lt h hp; omega)⟩
theorem Far.stp {A : Option Addr} {l : Log} (h : Far B W A l) (hp : Pt B W p s) {w' : World} (hs : Stp B p W w') : Far B w' A l :=
  ⟨C_keep h.1 fun ad hA hl => by
    rcases h.2 ad hA hl with k | ⟨cells, fr, hb⟩
    · exact hs.below.block _ k
    · exact (hs.row hp (by decide) hb).trans hb.symm, fun ad hA hl => by
    rcases h.2 ad hA hl with k | ⟨cells, fr, hb⟩
    · exact .inl k
    · exact .inr ⟨cells, fr, hs.row hp (by decide) hb⟩⟩
theorem Far.below {A : Option Addr} {l : Log} (h : Far B W A l) {w' : World} (hb : Below W.heap.size W w') : Far B w' A l :=
  ⟨Kd.C_below h.1 hb, fun ad hA hl => by
    rcases h.2 ad hA hl with k | ⟨cells, fr, hk⟩
    · exact .inl k
    · exact .inr ⟨cells, fr, (hb.block _ (blk_lt' hk)).trans hk⟩⟩
theorem pt_take (h : Pt B W p s) (fr : Int) (l : Ltr) (A : Option Addr) (c : Nat) (hrd : Far B W A l.log) (hl : l.log.length ≤ 1000000) (hs : ∀ z ∈ l.log, z.size ≤ 140737488355328) :
    Calls Try.prog 18 #[.pointer (some ⟨p, 0, none⟩), .int .i64 fr, ltrV l A c] W fun e w' => e = .returned (.bool (s.take fr l).2) ∧ Pt B w' p (s.take fr l).1 ∧ Stp B p W w' := by
  have hz := pt_size h
  obtain ⟨o, b, am, cm, hv, ha, hc⟩ := h
  exact (Take_calls hv o fr l A c (hrd.lg hv b ha hc) hl hs).mono fun e w' ⟨h1, h2⟩ => ⟨h1, Pt.mv hv b ha hc hz (okv_take o fr l) h2⟩
end
end Go.Proofs.Ytndnjmgmdkkifaa.Vw1
