/- Kinds of structs, for the laws' rows and walks. -/
import Derived.Test.YtndnjmgmdkkifaaVw18
import Derived.Test.YtndnjmgmdkkifaaSt5
import Derived.Test.YtndnjmgmdkkifaaWNEv
import Derived.Test.YtndnjmgmdkkifaaWApart
import Derived.Test.YtndnjmgmdkkifaaVw1
/- A team in memory. -/
namespace Go.Proofs.Ytndnjmgmdkkifaa.Vw1
open Go Go.RowKit Go.Maps Go.Proofs Go.Proofs.Ytndnjmgmdkkifaa.New Go.Proofs.Ytndnjmgmdkkifaa.Vw Go.Proofs.Ytndnjmgmdkkifaa.Vw0 Go.Proofs.YtndnjmgmdkkifaaW.PrintWords Go.Proofs.YtndnjmgmdkkifaaW.PrintLast Go.Proofs.YtndnjmgmdkkifaaW.PrintMore
set_option linter.unusedVariables false
set_option linter.unusedSimpArgs false

abbrev Sv := Int × Int × Log
def svOf (s : V) : Sv := (s.view, s.normal, s.log)
/-- what a replica saved, in the row of all -/
def SavedAt (W : World) (css : Array Value) (i : Nat) (s : Sv) : Prop :=
  ∃ A c, css[i * 3]? = some (.int .i64 s.1) ∧ css[i * 3 + 1]? = some (.int .i64 s.2.1) ∧ css[i * 3 + 2]? = some (.slice A s.2.2.length c) ∧ Rd W (.slice A s.2.2.length c) s.2.2
def flyCells (f : St.Fly) (A : Option Addr) (c : Nat) : List Value :=
  [.int .i64 (f.fr : Int), .int .i64 (f.to_ : Int), .int .i64 f.l.kind, .int .i64 f.l.view, .int .i64 f.l.normal, .int .i64 f.l.len, .int .i64 f.l.stays, .slice A f.l.log.length c, .int .i64 f.l.num, .string f.l.text]
/-- the letters on their way -/
def WayAt (W : World) (rows : List (List Value)) (way : List St.Fly) : Prop :=
  rows.length = way.length ∧ ∀ (k : Nat) (f : St.Fly), way[k]? = some f → ∃ A c, rows[k]? = some (flyCells f A c) ∧ Rd W (.slice A f.l.log.length c) f.l.log ∧ f.l.log.length ≤ 1000000 ∧ ∀ z ∈ f.l.log, z.size ≤ 140737488355328
/-- a team -/
structure TM (B : Nat) (W : World) (tb n : Nat) (p : Nat → Nat) (r : Nat → V) (sv : Nat → Sv) (way : List St.Fly) : Prop where
  parts : Parts B W n p r
  base : B ≤ tb
  mem : ∃ (gl cl : Nat) (csl : Array Value) (gs cs : Nat) (css : Array Value) (sw : Value) (rows : List (List Value)),
    W.heap[tb]? = some (.cells #[.slice (some ⟨gl, 0, none⟩) n cl, .slice (some ⟨gs, 0, none⟩) n cs, sw] 61 (0, 0)) ∧
    (B ≤ gl ∧ W.heap[gl]? = some (.cells csl 28 (0, 0)) ∧ ∀ i, i < n → csl[i]? = some (.pointer (some ⟨p i, 0, none⟩))) ∧
    (B ≤ gs ∧ W.heap[gs]? = some (.cells css 24 (0, 0)) ∧ ∀ i, i < n → SavedAt W css i (sv i)) ∧
    Kd.R (Kd.raw 10) 84 W B (fun _ => True) sw rows ∧ WayAt W rows way
section
variable {B : Nat} {W w' : World} {tb n : Nat} {p : Nat → Nat} {r r' : Nat → V} {sv : Nat → Sv} {way : List St.Fly}
theorem WayAt.keep {rows : List (List Value)} (h : WayAt W rows way) (hk : ∀ {v : Value} {l : Log}, Rd W v l → Rd w' v l) : WayAt w' rows way :=
  ⟨h.1, fun k f hf => by
    obtain ⟨A, c, h1, h2, h3⟩ := h.2 k f hf
    exact ⟨A, c, h1, hk h2, h3⟩⟩
theorem SavedAt.keep {css : Array Value} {i : Nat} {s : Sv} (h : SavedAt W css i s) (hk : ∀ {v : Value} {l : Log}, Rd W v l → Rd w' v l) : SavedAt w' css i s := by
  obtain ⟨A, c, h1, h2, h3, h4⟩ := h
  exact ⟨A, c, h1, h2, h3, hk h4⟩
theorem R_raw_keep {sw : Value} {rows : List (List Value)} {e : TypeId} {sz : Nat} (h : Kd.R (Kd.raw sz) e W B (fun _ => True) sw rows) (hk : ∀ (k : Nat) (cells : Array Value), W.heap[k]? = some (.cells cells e (0, 0)) → w'.heap[k]? = W.heap[k]?) : Kd.R (Kd.raw sz) e w' B (fun _ => True) sw rows := by
  have hb := Kd.R_bound h
  refine Kd.R_mono (Kd.R_move hb fun k hk2 => ?_) (fun _ _ => trivial)
  obtain ⟨_, _, _, q, hq, cells, hc⟩ := hk2
  rcases List.mem_cons.1 hq with rfl | hq
  · exact hk k cells hc
  · cases hq
/-- all but the parts is as it was -/
theorem TM.keep (h : TM B W tb n p r sv way) (hp : Parts B w' n p r') (hk : ∀ (k : Nat) (cells : Array Value) (t : TypeId) (fr : Nat × Nat), t ≠ 73 → W.heap[k]? = some (.cells cells t fr) → w'.heap[k]? = some (.cells cells t fr)) : TM B w' tb n p r' sv way := by
  obtain ⟨h1, h2, gl, cl, csl, gs, cs, css, sw, rows, k1, ⟨k2, k3, k4⟩, ⟨k5, k6, k7⟩, k8, k9⟩ := h
  have hr : ∀ {v : Value} {l : Log}, Rd W v l → Rd w' v l := fun hr => hr.keep fun k cells fr hb => (hk k cells 9 fr (by decide) hb).trans hb.symm
  exact ⟨hp, h2, gl, cl, csl, gs, cs, css, sw, rows, hk _ _ _ _ (by decide) k1, ⟨k2, hk _ _ _ _ (by decide) k3, k4⟩, ⟨k5, hk _ _ _ _ (by decide) k6, fun i hi => (k7 i hi).keep hr⟩, R_raw_keep k8 fun k cells hb => (hk k cells _ _ (by decide) hb).trans hb.symm, k9.keep hr⟩
theorem TM.below (h : TM B W tb n p r sv way) (hb : Below W.heap.size W w') : TM B w' tb n p r sv way := h.keep (h.parts.below hb) fun k cells t fr _ hk => (hb.block k (blk_lt' hk)).trans hk
theorem TM.stp (h : TM B W tb n p r sv way) {i q : Nat} (hi : i < n) (hq : p i = q) (hp : Parts B w' n p r') (hs : Stp B q W w') : TM B w' tb n p r' sv way := by
  subst hq
  exact h.keep hp fun k cells t fr ht hk => hs.row (h.parts.pt hi) ht hk
/-- rows of strings are as they were -/
def Rows9 (w w' : World) : Prop := ∀ (k : Nat) (cells : Array Value) (fr : Nat × Nat), w.heap[k]? = some (.cells cells 9 fr) → w'.heap[k]? = some (.cells cells 9 fr)
theorem Rows9.refl (w : World) : Rows9 w w := fun _ _ _ h => h
theorem Rows9.trans {a b c : World} (h : Rows9 a b) (k : Rows9 b c) : Rows9 a c := fun i cs fr hb => k i cs fr (h i cs fr hb)
theorem Rows9.below (hb : Below W.heap.size W w') : Rows9 W w' := fun k cs fr hk => (hb.block k (blk_lt' hk)).trans hk
theorem Rows9.stp {q : Nat} {s : V} (hs : Stp B q W w') (hp : Pt B W q s) : Rows9 W w' := fun k cs fr hk => hs.row hp (by decide) hk
theorem Rd.rows9 {v : Value} {l : Log} (h : Rd W v l) (hr : Rows9 W w') : Rd w' v l := h.keep fun k cells fr hk => (hr k cells fr hk).trans hk.symm
theorem Rows9.set {g t : Nat} {cs : Array Value} (h : W.heap[g]? = some (.cells cs t (0, 0))) (ht : t ≠ 9) (j : Nat) (u : Value) : Rows9 W (W.setCell ⟨g, j, none⟩ u) := fun k cells fr hk => by
  have hne : k ≠ g := fun e => by
    subst e
    rw [h] at hk; cases hk; exact ht rfl
  exact (Below.heap_setCell W ⟨g, j, none⟩ u k hne).trans hk
end
end Go.Proofs.Ytndnjmgmdkkifaa.Vw1
namespace Go.Proofs.Ytndnjmgmdkkifaa.Q
open Go Go.RowKit Go.Proofs.YtndnjmgmdkkifaaW.PrintWords
structure S24 where
  f0 : Int
  f1 : Int
  f2 : (List ByteArray)
def k24 : Kd S24 := Kd.iso (Kd.pair (Kd.int .i64) (Kd.pair (Kd.int .i64) (Kd.slice 9 Kd.string))) (fun x : S24 => (x.f0, x.f1, x.f2))
theorem k24_open {w : World} {x : S24} {cs : List Value} (h : k24.K w x cs) : ∃ (A2 : Option Addr) (c2 : Nat), cs = [.int .i64 x.f0, .int .i64 x.f1, .slice A2 x.f2.length c2] ∧ x.f2.length ≤ c2 ∧ Kd.C Kd.string w A2 x.f2.length x.f2 := by
  simp only [k24, Kd.iso, Kd.pair] at h
  obtain ⟨e0, r0, rfl, g0, h0⟩ := h
  obtain rfl := g0
  obtain ⟨e1, r1, rfl, g1, h1⟩ := h0
  obtain rfl := g1
  obtain ⟨A2, c2, rfl, hc2, hr2⟩ := h1
  exact ⟨A2, c2, rfl, hc2, hr2⟩
structure S33 where
  f0 : Int
  f1 : Int
  f2 : Int
  f3 : Int
  f4 : Int
  f5 : (List ByteArray)
  f6 : Int
  f7 : ByteArray
def k33 : Kd S33 := Kd.iso (Kd.pair (Kd.int .i64) (Kd.pair (Kd.int .i64) (Kd.pair (Kd.int .i64) (Kd.pair (Kd.int .i64) (Kd.pair (Kd.int .i64) (Kd.pair (Kd.slice 9 Kd.string) (Kd.pair (Kd.int .i64) Kd.string))))))) (fun x : S33 => (x.f0, x.f1, x.f2, x.f3, x.f4, x.f5, x.f6, x.f7))
theorem k33_open {w : World} {x : S33} {cs : List Value} (h : k33.K w x cs) : ∃ (A5 : Option Addr) (c5 : Nat), cs = [.int .i64 x.f0, .int .i64 x.f1, .int .i64 x.f2, .int .i64 x.f3, .int .i64 x.f4, .slice A5 x.f5.length c5, .int .i64 x.f6, .string x.f7] ∧ x.f5.length ≤ c5 ∧ Kd.C Kd.string w A5 x.f5.length x.f5 := by
  simp only [k33, Kd.iso, Kd.pair] at h
  obtain ⟨e0, r0, rfl, g0, h0⟩ := h
  obtain rfl := g0
  obtain ⟨e1, r1, rfl, g1, h1⟩ := h0
  obtain rfl := g1
  obtain ⟨e2, r2, rfl, g2, h2⟩ := h1
  obtain rfl := g2
  obtain ⟨e3, r3, rfl, g3, h3⟩ := h2
  obtain rfl := g3
  obtain ⟨e4, r4, rfl, g4, h4⟩ := h3
  obtain rfl := g4
  obtain ⟨e5, r5, rfl, g5, h5⟩ := h4
  obtain ⟨A5, c5, rfl, hc5, hr5⟩ := g5
  obtain ⟨e6, r6, rfl, g6, h6⟩ := h5
  obtain rfl := g6
  obtain rfl := h6
  exact ⟨A5, c5, rfl, hc5, hr5⟩
structure S35 where
  f0 : Int
  f1 : ByteArray
  f2 : Int
  f3 : S33
def k35 : Kd S35 := Kd.iso (Kd.pair (Kd.int .i64) (Kd.pair Kd.string (Kd.pair (Kd.int .i64) k33))) (fun x : S35 => (x.f0, x.f1, x.f2, x.f3))
theorem k35_open {w : World} {x : S35} {cs : List Value} (h : k35.K w x cs) : ∃ (A8 : Option Addr) (c8 : Nat), cs = [.int .i64 x.f0, .string x.f1, .int .i64 x.f2, .int .i64 x.f3.f0, .int .i64 x.f3.f1, .int .i64 x.f3.f2, .int .i64 x.f3.f3, .int .i64 x.f3.f4, .slice A8 x.f3.f5.length c8, .int .i64 x.f3.f6, .string x.f3.f7] ∧ x.f3.f5.length ≤ c8 ∧ Kd.C Kd.string w A8 x.f3.f5.length x.f3.f5 := by
  simp only [k35, Kd.iso, Kd.pair] at h
  obtain ⟨e0, r0, rfl, g0, h0⟩ := h
  obtain rfl := g0
  obtain ⟨e1, r1, rfl, g1, h1⟩ := h0
  obtain rfl := g1
  obtain ⟨e2, r2, rfl, g2, h2⟩ := h1
  obtain rfl := g2
  obtain ⟨A8, c8, rfl, hc8, hr8⟩ := k33_open h2
  exact ⟨A8, c8, rfl, hc8, hr8⟩
end Go.Proofs.Ytndnjmgmdkkifaa.Q
