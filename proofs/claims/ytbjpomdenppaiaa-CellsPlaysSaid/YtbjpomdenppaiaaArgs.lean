/- How a list of numbers, and a list of acts, come in. -/
import Derived.Test.YtbjpomdenppaiaaPlain
import Derived.OpenShut
import Derived.ChangeSlices
import Derived.Deep.Slices
import Derived.ChangeSame
import Derived.ChangeArms
namespace Go.Proofs.Ytbjpomdenppaiaa.Hand
open Go.RowKit Go.ChangeShapes Go.WideShapes Go.Deep

def IsRow (k : IntKind) (w : World) (a : Option Addr) (len cap : Nat) (zs : List Int) : Prop :=
  zs.length = len ∧ len ≤ cap ∧ cap ≤ maxLen ∧ (∀ i, i < len → ∃ b o, a = some ⟨b, o, none⟩ ∧ b < w.heap.size ∧ w.cell? ⟨b, o + i, none⟩ = some (.int k (rdl zs i))) ∧ ∀ n ∈ zs, (Lit.int k n).wf = true

/-- An act's place, and its word. -/
def actAt (z : List (Int × Int)) (i : Nat) : Int := (z.getD i (0, 0)).1
def actV (z : List (Int × Int)) (i : Nat) : Int := (z.getD i (0, 0)).2

def IsActs (w : World) (a : Option Addr) (len cap : Nat) (zs : List (Int × Int)) : Prop :=
  zs.length = len ∧ len ≤ cap ∧ cap ≤ maxLen ∧ ∀ i, i < len → ∃ b o, a = some ⟨b, o, none⟩ ∧ b < w.heap.size ∧
    w.cell? ⟨b, o + i * 2, none⟩ = some (.int .i64 (actAt zs i)) ∧ w.cell? ⟨b, o + i * 2 + 1, none⟩ = some (.int .i64 (actV zs i)) ∧
    (Lit.int .i64 (actAt zs i)).wf = true ∧ (Lit.int .i64 (actV zs i)).wf = true

theorem spot_none {w : World} {a : Addr} {v : Value} (h : w.cell? a = some v) : a = ⟨a.block, a.off, none⟩ ∧ a.block < w.heap.size := by
  refine ⟨?_, World.block_lt_of_cell? w a h⟩
  unfold World.cell? at h
  split at h
  · split at h
    · cases h
    · cases a with
      | mk b o s => cases s <;> simp_all
  · cases h
theorem add_plain (b o i : Nat) : (⟨b, o, none⟩ : Addr).add i = ⟨b, o + i, none⟩ := by
  unfold Addr.add
  split
  · subst i; rfl
  · rfl

section
variable {H : Type} {enc : TypeId × Value → H} {P : Program} {w : World} {base : Nat} {spare : Nat → Bool} {held : Bool}
theorem isRow_of_trod {t e : TypeId} {k : IntKind} {fuel : Nat} {a : Option Addr} {len cap : Nat} {x : DataW H × List MemPlace} (ht : P.underlying t = some (.slice e)) (he : P.underlying e = some (.int k)) (hc : P.cellsOf e = 1)
    (h : DataW.trod enc P w base spare held fuel t (Value.slice a len cap).cells.toList = some x) : ∃ zs, IsRow k w a len cap zs := by
  rcases open_ints ht he hc h with ⟨hcs, _⟩ | ⟨x, l, c, zs, hcs, _, hl, hm, hz, _, hcell, hwz⟩
  · simp [Value.cells] at hcs
    obtain ⟨rfl, rfl, rfl⟩ := hcs
    exact ⟨[], rfl, Nat.le_refl _, Nat.zero_le _, fun i hi => absurd hi (by omega), fun n hn => by cases hn⟩
  · simp [Value.cells] at hcs
    obtain ⟨rfl, rfl, rfl⟩ := hcs
    have hlz : len ≤ zs.length := by rw [hz]; split <;> omega
    refine ⟨zs.take len, by simp; omega, hl, hm, fun i hi => ?_, fun n hn => hwz n (List.mem_of_mem_take hn)⟩
    have hp : 0 < zs.length := by omega
    have h0 := hcell 0 hp
    have hx : x.add 0 = x := by simp [Addr.add]
    rw [hx] at h0
    obtain ⟨e1, e2⟩ := spot_none h0
    refine ⟨x.block, x.off, congrArg some e1, e2, ?_⟩
    have hi' := hcell i (by omega)
    rw [e1, add_plain] at hi'
    rw [hi']
    congr 2
    unfold rdl
    rw [List.getD_eq_getElem?_getD, List.getD_eq_getElem?_getD, List.getElem?_take_of_lt hi]

theorem isActs_of_trod {t e u : TypeId} {nm0 nm1 : Field} {fuel : Nat} {a : Option Addr} {len cap : Nat} {x : DataW H × List MemPlace} (ht : P.underlying t = some (.slice e)) (he : P.underlying e = some (.struct #[nm0, nm1])) (hu : P.underlying u = some (.int .i64))
    (hf : (nm0.type, nm0.offset, nm1.type, nm1.offset, P.cellsOf u) = (u, 0, u, 1, 1)) (hc : P.cellsOf e = 2)
    (h : DataW.trod enc P w base spare held fuel t (Value.slice a len cap).cells.toList = some x) : ∃ zs, IsActs w a len cap zs := by
  simp only [Prod.mk.injEq] at hf
  obtain ⟨f1, f2, f3, f4, f5⟩ := hf
  rcases open_slice ht h with ⟨hcs, _⟩ | ⟨x, l, c, m, n, D, Pl, hcs, _, hl, hm, hmm, _, hel⟩
  · simp [Value.cells] at hcs
    obtain ⟨rfl, rfl, rfl⟩ := hcs
    exact ⟨[], rfl, Nat.le_refl _, Nat.zero_le _, fun i hi => absurd hi (by omega)⟩
  · simp [Value.cells] at hcs
    obtain ⟨rfl, rfl, rfl⟩ := hcs
    have hlm : len ≤ m := by rw [hmm]; split <;> omega
    have each : ∀ i, i < len → ∃ p : Int × Int, w.cell? (x.add (i * 2)) = some (.int .i64 p.1) ∧ w.cell? ((x.add (i * 2)).add 1) = some (.int .i64 p.2) ∧ (Lit.int .i64 p.1).wf = true ∧ (Lit.int .i64 p.2).wf = true := fun i hi => by
      obtain ⟨cs', h1, h2⟩ := hel i (by omega)
      rw [hc] at h1
      obtain ⟨y0, y1, n', _, hlen, t0, t1⟩ := trod_struct2 he h2
      rw [hc] at hlen
      rw [f1, f2, f5] at t0
      rw [f3, f4, f5] at t1
      obtain ⟨_, _, hat⟩ := World.cells?_some h1
      match cs', hlen with
      | [c0, c1], _ =>
        obtain ⟨n0, e0, _, g0⟩ := DataW.trod_int hu t0
        obtain ⟨n1, e1, _, g1⟩ := DataW.trod_int hu t1
        simp at e0 e1
        subst e0 e1
        have q0 := hat 0 (by decide)
        have q1 := hat 1 (by decide)
        have hx : ∀ y : Addr, y.add 0 = y := fun y => by simp [Addr.add]
        rw [hx] at q0
        exact ⟨(n0, n1), by simpa using q0, by simpa using q1, g0, g1⟩
    obtain ⟨F, hF⟩ := choose_lt each
    refine ⟨(List.range len).map F, by simp, hl, hm, fun i hi => ?_⟩
    obtain ⟨q0, q1, g0, g1⟩ := hF i hi
    obtain ⟨p0, _⟩ := hF 0 (by omega)
    have hx : x.add (0 * 2) = x := by simp [Addr.add]
    rw [hx] at p0
    obtain ⟨e1, e2⟩ := spot_none p0
    have hg : ((List.range len).map F).getD i (0, 0) = F i := by simp [List.getD_eq_getElem?_getD, hi]
    unfold actAt actV
    rw [hg]
    rw [e1, add_plain] at q0 q1
    rw [add_plain] at q1
    exact ⟨x.block, x.off, congrArg some e1, e2, q0, q1, g0, g1⟩
end

end Go.Proofs.Ytbjpomdenppaiaa.Hand
