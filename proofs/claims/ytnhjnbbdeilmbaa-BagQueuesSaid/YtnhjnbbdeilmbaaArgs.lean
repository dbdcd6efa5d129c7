/- How a list of numbers comes in. -/
import Derived.Test.YtnhjnbbdeilmbaaAwake
import Derived.OpenShut
import Derived.ChangeSlices
import Derived.Deep.Slices
import Derived.ChangeSame
import Derived.ChangeArms
namespace Go.Proofs.Ytnhjnbbdeilmbaa.Hand
open Go.RowKit Go.ChangeShapes Go.WideShapes Go.Deep

theorem wf_i64 {n : Int} (h : (Lit.int .i64 n).wf = true) : -9223372036854775808 ≤ n ∧ n ≤ 9223372036854775807 := by
  simp only [Lit.wf, IntKind.min, IntKind.max, IntKind.signed, IntKind.bits, Bool.and_eq_true, decide_eq_true_eq, if_true] at h
  omega
theorem wf_u8 {n : Int} (h : (Lit.int .u8 n).wf = true) : 0 ≤ n ∧ n ≤ 255 := by
  simp [Lit.wf, IntKind.min, IntKind.max, IntKind.signed, IntKind.bits] at h
  omega
def IsRow (k : IntKind) (w : World) (a : Option Addr) (len cap : Nat) (zs : List Int) : Prop :=
  zs.length = len ∧ len ≤ cap ∧ cap ≤ maxLen ∧ (∀ i, i < len → ∃ b o, a = some ⟨b, o, none⟩ ∧ b < w.heap.size ∧ w.cell? ⟨b, o + i, none⟩ = some (.int k (rdl zs i))) ∧ ∀ n ∈ zs, (Lit.int k n).wf = true

theorem spot_none {w : World} {a : Addr} {v : Value} (h : w.cell? a = some v) : a = ⟨a.block, a.off, none⟩ ∧ a.block < w.heap.size := by
  refine ⟨?_, World.block_lt_of_cell? w a h⟩
  unfold World.cell? at h
  split at h
  · split at h
    · cases h
    · cases a with
      | mk b o s => cases s <;> simp_all
  · cases h
theorem add_plain (b o i : Nat) : (⟨b, o, none⟩ : Addr).add i = ⟨b, o + i, none⟩ := by
  unfold Addr.add
  split
  · subst i; rfl
  · rfl

section
variable {H : Type} {enc : TypeId × Value → H} {P : Program} {w : World} {base : Nat} {spare : Nat → Bool} {held : Bool}
theorem isRow_of_trod {t e : TypeId} {k : IntKind} {fuel : Nat} {a : Option Addr} {len cap : Nat} {x : DataW H × List MemPlace} (ht : P.underlying t = some (.slice e)) (he : P.underlying e = some (.int k)) (hc : P.cellsOf e = 1)
    (h : DataW.trod enc P w base spare held fuel t (Value.slice a len cap).cells.toList = some x) : ∃ zs, IsRow k w a len cap zs := by
  rcases open_ints ht he hc h with ⟨hcs, _⟩ | ⟨x, l, c, zs, hcs, _, hl, hm, hz, _, hcell, hwz⟩
  · simp [Value.cells] at hcs
    obtain ⟨rfl, rfl, rfl⟩ := hcs
    exact ⟨[], rfl, Nat.le_refl _, Nat.zero_le _, fun i hi => absurd hi (by omega), fun n hn => by cases hn⟩
  · simp [Value.cells] at hcs
    obtain ⟨rfl, rfl, rfl⟩ := hcs
    have hlz : len ≤ zs.length := by rw [hz]; split <;> omega
    refine ⟨zs.take len, by simp; omega, hl, hm, fun i hi => ?_, fun n hn => hwz n (List.mem_of_mem_take hn)⟩
    have hp : 0 < zs.length := by omega
    have h0 := hcell 0 hp
    have hx : x.add 0 = x := by simp [Addr.add]
    rw [hx] at h0
    obtain ⟨e1, e2⟩ := spot_none h0
    refine ⟨x.block, x.off, congrArg some e1, e2, ?_⟩
    have hi' := hcell i (by omega)
    rw [e1, add_plain] at hi'
    rw [hi']
    congr 2
    unfold rdl
    rw [List.getD_eq_getElem?_getD, List.getD_eq_getElem?_getD, List.getElem?_take_of_lt hi]

end

end Go.Proofs.Ytnhjnbbdeilmbaa.Hand
