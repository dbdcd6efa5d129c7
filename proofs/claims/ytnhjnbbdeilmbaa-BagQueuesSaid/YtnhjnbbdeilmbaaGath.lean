/- A list that a law gathers beside a set: what an append and an insertion do to the two. -/
import Derived.Test.YtnhjnbbdeilmbaaArgs
import Derived.Test.YtnhjnbbdeilmbaaLeast
namespace Go.Proofs.Ytnhjnbbdeilmbaa.Hand
open Go.RowKit

/-- The list cs, of its own, from block B on, apart from the blocks F. -/
def Lst (w : World) (B : Nat) (F : Nat → Prop) (v : Value) (cs : List Int) : Prop :=
  w.ownsRow 0 3 1 v cs.length (nums cs) ∧ ∀ k, v.ownBlock = some k → B ≤ k ∧ ¬ F k ∧ k < w.heap.size
theorem Lst.nil (w : World) (B : Nat) (F : Nat → Prop) : Lst w B F (.slice none 0 0) [] := ⟨World.ownsRow_nil _ _ _ _, fun k hk => by simp [Value.ownBlock] at hk⟩
theorem Lst.step {w w' : World} {B : Nat} {F F' : Nat → Prop} {v : Value} {cs : List Int} (l : Lst w B F v cs) (s : Step F w w' F') : Lst w' B F' v cs :=
  ⟨owned_mono l.1 (fun k hk => s.keeps.block k (l.2 k hk).2.2 (l.2 k hk).2.1), fun k hk => ⟨(l.2 k hk).1, fun h => (s.gains k h).elim (l.2 k hk).2.1 (fun h2 => by have := (l.2 k hk).2.2; omega), Nat.lt_of_lt_of_le (l.2 k hk).2.2 s.keeps.size⟩⟩
theorem Lst.kept {w w' : World} {B : Nat} {F : Nat → Prop} {v : Value} {cs : List Int} (l : Lst w B F v cs) (k : Keeps F w w') : Lst w' B F v cs :=
  l.step ⟨k, fun _ h => .inl h⟩
theorem Lst.app {w w1 : World} {B : Nat} {F : Nat → Prop} {v : Value} {cs : List Int} {x : Int} {o : Obj} {g2 cap : Nat} (l : Lst w B F v cs) (hB : B ≤ w.heap.size) (hF : ∀ k, F k → k < w.heap.size)
    (ho : w1.ownsRow 0 3 1 (.slice (some ⟨g2, 0, none⟩) (cs.length + 1) cap) (cs.length + 1) (nums cs ++ [.int .i64 x])) (hgr : (w.alloc o).grownBy w1 v.ownBlock) (hat : v.ownBlock = some g2 ∨ g2 = (w.alloc o).heap.size) (hlt2 : g2 < w1.heap.size) :
    Lst w1 B F (.slice (some ⟨g2, 0, none⟩) (cs.length + 1) cap) (cs ++ [x]) ∧ Keeps (fun k => v.ownBlock = some k) w w1 := by
  refine ⟨⟨?_, ?_⟩, ((Keeps.refl _ w).alloc o).grown hgr (fun k e => e)⟩
  · have : (cs ++ [x]).length = cs.length + 1 := by simp
    rw [this, nums_snoc]; exact ho
  · intro k hk
    simp [Value.ownBlock] at hk
    subst hk
    rcases hat with h | h
    · exact ⟨(l.2 _ h).1, (l.2 _ h).2.1, hlt2⟩
    · simp at h
      exact ⟨by omega, fun hf => by have := hF _ hf; omega, hlt2⟩
theorem Lst.read {w : World} {B : Nat} {F : Nat → Prop} {v : Value} {cs : List Int} (l : Lst w B F v cs) :
    ∃ A c, v = .slice A cs.length c ∧ cs.length ≤ c ∧ ∀ j, j < cs.length → ∃ q, A = some ⟨q, 0, none⟩ ∧ q < w.heap.size ∧ w.cell? ⟨q, j, none⟩ = some (.int .i64 (rdl cs j)) := by
  obtain ⟨A, c, rfl, hc, hq⟩ := owned_slice l.1
  refine ⟨A, c, rfl, hc, fun j hj => ?_⟩
  obtain ⟨q, rfl⟩ := hq (by omega)
  exact ⟨q, rfl, (l.2 q rfl).2.2, owned_cell l.1 j hj⟩

/-- A set and a list beside it. -/
structure Gath (w : World) (B g : Nat) (xs : List Int) (v : Value) (cs : List Int) : Prop where
  out : ∃ F, SetI w F g xs ∧ (∀ k, F k → B ≤ k) ∧ Lst w B F v cs
theorem Gath.kept {w w' : World} {B g : Nat} {xs cs : List Int} {v : Value} (t : Gath w B g xs v cs) (k : Keeps (fun _ => False) w w') : Gath w' B g xs v cs := by
  obtain ⟨F, s, hF, l⟩ := t.out
  exact ⟨F, s.kept k (fun _ _ f => f), hF, l.kept (k.mono (fun _ f => f.elim))⟩
theorem gath_new (w : World) : Gath (w.alloc (.cells #[.map none, .slice none 0 0] 34)) w.heap.size w.heap.size [] (.slice none 0 0) [] :=
  ⟨_, setI_new w, fun k h => by omega, Lst.nil _ _ _⟩
def GaveG (w : World) (B g : Nat) (xs : List Int) (v : Value) (cs : List Int) (x : Int) (e : Ending) (w' : World) : Prop :=
  e = .returned (.bool (!decide (x ∈ xs))) ∧ Gath w' B g (insI xs x) v cs ∧ Below B w w'
theorem addG {w : World} {B g : Nat} {xs cs : List Int} {v : Value} (t : Gath w B g xs v cs) (hB : B ≤ w.heap.size) {x : Int} (hx : okI x) (hl : xs.length < 1000000) :
    Calls Try.prog 12 #[.pointer (some ⟨g, 0, none⟩), .int .i64 x] w (GaveG w B g xs v cs x) := by
  obtain ⟨F, s, hF, l⟩ := t.out
  refine (addI s hx hl).mono ?_
  rintro e w' ⟨rfl, F', s', st⟩
  exact ⟨rfl, ⟨F', s', st.from hB hF, l.step st⟩, st.below hB hF⟩
theorem hasG {w : World} {B g : Nat} {xs cs : List Int} {v : Value} (t : Gath w B g xs v cs) {x : Int} (hx : okI x) :
    Calls Try.prog 20 #[.pointer (some ⟨g, 0, none⟩), .int .i64 x] w fun e w' => e = .returned (.bool (decide (x ∈ xs))) ∧ w = w' := by
  obtain ⟨F, s, _⟩ := t.out
  exact hasI s hx
theorem lenG {w : World} {B g : Nat} {xs cs : List Int} {v : Value} (t : Gath w B g xs v cs) :
    Calls Try.prog 14 #[.pointer (some ⟨g, 0, none⟩)] w fun e w' => e = .returned (.int .i64 (xs.length : Nat)) ∧ w = w' := by
  obtain ⟨F, s, _⟩ := t.out
  exact lenI s
theorem Gath.app {w w1 : World} {B g : Nat} {xs cs : List Int} {v : Value} {x : Int} {o : Obj} {g2 cap : Nat} (t : Gath w B g xs v cs) (hB : B ≤ w.heap.size)
    (ho : w1.ownsRow 0 3 1 (.slice (some ⟨g2, 0, none⟩) (cs.length + 1) cap) (cs.length + 1) (nums cs ++ [.int .i64 x])) (hgr : (w.alloc o).grownBy w1 v.ownBlock) (hat : v.ownBlock = some g2 ∨ g2 = (w.alloc o).heap.size) (hlt2 : g2 < w1.heap.size) :
    Gath w1 B g xs (.slice (some ⟨g2, 0, none⟩) (cs.length + 1) cap) (cs ++ [x]) ∧ Below B w w1 := by
  obtain ⟨F, s, hF, l⟩ := t.out
  obtain ⟨l', k⟩ := l.app hB s.lt ho hgr hat hlt2
  exact ⟨⟨F, s.kept k (fun j hj e => (l.2 j e).2.1 hj), hF, l'⟩, k.below hB (fun j e => (l.2 j e).1)⟩
theorem Gath.row {w : World} {B g : Nat} {xs cs : List Int} {v : Value} (t : Gath w B g xs v cs) : w.ownsRow 0 3 1 v cs.length (nums cs) := by
  obtain ⟨F, _, _, l⟩ := t.out
  exact l.1
theorem Gath.read {w : World} {B g : Nat} {xs cs : List Int} {v : Value} (t : Gath w B g xs v cs) :
    ∃ A c, v = .slice A cs.length c ∧ cs.length ≤ c ∧ ∀ j, j < cs.length → ∃ q, A = some ⟨q, 0, none⟩ ∧ q < w.heap.size ∧ w.cell? ⟨q, j, none⟩ = some (.int .i64 (rdl cs j)) := by
  obtain ⟨F, _, _, l⟩ := t.out
  exact l.read
/-- How the set's own list lies. -/
theorem Gath.ints {w : World} {B g : Nat} {xs cs : List Int} {v : Value} (t : Gath w B g xs v cs) : ∃ sv, w.cell? ⟨g, 1, none⟩ = some sv ∧ g < w.heap.size ∧ Ints w.heap.size w sv xs := by
  obtain ⟨F, ⟨mv, sv, hg, hF, hm, ho, hv, hlt⟩, _⟩ := t.out
  have ho' : w.ownsRow 0 3 1 sv xs.length (nums xs) := ho
  refine ⟨sv, by rw [cell_of_row _ _ 1 _ _ _ hg]; rfl, hlt g hF, ?_⟩
  obtain ⟨A, c, rfl, hc, hq⟩ := owned_slice ho'
  by_cases h0 : xs.length = 0
  · rw [h0]
    exact .inl ⟨A, c, rfl, List.length_eq_zero_iff.1 h0⟩
  · obtain ⟨q, rfl⟩ := hq (by omega)
    exact .inr ⟨q, c, rfl, hc, hlt q (hv q rfl).1, fun j hj => owned_cell ho' j hj⟩
theorem keeps_of_below {w w' : World} (h : Below w.heap.size w w') : Keeps (fun _ => False) w w' := ⟨h.os, h.tape, h.output, h.size, fun k hk _ => h.block k hk⟩
end Go.Proofs.Ytnhjnbbdeilmbaa.Hand
