/- A queue and a set as the program lays them, in plain words, and what each method does to them. -/
import Derived.Test.YtnhjnbbdeilmbaaProg
import Derived.Below
import Derived.WalkKit
import Derived.Deep.Draws
import Derived.Deep.QuietTactic
import Derived.BigQuiet
import Derived.Laws.MakeOwn
import Derived.Laws.OwnMore
import Derived.Laws.AppendOwn
import Derived.Maps.AppendAt
import Derived.Deep.AppendLies
import Derived.Outline
import Derived.LoopTactic
namespace Go.Proofs.Ytnhjnbbdeilmbaa.Hand
open Go.RowKit

/-- A fact that the walk does not look into. -/
structure Aside (p : Prop) : Prop where mk :: (out : p)

/-- Words in cells. -/
def nums (l : List Int) : List Value := l.map (Value.int .i64)

/-- Nothing but the blocks of S has turned. -/
structure Keeps (S : Nat → Prop) (w w' : World) : Prop where
  os : w'.os = w.os
  tape : w'.tape = w.tape
  output : w'.output = w.output
  size : w.heap.size ≤ w'.heap.size
  block : ∀ k, k < w.heap.size → ¬ S k → w'.heap[k]? = w.heap[k]?

theorem Keeps.refl (S : Nat → Prop) (w : World) : Keeps S w w := ⟨rfl, rfl, rfl, Nat.le_refl _, fun _ _ _ => rfl⟩
theorem Keeps.trans {S : Nat → Prop} {a b c : World} (h : Keeps S a b) (k : Keeps S b c) : Keeps S a c :=
  ⟨k.os.trans h.os, k.tape.trans h.tape, k.output.trans h.output, Nat.le_trans h.size k.size, fun i hi hs => (k.block i (Nat.lt_of_lt_of_le hi h.size) hs).trans (h.block i hi hs)⟩
theorem Keeps.mono {S T : Nat → Prop} {a b : World} (h : Keeps S a b) (hs : ∀ k, S k → T k) : Keeps T a b :=
  ⟨h.os, h.tape, h.output, h.size, fun i hi ht => h.block i hi (fun s => ht (hs i s))⟩
theorem Keeps.drewN {S : Nat → Prop} {a b : World} (h : Keeps S a b) (n : Nat) : Keeps S a (b.drewN n) := ⟨h.os, h.tape, h.output, h.size, h.block⟩
theorem Keeps.alloc {S : Nat → Prop} {a b : World} (h : Keeps S a b) (o : Obj) : Keeps S a (b.alloc o) :=
  h.trans ⟨rfl, rfl, rfl, by simp, fun k hk _ => Below.heap_alloc _ _ _ hk⟩
theorem Keeps.setCell {S : Nat → Prop} {a b : World} (h : Keeps S a b) {p : Addr} (hp : S p.block) (u : Value) : Keeps S a (b.setCell p u) :=
  h.trans ⟨rfl, rfl, rfl, by simp [World.setCell], fun k _ hs => Below.heap_setCell _ _ _ _ (fun e => hs (e ▸ hp))⟩
theorem Keeps.below {S : Nat → Prop} {a b : World} {B : Nat} (h : Keeps S a b) (hB : B ≤ a.heap.size) (hs : ∀ k, S k → B ≤ k) : Below B a b :=
  ⟨h.os, h.tape, h.output, h.size, fun k hk => h.block k (by omega) (fun s => by have := hs k s; omega)⟩
theorem Keeps.of_below {a b : World} (h : Below a.heap.size a b) (S : Nat → Prop) : Keeps S a b := ⟨h.os, h.tape, h.output, h.size, fun k hk _ => h.block k hk⟩

theorem nums_length (l : List Int) : (nums l).length = l.length := by simp [nums]
/-- A list's number, 0 behind its end. -/
def rdl (l : List Int) (i : Nat) : Int := l.getD i 0
theorem nums_get {l : List Int} {i : Nat} (h : i < l.length) : (nums l)[i]? = some (.int .i64 (rdl l i)) := by
  simp [rdl, nums, List.getD_eq_getElem?_getD, List.getElem?_eq_getElem h]


theorem Tinfo3 : (Try.prog.info? 3).map (fun i => (i.zero, i.size, i.bytes)) = some (some (.int .i64 0), 1, 8) := by kernel_rfl

theorem Keeps.grown {S : Nat → Prop} {a b w' : World} {row : Option Nat} (h : Keeps S a b) (hg : b.grownBy w' row) (hs : ∀ k, row = some k → S k) : Keeps S a w' :=
  h.trans ⟨hg.os, hg.tape, hg.output, hg.size, fun k hk hn => hg.block k hk (fun e => hn (hs k e.symm))⟩
theorem Keeps.cell {S : Nat → Prop} {w w' : World} (k : Keeps S w w') {a : Addr} {v : Value} (h : w.cell? a = some v) (hs : ¬ S a.block) : w'.cell? a = some v :=
  (World.cell?_of_block (k.block a.block (World.block_lt_of_cell? w a h) hs)).trans h

/-- What belongs to one thing in memory, before and behind a step of it: it alone may turn; what it gains is new. -/
structure Step (F : Nat → Prop) (w w' : World) (F' : Nat → Prop) : Prop where
  keeps : Keeps F w w'
  gains : ∀ k, F' k → F k ∨ w.heap.size ≤ k
theorem Step.refl (F : Nat → Prop) (w : World) : Step F w w F := ⟨Keeps.refl _ _, fun _ h => .inl h⟩

/-- Block g is a queue of xs; F: the blocks that are its own; its list has at most m numbers. -/
def Qu (w : World) (F : Nat → Prop) (g m : Nat) (xs : List Int) : Prop :=
  ∃ v n f cs, w.heap[g]? = some (.cells #[v, .int .i64 (f : Nat)] 24 (0, 0)) ∧ F g ∧ w.ownsRow 0 3 1 v n (nums cs) ∧ (∀ k, v.ownBlock = some k → F k ∧ k ≠ g) ∧ f ≤ n ∧ n ≤ m ∧ cs.drop f = xs ∧ ∀ k, F k → k < w.heap.size

def Pushed (w : World) (F : Nat → Prop) (g m : Nat) (xs : List Int) (e : Ending) (w' : World) : Prop :=
  e = .returned (.tuple #[]) ∧ ∃ F', Qu w' F' g (m + 1) xs ∧ Step F w w' F'

theorem heap_set {w : World} {g : Nat} {cs : Array Value} {t : TypeId} {fr : Nat × Nat} (h : w.heap[g]? = some (.cells cs t fr)) (i : Nat) (v : Value) : (w.setCell ⟨g, i, none⟩ v).heap[g]? = some (.cells (cs.setIfInBounds i v) t fr) := by
  show (w.heap.modify g _)[g]? = _
  rw [Array.getElem?_modify, if_pos rfl, h]
  rfl
theorem owned_mono {w w' : World} {v : Value} {n : Nat} {xs : List Value} {e size : Nat} (h : w.ownsRow 0 e size v n xs) (hb : ∀ k, v.ownBlock = some k → w'.heap[k]? = w.heap[k]?) : w'.ownsRow 0 e size v n xs := by
  refine ⟨h.1, ?_⟩
  rcases h.2 with hn | ⟨q, cap, cur, hv, hb', hh, r⟩
  · exact .inl hn
  · exact .inr ⟨q, cap, cur, hv, hb', by rw [hb q (by rw [hv]; rfl)]; exact hh, r⟩
theorem nums_snoc (l : List Int) (x : Int) : nums (l ++ [x]) = nums l ++ [.int .i64 x] := by simp [nums]
theorem owned_len {w : World} {v : Value} {n : Nat} {cs : List Int} (h : w.ownsRow 0 3 1 v n (nums cs)) : cs.length = n := by have := h.1; simpa [nums] using this

theorem push_done {w w1 : World} {F : Nat → Prop} {g m n f g2 cap : Nat} {v : Value} {cs xs : List Int} {x : Int} {o : Obj} (hg : w.heap[g]? = some (.cells #[v, .int .i64 (f : Nat)] 24 (0, 0))) (hF : F g)
    (hv : ∀ k, v.ownBlock = some k → F k ∧ k ≠ g) (hlen : cs.length = n) (hf : f ≤ n) (hn : n ≤ m) (hx : cs.drop f = xs) (hlt : ∀ k, F k → k < w.heap.size)
    (ho : w1.ownsRow 0 3 1 (.slice (some ⟨g2, 0, none⟩) (n + 1) cap) (n + 1) (nums cs ++ [.int .i64 x])) (hgr : (w.alloc o).grownBy w1 v.ownBlock) (hat : v.ownBlock = some g2 ∨ g2 = (w.alloc o).heap.size) (hlt2 : g2 < w1.heap.size) :
    Pushed w F g m (xs ++ [x]) (.returned (.tuple #[])) (w1.setCell ⟨g, 0, none⟩ (.slice (some ⟨g2, 0, none⟩) (n + 1) cap)) := by
  have hgl := hlt g hF
  have hg2 : F g2 ∨ w.heap.size ≤ g2 := by
    rcases hat with h | h
    · exact .inl (hv g2 h).1
    · right; rw [h]; simp
  have hg2g : g2 ≠ g := by
    rcases hat with h | h
    · exact (hv g2 h).2
    · intro e; rw [e] at h; simp at h; omega
  have hb1 := (hgr.block g (by simp; omega) (fun e => (hv g e.symm).2 rfl)).trans ((Below.heap_alloc _ _ _ hgl).trans hg)
  have hk : Keeps F w (w1.setCell ⟨g, 0, none⟩ (.slice (some ⟨g2, 0, none⟩) (n + 1) cap)) :=
    ((((Keeps.refl F w).alloc o).grown hgr (fun k e => (hv k e).1)).setCell (p := ⟨g, 0, none⟩) hF _)
  refine ⟨rfl, fun k => F k ∨ k = g2, ⟨_, n + 1, f, cs ++ [x], heap_set hb1 0 _, .inl hF, ?_, ?_, by omega, by omega, ?_, ?_⟩, hk, ?_⟩
  · rw [nums_snoc]
    refine owned_mono ho (fun k hk => ?_)
    simp [Value.ownBlock] at hk
    subst hk
    exact Below.heap_setCell _ _ _ _ hg2g
  · intro k hk
    simp [Value.ownBlock] at hk
    subst hk
    exact ⟨.inr rfl, hg2g⟩
  · rw [List.drop_append_of_le_length (by omega), hx]
  · intro k hk
    rcases hk with hk | rfl
    · have := hlt k hk
      have := hk
      have h2 := hgr.size
      simp at h2 ⊢
      omega
    · simpa using hlt2
  · intro k hk
    rcases hk with hk | rfl
    · exact .inl hk
    · exact hg2

set_option maxHeartbeats 2000000 in
theorem push_c {w : World} {F : Nat → Prop} {g m : Nat} {xs : List Int} (q : Qu w F g m xs) (x : Int) (hm : m < 1000000) :
    Calls Try.prog 8 #[.pointer (some ⟨g, 0, none⟩), .int .i64 x] w (Pushed w F g m (xs ++ [x])) := by
  obtain ⟨v, n, f, cs, hg, hF, ho, hv, hf, hn, hx, hlt⟩ := q
  obtain ⟨i0, hi, hz0, hz1, hz2⟩ := info_parts Tinfo3
  have HX := Aside.mk hx
  have HV := Aside.mk hv
  have HF := Aside.mk hF
  have HL := Aside.mk hlt
  have HG := Aside.mk hg
  have hc0 : w.cell? ⟨g, 0, none⟩ = some v := by rw [cell_of_row _ _ 0 _ _ _ hg]; rfl
  have hgl := (Array.getElem?_eq_some_iff.1 hg).1
  clear hx hv hF hlt hg
  go_enter Try.func8, Try.ntmps8
  go_wp2_with (first
    | (at_builtin; refine wpList_append_lies _ rfl _ _ 22 rfl 0 3 i0 (.int .i64 0) 1 8 Try.underlying22 hi hz0 hz1 hz2 rfl (by decide) v n _ rfl (ho.alloc _) ⟨w.heap.size, 0, none⟩ 1 1 [.int .i64 x] rfl rfl (cell_one_new _ _ _) (fun x hx => by simp at hx; subst hx; rfl) (by decide) (by unfold maxLen; omega) (by omega) (Nat.zero_le _) _ rfl ?_; intro g2 cap w1 hown hgrow hat hlt2; have HO := Aside.mk hown; have HGR := Aside.mk hgrow; have HAT := Aside.mk hat; have hb1 := (hgrow.block g (by simp; omega) (fun e => (HV.out g e.symm).2 rfl)).trans ((Below.heap_alloc _ _ _ hgl).trans HG.out); have HB1 := Aside.mk hb1; have hc1 : w1.cell? ⟨g, 0, none⟩ = some v := (by rw [cell_of_row _ _ 0 _ _ _ hb1]; rfl); have hf1 : w1.frozen? ⟨g, 0, none⟩ = false := (by simp [World.frozen?, hb1]); clear hown hgrow hat hb1))
  have HP := Aside.mk (push_done HG.out HF.out HV.out (owned_len ho) hf hn HX.out HL.out HO.out HGR.out HAT.out hlt2)
  go_end0
  exact HP.out

/-- A list's number, 0 behind its end. -/
def Popped (w : World) (F : Nat → Prop) (g m : Nat) (y : Int) (ok : Bool) (ys : List Int) (e : Ending) (w' : World) : Prop :=
  e = .returned (.tuple #[.int .i64 y, .bool ok]) ∧ ∃ F', Qu w' F' g m ys ∧ Step F w w' F'

set_option maxHeartbeats 2000000 in
theorem qlen_c {w : World} {F : Nat → Prop} {g m : Nat} {xs : List Int} (q : Qu w F g m xs) (hm : m ≤ 1000000) :
    Calls Try.prog 10 #[.pointer (some ⟨g, 0, none⟩)] w fun e w' => e = .returned (.int .i64 (xs.length : Nat)) ∧ ∃ n, w' = w.drewN n := by
  obtain ⟨v, n, f, cs, hg, hF, ho, hv, hf, hn, hx, hlt⟩ := q
  have hl : ((xs.length : Nat) : Int) = (n : Int) - (f : Int) := by rw [← hx, List.length_drop, owned_len ho]; omega
  rw [hl]
  have hform : ∃ A c, v = .slice A n c := by
    rcases ho.2 with ⟨rfl, rfl⟩ | ⟨q, cap, cur, rfl, _⟩
    · exact ⟨_, _, rfl⟩
    · exact ⟨_, _, rfl⟩
  obtain ⟨A, c, rfl⟩ := hform
  have hc0 : w.cell? ⟨g, 0, none⟩ = some (.slice A n c) := by rw [cell_of_row _ _ 0 _ _ _ hg]; rfl
  have hc1 : w.cell? ⟨g, 1, none⟩ = some (.int .i64 (f : Nat)) := by rw [cell_of_row _ _ 1 _ _ _ hg]; rfl
  clear hg hF ho hv hx hlt hl
  go_enter Try.func10, Try.ntmps10
  go_wp2
  go_quiet (fail)
  go_wp2
  go_ret
  exact ⟨rfl, _, rfl⟩

end Go.Proofs.Ytnhjnbbdeilmbaa.Hand
