/- A memory of words as the program lays it, in plain words, and what each method does to it. -/
import Derived.Test.YtbjpomdenppaiaaShelf
import Derived.Below
import Derived.WalkKit
import Derived.Deep.Draws
import Derived.Deep.QuietTactic
import Derived.BigQuiet
import Derived.Laws.MakeOwn
import Derived.Laws.OwnMore
import Derived.Outline
import Derived.Deep.RegionWith
namespace Go.Proofs.Ytbjpomdenppaiaa.Hand
open Go.RowKit

/-- A fact that the walk does not look into. -/
structure Aside (p : Prop) : Prop where mk :: (out : p)

/-- Words in cells. -/
def nums (l : List Int) : List Value := l.map (Value.int .i64)

/-- Block g is a memory whose words lie in block h. -/
structure Mem (w : World) (g h : Nat) (l : List Int) : Prop where
  ne : g ≠ h
  head : w.heap[g]? = some (.cells #[.slice (some ⟨h, 0, none⟩) l.length l.length] 45 (0, 0))
  row : w.heap[h]? = some (.cells (nums l).toArray 3 (0, 0))
  small : l.length ≤ 32000

/-- Nothing but the blocks of S has turned. -/
structure Keeps (S : Nat → Prop) (w w' : World) : Prop where
  os : w'.os = w.os
  tape : w'.tape = w.tape
  output : w'.output = w.output
  size : w.heap.size ≤ w'.heap.size
  block : ∀ k, k < w.heap.size → ¬ S k → w'.heap[k]? = w.heap[k]?

theorem Keeps.refl (S : Nat → Prop) (w : World) : Keeps S w w := ⟨rfl, rfl, rfl, Nat.le_refl _, fun _ _ _ => rfl⟩
theorem Keeps.trans {S : Nat → Prop} {a b c : World} (h : Keeps S a b) (k : Keeps S b c) : Keeps S a c :=
  ⟨k.os.trans h.os, k.tape.trans h.tape, k.output.trans h.output, Nat.le_trans h.size k.size, fun i hi hs => (k.block i (Nat.lt_of_lt_of_le hi h.size) hs).trans (h.block i hi hs)⟩
theorem Keeps.mono {S T : Nat → Prop} {a b : World} (h : Keeps S a b) (hs : ∀ k, S k → T k) : Keeps T a b :=
  ⟨h.os, h.tape, h.output, h.size, fun i hi ht => h.block i hi (fun s => ht (hs i s))⟩
theorem Keeps.drewN {S : Nat → Prop} {a b : World} (h : Keeps S a b) (n : Nat) : Keeps S a (b.drewN n) := ⟨h.os, h.tape, h.output, h.size, h.block⟩
theorem Keeps.alloc {S : Nat → Prop} {a b : World} (h : Keeps S a b) (o : Obj) : Keeps S a (b.alloc o) :=
  h.trans ⟨rfl, rfl, rfl, by simp, fun k hk _ => Below.heap_alloc _ _ _ hk⟩
theorem Keeps.setCell {S : Nat → Prop} {a b : World} (h : Keeps S a b) {p : Addr} (hp : S p.block) (u : Value) : Keeps S a (b.setCell p u) :=
  h.trans ⟨rfl, rfl, rfl, by simp [World.setCell], fun k _ hs => Below.heap_setCell _ _ _ _ (fun e => hs (e ▸ hp))⟩
theorem Keeps.below {S : Nat → Prop} {a b : World} {B : Nat} (h : Keeps S a b) (hB : B ≤ a.heap.size) (hs : ∀ k, S k → B ≤ k) : Below B a b :=
  ⟨h.os, h.tape, h.output, h.size, fun k hk => h.block k (by omega) (fun s => by have := hs k s; omega)⟩
theorem Keeps.of_below {a b : World} (h : Below a.heap.size a b) (S : Nat → Prop) : Keeps S a b := ⟨h.os, h.tape, h.output, h.size, fun k hk _ => h.block k hk⟩

theorem Mem.kept {w w' : World} {g h : Nat} {l : List Int} {S : Nat → Prop} (m : Mem w g h l) (k : Keeps S w w') (hg : ¬ S g) (hh : ¬ S h) : Mem w' g h l :=
  ⟨m.ne, (k.block g (Array.getElem?_eq_some_iff.1 m.head).1 hg).trans m.head, (k.block h (Array.getElem?_eq_some_iff.1 m.row).1 hh).trans m.row, m.small⟩

theorem nums_length (l : List Int) : (nums l).length = l.length := by simp [nums]
/-- A list's number, 0 behind its end. -/
def rdl (l : List Int) (i : Nat) : Int := l.getD i 0
theorem nums_get {l : List Int} {i : Nat} (h : i < l.length) : (nums l)[i]? = some (.int .i64 (rdl l i)) := by
  simp [rdl, nums, List.getD_eq_getElem?_getD, List.getElem?_eq_getElem h]

section
variable {w : World} {g h : Nat} {l : List Int}
theorem Mem.headCell (m : Mem w g h l) : w.cell? ⟨g, 0, none⟩ = some (.slice (some ⟨h, 0, none⟩) l.length l.length) := by
  rw [cell_of_row w g 0 _ 45 (0, 0) m.head]; rfl
theorem Mem.cell (m : Mem w g h l) (i : Nat) (hi : i < l.length) : w.cell? ⟨h, i, none⟩ = some (.int .i64 (rdl l i)) := by
  rw [cell_of_row w h i _ 3 (0, 0) m.row]
  rw [List.getElem?_toArray]; exact nums_get hi
theorem Mem.free (m : Mem w g h l) (i : Nat) : w.frozen? ⟨h, i, none⟩ = false := by
  simp [World.frozen?, m.row]
theorem Mem.drewN (m : Mem w g h l) (n : Nat) : Mem (w.drewN n) g h l := ⟨m.ne, m.head, m.row, m.small⟩
theorem Mem.lt (m : Mem w g h l) : g < w.heap.size ∧ h < w.heap.size := ⟨(Array.getElem?_eq_some_iff.1 m.head).1, (Array.getElem?_eq_some_iff.1 m.row).1⟩
theorem Mem.set (m : Mem w g h l) (i : Nat) (v : Int) : Mem (w.setCell ⟨h, i, none⟩ (.int .i64 v)) g h (l.set i v) := by
  refine ⟨m.ne, ?_, ?_, by rw [List.length_set]; exact m.small⟩
  · rw [Below.heap_setCell _ _ _ _ m.ne, List.length_set]; exact m.head
  · show (w.heap.modify h _)[h]? = _
    rw [Array.getElem?_modify, if_pos rfl, m.row]
    simp [nums, List.map_set]
end

theorem made_zeros (n : Nat) : madeCells #[Value.int .i64 0] n = (nums (List.replicate n 0)).toArray := by
  apply Array.ext
  · simp [madeCells, nums]
  · intro i h1 h2
    simp [madeCells, nums, Nat.mod_one]

/-- A new memory of noughts. -/
def Fresh (w : World) (n : Nat) (e : Ending) (w' : World) : Prop :=
  ∃ g h, e = .returned (.pointer (some ⟨g, 0, none⟩)) ∧ Mem w' g h (List.replicate n 0) ∧ w.heap.size ≤ g ∧ w.heap.size ≤ h ∧ Keeps (fun _ => False) w w'

theorem fresh_at (w : World) (n : Nat) (hn : n ≤ 32000) :
    Fresh w n (.returned (.pointer (some ⟨w.heap.size + 1, 0, none⟩))) ((w.alloc (.cells (madeCells #[Value.int .i64 0] n) 3)).alloc (.cells #[.slice (some ⟨w.heap.size, 0, none⟩) n n] 45)) := by
  refine ⟨w.heap.size + 1, w.heap.size, rfl, ⟨by omega, ?_, ?_, by simpa using hn⟩, by omega, by omega, ((Keeps.refl _ _).alloc _).alloc _⟩
  · have := heap_alloc_new (w.alloc (.cells (madeCells #[Value.int .i64 0] n) 3)) (.cells #[.slice (some ⟨w.heap.size, 0, none⟩) n n] 45)
    simpa using this
  · rw [Below.heap_alloc _ _ _ (by simp), heap_alloc_new, made_zeros]

theorem Tinfo3 : (Try.prog.info? 3).map (fun i => (i.zero, i.size, i.bytes)) = some (some (.int .i64 0), 1, 8) := by kernel_rfl

set_option maxHeartbeats 1000000 in
theorem new_c (n : Nat) (w : World) (hn : n ≤ 32000) : Calls Try.prog 10 #[.int .i64 (n : Int)] w (Fresh w n) := by
  have hF := Aside.mk (fresh_at w n hn)
  obtain ⟨i0, hi, hz0, hz1, hz2⟩ := info_parts Tinfo3
  have hmk : ∀ w : World, (Instr.makeSlice 26 (.int .i64 (n : Int)) (.int .i64 (n : Int))).run Try.prog w = .ok (.slice (some ⟨w.heap.size, 0, none⟩) n n) (w.alloc (.cells (madeCells #[Value.int .i64 0] n) 3)) := fun w => by
    have := run_make (P := Try.prog) w 26 3 i0 (.int .i64 0) Try.underlying26 hi hz0 .i64 .i64 n n (by omega) (by omega) (by rw [hz2]; omega) (by omega)
    simpa [hz1, Value.cells] using this
  clear hi hz0 hz1 hz2
  go_enter Try.func10, Try.ntmps10
  go_wp2
  go_ret
  exact hF.out

theorem new_no (n : Int) (w : World) (hn : n < 0 ∨ 32000 < n) : Calls Try.prog 10 #[.int .i64 n] w fun e w' => e = .returned (.pointer none) ∧ w = w' := by
  rcases hn with hn | hn
  · go_enter Try.func10, Try.ntmps10
    go_wp2
    go_ret
    exact ⟨rfl, rfl⟩
  · have h0 : 0 ≤ n := by omega
    go_enter Try.func10, Try.ntmps10
    go_wp2
    go_ret
    exact ⟨rfl, rfl⟩

/-- Is there a cell? -/
def inr (l : List Int) (a : Int) : Bool := decide (0 ≤ a ∧ a < l.length)
theorem inr_yes {l : List Int} {a : Int} (h0 : 0 ≤ a) (h1 : a < l.length) : inr l a = true := by simp [inr, h0, h1]
theorem inr_no {l : List Int} {a : Int} (h : ¬ (0 ≤ a ∧ a < l.length)) : inr l a = false := by simp [inr]; omega

theorem there_nil (a : Int) (w : World) : Calls Try.prog 19 #[.pointer none, .int .i64 a] w fun e w' => e = .returned (.bool false) ∧ w = w' := by
  go_enter Try.func19, Try.ntmps19
  go_wp2
  go_ret
  exact ⟨rfl, rfl⟩

section
variable {w : World} {g h : Nat} {l : List Int}

theorem there_c (m : Mem w g h l) (a : Int) : Calls Try.prog 19 #[.pointer (some ⟨g, 0, none⟩), .int .i64 a] w fun e w' => e = .returned (.bool (inr l a)) ∧ w = w' := by
  have hc := m.headCell
  have hl := m.small
  clear m
  by_cases h0 : 0 ≤ a
  · by_cases h1 : a < l.length
    · rw [inr_yes h0 h1]
      have d0 : decide (0 ≤ a) = true := by simpa using h0
      have d1 : decide (a < (l.length : Int)) = true := by simpa using h1
      go_enter Try.func19, Try.ntmps19
      go_wp2
      go_ret
      exact ⟨rfl, rfl⟩
    · rw [inr_no (by omega)]
      have d0 : decide (0 ≤ a) = true := by simpa using h0
      have d1 : decide (a < (l.length : Int)) = false := by simpa using h1
      clear h1
      go_enter Try.func19, Try.ntmps19
      go_wp2
      go_ret
      exact ⟨rfl, rfl⟩
  · rw [inr_no (by omega)]
    have d0 : decide (0 ≤ a) = false := by simpa using h0
    clear h0
    go_enter Try.func19, Try.ntmps19
    go_wp2
    go_ret
    exact ⟨rfl, rfl⟩

theorem len_c (m : Mem w g h l) : Calls Try.prog 14 #[.pointer (some ⟨g, 0, none⟩)] w fun e w' => e = .returned (.int .i64 (l.length : Int)) ∧ w = w' := by
  have hc := m.headCell
  clear m
  go_enter Try.func14, Try.ntmps14
  go_wp2
  go_ret
  exact ⟨rfl, rfl⟩

/-- The word of a cell, 0 where there is none. -/
def atl (l : List Int) (a : Int) : Int := if 0 ≤ a ∧ a < l.length then rdl l a.toNat else 0
theorem atl_yes {l : List Int} {a : Int} (h0 : 0 ≤ a) (h1 : a < l.length) : atl l a = rdl l a.toNat := by simp [atl, h0, h1]
theorem atl_no {l : List Int} {a : Int} (h : ¬ (0 ≤ a ∧ a < l.length)) : atl l a = 0 := by unfold atl; rw [if_neg h]

set_option maxHeartbeats 1000000 in
theorem load_c (m : Mem w g h l) (a : Int) : Calls Try.prog 13 #[.pointer (some ⟨g, 0, none⟩), .int .i64 a] w fun e w' => e = .returned (.tuple #[.int .i64 (atl l a), .bool (inr l a)]) ∧ w = w' := by
  have hc := m.headCell
  have hl := m.small
  by_cases hin : 0 ≤ a ∧ a < l.length
  · obtain ⟨h0, h1⟩ := hin
    have hcell := m.cell a.toNat (by omega)
    rw [inr_yes h0 h1, atl_yes h0 h1]
    have hT := Aside.mk (inr_yes h0 h1)
    have M := Aside.mk m
    clear m
    go_enter Try.func13, Try.ntmps13
    go_wp2_with (go_at_call 19; (with_reducible refine (there_c M.out _).mono ?_); rintro e w' ⟨rfl, rfl⟩; rw [hT.out])
    go_ret2
    exact ⟨rfl, rfl⟩
  · rw [inr_no hin, atl_no hin]
    have hT := Aside.mk (inr_no hin)
    have M := Aside.mk m
    clear m hin
    go_enter Try.func13, Try.ntmps13
    go_wp2_with (go_at_call 19; (with_reducible refine (there_c M.out _).mono ?_); rintro e w' ⟨rfl, rfl⟩; rw [hT.out])
    go_ret2
    exact ⟨rfl, rfl⟩
end

theorem load_nil (a : Int) (w : World) : Calls Try.prog 13 #[.pointer none, .int .i64 a] w fun e w' => e = .returned (.tuple #[.int .i64 0, .bool false]) ∧ w = w' := by
  go_enter Try.func13, Try.ntmps13
  go_wp2_with (go_at_call 19; (with_reducible refine (there_nil _ _).mono ?_); rintro e w' ⟨rfl, rfl⟩)
  go_ret2
  exact ⟨rfl, rfl⟩
theorem store_nil (a v : Int) (w : World) : Calls Try.prog 11 #[.pointer none, .int .i64 a, .int .i64 v] w fun e w' => e = .returned (.bool false) ∧ w = w' := by
  go_enter Try.func11, Try.ntmps11
  go_wp2_with (go_at_call 19; (with_reducible refine (there_nil _ _).mono ?_); rintro e w' ⟨rfl, rfl⟩)
  go_ret
  exact ⟨rfl, rfl⟩
theorem len_nil (w : World) : Calls Try.prog 14 #[.pointer none] w fun e w' => e = .returned (.int .i64 0) ∧ w = w' := by
  go_enter Try.func14, Try.ntmps14
  go_wp2
  go_ret
  exact ⟨rfl, rfl⟩
theorem words_nil (w : World) : Calls Try.prog 16 #[.pointer none] w fun e w' => e = .returned (.slice none 0 0) ∧ w = w' := by
  go_enter Try.func16, Try.ntmps16
  go_wp2
  go_ret
  exact ⟨rfl, rfl⟩
set_option maxHeartbeats 1000000 in
theorem used_nil (w : World) : Calls Try.prog 17 #[.pointer none] w fun e w' => e = .returned (.slice none 0 0) ∧ w = w' := by
  go_enter Try.func17, Try.ntmps17
  go_wp2_with (go_at_call 16; (with_reducible refine (words_nil _).mono ?_); rintro e w' ⟨rfl, rfl⟩)
  refine wp_loop_rounds 1 ?_
  rw [rounds_succ]
  go_wp2
  go_ret
  exact ⟨rfl, rfl⟩

theorem ret_int {k : IntKind} {a b : Int} (h : a = b) : Ending.returned (.int k a) = .returned (.int k b) := by rw [h]
theorem wrap_c (a : Int) (w : World) : Calls Try.prog 20 #[.int .i64 a] w fun e w' => e = .returned (.int .i64 (wrap32 a)) ∧ w = w' := by
  have h0 : wrap64 (wrap32 a) = wrap32 a := by unfold wrap32 wrap64; omega
  have H := Aside.mk h0
  clear h0
  go_enter Try.func20, Try.ntmps20
  go_wp2
  go_ret
  exact ⟨ret_int H.out, rfl⟩

/-- A memory's words, behind a store. -/
def sto (l : List Int) (a v : Int) : List Int := if 0 ≤ a ∧ a < l.length then l.set a.toNat (wrap32 v) else l
theorem sto_yes {l : List Int} {a v : Int} (h0 : 0 ≤ a) (h1 : a < l.length) : sto l a v = l.set a.toNat (wrap32 v) := by unfold sto; rw [if_pos ⟨h0, h1⟩]
theorem sto_no {l : List Int} {a v : Int} (h : ¬ (0 ≤ a ∧ a < l.length)) : sto l a v = l := by unfold sto; rw [if_neg h]
theorem sto_length (l : List Int) (a v : Int) : (sto l a v).length = l.length := by unfold sto; split <;> simp

def Stores (w : World) (g h : Nat) (l : List Int) (a v : Int) (e : Ending) (w' : World) : Prop :=
  e = .returned (.bool (inr l a)) ∧ Mem w' g h (sto l a v) ∧ Keeps (· = h) w w'

section
variable {w : World} {g h : Nat} {l : List Int}
set_option maxHeartbeats 2000000 in
theorem store_c (m : Mem w g h l) (a v : Int) : Calls Try.prog 11 #[.pointer (some ⟨g, 0, none⟩), .int .i64 a, .int .i64 v] w (Stores w g h l a v) := by
  have hc := m.headCell
  have hl := m.small
  by_cases hin : 0 ≤ a ∧ a < l.length
  · obtain ⟨h0, h1⟩ := hin
    have hcell := m.cell a.toNat (by omega)
    have hfr := m.free a.toNat
    have hT := Aside.mk (inr_yes h0 h1)
    have hF : ∀ n, Stores w g h l a v (.returned (.bool true)) ((w.setCell ⟨h, a.toNat, none⟩ (.int .i64 (wrap32 v))).drewN n) := fun n => by
      refine ⟨by rw [hT.out], ?_, Keeps.drewN (Keeps.setCell (S := fun x => x = h) (Keeps.refl _ _) (p := ⟨h, a.toNat, none⟩) rfl _) n⟩
      rw [sto_yes h0 h1]
      exact (m.set _ _).drewN n
    have HF := Aside.mk hF
    have M := Aside.mk m
    clear m hF
    go_enter Try.func11, Try.ntmps11
    go_wp2_with (go_at_call 19; (with_reducible refine (there_c M.out _).mono ?_); rintro e w' ⟨rfl, rfl⟩; rw [hT.out])
    go_region_with (go_at_call 20; refine (wrap_c _ _).mono ?_; rintro e w' ⟨rfl, rfl⟩)
    all_goals
      go_wp2
      go_ret
      exact HF.out 1
  · have hT := Aside.mk (inr_no hin)
    have HF : Aside (Stores w g h l a v (.returned (.bool false)) w) := ⟨by rw [hT.out], by rw [sto_no hin]; exact m, Keeps.refl _ _⟩
    have M := Aside.mk m
    clear m hin
    go_enter Try.func11, Try.ntmps11
    go_wp2_with (go_at_call 19; (with_reducible refine (there_c M.out _).mono ?_); rintro e w' ⟨rfl, rfl⟩; rw [hT.out])
    go_ret
    exact HF.out
end

/-- A list of the call's own, in new memory. -/
def Told (w : World) (l : List Int) (e : Ending) (w' : World) : Prop :=
  ∃ A c, e = .returned (.slice A l.length c) ∧ w'.ownsRow w.heap.size 3 1 (.slice A l.length c) l.length (nums l) ∧ Below w.heap.size w w'

theorem owned_slice {w : World} {b n : Nat} {v : Value} {xs : List Value} (h : w.ownsRow b 3 1 v n xs) : ∃ A c, v = .slice A n c ∧ n ≤ c ∧ (0 < n → ∃ q, A = some ⟨q, 0, none⟩) := by
  rcases h.2 with ⟨rfl, rfl⟩ | ⟨q, cap, cur, rfl, _, _, hn, _⟩
  · exact ⟨none, 0, rfl, Nat.le_refl _, fun h => absurd h (by omega)⟩
  · exact ⟨some ⟨q, 0, none⟩, cap, rfl, hn, fun _ => ⟨q, rfl⟩⟩

theorem owned_cell {w : World} {b c q : Nat} {l : List Int} {n : Nat} (h : w.ownsRow b 3 1 (.slice (some ⟨q, 0, none⟩) n c) n (nums l)) (i : Nat) (hi : i < l.length) : w.cell? ⟨q, i, none⟩ = some (.int .i64 (rdl l i)) := by
  have := h.cells (g := q) rfl i _ (nums_get hi)
  have hadd : (⟨q, 0, none⟩ : Addr).add i = ⟨q, i, none⟩ := by unfold Addr.add; split <;> simp_all
  rwa [hadd] at this

theorem owned_take {w : World} {b c : Nat} {A : Option Addr} {l : List Int} {n k : Nat} (h : w.ownsRow b 3 1 (.slice A n c) n (nums l)) (hk : k ≤ n) : w.ownsRow b 3 1 (.slice A k c) k (nums (l.take k)) := by
  obtain ⟨h1, h2⟩ := h
  have hn : l.length = n := by simpa [nums] using h1
  refine ⟨by simp [nums]; omega, ?_⟩
  rcases h2 with ⟨hv, rfl⟩ | ⟨q, cap, cur, hv, hb, hh, hc, hm, hs, ht⟩
  · cases hv
    exact .inl ⟨by rw [Nat.le_zero.1 hk], by omega⟩
  · cases hv
    refine .inr ⟨q, c, cur, rfl, hb, hh, by omega, hm, hs, ?_⟩
    have : (cur.toList.take (n * 1)).take (k * 1) = (nums l).take (k * 1) := by rw [ht]
    rw [List.take_take, Nat.min_eq_left (by omega)] at this
    rw [this]; simp [nums, List.map_take]

section
variable {w : World} {g h : Nat} {l : List Int}
theorem clone_c (m : Mem w g h l) : Calls Try.prog 22 #[.slice (some ⟨h, 0, none⟩) l.length l.length] w (Told w l) := by
  refine (Try.slices_Clone_int h 0 l.length l.length l w (Nat.le_refl _) (by have := m.small; omega) (fun j hj => by rw [Nat.zero_add]; exact m.cell j hj)).mono ?_
  rintro e w' ⟨v, rfl, ho, _, hb⟩
  rw [List.take_length] at ho
  obtain ⟨A, c, rfl, _, _⟩ := owned_slice ho
  exact ⟨A, c, rfl, ho, hb⟩

theorem words_c (m : Mem w g h l) : Calls Try.prog 16 #[.pointer (some ⟨g, 0, none⟩)] w (Told w l) := by
  have hc := m.headCell
  have M := Aside.mk m
  clear m
  go_enter Try.func16, Try.ntmps16
  go_wp2_with (go_at_call 22; (with_reducible refine (clone_c M.out).mono ?_); rintro e w' ⟨A, c, rfl, ho, hb⟩; have H := Aside.mk (And.intro ho hb); clear ho hb)
  go_ret
  exact ⟨A, c, rfl, H.out⟩

/-- How many words are used, of the first k. -/
def upto (l : List Int) : Nat → Nat
  | 0 => 0
  | k + 1 => if rdl l k = 0 then upto l k else k + 1
theorem upto_le (l : List Int) : ∀ k, upto l k ≤ k
  | 0 => Nat.le_refl _
  | k + 1 => by unfold upto; split <;> have := upto_le l k <;> omega
def used (l : List Int) : List Int := l.take (upto l l.length)
theorem used_length (l : List Int) : (used l).length = upto l l.length := by have := upto_le l l.length; simp [used]; omega

def lenOf : Value → Nat | .slice _ n _ => n | _ => 0

theorem used_told {w w1 : World} {l : List Int} {A : Option Addr} {c k : Nat} (ho : w1.ownsRow w.heap.size 3 1 (.slice A l.length c) l.length (nums l)) (hb : Below w.heap.size w w1) (hk : upto l l.length = k) :
    Told w (used l) (.returned (.slice A k c)) w1 := by
  subst hk
  refine ⟨A, c, by rw [used_length], ?_, hb⟩
  rw [used_length]
  exact owned_take ho (upto_le _ _)

set_option maxHeartbeats 2000000 in
theorem used_c (m : Mem w g h l) : Calls Try.prog 17 #[.pointer (some ⟨g, 0, none⟩)] w (Told w (used l)) := by
  have hs := m.small
  have M := Aside.mk m
  clear m
  go_enter Try.func17, Try.ntmps17
  go_wp2_with (go_at_call 16; (with_reducible refine (words_c M.out).mono ?_); rintro e w1 ⟨A, c, rfl, ho, hb⟩; have H := Aside.mk (And.intro ho hb); obtain ⟨A', c', he, hcap, hA⟩ := owned_slice ho; cases he; clear hb)
  have hcell : ∀ i, i < l.length → ∃ q, A = some ⟨q, 0, none⟩ ∧ w1.cell? ⟨q, i, none⟩ = some (.int .i64 (rdl l i)) := fun i hi => by
    obtain ⟨q, rfl⟩ := hA (by omega)
    exact ⟨q, rfl, owned_cell ho i hi⟩
  have HC := Aside.mk hcell
  clear hcell ho hA
  go_loop [3] (fun v => ∃ k : Nat, k ≤ l.length ∧ v = .slice A k c ∧ Aside (upto l l.length = upto l k)) (fun v => lenOf v)
  case atStart => exact ⟨l.length, Nat.le_refl _, rfl, ⟨rfl⟩⟩
  case round =>
    obtain ⟨k, hk, rfl, hu⟩ := hrel
    by_cases h0 : 0 < k
    · obtain ⟨j, rfl⟩ : ∃ j, k = j + 1 := ⟨k - 1, by omega⟩
      obtain ⟨q, rfl, hc⟩ := HC.out j (by omega)
      by_cases hz : rdl l j = 0
      · have hN : Aside (upto l l.length = upto l j) := ⟨by rw [hu.out]; simp [upto, hz]⟩
        have hz' : (rdl l j == 0) = true := beq_iff_eq.2 hz
        clear hz hu
        go_wp2
        go_round
        case rel => exact ⟨j, by omega, by simp, hN⟩
        case measure => simp [lenOf]
      · have hN : Aside (upto l l.length = j + 1) := ⟨by rw [hu.out]; simp [upto, hz]⟩
        have hz' : (rdl l j == 0) = false := beq_eq_false_iff_ne.2 hz
        clear hz hu
        go_wp2
        go_ret
        exact used_told H.out.1 H.out.2 hN.out
    · obtain rfl : k = 0 := by omega
      have hN : Aside (upto l l.length = 0) := ⟨by rw [hu.out]; rfl⟩
      clear hu h0
      go_wp2
      go_ret
      exact used_told H.out.1 H.out.2 hN.out
end

end Go.Proofs.Ytbjpomdenppaiaa.Hand
