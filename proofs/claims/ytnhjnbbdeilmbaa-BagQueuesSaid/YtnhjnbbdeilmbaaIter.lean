/- The iterator of a set of numbers, and what a walk inside a fence needs. -/
import Derived.RangeFuncNested
import Derived.RangeFuncBound
import Derived.RangeFuncCalls
import Derived.RangeFuncLeaves
import Derived.RangeFuncBox
import Derived.Shelf.Abstract
import Derived.WalkKit
import Derived.OwnWalkIn
import Derived.TacticsInMore
import Derived.LoopNIn
import Derived.LoopIn
import Derived.Maps.AppendAt
import Derived.Test.YtnhjnbbdeilmbaaArgs
namespace Go.Proofs.Ytnhjnbbdeilmbaa.Hand
open Go.RowKit Go.Shelf
attribute [local go_sem] Oper.semAt_some

/-- A list read cell by cell, in a block below n₀. -/
def Ints (n₀ : Nat) (W : World) (sv : Value) (zs : List Int) : Prop :=
  (∃ A c, sv = .slice A 0 c ∧ zs = []) ∨ ∃ b cap, sv = .slice (some ⟨b, 0, none⟩) zs.length cap ∧ zs.length ≤ cap ∧ b < n₀ ∧ ∀ j, j < zs.length → W.cell? ⟨b, j, none⟩ = some (.int .i64 (rdl zs j))
theorem Ints.below {n₀ : Nat} {A B : World} (h : Below n₀ A B) {sv : Value} {zs : List Int} : Ints n₀ A sv zs → Ints n₀ B sv zs
  | .inl e => .inl e
  | .inr ⟨b, cap, e, hc, hb, hcs⟩ => .inr ⟨b, cap, e, hc, hb, fun j hj => (h.cell (p := ⟨b, j, none⟩) hb).trans (hcs j hj)⟩
theorem take_snoc' (z : List Int) (k : Nat) (h : k < z.length) : z.take (k + 1) = z.take k ++ [rdl z k] := by
  rw [List.take_succ_eq_append_getElem h]
  simp [rdl, List.getD_eq_getElem?_getD, h]

set_option maxRecDepth 100000 in
set_option maxHeartbeats 2000000 in
theorem set1_in (F : Fence) (n : Nat) (hf : F.fn 26) (hro : F.round = none) (hn : 1 ≤ n) (l Bs g n₀ b cap : Nat) (zs : List Int) (hm : zs.length ≤ 1000000) (_hcap : zs.length ≤ cap) (hb : b < n₀) (J Jx : List Int → World → Prop)
    (hY : ∀ pre x W, J pre W → pre.length < zs.length → YieldAt F (n - 1) Try.prog l #[.int .i64 x] W fun e W' =>
      (e = .returned (.bool true) ∧ J (pre ++ [x]) W' ∧ Below n₀ W W') ∨ (e = .returned (.bool false) ∧ Jx (pre ++ [x]) W'))
    (W : World) (hBs : W.cell? ⟨Bs, 0, none⟩ = some (.pointer (some ⟨g, 0, none⟩))) (hg : W.cell? ⟨g, 1, none⟩ = some (.slice (some ⟨b, 0, none⟩) zs.length cap)) (hc : ∀ j, j < zs.length → W.cell? ⟨b, j, none⟩ = some (.int .i64 (rdl zs j))) (h0 : J [] W) :
    CallsIn F n Try.prog 26 #[.func (.yield l) #[] #[], .pointer (some ⟨Bs, 0, none⟩)] W fun e W' => (∃ v, e = .returned v) ∧
      ((∃ ys, ys = zs ∧ J ys W') ∨ (∃ pre, (∃ k, k ≤ zs.length ∧ pre = zs.take k) ∧ Jx pre W')) := by
  have HC := Aside.mk hc
  clear hc
  refine callsIn_of_wp Try.func26 rfl hf ?_ hro
  simp only [Try.ntmps26, List.size_toArray, List.length_cons, List.length_nil, Nat.reduceAdd, Nat.reduceSub, Array.replicate_succ, Array.replicate_zero, List.push_toArray, List.append_toArray, List.nil_append, List.cons_append]
  gi_wp2
  gi_loopw [10] (fun i wr => ∃ k : Nat, k ≤ zs.length ∧ i = .int .i64 k ∧ J (zs.take k) wr ∧ Below n₀ W wr)
    (fun i _ => zs.length - (intOf i).toNat)
  case atStart => exact ⟨0, Nat.zero_le _, rfl, h0, Below.refl _ _⟩
  case round =>
    obtain ⟨k, hk, rfl, hJs, hnx⟩ := hrel
    by_cases hlt : k < zs.length
    · obtain ⟨fn, tmps, assign, body, hy, hR⟩ := hY _ (rdl zs k) wr hJs (by simp; omega)
      have hcx := (hnx.cell (p := ⟨b, k, none⟩) hb).trans (HC.out k hlt)
      have hts := Aside.mk (take_snoc' zs k hlt)
      gi_wp2
      refine hR.mono ?_
      rintro e W3 (⟨rfl, hJ3, hk3⟩ | ⟨rfl, hJx3⟩)
      · gi_wp2
        go_roundw
        case rel => exact ⟨k + 1, by omega, by go_num, by rw [hts.out]; exact hJ3, hnx.trans hk3⟩
        case measure => simp [intOf]; omega
      · gi_wp2
        refine bodyPost_ret (results_none rfl _ _ _) rfl ?_
        exact ⟨⟨_, rfl⟩, .inr ⟨_, ⟨k + 1, by omega, hts.out.symm⟩, hJx3⟩⟩
    · obtain rfl : zs.length = k := by omega
      gi_wp2
      go_end0
      exact ⟨⟨_, rfl⟩, .inl ⟨_, List.take_length, hJs⟩⟩

set_option maxRecDepth 100000 in
set_option maxHeartbeats 1000000 in
theorem set1_nil_in (F : Fence) (n : Nat) (hf : F.fn 26) (hro : F.round = none) (l Bs g : Nat) (A : Option Addr) (c : Nat) (J : List Int → World → Prop) (W : World) (hBs : W.cell? ⟨Bs, 0, none⟩ = some (.pointer (some ⟨g, 0, none⟩))) (hg : W.cell? ⟨g, 1, none⟩ = some (.slice A 0 c)) (h0 : J [] W) :
    CallsIn F n Try.prog 26 #[.func (.yield l) #[] #[], .pointer (some ⟨Bs, 0, none⟩)] W fun e W' => (∃ v, e = .returned v) ∧ J [] W' := by
  refine callsIn_of_wp Try.func26 rfl hf ?_ hro
  simp only [Try.ntmps26, List.size_toArray, List.length_cons, List.length_nil, Nat.reduceAdd, Nat.reduceSub, Array.replicate_succ, Array.replicate_zero, List.push_toArray, List.append_toArray, List.nil_append, List.cons_append]
  gi_wp2
  gi_loopw [10] (fun i wr => i = .int .i64 0 ∧ J [] wr) (fun _ _ => 0)
  case atStart => exact ⟨rfl, h0⟩
  case round =>
    obtain ⟨rfl, hJs⟩ := hrel
    gi_wp2
    go_end0
    exact ⟨⟨_, rfl⟩, hJs⟩

/-- The iterator's value, at whatever block below n₀. -/
theorem set_stops (F : Fence) (n : Nat) (hf : F.fn 26) (hro : F.round = none) (hn : 1 ≤ n) (Bs g n₀ : Nat) (sv : Value) (zs : List Int) (hm : zs.length ≤ 1000000) (w : World) (hBs : Bs < w.heap.size) (hn₀ : n₀ ≤ w.heap.size) (hgn : g < n₀)
    (hc : w.cell? ⟨Bs, 0, none⟩ = some (.pointer (some ⟨g, 0, none⟩))) (hg : w.cell? ⟨g, 1, none⟩ = some sv) (hI : Ints n₀ w sv zs) :
    SeqStopsK F n Try.prog 26 #[.pointer (some ⟨Bs, 0, none⟩)] (fun x : Int => #[Value.int .i64 x]) (Below n₀) (fun ys => ys = zs) (fun pre => ∃ k, k ≤ zs.length ∧ pre = zs.take k) zs.length w := fun l J Jx W hW _ _ hY h0 => by
  have hc' := (hW.cell (p := ⟨Bs, 0, none⟩) hBs).trans hc
  have hg' := (hW.cell (p := ⟨g, 1, none⟩) (Nat.lt_of_lt_of_le hgn hn₀)).trans hg
  rcases hI.below (hW.mono hn₀) with ⟨A, c, rfl, rfl⟩ | ⟨b, cap, rfl, hcap, hb, hcs⟩
  · exact (set1_nil_in F n hf hro l Bs g A c J W hc' hg' h0).mono fun e W' ⟨he, hj⟩ => ⟨he, .inl ⟨_, rfl, hj⟩⟩
  · exact set1_in F n hf hro hn l Bs g n₀ b cap zs hm hcap hb J Jx hY W hc' hg' hcs h0

theorem setAll_c (g : Nat) (w : World) : Calls Try.prog 21 #[.pointer (some ⟨g, 0, none⟩)] w fun e w' => e = .returned (.func (.func 26) #[] #[.pointer (some ⟨w.heap.size, 0, none⟩)]) ∧ w' = w.alloc (.cells #[.pointer (some ⟨g, 0, none⟩)] 54) := by
  go_enter Try.func21, Try.ntmps21
  go_wp2
  go_ret
  exact ⟨rfl, rfl⟩

end Go.Proofs.Ytnhjnbbdeilmbaa.Hand
