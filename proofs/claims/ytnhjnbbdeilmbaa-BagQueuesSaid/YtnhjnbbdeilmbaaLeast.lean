/- The least one of a set is the first that no other one is less than, by the number of tens: for every list (the law takes the first 100), no further condition. -/
import Derived.BigRegionIn
import Derived.Test.YtnhjnbbdeilmbaaIter
namespace Go.Proofs.Ytnhjnbbdeilmbaa.Hand
open Go.RowKit Go.Shelf
attribute [local go_sem] Oper.semAt_some

/-- How many tens a number has, as the code reckons it. -/
def tensOf (a : Int) : Int := wrap64 (Int.tdiv a 10)
def lessB (a b : Int) : Bool := decide (tensOf a < tensOf b)

set_option maxHeartbeats 1000000 in
theorem tens_c (a b : Int) (w : World) : Calls Try.prog 23 #[.int .i64 a, .int .i64 b] w fun e w' => e = .returned (.bool (lessB a b)) ∧ w = w' := by
  go_enter Try.func23, Try.ntmps23
  go_wp2
  go_ret
  exact ⟨rfl, rfl⟩

def pick (b : Option Int) (v : Int) : Option Int :=
  match b with
  | none => some v
  | some b => if lessB v b = true then some v else some b
def best (l : List Int) : Option Int := l.foldl pick none
theorem best_snoc (l : List Int) (v : Int) : best (l ++ [v]) = pick (best l) v := by simp [best]
def bestV (l : List Int) : Int := (best l).getD 0
def bestB (l : List Int) : Bool := (best l).isSome

theorem cell_far (w : World) (p a : Addr) (v : Value) (h : a.block ≠ p.block) : (w.setCell p v).cell? a = w.cell? a := World.cell?_of_block (Below.heap_setCell _ _ _ _ h)
theorem stored2 {w W : World} {vf u1 u2 : Value} (v1 v2 : Value) (B : Nat) (c0 : W.cell? ⟨w.heap.size, 0, none⟩ = some vf) (c1 : W.cell? ⟨w.heap.size + 1, 0, none⟩ = some u1) (c2 : W.cell? ⟨w.heap.size + 1 + 1, 0, none⟩ = some u2)
    (f1 : W.frozen? ⟨w.heap.size + 1, 0, none⟩ = false) (f2 : W.frozen? ⟨w.heap.size + 1 + 1, 0, none⟩ = false) (hB : Below w.heap.size w W) :
    KeepsFrom B W ((W.setCell ⟨w.heap.size + 1, 0, none⟩ v1).setCell ⟨w.heap.size + 1 + 1, 0, none⟩ v2) ∧ Below w.heap.size W ((W.setCell ⟨w.heap.size + 1, 0, none⟩ v1).setCell ⟨w.heap.size + 1 + 1, 0, none⟩ v2) ∧
    (((((W.setCell ⟨w.heap.size + 1, 0, none⟩ v1).setCell ⟨w.heap.size + 1 + 1, 0, none⟩ v2).cell? ⟨w.heap.size, 0, none⟩ = some vf ∧ ((W.setCell ⟨w.heap.size + 1, 0, none⟩ v1).setCell ⟨w.heap.size + 1 + 1, 0, none⟩ v2).cell? ⟨w.heap.size + 1, 0, none⟩ = some v1 ∧ ((W.setCell ⟨w.heap.size + 1, 0, none⟩ v1).setCell ⟨w.heap.size + 1 + 1, 0, none⟩ v2).cell? ⟨w.heap.size + 1 + 1, 0, none⟩ = some v2)) ∧
      ((W.setCell ⟨w.heap.size + 1, 0, none⟩ v1).setCell ⟨w.heap.size + 1 + 1, 0, none⟩ v2).frozen? ⟨w.heap.size + 1, 0, none⟩ = false ∧ ((W.setCell ⟨w.heap.size + 1, 0, none⟩ v1).setCell ⟨w.heap.size + 1 + 1, 0, none⟩ v2).frozen? ⟨w.heap.size + 1 + 1, 0, none⟩ = false) ∧ Below w.heap.size w ((W.setCell ⟨w.heap.size + 1, 0, none⟩ v1).setCell ⟨w.heap.size + 1 + 1, 0, none⟩ v2) := by
  have hb := ((Below.refl w.heap.size W).setCell (p := ⟨w.heap.size + 1, 0, none⟩) (by show w.heap.size ≤ w.heap.size + 1; omega) v1).setCell (p := ⟨w.heap.size + 1 + 1, 0, none⟩) (by show w.heap.size ≤ w.heap.size + 1 + 1; omega) v2
  refine ⟨((KeepsOthers.setCell _ _ _).from _).trans ((KeepsOthers.setCell _ _ _).from _), hb, ⟨⟨?_, ?_, ?_⟩, ?_, ?_⟩, hB.trans hb⟩
  · exact (cell_far _ _ _ _ (by show w.heap.size ≠ w.heap.size + 1 + 1; omega)).trans ((cell_far _ _ _ _ (by show w.heap.size ≠ w.heap.size + 1; omega)).trans c0)
  · exact (cell_far _ _ _ _ (by show w.heap.size + 1 ≠ w.heap.size + 1 + 1; omega)).trans (World.cell?_setCell_same' _ _ _ (by rw [c1]; rfl))
  · exact World.cell?_setCell_same' _ _ _ (by rw [cell_far _ _ _ _ (by show w.heap.size + 1 + 1 ≠ w.heap.size + 1; omega), c2]; rfl)
  · rw [World.frozen?_setCell, World.frozen?_setCell]; exact f1
  · rw [World.frozen?_setCell, World.frozen?_setCell]; exact f2

set_option maxRecDepth 100000 in
set_option maxHeartbeats 4000000 in
theorem least_c (g Bs : Nat) (sv : Value) (zs : List Int) (w : World) (hm : zs.length ≤ 1000000) (hBs : Bs < w.heap.size) (hgn : g < w.heap.size) (hc : w.cell? ⟨Bs, 0, none⟩ = some (.pointer (some ⟨g, 0, none⟩))) (hg : w.cell? ⟨g, 1, none⟩ = some sv) (hI : Ints w.heap.size w sv zs) :
    Calls Try.prog 22 #[.func (.func 26) #[] #[.pointer (some ⟨Bs, 0, none⟩)], .func (.func 23) #[] #[]] w fun e w' => e = .returned (.tuple #[.int .i64 (bestV zs), .bool (bestB zs)]) ∧ Below w.heap.size w w' := by
  have b0 := Boxed.new w 53 (.func (.func 23) #[] #[])
  have b1 := Boxed.new (w.alloc (.cells #[.func (.func 23) #[] #[]] 53)) 3 (.int .i64 0)
  have b2 := Boxed.new ((w.alloc (.cells #[.func (.func 23) #[] #[]] 53)).alloc (.cells #[.int .i64 0] 3)) 4 (.bool false)
  rw [World.size_alloc] at b1
  rw [World.size_alloc, World.size_alloc] at b2
  have hB0 : Below w.heap.size w (((w.alloc (.cells #[.func (.func 23) #[] #[]] 53)).alloc (.cells #[.int .i64 0] 3)).alloc (.cells #[.bool false] 4)) := (((Below.refl _ w).alloc (Nat.le_refl _) _).alloc (by simp) _).alloc (by simp; omega) _
  refine (callsIn_wide (n := 3)).1 ?_
  refine callsIn_of_wp_marks Try.func22 rfl trivial ?_ rfl
  simp only [Try.ntmps22, List.size_toArray, List.length_cons, List.length_nil, Nat.reduceAdd, Nat.reduceSub, Array.replicate_succ, Array.replicate_zero, List.push_toArray, List.append_toArray, List.nil_append, List.cons_append]
  gi_wp2
  refine wpIn_rangeFunc_ownG rfl (by omega) (gf := 26) (lb := #[.pointer (some ⟨Bs, 0, none⟩)]) rfl trivial (enters_of Try.func26 (by kernel_rfl) rfl)
    (set_stops Fence.wide _ trivial rfl (by omega) Bs g w.heap.size sv zs hm _ (by simp; omega) (by simp; omega) hgn ((hB0.cell (p := ⟨Bs, 0, none⟩) hBs).trans hc) ((hB0.cell (p := ⟨g, 1, none⟩) hgn).trans hg) (hI.below hB0)) belowK_t (belowK_b (by simp; omega)) (Below.refl _ _) (fun _ => rfl)
    (fun pre W => ((W.cell? ⟨w.heap.size, 0, none⟩ = some (.func (.func 23) #[] #[]) ∧ W.cell? ⟨w.heap.size + 1, 0, none⟩ = some (.int .i64 (bestV pre)) ∧ W.cell? ⟨w.heap.size + 1 + 1, 0, none⟩ = some (.bool (bestB pre))) ∧ (W.frozen? ⟨w.heap.size + 1, 0, none⟩ = false ∧ W.frozen? ⟨w.heap.size + 1 + 1, 0, none⟩ = false)) ∧ Below w.heap.size w W)
    (fun _ _ _ => False)
    (OwnFrom.and (Own.from (fun s A B row hs hg hr => ⟨⟨cell_kept hs.1.1 hg hr, cell_kept hs.1.2.1 hg hr, cell_kept hs.1.2.2 hg hr⟩, (frozen_kept hs.1.2.1 hg hr).trans hs.2.1, (frozen_kept hs.1.2.2 hg hr).trans hs.2.2⟩) _) (ownFrom_below (Nat.le_refl _) (by simp; omega)))
    (fun _ _ _ _ _ hs _ _ => hs)
    ⟨⟨⟨((b0.alloc _).alloc _).cell, (b1.alloc _).cell, b2.cell⟩, (b1.alloc _).frozen, b2.frozen⟩, hB0⟩
    (fun x => { tmps := #[.func (.func 26) #[] #[.pointer (some ⟨Bs, 0, none⟩)], .func (.func 23) #[] #[], undef, .pointer (some ⟨w.heap.size, 0, none⟩), .int .i64 0, .bool false, .pointer (some ⟨w.heap.size + 1, 0, none⟩), .pointer (some ⟨w.heap.size + 1 + 1, 0, none⟩), .int .i64 x, .func (.func 26) #[] #[.pointer (some ⟨Bs, 0, none⟩)], .int .i64 x, undef, undef, undef, undef, undef, undef, undef, undef, undef, undef, undef], defers := [] }) ?assign ?body ?done ?stop
  case assign =>
    intro l x W K hK
    gi_wp2
    exact hK
  case body =>
    rintro l pre x W ⟨⟨⟨c0, c1, c2⟩, f1, f2⟩, hB⟩ _
    have HBB := Aside.mk hB
    have hgV : bestV (pre ++ [x]) = (pick (best pre) x).getD 0 := by rw [bestV, best_snoc]
    have hgB : bestB (pre ++ [x]) = (pick (best pre) x).isSome := by rw [bestB, best_snoc]
    clear hB
    unfold bestV at c1
    unfold bestB at c2
    generalize best pre = B at c1 c2 hgV hgB
    cases B with
    | none =>
      replace c1 : W.cell? ⟨w.heap.size + 1, 0, none⟩ = some (.int .i64 0) := c1
      replace c2 : W.cell? ⟨w.heap.size + 1 + 1, 0, none⟩ = some (.bool false) := c2
      replace hgV : bestV (pre ++ [x]) = x := hgV
      replace hgB : bestB (pre ++ [x]) = true := hgB
      gi_wp2
      refine ⟨fun _ h => (nomatch h), ?_⟩
      gi_wp2
      have h := stored2 (.int .i64 x) (.bool true) (((w.alloc (.cells #[.func (.func 23) #[] #[]] 53)).alloc (.cells #[.int .i64 0] 3)).alloc (.cells #[.bool false] 4)).heap.size c0 c1 c2 f1 f2 HBB.out
      exact ⟨h.1, h.2.1, ⟨⟨h.2.2.1.1.1, h.2.2.1.1.2.1.trans (by rw [hgV]), h.2.2.1.1.2.2.trans (by rw [hgB])⟩, h.2.2.1.2⟩, h.2.2.2⟩
    | some b =>
      replace c1 : W.cell? ⟨w.heap.size + 1, 0, none⟩ = some (.int .i64 b) := c1
      replace c2 : W.cell? ⟨w.heap.size + 1 + 1, 0, none⟩ = some (.bool true) := c2
      replace hgV : bestV (pre ++ [x]) = (if lessB x b = true then some x else some b).getD 0 := hgV
      replace hgB : bestB (pre ++ [x]) = (if lessB x b = true then some x else some b).isSome := hgB
      cases hl : lessB x b with
      | true =>
        rw [hl, if_pos rfl] at hgV hgB
        replace hgV : bestV (pre ++ [x]) = x := hgV
        replace hgB : bestB (pre ++ [x]) = true := hgB
        gi_wp2_with (first
          | (refine ⟨trivial, ?_⟩; gi_at_call 23; refine (CallsIn.inRound l (callsIn_wide.2 (tens_c _ _ _))).mono ?_; rintro e w' ⟨rfl, rfl⟩; rw [hl]))
        have h := stored2 (.int .i64 x) (.bool true) (((w.alloc (.cells #[.func (.func 23) #[] #[]] 53)).alloc (.cells #[.int .i64 0] 3)).alloc (.cells #[.bool false] 4)).heap.size c0 c1 c2 f1 f2 HBB.out
        exact ⟨h.1, h.2.1, ⟨⟨h.2.2.1.1.1, h.2.2.1.1.2.1.trans (by rw [hgV]), h.2.2.1.1.2.2.trans (by rw [hgB])⟩, h.2.2.1.2⟩, h.2.2.2⟩
      | false =>
        rw [hl, if_neg (by decide)] at hgV hgB
        replace hgV : bestV (pre ++ [x]) = b := hgV
        replace hgB : bestB (pre ++ [x]) = true := hgB
        gi_wp2_with (first
          | (refine ⟨trivial, ?_⟩; gi_at_call 23; refine (CallsIn.inRound l (callsIn_wide.2 (tens_c _ _ _))).mono ?_; rintro e w' ⟨rfl, rfl⟩; rw [hl]))
        exact ⟨KeepsFrom.refl _ _, Below.refl _ _, ⟨⟨c0, c1.trans (by rw [hgV]), c2.trans (by rw [hgB])⟩, f1, f2⟩, HBB.out⟩
  case done =>
    rintro D ys W hD rfl ⟨⟨⟨c0, c1, c2⟩, f1, f2⟩, hB⟩ hK
    gi_wp2
    gi_region
    gi_wp2
    refine ⟨by simp, .inl ⟨_, _, rfl, run_takeDeferred (w := W.drew) hK, ?_⟩⟩
    have hB' : Below w.heap.size w W.drew := ⟨hB.os, hB.tape, hB.output, hB.size, hB.block⟩
    refine ⟨_, ?_, rfl, hB'.trans (belowK_b (w := w) (Nat.le_refl _) W.drew D _ _ (by simp at hD; omega) hK rfl rfl)⟩
    simp [results, Try.f22, go_sem]
  case stop =>
    rintro D c pre W _ _ h _
    exact h.elim

end Go.Proofs.Ytnhjnbbdeilmbaa.Hand
