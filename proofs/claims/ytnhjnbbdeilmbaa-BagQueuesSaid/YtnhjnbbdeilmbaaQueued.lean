/- What the law gathers from a queue by its iterator: all of it, in its order. -/
import Derived.Test.YtnhjnbbdeilmbaaQIter
import Derived.Test.YtnhjnbbdeilmbaaSetsLaw
namespace Go.Proofs.Ytnhjnbbdeilmbaa.Hand
open Go.RowKit Go.Shelf
attribute [local go_sem] Oper.semAt_some

theorem eqnil57 (cs : Array Value) (w : World) : (binOp .eql 57 (.func (.func 27) #[] cs) .nilFunc).run Try.prog w = .ok (.bool false) w := by kernel_rfl

def snds (l : List (Int × Int)) : List Int := l.map (·.2)
theorem snds_snoc (l : List (Int × Int)) (x : Int × Int) : snds (l ++ [x]) = snds l ++ [x.2] := by simp [snds]
theorem queued_step {W w w1 : World} {g k k' : Nat} {v v' u0 u : Value} {cs cs' : List Value} {tmp : Obj}
    (hv : Boxed W w.heap.size 22 v) (hrow : W.ownsRow w.heap.size 3 1 v k cs) (hok : Boxed W (w.heap.size + 1) 4 u0) (hbs : Boxed W (w.heap.size + 1 + 1) 45 (.pointer (some ⟨g, 0, none⟩))) (hB : Below w.heap.size w W)
    (hown' : w1.ownsRow w.heap.size 3 1 v' k' cs') (hgrow : ((W.setCell ⟨w.heap.size + 1, 0, none⟩ u).alloc tmp).grownBy w1 v.ownBlock) :
    Boxed w1 w.heap.size 22 v ∧ Boxed (w1.setCell ⟨w.heap.size, 0, none⟩ v') w.heap.size 22 v' ∧ (w1.setCell ⟨w.heap.size, 0, none⟩ v').ownsRow w.heap.size 3 1 v' k' cs' ∧
    Boxed (w1.setCell ⟨w.heap.size, 0, none⟩ v') (w.heap.size + 1) 4 u ∧ Boxed (w1.setCell ⟨w.heap.size, 0, none⟩ v') (w.heap.size + 1 + 1) 45 (.pointer (some ⟨g, 0, none⟩)) ∧ KeepsOthers W (w1.setCell ⟨w.heap.size, 0, none⟩ v') ∧ Below w.heap.size W (w1.setCell ⟨w.heap.size, 0, none⟩ v') := by
  have hv0 : Boxed (W.setCell ⟨w.heap.size + 1, 0, none⟩ u) w.heap.size 22 v := hv.other (by omega) u
  have hok0 : Boxed (W.setCell ⟨w.heap.size + 1, 0, none⟩ u) (w.heap.size + 1) 4 u := hok.set u
  have hbs0 : Boxed (W.setCell ⟨w.heap.size + 1, 0, none⟩ u) (w.heap.size + 1 + 1) 45 (.pointer (some ⟨g, 0, none⟩)) := hbs.other (by omega) u
  have hrow0 : (W.setCell ⟨w.heap.size + 1, 0, none⟩ u).ownsRow w.heap.size 3 1 v k cs := hrow.kept (grownBy_setCell' W (w.heap.size + 1) u) (.inr (hok.not_row (by decide) hrow).symm)
  have hb0 : Below w.heap.size W (W.setCell ⟨w.heap.size + 1, 0, none⟩ u) := (Below.refl _ _).setCell (p := ⟨w.heap.size + 1, 0, none⟩) (by show w.heap.size ≤ w.heap.size + 1; omega) u
  obtain ⟨a1, a2, a3, a4, a5⟩ := hv0.appended (by decide) hrow0 (by have := hB.size; have := hb0.size; omega) (Nat.le_refl _) hown' hgrow
  refine ⟨a1, a2, a3, ?_, ?_, (KeepsOthers.setCell _ _ _).trans a4, hb0.trans a5⟩
  · exact ((hok0.alloc tmp).kept hgrow (hok0.not_row (by decide) hrow0)).other (by omega) _
  · exact ((hbs0.alloc tmp).kept hgrow (hbs0.not_row (by decide) hrow0)).other (by omega) _

set_option maxRecDepth 100000 in
set_option maxHeartbeats 8000000 in
theorem queued_c {w : World} {F : Nat → Prop} {g m : Nat} {xs : List Int} (q : Qu w F g m xs) (hm : m ≤ 1000000) (hx : xs.length ≤ 1000) :
    Calls Try.prog 17 #[.pointer (some ⟨g, 0, none⟩)] w fun e w' => ∃ v, e = .returned (.tuple #[v, .bool true]) ∧ w'.ownsRow w.heap.size 3 1 v xs.length (nums xs) ∧ Below w.heap.size w w' := by
  have hQ := QIs.of_qu q hm
  obtain ⟨i0, hi, hz0, hz1, hz2⟩ := info_parts Tinfo3
  clear q
  refine (callsIn_wide (n := 3)).1 ?_
  refine callsIn_of_wp_marks Try.func17 rfl trivial ?_ rfl
  simp only [Try.ntmps17, List.size_toArray, List.length_cons, List.length_nil, Nat.reduceAdd, Nat.reduceSub, Array.replicate_succ, Array.replicate_zero, List.push_toArray, List.append_toArray, List.nil_append, List.cons_append]
  gi_wp2
  refine ⟨trivial, ?_⟩
  refine (callsIn_wide.2 (queueAll_c _ _)).mono ?_
  rintro e w2 ⟨rfl, rfl⟩
  have heq := eqnil57
  gi_wp2
  clear heq
  have bO := Boxed.new w 22 (.slice none 0 0)
  have bK := Boxed.new (w.alloc (.cells #[.slice none 0 0] 22)) 4 (.bool true)
  have bN := Boxed.new ((w.alloc (.cells #[.slice none 0 0] 22)).alloc (.cells #[.bool true] 4)) 45 (.pointer (some ⟨g, 0, none⟩))
  rw [World.size_alloc] at bK
  rw [World.size_alloc, World.size_alloc] at bN
  have hB0 : Below w.heap.size w (((w.alloc (.cells #[.slice none 0 0] 22)).alloc (.cells #[.bool true] 4)).alloc (.cells #[.pointer (some ⟨g, 0, none⟩)] 45)) := (((Below.refl _ w).alloc (Nat.le_refl _) _).alloc (by simp) _).alloc (by simp; omega) _
  refine wpIn_rangeFunc_ownG rfl (by omega) (gf := 27) (lb := #[.pointer (some ⟨w.heap.size + 1 + 1, 0, none⟩)]) rfl trivial (enters_of Try.func27 (by kernel_rfl) rfl)
    (queue_stops _ (by omega) (w.heap.size + 1 + 1) g w.heap.size xs _ bN (by simp; omega) (hQ.below hB0)) kq_t (kq_b (by simp; omega)) (Below.refl _ _) (fun _ => rfl)
    (fun pre W => ((∃ v, Boxed W w.heap.size 22 v ∧ W.ownsRow w.heap.size 3 1 v (snds pre).length (nums (snds pre)) ∧ True) ∧ Boxed W (w.heap.size + 1) 4 (.bool (okOf pre)) ∧ Boxed W (w.heap.size + 1 + 1) 45 (.pointer (some ⟨g, 0, none⟩))) ∧ Below w.heap.size w W)
    (fun _ _ _ => False)
    (OwnFrom.and (OwnFrom.and (Own.from (holdsRow_own w.heap.size w.heap.size 22 3 1 (fun pre => (snds pre).length) (fun pre => nums (snds pre)) (fun _ _ => True)) _) (OwnFrom.and (Own.from (boxed_own _ _ (fun pre => .bool (okOf pre))) _) (Own.from (boxed_own _ _ (fun _ => .pointer (some ⟨g, 0, none⟩))) _))) (ownFrom_below (Nat.le_refl _) (by simp; omega)))
    (fun _ _ _ _ _ hs _ _ => hs)
    ⟨⟨⟨_, (bO.alloc _).alloc _, World.ownsRow_nil _ _ _ _, trivial⟩, bK.alloc _, bN⟩, hB0⟩
    ?_ ?assign ?body ?done ?stop
  case assign =>
    intro l x W K hK
    gi_wp2
    exact hK
  case body =>
    rintro l pre x W ⟨⟨⟨v, hv, hrow, _⟩, hok, hbs⟩, hB⟩ hlt
    have hc := hv.cell
    have hkc := hok.cell
    have hkf := hok.frozen
    have hpl : (snds pre).length = pre.length := List.length_map _
    rw [hpl] at hrow
    have HS := Aside.mk (okOf_snoc pre x)
    have HV := Aside.mk hv
    have HOK := Aside.mk hok
    have HBS := Aside.mk hbs
    have HBB := Aside.mk hB
    have hpl2 : pre.length ≤ 1000 := by omega
    have hbsz := hB.size
    have HP := Aside.mk hpl
    have hc2 : ∀ u, (W.setCell ⟨w.heap.size + 1, 0, none⟩ u).cell? ⟨w.heap.size, 0, none⟩ = some v := fun u => (HV.out.other (by omega) u).cell
    have hrow2 : ∀ u, (W.setCell ⟨w.heap.size + 1, 0, none⟩ u).ownsRow w.heap.size 3 1 v pre.length (nums (snds pre)) := fun u => hrow.kept (grownBy_setCell' W (w.heap.size + 1) u) (.inr (HOK.out.not_row (by decide) hrow).symm)
    have HR := Aside.mk hrow2
    have HN : Aside (∀ (u : Value) (j : Nat) (y : Value), [Value.int .i64 x.2][j]? = some y → ((W.setCell ⟨w.heap.size + 1, 0, none⟩ u).alloc (.cells #[.int .i64 x.2] 3)).cell? ((⟨W.heap.size, 0, none⟩ : Addr).add j) = some y) := ⟨fun u j y hj => by
      have := cell_one_new (W.setCell ⟨w.heap.size + 1, 0, none⟩ u) (.int .i64 x.2) 3 j y hj
      rwa [World.size_setCell] at this⟩
    obtain ⟨A, c, rfl, hcap, _⟩ := owned_slice hrow
    clear hv hok hbs hB hpl hlt hrow2
    cases hd : okOf pre with
    | false =>
      rw [hd] at hkc
      gi_wp2_with (gi_at_builtin; refine wpListIn_append_own _ rfl _ _ 22 rfl w.heap.size 3 i0 (.int .i64 0) 1 8 Try.underlying22 hi hz0 hz1 hz2 rfl (by decide) _ _ _ rfl ((HR.out _).alloc _) ⟨W.heap.size, 0, none⟩ 1 1 [.int .i64 x.2] rfl rfl (HN.out _) (by simp [Value.oneCell']) (by unfold maxLen; omega) (by omega) (by simp; omega) ?_; intro v' w1 hown' hgrow _; obtain ⟨g', cap', rfl⟩ := ownsRow_succ hown'; have hst := queued_step HV.out hrow HOK.out HBS.out HBB.out hown' hgrow; have HST := Aside.mk hst; have hc1 := hst.1.cell; have hf1 := hst.1.frozen; clear hst)
      obtain ⟨_, s1, s2, s3, s4, s5, s6⟩ := HST.out
      refine ⟨s5.from _, ⟨s6, fun _ => s4⟩, ⟨⟨_, s1, ?_, trivial⟩, ?_, s4⟩, HBB.out.trans s6⟩
      · rw [snds_snoc, nums_snoc, List.length_append, HP.out]; exact s2
      · rw [HS.out, hd]; exact s3
    | true =>
      rw [hd] at hkc
      gi_wp2_with (gi_at_builtin; refine wpListIn_append_own _ rfl _ _ 22 rfl w.heap.size 3 i0 (.int .i64 0) 1 8 Try.underlying22 hi hz0 hz1 hz2 rfl (by decide) _ _ _ rfl ((HR.out _).alloc _) ⟨W.heap.size, 0, none⟩ 1 1 [.int .i64 x.2] rfl rfl (HN.out _) (by simp [Value.oneCell']) (by unfold maxLen; omega) (by omega) (by simp; omega) ?_; intro v' w1 hown' hgrow _; obtain ⟨g', cap', rfl⟩ := ownsRow_succ hown'; have hst := queued_step HV.out hrow HOK.out HBS.out HBB.out hown' hgrow; have HST := Aside.mk hst; have hc1 := hst.1.cell; have hf1 := hst.1.frozen; clear hst)
      obtain ⟨_, s1, s2, s3, s4, s5, s6⟩ := HST.out
      refine ⟨s5.from _, ⟨s6, fun _ => s4⟩, ⟨⟨_, s1, ?_, trivial⟩, ?_, s4⟩, HBB.out.trans s6⟩
      · rw [snds_snoc, nums_snoc, List.length_append, HP.out]; exact s2
      · rw [HS.out, hd]; exact s3
  case done =>
    rintro D ys W hD rfl ⟨⟨⟨v, hv, hrow, _⟩, hok, hbs⟩, hB⟩ hK
    have hc := hv.cell
    have hkc := hok.cell
    rw [okOf_up] at hkc
    rw [show snds (up xs xs.length) = xs from up_all xs] at hrow
    have hB' : Below w.heap.size w W.drew := ⟨hB.os, hB.tape, hB.output, hB.size, hB.block⟩
    gi_wp2
    gi_region
    gi_wp2
    refine ⟨by simp, .inl ⟨_, _, rfl, run_takeDeferred (w := W.drew) hK, ?_⟩⟩
    exact ⟨.tuple #[v, .bool true], by simp [results, Try.f17, go_sem], v, rfl, ownsRow_putObj (W := W.drew) hrow _ hK rfl, hB'.trans (belowK_b (w := w) (Nat.le_refl _) W.drew D _ _ (by simp at hD; omega) hK rfl rfl)⟩
  case stop =>
    rintro D c pre W _ _ h _
    exact h.elim
end Go.Proofs.Ytnhjnbbdeilmbaa.Hand
