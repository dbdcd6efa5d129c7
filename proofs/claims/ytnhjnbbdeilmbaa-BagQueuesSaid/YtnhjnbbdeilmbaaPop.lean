/- Pop: the first value of a queue. -/
import Derived.Test.YtnhjnbbdeilmbaaBase
import Derived.Deep.RegionLaw
namespace Go.Proofs.Ytnhjnbbdeilmbaa.Hand
open Go.RowKit

theorem i64_wrap (n : Int) : IntKind.wrap .i64 n = wrap64 n := by
  unfold IntKind.wrap wrap64
  simp only [IntKind.bits, IntKind.signed, Bool.true_and, decide_eq_true_eq, show ((2 : Int) ^ 64) = 18446744073709551616 from by decide, show ((2 : Int) ^ (64 - 1)) = 9223372036854775808 from by decide]
  split <;> omega
theorem i64_id {n : Int} (h0 : -9223372036854775808 ≤ n) (h1 : n ≤ 9223372036854775807) : IntKind.wrap .i64 n = n := by rw [i64_wrap]; unfold wrap64; omega
theorem owned_slice {w : World} {b n : Nat} {v : Value} {xs : List Value} (h : w.ownsRow b 3 1 v n xs) : ∃ A c, v = .slice A n c ∧ n ≤ c ∧ (0 < n → ∃ q, A = some ⟨q, 0, none⟩) := by
  rcases h.2 with ⟨rfl, rfl⟩ | ⟨q, cap, cur, rfl, _, _, hn, _⟩
  · exact ⟨none, 0, rfl, Nat.le_refl _, fun h => absurd h (by omega)⟩
  · exact ⟨some ⟨q, 0, none⟩, cap, rfl, hn, fun _ => ⟨q, rfl⟩⟩
theorem owned_cell {w : World} {b c q : Nat} {l : List Int} {n : Nat} (h : w.ownsRow b 3 1 (.slice (some ⟨q, 0, none⟩) n c) n (nums l)) (i : Nat) (hi : i < l.length) : w.cell? ⟨q, i, none⟩ = some (.int .i64 (rdl l i)) := by
  have := h.cells (g := q) rfl i _ (nums_get hi)
  have hadd : (⟨q, 0, none⟩ : Addr).add i = ⟨q, i, none⟩ := by unfold Addr.add; split <;> simp_all
  rwa [hadd] at this
theorem drop_cons (l : List Int) (f : Nat) (h : f < l.length) : l.drop f = rdl l f :: l.drop (f + 1) := by
  rw [List.drop_eq_getElem_cons h]
  simp [rdl, List.getD_eq_getElem?_getD, h]

set_option maxHeartbeats 2000000 in
theorem pop_none {w : World} {F : Nat → Prop} {g m : Nat} (q : Qu w F g m []) (hm : m ≤ 1000000) :
    Calls Try.prog 9 #[.pointer (some ⟨g, 0, none⟩)] w (Popped w F g m 0 false []) := by
  have Q := Aside.mk q
  clear q
  go_enter Try.func9, Try.ntmps9
  go_wp2_with (go_at_call 10; (with_reducible refine (qlen_c Q.out hm).mono ?_); rintro e w' ⟨rfl, nd, rfl⟩)
  go_ret2
  refine ⟨rfl, F, ?_, (Keeps.refl _ _).drewN nd, fun k hk => .inl hk⟩
  obtain ⟨v, n, f, cs, r⟩ := Q.out
  exact ⟨v, n, f, cs, r⟩

theorem nums_one (l : List Int) : ∀ u ∈ nums l, u.oneCell' = true := fun u hu => by
  obtain ⟨z, _, rfl⟩ := List.mem_map.1 hu
  rfl

/-- Behind the stores of a popped queue that was copied. -/
theorem pop_copied {w w7 w1 : World} {F : Nat → Prop} {g m n f g2 cap : Nat} {cs : List Int} {y : Int} {v : Value} {z : Int} (hF : F g) (hlt : ∀ k, F k → k < w.heap.size) (k7 : Keeps F w w7) (hn : n ≤ m)
    (hb : w1.heap[g]? = some (.cells #[v, .int .i64 z] 24 (0, 0))) (ho : w1.ownsRow 0 3 1 (.slice (some ⟨g2, 0, none⟩) (0 + (n - (f + 1))) cap) (0 + (n - (f + 1))) ([] ++ nums (cs.drop (f + 1))))
    (hgr : w7.drew.grownBy w1 (Value.slice none 0 0).ownBlock) (hat : (Value.slice none 0 0).ownBlock = some g2 ∨ g2 = w7.drew.heap.size) (hlt2 : g2 < w1.heap.size) :
    Popped w F g m y true (cs.drop (f + 1)) (.returned (.tuple #[.int .i64 y, .bool true])) ((w1.setCell ⟨g, 0, none⟩ (.slice (some ⟨g2, 0, none⟩) (n - (f + 1)) cap)).setCell ⟨g, 1, none⟩ (.int .i64 0)) := by
  have hg2 : w.heap.size ≤ g2 := by
    rcases hat with h | h
    · simp [Value.ownBlock] at h
    · have := k7.size
      simp at h
      omega
  have hgl := hlt g hF
  have hg2g : g2 ≠ g := by omega
  rw [Nat.zero_add, List.nil_append] at ho
  have hb2 := heap_set (heap_set hb 0 (.slice (some ⟨g2, 0, none⟩) (n - (f + 1)) cap)) 1 (.int .i64 0)
  have hk : Keeps F w w1 := (k7.drewN 1).grown hgr (fun k e => by simp [Value.ownBlock] at e)
  refine ⟨rfl, fun k => F k ∨ k = g2, ⟨_, n - (f + 1), 0, cs.drop (f + 1), hb2, .inl hF, ?_, ?_, Nat.zero_le _, by omega, rfl, ?_⟩, (hk.setCell (p := ⟨g, 0, none⟩) hF _).setCell (p := ⟨g, 1, none⟩) hF _, ?_⟩
  · refine owned_mono ho (fun k hk => ?_)
    simp [Value.ownBlock] at hk
    subst hk
    rw [Below.heap_setCell _ _ _ _ hg2g, Below.heap_setCell _ _ _ _ hg2g]
  · intro k hk
    simp [Value.ownBlock] at hk
    subst hk
    exact ⟨.inr rfl, hg2g⟩
  · intro k hk'
    have h1 := hk.size
    simp
    rcases hk' with h | rfl
    · have := hlt k h
      omega
    · exact hlt2
  · intro k hk'
    rcases hk' with h | rfl
    · exact .inl h
    · exact .inr hg2

/-- Behind the stores of a queue that was popped empty. -/
theorem pop_emptied {w w7 : World} {F : Nat → Prop} {g m f : Nat} {cs : List Int} {y : Int} {v : Value} {z : Int} (hF : F g) (hlt : ∀ k, F k → k < w.heap.size) (k7 : Keeps F w w7) (hcs : cs.length ≤ f + 1)
    (hb : w7.heap[g]? = some (.cells #[v, .int .i64 z] 24 (0, 0))) :
    Popped w F g m y true (cs.drop (f + 1)) (.returned (.tuple #[.int .i64 y, .bool true])) ((w7.drew.setCell ⟨g, 0, none⟩ (.slice none 0 0)).setCell ⟨g, 1, none⟩ (.int .i64 0)) := by
  have hb' : w7.drew.heap[g]? = some (.cells #[v, .int .i64 z] 24 (0, 0)) := hb
  have hb2 := heap_set (heap_set hb' 0 (.slice none 0 0)) 1 (.int .i64 0)
  rw [List.drop_eq_nil_of_le hcs]
  have hk : Keeps F w w7.drew := k7.drewN 1
  refine ⟨rfl, F, ⟨_, 0, 0, [], hb2, hF, World.ownsRow_nil _ _ _ _, ?_, Nat.le_refl _, Nat.zero_le _, rfl, ?_⟩, (hk.setCell (p := ⟨g, 0, none⟩) hF _).setCell (p := ⟨g, 1, none⟩) hF _, fun k h => .inl h⟩
  · intro k hk
    simp [Value.ownBlock] at hk
  · intro k hk'
    have h1 := hk.size
    have := hlt k hk'
    simp at h1 ⊢
    omega

set_option maxHeartbeats 4000000 in
theorem pop_some {w : World} {F : Nat → Prop} {g m : Nat} {y : Int} {ys : List Int} (q : Qu w F g m (y :: ys)) (hm : m ≤ 1000000) :
    Calls Try.prog 9 #[.pointer (some ⟨g, 0, none⟩)] w (Popped w F g m y true ys) := by
  have Q := Aside.mk q
  obtain ⟨v, n, f, cs, hg, hF, ho, hv, hf, hn, hx, hlt⟩ := q
  have hlen := owned_len ho
  have hfn : f < n := by
    have := congrArg List.length hx
    simp at this
    omega
  have hd := drop_cons cs f (by omega)
  rw [hx] at hd
  obtain ⟨rfl, rfl⟩ := List.cons.inj hd
  obtain ⟨A, c, rfl, hc, hA⟩ := owned_slice ho
  obtain ⟨b, rfl⟩ := hA (by omega)
  have hbF := hv b rfl
  have hbg := hbF.2
  have e0 : w.cell? ⟨g, 0, none⟩ = some (.slice (some ⟨b, 0, none⟩) n c) := by rw [cell_of_row _ _ 0 _ _ _ hg]; rfl
  have e1 : w.cell? ⟨g, 1, none⟩ = some (.int .i64 (f : Nat)) := by rw [cell_of_row _ _ 1 _ _ _ hg]; rfl
  have e2 := owned_cell ho f (by omega)
  have e3 : w.frozen? ⟨g, 1, none⟩ = false := by simp [World.frozen?, hg]
  have HG := Aside.mk hg
  have HF := Aside.mk hF
  have HO := Aside.mk ho
  have HV := Aside.mk hv
  have HX := Aside.mk hx
  have HL := Aside.mk hlt
  have HN := Aside.mk hlen
  have hz : (((rdl cs f :: List.drop (f + 1) cs).length : Nat) : Int) = ((n - f : Nat) : Int) := by rw [← hx, List.length_drop, hlen]
  have HZ := Aside.mk hz
  have h1 : ((((n - f : Nat) : Int)) == 0) = false := by rw [beq_eq_false_iff_ne]; omega
  clear hg hF ho hv hx hlt hlen hd hz hbF
  go_enter Try.func9, Try.ntmps9
  go_wp2_with (go_at_call 10; (with_reducible refine (qlen_c Q.out hm).mono ?_); rintro e w' ⟨rfl, nd, rfl⟩; rw [HZ.out])
  go_quiet (fail)
  go_wp2
  have g5 : ((w.drewN (nd + nq)).setCell ⟨g, 1, none⟩ (.int .i64 ((f : Int) + 1))).heap[g]? = some (.cells #[.slice (some ⟨b, 0, none⟩) n c, .int .i64 ((f : Int) + 1)] 24 (0, 0)) := heap_set HG.out 1 _
  have o5 : ((w.drewN (nd + nq)).setCell ⟨g, 1, none⟩ (.int .i64 ((f : Int) + 1))).ownsRow 0 3 1 (.slice (some ⟨b, 0, none⟩) n c) n (nums cs) := owned_mono HO.out (fun k hk => by
    simp [Value.ownBlock] at hk
    subst hk
    exact Below.heap_setCell _ _ _ _ hbg)
  have k5 : Keeps F w ((w.drewN (nd + nq)).setCell ⟨g, 1, none⟩ (.int .i64 ((f : Int) + 1))) := ((Keeps.refl F w).drewN _).setCell (p := ⟨g, 1, none⟩) HF.out _
  have s5 : w.heap.size ≤ ((w.drewN (nd + nq)).setCell ⟨g, 1, none⟩ (.int .i64 ((f : Int) + 1))).heap.size := k5.size
  clear e0 e1 e2 e3 h1
  generalize (w.drewN (nd + nq)).setCell ⟨g, 1, none⟩ (.int .i64 ((f : Int) + 1)) = w5 at *
  have e0 : w5.cell? ⟨g, 0, none⟩ = some (.slice (some ⟨b, 0, none⟩) n c) := by rw [cell_of_row _ _ 0 _ _ _ g5]; rfl
  have e1 : w5.cell? ⟨g, 1, none⟩ = some (.int .i64 ((f : Int) + 1)) := by rw [cell_of_row _ _ 1 _ _ _ g5]; rfl
  have f0 : w5.frozen? ⟨g, 0, none⟩ = false := by simp [World.frozen?, g5]
  have f1 : w5.frozen? ⟨g, 1, none⟩ = false := by simp [World.frozen?, g5]
  have G5 := Aside.mk g5
  have O5 := Aside.mk o5
  have K5 := Aside.mk k5
  clear g5 o5 k5
  have hwr : IntKind.wrap .i64 (2 * ((f : Int) + 1)) = 2 * ((f : Int) + 1) := i64_id (by omega) (by omega)
  by_cases hD : n < 2 * (f + 1)
  · have hd : decide ((n : Int) < 2 * ((f : Int) + 1)) = true := by simp; omega
    clear hD
    go_quiet (fail)
    go_wp2
    have e0' : (w5.drewN nq).cell? ⟨g, 0, none⟩ = some (.slice (some ⟨b, 0, none⟩) n c) := e0
    have e1' : (w5.drewN nq).cell? ⟨g, 1, none⟩ = some (.int .i64 ((f : Int) + 1)) := e1
    have f0' : (w5.drewN nq).frozen? ⟨g, 0, none⟩ = false := f0
    have f1' : (w5.drewN nq).frozen? ⟨g, 1, none⟩ = false := f1
    have G7 : Aside ((w5.drewN nq).heap[g]? = some (.cells #[.slice (some ⟨b, 0, none⟩) n c, .int .i64 ((f : Int) + 1)] 24 (0, 0))) := ⟨G5.out⟩
    have O7 : Aside ((w5.drewN nq).ownsRow 0 3 1 (.slice (some ⟨b, 0, none⟩) n c) n (nums cs)) := ⟨O5.out⟩
    have K7 : Aside (Keeps F w (w5.drewN nq)) := ⟨K5.out.drewN nq⟩
    have s7 : w.heap.size ≤ (w5.drewN nq).heap.size := s5
    clear e0 e1 f0 f1 G5 O5 K5 s5
    generalize w5.drewN nq = w7 at *
    have hi0 : (0 : Int) ≤ (f : Int) + 1 := by omega
    have hi1 : (f : Int) + 1 ≤ (n : Int) := by omega
    by_cases hB : f + 1 = n
    · subst hB
      have HE := Aside.mk (pop_emptied (m := m) (y := rdl cs f) (f := f) (cs := cs) HF.out HL.out K7.out (by have := HN.out; omega) G7.out)
      by_cases hcf : c = f + 1
      · subst hcf
        go_region_law (fail)
        all_goals
          go_wp2
          go_ret2
          exact HE.out
      · go_region_law (fail)
        all_goals
          go_wp2
          go_ret2
          exact HE.out
    · obtain ⟨i0, hi, hz0, hz1, hz2⟩ := info_parts Tinfo3
      have hlc : ¬ c = f + 1 := by omega
      have hln : f + 1 < n := by omega
      have hl : Aside ((nums (cs.drop (f + 1))).length = (n - (f + 1)) * 1) := ⟨by have := HN.out; simp [nums]; omega⟩
      have hnews : Aside (∀ j u, (nums (cs.drop (f + 1)))[j]? = some u → w7.cell? ((⟨b, f + 1, none⟩ : Addr).add j) = some u) := ⟨fun j u hu => by
        have hj : j < (cs.drop (f + 1)).length := by
          have := (List.getElem?_eq_some_iff.1 hu).1
          simpa [nums] using this
        have hadd : (⟨b, f + 1, none⟩ : Addr).add j = ⟨b, f + 1 + j, none⟩ := by unfold Addr.add; split <;> simp_all
        rw [hadd, owned_cell O7.out (f + 1 + j) (by simp at hj; omega), ← hu]
        rw [nums_get hj]
        unfold rdl
        simp [List.getD_eq_getElem?_getD]⟩
      go_region_law (refine step_append_lies _ rfl (.const (.slice none 0 0)) (.tmp 48) 22 rfl 0 3 i0 (.int .i64 0) 1 8 Try.underlying22 hi hz0 hz1 hz2 rfl (by decide) (.slice none 0 0) 0 [] (by rfl) (World.ownsRow_nil _ _ _ _) ⟨b, f + 1, none⟩ (n - (f + 1)) (c - (f + 1)) (nums (cs.drop (f + 1))) (by simp [Act.eval, Act.put]) hl.out (fun j u h => hnews.out j u h) (nums_one _) (by omega) (by unfold maxLen; omega) (by omega) (Nat.zero_le _) _ rfl ?_; intro g2 cap w1 hown hgrow hat hlt2; have HO2 := Aside.mk hown; have HGR := Aside.mk hgrow; have HAT := Aside.mk hat; have hb1 := (hgrow.block g (Array.getElem?_eq_some_iff.1 G7.out).1 (fun e => nomatch e)).trans G7.out; have HB1 := Aside.mk hb1; have c0 : w1.cell? ⟨g, 0, none⟩ = some (.slice (some ⟨b, 0, none⟩) n c) := (by rw [cell_of_row _ _ 0 _ _ _ hb1]; rfl); have c1 : w1.cell? ⟨g, 1, none⟩ = some (.int .i64 ((f : Int) + 1)) := (by rw [cell_of_row _ _ 1 _ _ _ hb1]; rfl); have q0 : w1.frozen? ⟨g, 0, none⟩ = false := (by simp [World.frozen?, hb1]); have q1 : w1.frozen? ⟨g, 1, none⟩ = false := (by simp [World.frozen?, hb1]); clear hown hgrow hat hb1)
      all_goals
        go_wp2
        go_ret2
        exact pop_copied HF.out HL.out K7.out hn HB1.out HO2.out HGR.out HAT.out hlt2
  · have hd : decide ((n : Int) < 2 * ((f : Int) + 1)) = false := by simp; omega
    clear hD
    go_quiet (fail)
    go_wp2
    go_ret2
    refine ⟨rfl, F, ⟨_, n, f + 1, cs, G5.out, HF.out, O5.out, HV.out, by omega, hn, rfl, fun k hk => ?_⟩, K5.out.drewN _, fun k hk => .inl hk⟩
    have := HL.out k hk
    simp
    omega

end Go.Proofs.Ytnhjnbbdeilmbaa.Hand
