/- The law of sets: for every list (the law takes the first 100) and word, no further condition. -/
import Derived.BigRegionIn
import Derived.Test.YtnhjnbbdeilmbaaRef5
import Derived.Test.YtnhjnbbdeilmbaaTwice
namespace Go.Proofs.Ytnhjnbbdeilmbaa.Hand
open Go.RowKit Go.Shelf
attribute [local go_sem] Oper.semAt_some

/-- An append within a fence, and where the new slice lies. -/
theorem wpListIn_append_lies {F : Fence} {n' : Nat} {P : Program} (w : World) {ops : Array Oper} {rest : List Oper} {o : Oper} {a : Act} {Q : Exit → Act → World → Prop} (hgd : o.guard = none) (s x : Operand) (t : TypeId)
    (ho : o.op = .call { callee := .builtin .append, args := #[s, x], argTypes := #[t, t] })
    (base : Nat) (e : TypeId) (i : TypeInfo) (z : Value) (size bytes : Nat) (ht : P.underlying t = some (.slice e)) (hi : P.info? e = some i) (hz : i.zero = some z)
    (hsize : i.size = size) (hby : i.bytes = bytes) (hzs : z.cells.size = size) (hsz : 0 < size)
    (v : Value) (n : Nat) (xs : List Value) (hs : a.eval s = v) (hown : w.ownsRow base e size v n xs)
    (ad : Addr) (m c : Nat) (news : List Value) (hx : a.eval x = .slice (some ad) m c) (hl : news.length = m * size) (hnews : ∀ j u, news[j]? = some u → w.cell? (ad.add j) = some u) (h1 : ∀ u ∈ news, u.oneCell' = true)
    (hm : 0 < m) (h63 : n + m ≤ maxLen) (hbytes : (n + m) * bytes ≤ 140737488355328) (hbase : base ≤ w.heap.size) (H : Nat) (hH : w.heap.size = H)
    (h : ∀ g cap w', w'.ownsRow base e size (.slice (some ⟨g, 0, none⟩) (n + m) cap) (n + m) (xs ++ news) → w.grownBy w' v.ownBlock → (v.ownBlock = some g ∨ g = H) → g < w'.heap.size → wpListIn F n' P ops Q rest (a.put o.dst (.slice (some ⟨g, 0, none⟩) (n + m) cap)) w') : wpListIn F n' P ops Q (o :: rest) a w := by
  refine wpListIn_plain hgd fun K hK' => ?_
  obtain ⟨g, cap, w', hr, h2, h3, h4, h5⟩ := run_append_lies (P := P) w t o.type base e i z size bytes ht hi hz hsize hby hzs hsz v n xs hown ad m c news hl hnews h1 hm h63 hbytes hbase H hH
  unfold Oper.wpIn
  refine ⟨?_, ?_⟩
  · simp [Oper.about, ho, resolve, Target.leads, Sem.run_pure]
  · rw [Oper.semAt_plain F _ _ (by rw [ho]; intro c hc'; cases hc')]
    simp [execOp, ho, resolve, invoke, builtin, hs, hx, hr, Result.andThen]
    exact hK' _ _ (h g cap w' h2 h3 h4 h5)

theorem eqnil50 (cs : Array Value) (w : World) : (binOp .eql 50 (.func (.func 26) #[] cs) .nilFunc).run Try.prog w = .ok (.bool false) w := by kernel_rfl

set_option maxHeartbeats 16000000 in
set_option maxRecDepth 100000 in
theorem setslaw_c (a : Option Addr) (len cap : Nat) (z : List Int) (first : Int) (w : World) (hz : IsRow .i64 w a len cap z) (wf : okI first) :
    Calls Try.prog 6 #[.slice a len cap, .int .i64 first] w fun e w' => e = .returned (.bool true) ∧ Below w.heap.size w w' := by
  obtain ⟨hlen, hcap, hmax, hcell, hwf⟩ := hz
  obtain ⟨i0, hi, hz0, hz1, hz2⟩ := info_parts Tinfo3
  unfold maxLen at hmax
  have HC := Aside.mk hcell
  have HW : Aside (∀ i, i < len → okI (rdl z i)) := ⟨fun i hi => hwf _ (rdl_mem (by omega))⟩
  have WF := Aside.mk wf
  have T0 := Aside.mk (gath_new w)
  have K0 : Aside (Below w.heap.size w (w.alloc (.cells #[.map none, .slice none 0 0] 34))) := ⟨(Below.refl _ _).alloc (Nat.le_refl _) _⟩
  clear hlen hcell hwf wf
  refine (callsIn_wide (n := 3)).1 ?_
  refine callsIn_of_wp_marks Try.func6 rfl trivial ?_ rfl
  simp only [Try.ntmps6, List.size_toArray, List.length_cons, List.length_nil, Nat.reduceAdd, Nat.reduceSub, Array.replicate_succ, Array.replicate_zero, List.push_toArray, List.append_toArray, List.nil_append, List.cons_append]
  gi_wp2
  gi_loopw [6, 7] (fun v i wr => ∃ (k : Nat) (xs : List Int), k ≤ len ∧ k ≤ 100 ∧ i = .int .i64 k ∧ Aside (xs.length ≤ k) ∧ Aside (Gath wr w.heap.size w.heap.size xs v xs) ∧ Aside (Below w.heap.size w wr)) (fun v i _ => 100 - (intOf i).toNat)
  case atStart => exact ⟨0, [], Nat.zero_le _, Nat.zero_le _, rfl, ⟨Nat.le_refl _⟩, T0, K0⟩
  case round =>
    obtain ⟨k, xs, hk, hk2, rfl, HL, T, K⟩ := hrel
    by_cases hlt : k < len ∧ k < 100
    · obtain ⟨hlt, hlt2⟩ := hlt
      obtain ⟨b, o, rfl, hb, c0⟩ := HC.out k hlt
      have HOK := Aside.mk (HW.out k hlt)
      have c1 := (K.out.cell (p := ⟨b, o + k, none⟩) hb).trans c0
      have hl1 := HL.out
      have INL : Aside ((insI xs (rdl z k)).length ≤ k + 1) := ⟨by have := ins_len xs (rdl z k); omega⟩
      have DI : Aside (decide (rdl z k ∈ insI xs (rdl z k)) = true) := ⟨decide_eq_true (mem_ins xs _)⟩
      gi_wp2
      refine ⟨trivial, ?_⟩
      refine (callsIn_wide.2 (inG T.out _ (by omega))).mono ?_
      rintro e w' ⟨rfl, rfl⟩
      by_cases hin : rdl z k ∈ xs
      · have hd : decide (rdl z k ∈ xs) = true := decide_eq_true hin
        have hI : insI xs (rdl z k) = xs := if_pos hin
        have HD := Aside.mk hd
        have HI := Aside.mk hI
        rw [HD.out]
        clear hd hI hin
        gi_wp2
        refine ⟨trivial, ?_⟩
        refine (callsIn_wide.2 (hasG T.out HOK.out)).mono ?_
        rintro e w' ⟨rfl, rfl⟩
        rw [HD.out]
        gi_wp2
        refine ⟨trivial, ?_⟩
        refine (callsIn_wide.2 (addG T.out K.out.size HOK.out (by omega))).mono ?_
        rintro e w2 ⟨rfl, t2, k2⟩
        rw [HD.out]
        have DH := DI.out
        rw [HI.out] at t2 DH
        have T2 := Aside.mk t2
        have K2 := Aside.mk (K.out.trans k2)
        have c2 := (K2.out.cell (p := ⟨b, o + k, none⟩) hb).trans c0
        clear t2 k2
        gi_wp2
        refine ⟨trivial, ?_⟩
        refine (callsIn_wide.2 (hasG T2.out HOK.out)).mono ?_
        rintro e w' ⟨rfl, rfl⟩
        rw [DH]
        clear DH
        gi_wp2
        go_roundw
        case rel => exact ⟨k + 1, xs, by omega, by omega, by go_num, ⟨by omega⟩, T2, K2⟩
        case measure => simp [intOf]; omega
      · have hd : decide (rdl z k ∈ xs) = false := decide_eq_false hin
        have hI : insI xs (rdl z k) = xs ++ [rdl z k] := if_neg hin
        have HD := Aside.mk hd
        have HI := Aside.mk hI
        rw [HD.out]
        clear hd hI hin
        gi_wp2
        refine ⟨trivial, ?_⟩
        refine (callsIn_wide.2 (hasG T.out HOK.out)).mono ?_
        rintro e w' ⟨rfl, rfl⟩
        rw [HD.out]
        gi_wp2
        refine ⟨trivial, ?_⟩
        refine (callsIn_wide.2 (addG T.out K.out.size HOK.out (by omega))).mono ?_
        rintro e w2 ⟨rfl, t2, k2⟩
        rw [HD.out]
        have DH := DI.out
        rw [HI.out] at t2 DH
        have T2 := Aside.mk t2
        have K2 := Aside.mk (K.out.trans k2)
        have c2 := (K2.out.cell (p := ⟨b, o + k, none⟩) hb).trans c0
        have ho2 := t2.row
        clear t2 k2
        gi_wp2
        refine ⟨trivial, ?_⟩
        refine (callsIn_wide.2 (hasG T2.out HOK.out)).mono ?_
        rintro e w' ⟨rfl, rfl⟩
        rw [DH]
        clear DH
        gi_wp2_with (first
          | (gi_at_builtin; refine wpListIn_append_lies _ rfl _ _ 22 rfl 0 3 i0 (.int .i64 0) 1 8 Try.underlying22 hi hz0 hz1 hz2 rfl (by decide) _ _ _ rfl (ho2.alloc _) ⟨w2.heap.size, 0, none⟩ 1 1 [.int .i64 (rdl z k)] rfl rfl (cell_one_new _ _ _) (fun x hx => by simp at hx; subst hx; rfl) (by decide) (by unfold maxLen; omega) (by omega) (Nat.zero_le _) _ rfl ?_; intro g2 cap w3 hown3 hgrow3 hat hlt3; have gk := T2.out.app K2.out.size hown3 hgrow3 hat hlt3; have T3 := Aside.mk gk.1; have K3 := Aside.mk (K2.out.trans gk.2); clear hown3 hgrow3 hat gk))
        go_roundw
        case rel => exact ⟨k + 1, xs ++ [rdl z k], by omega, by omega, by go_num, ⟨by simp; omega⟩, T3, K3⟩
        case measure => simp [intOf]; omega
    · by_cases hkl : k < len
      all_goals
        first
          | (have hd60 : (100 : Int) ≤ (k : Int) := by omega)
          | skip
        clear hlt
        have hl1 := HL.out
        gi_wp2
        refine ⟨trivial, ?_⟩
        refine (callsIn_wide.2 (setAll_c _ _)).mono ?_
        rintro e w2 ⟨rfl, rfl⟩
        have heq := eqnil50
        gi_wp2
        clear heq
        obtain ⟨sv, hsv, hgl, hI⟩ := T.out.ints
        have bO := Boxed.new wr 22 (.slice none 0 0)
        have bN := Boxed.new (wr.alloc (.cells #[.slice none 0 0] 22)) 54 (.pointer (some ⟨w.heap.size, 0, none⟩))
        rw [World.size_alloc] at bN
        have hB0 : Below wr.heap.size wr ((wr.alloc (.cells #[.slice none 0 0] 22)).alloc (.cells #[.pointer (some ⟨w.heap.size, 0, none⟩)] 54)) := ((Below.refl _ wr).alloc (Nat.le_refl _) _).alloc (by simp) _
        refine wpIn_rangeFunc_ownG rfl (by omega) (gf := 26) (lb := #[.pointer (some ⟨wr.heap.size + 1, 0, none⟩)]) rfl trivial (enters_of Try.func26 (by kernel_rfl) rfl)
          (set_stops Fence.wide _ trivial rfl (by omega) (wr.heap.size + 1) w.heap.size wr.heap.size sv xs (by omega) _ (by simp) (by simp; omega) hgl bN.cell ((hB0.cell (p := ⟨w.heap.size, 1, none⟩) hgl).trans hsv) (hI.below hB0)) belowK_t (belowK_b (by simp; omega)) (Below.refl _ _) (fun _ => rfl)
          (fun pre W => (∃ v, Boxed W wr.heap.size 22 v ∧ W.ownsRow wr.heap.size 3 1 v pre.length (nums pre) ∧ True) ∧ Below wr.heap.size wr W)
          (fun _ _ _ => False)
          (OwnFrom.and (Own.from (holdsRow_own wr.heap.size wr.heap.size 22 3 1 (fun pre => pre.length) (fun pre => nums pre) (fun _ _ => True)) _) (ownFrom_below (Nat.le_refl _) (by simp; omega)))
          (fun _ _ _ _ _ hs _ _ => hs)
          ⟨⟨_, bO.alloc _, World.ownsRow_nil _ _ _ _, trivial⟩, hB0⟩
          ?_ ?assign ?body ?done ?stop
        case assign =>
          intro l x W K hK
          gi_wp2
          exact hK
        case body =>
          rintro l pre x W ⟨⟨v, hv, hrow, _⟩, hB⟩ hltp
          have hc := hv.cell
          gi_wp2_with (gi_at_builtin; refine wpListIn_append_own _ rfl _ _ 22 rfl wr.heap.size 3 i0 (.int .i64 0) 1 8 Try.underlying22 hi hz0 hz1 hz2 rfl (by decide) _ _ _ rfl (hrow.alloc _) ⟨W.heap.size, 0, none⟩ 1 1 [.int .i64 x] rfl rfl (cell_one_new _ _ _) (by simp [Value.oneCell']) (by unfold maxLen; omega) (by omega) (by have := hB.size; simp; omega) ?_; intro v' w1 hown' hgrow _; obtain ⟨g', cap', rfl⟩ := ownsRow_succ hown'; obtain ⟨hv1, hv2, hr2, hk2, hb2⟩ := hv.appended (by decide) hrow hB.size (Nat.le_refl _) hown' hgrow; have hc1 := hv1.cell; have hf1 := hv1.frozen)
          exact ⟨hk2.from _, hb2, ⟨_, hv2, by rw [nums_snoc]; simpa using hr2, trivial⟩, hB.trans hb2⟩
        case done =>
          rintro D ys W hD rfl ⟨⟨v, hv, hrow, _⟩, hB⟩ hK
          have hc := hv.cell
          have T1 : Aside (Gath W w.heap.size w.heap.size ys u6 ys) := ⟨T.out.kept (keeps_of_below hB)⟩
          have KK : Aside (Below w.heap.size w W) := ⟨K.out.trans (hB.mono K.out.size)⟩
          have HDL : Aside (w.heap.size ≤ D) := ⟨by have := K.out.size; simp at hD; omega⟩
          obtain ⟨A, c, rfl, hRd⟩ := reads_own hrow
          obtain ⟨A2, c2, rfl, hc2, hRd2⟩ := T1.out.reads
          have HR1 := Aside.mk hRd
          have HR2 := Aside.mk hRd2
          have HK := Aside.mk hK
          clear hRd hRd2 hD hB hK hrow hv
          gi_wp2
          refine ⟨trivial, ?_⟩
          refine (callsIn_wide.2 (same_c A A2 c c2 ys W HR1.out HR2.out (by omega))).mono ?_
          rintro e w3 ⟨rfl, n, rfl⟩
          have T3 : Aside (Gath (W.drewN n) w.heap.size w.heap.size ys (.slice A2 ys.length c2) ys) := ⟨T1.out.kept ((Keeps.refl _ _).drewN n)⟩
          have K3 : Aside (Below w.heap.size w (W.drewN n)) := ⟨KK.out.trans ⟨rfl, rfl, rfl, Nat.le_refl _, fun _ _ => rfl⟩⟩
          have HK3 : Aside ((W.drewN n).heap[D]? = some (.deferred (some []))) := ⟨HK.out⟩
          generalize W.drewN n = W3 at T3 K3 HK3 ⊢
          gi_wp2
          refine ⟨trivial, ?_⟩
          refine (callsIn_wide.2 (lenG T3.out)).mono ?_
          rintro e w' ⟨rfl, rfl⟩
          gi_wp2
          refine ⟨trivial, ?_⟩
          refine (callsIn_wide.2 (hasG T3.out WF.out)).mono ?_
          rintro e w' ⟨rfl, rfl⟩
          gi_wp2
          refine ⟨trivial, ?_⟩
          refine (callsIn_wide.2 (inG T3.out first (by omega))).mono ?_
          rintro e w' ⟨rfl, rfl⟩
          generalize decide (first ∈ ys) = d
          gi_wp2
          refine ⟨trivial, ?_⟩
          refine (callsIn_wide.2 (awake_c _)).mono ?_
          rintro e w4 ⟨rfl, b4⟩
          have K4 := Aside.mk (K3.out.trans (b4.mono K3.out.size))
          have HK4 := Aside.mk ((b4.block D (Array.getElem?_eq_some_iff.1 HK3.out).1).trans HK3.out)
          clear b4
          gi_wp2
          refine ⟨by simp, .inl ⟨_, _, rfl, run_takeDeferred HK4.out, ?_⟩⟩
          exact ⟨_, results_tmp rfl _ _ _, rfl, K4.out.trans (belowK_b (w := w) (Nat.le_refl _) w4 D _ _ HDL.out HK4.out rfl rfl)⟩
        case stop =>
          rintro D c pre W _ _ h _
          exact h.elim

end Go.Proofs.Ytnhjnbbdeilmbaa.Hand
