/- The iterator of a queue: what comes, in which order. -/
import Derived.BigRegionIn
import Derived.Shelf.RegionOpen
import Derived.Test.YtnhjnbbdeilmbaaRef5
import Derived.Test.YtnhjnbbdeilmbaaTwice
namespace Go.Proofs.Ytnhjnbbdeilmbaa.Hand
open Go.RowKit Go.Shelf
attribute [local go_sem] Oper.semAt_some

/-- What a queue's iterator reads, in blocks below n₀. -/
def QIs (n₀ : Nat) (W : World) (g : Nat) (xs : List Int) : Prop :=
  g < n₀ ∧ ∃ A n c f cs, W.cell? ⟨g, 0, none⟩ = some (.slice A n c) ∧ W.cell? ⟨g, 1, none⟩ = some (.int .i64 (f : Nat)) ∧ cs.length = n ∧ n ≤ c ∧ f ≤ n ∧ n ≤ 1000000 ∧ cs.drop f = xs ∧
    ∀ j, j < n → ∃ b, A = some ⟨b, 0, none⟩ ∧ b < n₀ ∧ W.cell? ⟨b, j, none⟩ = some (.int .i64 (rdl cs j))
theorem QIs.below {n₀ : Nat} {X Y : World} (h : Below n₀ X Y) {g : Nat} {xs : List Int} : QIs n₀ X g xs → QIs n₀ Y g xs
  | ⟨hg, A, n, c, f, cs, h0, h1, h2, h3, h4, h5, h6, h7⟩ => ⟨hg, A, n, c, f, cs, (h.cell (p := ⟨g, 0, none⟩) hg).trans h0, (h.cell (p := ⟨g, 1, none⟩) hg).trans h1, h2, h3, h4, h5, h6, fun j hj => by
      obtain ⟨b, e, hb, hc⟩ := h7 j hj
      exact ⟨b, e, hb, (h.cell (p := ⟨b, j, none⟩) hb).trans hc⟩⟩
theorem QIs.of_qu {w : World} {F : Nat → Prop} {g m : Nat} {xs : List Int} (q : Qu w F g m xs) (hm : m ≤ 1000000) : QIs w.heap.size w g xs := by
  obtain ⟨v, n, f, cs, hg, hF, ho, hv, hf, hn, hx, hlt⟩ := q
  obtain ⟨A, c, rfl, hc, hq⟩ := owned_slice ho
  refine ⟨hlt g hF, A, n, c, f, cs, by rw [cell_of_row _ _ 0 _ _ _ hg]; rfl, by rw [cell_of_row _ _ 1 _ _ _ hg]; rfl, owned_len ho, hc, hf, by omega, hx, fun j hj => ?_⟩
  obtain ⟨q, rfl⟩ := hq (by omega)
  exact ⟨q, rfl, hlt q (hv q rfl).1, owned_cell ho j (by rw [owned_len ho]; exact hj)⟩
theorem QIs.len {n₀ : Nat} {w : World} {g : Nat} {xs : List Int} (q : QIs n₀ w g xs) :
    Calls Try.prog 10 #[.pointer (some ⟨g, 0, none⟩)] w fun e w' => e = .returned (.int .i64 (xs.length : Nat)) ∧ ∃ n, w' = w.drewN n := by
  obtain ⟨hgl, A, n, c, f, cs, hc0, hc1, hl, hnc, hf, hn, hx, hr⟩ := q
  have hl : ((xs.length : Nat) : Int) = (n : Int) - (f : Int) := by rw [← hx, List.length_drop, hl]; omega
  rw [hl]
  clear hr hx hl
  go_enter Try.func10, Try.ntmps10
  go_wp2
  go_quiet (fail)
  go_wp2
  go_ret
  exact ⟨rfl, _, rfl⟩
theorem queueAll_c (g : Nat) (w : World) : Calls Try.prog 25 #[.pointer (some ⟨g, 0, none⟩)] w fun e w' => e = .returned (.func (.func 27) #[] #[.pointer (some ⟨w.heap.size, 0, none⟩)]) ∧ w' = w.alloc (.cells #[.pointer (some ⟨g, 0, none⟩)] 45) := by
  go_enter Try.func25, Try.ntmps25
  go_wp2
  go_ret
  exact ⟨rfl, rfl⟩

/-- What comes: the numbers' places, and the numbers. -/
def up (xs : List Int) (k : Nat) : List (Int × Int) := (List.range k).map fun (j : Nat) => ((j : Int), rdl xs j)
theorem up_succ (xs : List Int) (k : Nat) : up xs (k + 1) = up xs k ++ [((k : Int), rdl xs k)] := by simp [up, List.range_succ]
theorem up_len (xs : List Int) (k : Nat) : (up xs k).length = k := by simp [up]
/-- What a round keeps. -/
def Kq (n₀ Bs g : Nat) (W W' : World) : Prop := Below n₀ W W' ∧ (Boxed W Bs 45 (.pointer (some ⟨g, 0, none⟩)) → Boxed W' Bs 45 (.pointer (some ⟨g, 0, none⟩)))
theorem kq_t {n₀ Bs g : Nat} {A B C : World} (h : Kq n₀ Bs g A B) (k : Kq n₀ Bs g B C) : Kq n₀ Bs g A C := ⟨h.1.trans k.1, fun b => k.2 (h.2 b)⟩
theorem kq_b {n₀ Bs g : Nat} {w : World} (hn : n₀ ≤ w.heap.size) (W : World) (l : Nat) (o o' : Obj) (hl : w.heap.size ≤ l) (h : W.heap[l]? = some o) (hc : o.isCells = false) (hw : o.isWalk = false) : Kq n₀ Bs g W (W.putObj l o') :=
  ⟨belowK_b hn W l o o' hl h hc hw, fun b => b.kept (grownBy_putObj' W l o') (fun e => by
    cases e
    rw [show W.heap[Bs]? = _ from b] at h
    cases h
    cases hc)⟩
theorem rdl_drop (cs : List Int) (f k : Nat) : rdl (cs.drop f) k = rdl cs (f + k) := by simp [rdl, List.getD_eq_getElem?_getD]
theorem grown_drew (W : World) : W.grownBy W.drew none := ⟨rfl, rfl, rfl, Nat.le_refl _, fun _ _ _ => rfl⟩

set_option maxRecDepth 100000 in
set_option maxHeartbeats 4000000 in
theorem queue1_in (n : Nat) (hn : 1 ≤ n) (l Bs g n₀ : Nat) (xs : List Int) (J Jx : List (Int × Int) → World → Prop) (hJd : ∀ pre W, J pre W → J pre W.drew)
    (hJb : ∀ pre W, J pre W → Boxed W Bs 45 (.pointer (some ⟨g, 0, none⟩)) ∧ QIs n₀ W g xs)
    (hY : ∀ pre (x : Int × Int) W, J pre W → pre.length < xs.length → YieldAt Fence.wide (n - 1) Try.prog l #[.int .i64 x.1, .int .i64 x.2] W fun e W' =>
      (e = .returned (.bool true) ∧ J (pre ++ [x]) W') ∨ (e = .returned (.bool false) ∧ Jx (pre ++ [x]) W'))
    (W : World) (h0 : J [] W) :
    CallsIn Fence.wide n Try.prog 27 #[.func (.yield l) #[] #[], .pointer (some ⟨Bs, 0, none⟩)] W fun e W' => (∃ v, e = .returned v) ∧
      ((∃ ys, ys = up xs xs.length ∧ J ys W') ∨ (∃ pre, (∃ k, k ≤ xs.length ∧ pre = up xs k) ∧ Jx pre W')) := by
  have HJ := Aside.mk hJb
  have hB := (hJb _ _ h0).1.cell
  have hQ := Aside.mk (hJb _ _ h0).2
  have HD : Aside (∀ pre W m, J pre W → J pre (W.drewN m)) := ⟨fun pre W m h => by
    induction m with
    | zero => exact h
    | succ m ih => exact hJd _ _ ih⟩
  clear hJb
  have hxm : xs.length ≤ 1000000 := by
    obtain ⟨_, A, n, c, f, cs, _, _, h2, _, _, h5, h6, _⟩ := hQ.out
    rw [← h6, List.length_drop]; omega
  refine callsIn_of_wp Try.func27 rfl trivial ?_ rfl
  simp only [Try.ntmps27, List.size_toArray, List.length_cons, List.length_nil, Nat.reduceAdd, Nat.reduceSub, Array.replicate_succ, Array.replicate_zero, List.push_toArray, List.append_toArray, List.nil_append, List.cons_append]
  gi_wp2
  refine ⟨trivial, ?_⟩
  refine (callsIn_wide.2 hQ.out.len).mono ?_
  rintro e w2 ⟨rfl, m, rfl⟩
  have h0' := Aside.mk (HD.out _ _ m h0)
  gi_wp2
  gi_loopw [6] (fun i wr => ∃ k : Nat, k ≤ xs.length ∧ i = .int .i64 k ∧ Aside (J (up xs k) wr)) (fun i _ => xs.length - (intOf i).toNat)
  case atStart => exact ⟨0, Nat.zero_le _, rfl, h0'⟩
  case round =>
    obtain ⟨k, hk, rfl, HJs⟩ := hrel
    by_cases hlt : k < xs.length
    · have hbx := (HJ.out _ _ HJs.out).1.cell
      obtain ⟨hgl, A, nn, c, f, cs, hc0, hc1, hl, hnc, hf, hn2, hx, hr⟩ := (HJ.out _ _ HJs.out).2
      have hfk : f + k < nn := by rw [← hx, List.length_drop] at hlt; omega
      obtain ⟨b, rfl, hb, hcb⟩ := hr (f + k) hfk
      have hrd := rdl_drop cs f k
      rw [hx] at hrd
      rw [← hrd] at hcb
      obtain ⟨fn, tmps, assign, body, hy, hR⟩ := hY _ ((k : Int), rdl xs k) wr.drew (hJd _ _ HJs.out) (by rw [up_len]; omega)
      dsimp only at hy
      have HU := Aside.mk (up_succ xs k)
      have hmx : Try.prog.follows .mixedOrders = true := by kernel_rfl
      have hbd : b < n₀ := hb
      obtain ⟨q, hq⟩ : ∃ q : Nat, f + k = q := ⟨_, rfl⟩
      rw [hq] at hfk hcb
      have hw1 : wrap64 ((f : Int) + (k : Int)) = (q : Int) := by unfold wrap64; omega
      have hw2 : IntKind.wrap .i64 ((f : Int) + (k : Int)) = (q : Int) := by rw [i64_wrap]; exact hw1
      have hR2 : RoundIn Fence.wide (n - 1) Try.prog l fn tmps assign body wr.drew (fun e W' => ∃ bb, e = .returned (.bool bb) ∧ ((bb = true ∧ J (up xs (k + 1)) W') ∨ (bb = false ∧ Jx (up xs (k + 1)) W'))) := by
        refine hR.mono ?_
        rw [up_succ]
        rintro e W3 (⟨rfl, h⟩ | ⟨rfl, h⟩)
        · exact ⟨_, rfl, .inl ⟨rfl, h⟩⟩
        · exact ⟨_, rfl, .inr ⟨rfl, h⟩⟩
      clear hr hx hrd hb hR hq
      gi_wp2
      gi_region_with_o (gi_wp2; refine hR2.mono ?_; rintro e W3 ⟨bb, rfl, hbb⟩)
      all_goals
        rcases hbb with ⟨rfl, hJ3⟩ | ⟨rfl, hJx3⟩
        · gi_wp2
          go_roundw
          case rel => exact ⟨k + 1, by omega, by go_num, ⟨hJ3⟩⟩
          case measure => simp [intOf]; omega
        · gi_wp2
          refine bodyPost_ret (results_none rfl _ _ _) rfl ?_
          exact ⟨⟨_, rfl⟩, .inr ⟨_, ⟨k + 1, by omega, rfl⟩, hJx3⟩⟩
    · obtain rfl : xs.length = k := by omega
      gi_wp2
      go_end0
      exact ⟨⟨_, rfl⟩, .inl ⟨_, rfl, HJs.out⟩⟩

theorem queue_stops (n : Nat) (hn : 1 ≤ n) (Bs g n₀ : Nat) (xs : List Int) (w : World) (hB : Boxed w Bs 45 (.pointer (some ⟨g, 0, none⟩))) (hn₀ : n₀ ≤ w.heap.size) (hQ : QIs n₀ w g xs) :
    SeqStopsK Fence.wide n Try.prog 27 #[.pointer (some ⟨Bs, 0, none⟩)] (fun x : Int × Int => #[Value.int .i64 x.1, Value.int .i64 x.2]) (Kq n₀ Bs g) (fun ys => ys = up xs xs.length) (fun pre => ∃ k, k ≤ xs.length ∧ pre = up xs k) xs.length w := fun l J Jx W hW hJ _ hY h0 => by
  have hJd : ∀ pre W', J pre W' → J pre W'.drew := fun pre W' h => hJ _ _ _ none h (grown_drew W') (fun r e => by cases e)
  refine (queue1_in n hn l Bs g n₀ xs (fun pre W' => J pre W' ∧ Boxed W' Bs 45 (.pointer (some ⟨g, 0, none⟩)) ∧ QIs n₀ W' g xs) Jx (fun pre W' h => ⟨hJd _ _ h.1, h.2.1, h.2.2.below ((Below.refl _ _).drew)⟩) (fun _ _ h => h.2) ?_ W ⟨h0, ?_, hQ.below (hW.mono hn₀)⟩).mono ?_
  · intro pre x W' h hl
    refine (hY pre x W' h.1 hl).mono ?_
    rintro e W2 (⟨he, hj, hk⟩ | ⟨he, hj⟩)
    · exact .inl ⟨he, hj, hk.2 h.2.1, h.2.2.below hk.1⟩
    · exact .inr ⟨he, hj⟩
  · exact (hW.block Bs hB.lt).trans hB
  · rintro e W' ⟨he, ⟨ys, hy, hj⟩ | h⟩
    · exact ⟨he, .inl ⟨ys, hy, hj.1⟩⟩
    · exact ⟨he, .inr h⟩

/-- Whether the places came in their order. -/
def okOf (pre : List (Int × Int)) : Bool := (pre.foldl (fun (s : Nat × Bool) x => (s.1 + 1, s.2 && x.1 == (s.1 : Int))) (0, true)).2
theorem okOf_fst (pre : List (Int × Int)) : (pre.foldl (fun (s : Nat × Bool) x => (s.1 + 1, s.2 && x.1 == (s.1 : Int))) (0, true)).1 = pre.length := by
  have h : ∀ (pre : List (Int × Int)) (s : Nat × Bool), (pre.foldl (fun (s : Nat × Bool) x => (s.1 + 1, s.2 && x.1 == (s.1 : Int))) s).1 = s.1 + pre.length := by
    intro pre
    induction pre with
    | nil => intro s; rfl
    | cons x l ih => intro s; rw [List.foldl_cons, ih]; simp; omega
  rw [h]; simp
theorem okOf_snoc (pre : List (Int × Int)) (x : Int × Int) : okOf (pre ++ [x]) = (okOf pre && x.1 == (pre.length : Int)) := by
  unfold okOf
  rw [List.foldl_append, List.foldl_cons, List.foldl_nil, okOf_fst]
theorem okOf_up (xs : List Int) : ∀ k, okOf (up xs k) = true
  | 0 => rfl
  | k + 1 => by rw [up_succ, okOf_snoc, okOf_up xs k, up_len]; simp
theorem up_snd (xs : List Int) : ∀ k, k ≤ xs.length → (up xs k).map (·.2) = xs.take k
  | 0, _ => by simp [up]
  | k + 1, h => by rw [up_succ, List.map_append, up_snd xs k (by omega), take_snoc' xs k (by omega)]; rfl
theorem up_all (xs : List Int) : (up xs xs.length).map (·.2) = xs := by rw [up_snd xs _ (Nat.le_refl _), List.take_length]
end Go.Proofs.Ytnhjnbbdeilmbaa.Hand
