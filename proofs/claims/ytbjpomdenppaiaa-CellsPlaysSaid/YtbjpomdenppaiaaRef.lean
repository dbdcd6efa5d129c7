/- Contracts of the references that the law of plays calls. -/
import Derived.Test.YtbjpomdenppaiaaArgs
import Derived.LoopTactic
import Derived.Laws.AppendOwn
import Derived.Maps.AppendAt
namespace Go.Proofs.Ytbjpomdenppaiaa.Hand
open Go.RowKit

theorem tmod_neg' (a b : Int) (h : ¬ 0 ≤ a) : Int.tmod a b = -((-a) % b) := by
  have e : Int.tmod a b = -(Int.tmod (-a) b) := by rw [Int.neg_tmod]; omega
  rw [e, Int.tmod_eq_emod_of_nonneg (by omega)]

set_option maxHeartbeats 1000000 in
theorem refwrap_c (a : Int) (w : World) : Calls Try.prog 21 #[.int .i64 a] w fun e w' => e = .returned (.int .i64 (wrap32 a)) ∧ w = w' := by
  by_cases h : 0 ≤ a
  · by_cases h2 : 2147483647 < a % 4294967296
    · have e : Aside (a % 4294967296 - 4294967296 = wrap32 a) := ⟨by unfold wrap32; omega⟩
      have b0 : 0 ≤ a % 4294967296 := by omega
      have b1 : a % 4294967296 < 4294967296 := by omega
      go_enter Try.func21, Try.ntmps21
      go_wp2
      go_ret
      exact ⟨ret_int e.out, rfl⟩
    · have e : Aside (a % 4294967296 = wrap32 a) := ⟨by unfold wrap32; omega⟩
      have b0 : 0 ≤ a % 4294967296 := by omega
      have b1 : a % 4294967296 ≤ 2147483647 := by omega
      clear h2
      go_enter Try.func21, Try.ntmps21
      go_wp2
      go_ret
      exact ⟨ret_int e.out, rfl⟩
  · have h1 := tmod_neg' a 4294967296 h
    by_cases t0 : Int.tmod a 4294967296 = 0
    · have e : Aside (Int.tmod a 4294967296 = wrap32 a) := ⟨by unfold wrap32; omega⟩
      have b0 : 0 ≤ Int.tmod a 4294967296 := by omega
      have b1 : Int.tmod a 4294967296 ≤ 2147483647 := by omega
      have h' : a < 0 := by omega
      clear h h1 t0
      go_enter Try.func21, Try.ntmps21
      go_wp2
      go_ret
      exact ⟨ret_int e.out, rfl⟩
    · have b0 : Int.tmod a 4294967296 < 0 := by omega
      have b1 : -4294967296 < Int.tmod a 4294967296 := by omega
      by_cases h2 : 2147483647 < Int.tmod a 4294967296 + 4294967296
      · have e : Aside (Int.tmod a 4294967296 + 4294967296 - 4294967296 = wrap32 a) := ⟨by unfold wrap32; omega⟩
        have h' : a < 0 := by omega
        clear h h1 t0
        go_enter Try.func21, Try.ntmps21
        go_wp2
        go_ret
        exact ⟨ret_int (by have := e.out; omega), rfl⟩
      · have e : Aside (Int.tmod a 4294967296 + 4294967296 = wrap32 a) := ⟨by unfold wrap32; omega⟩
        have h2' : Int.tmod a 4294967296 + 4294967296 ≤ 2147483647 := by omega
        have h' : a < 0 := by omega
        clear h h1 t0 h2
        go_enter Try.func21, Try.ntmps21
        go_wp2
        go_ret
        exact ⟨ret_int e.out, rfl⟩

/-- The reference's Used tells a beginning of its list. -/
theorem refused_c (A : Option Addr) (c : Nat) (l : List Int) (w : World) (hr : Reads w A l) (hc : l.length ≤ c) (hm : l.length ≤ 32000) :
    Calls Try.prog 18 #[.slice A l.length c] w fun e w' => e = .returned (.slice A (upto l l.length) c) ∧ w = w' := by
  have HR := Aside.mk hr
  clear hr
  go_enter Try.func18, Try.ntmps18
  go_wp2
  go_loop [3, 4] (fun n i => ∃ k : Nat, k ≤ l.length ∧ i = .int .i64 k ∧ n = .int .i64 (upto l k : Nat)) (fun _ i => l.length - (intOf i).toNat)
  case atStart => exact ⟨0, Nat.zero_le _, rfl, rfl⟩
  case round =>
    obtain ⟨k, hk, rfl, rfl⟩ := hrel
    by_cases hlt : k < l.length
    · obtain ⟨q, rfl, hq⟩ := HR.out k hlt
      by_cases h0 : rdl l k = 0
      · have hN : Aside (upto l (k + 1) = upto l k) := ⟨by simp [upto, h0]⟩
        have h0' : (rdl l k != 0) = false := bne_eq_false_iff_eq.2 h0
        clear h0
        go_wp2
        go_round
        case rel => exact ⟨k + 1, by omega, by go_num, by rw [hN.out]⟩
        case measure => simp [intOf]; omega
      · have hN : Aside (upto l (k + 1) = k + 1) := ⟨by simp [upto, h0]⟩
        have h0' : (rdl l k != 0) = true := by rw [bne_iff_ne]; exact h0
        clear h0
        go_wp2
        go_round
        case rel => exact ⟨k + 1, by omega, by go_num, by rw [hN.out]; go_num⟩
        case measure => simp [intOf]; omega
    · obtain rfl : k = l.length := by omega
      have hu := upto_le l l.length
      clear hlt hk
      go_wp2
      go_ret
      exact ⟨rfl, rfl⟩

/-- Equal lists are told to be the same. -/
theorem same_c (A B : Option Addr) (c d : Nat) (l : List Int) (w : World) (ha : Reads w A l) (hb : Reads w B l) (hm : l.length ≤ 32000) :
    Calls Try.prog 15 #[.slice A l.length c, .slice B l.length d] w fun e w' => e = .returned (.bool true) ∧ ∃ n, w' = w.drewN n := by
  have HA := Aside.mk ha
  have HB := Aside.mk hb
  clear ha hb
  go_enter Try.func15, Try.ntmps15
  go_wp2
  go_loopw [5] (fun i wr => ∃ k n : Nat, k ≤ l.length ∧ i = .int .i64 k ∧ wr = w.drewN n) (fun i _ => l.length - (intOf i).toNat)
  case atStart => exact ⟨0, 0, Nat.zero_le _, rfl, rfl⟩
  case round =>
    obtain ⟨k, n, hk, rfl, rfl⟩ := hrel
    by_cases hlt : k < l.length
    · obtain ⟨q, rfl, hq⟩ := HA.out k hlt
      obtain ⟨p, rfl, hp⟩ := HB.out k hlt
      go_wp2
      go_quiet (fail)
      go_wp2
      go_roundw
      case rel => exact ⟨k + 1, _, by omega, by go_num, rfl⟩
      case measure => simp [intOf]; omega
    · go_wp2
      go_ret
      exact ⟨rfl, n, rfl⟩

theorem Tinfo3' : (Try.prog.info? 3).map (fun i => (i.zero, i.size, i.bytes)) = some (some (.int .i64 0), 1, 8) := by kernel_rfl

/-- The reference's list behind a store, after k rounds. -/
def stepped (l : List Int) (a v : Int) (k : Nat) : List Int := (sto l a v).take k
theorem stepped_succ (l : List Int) (a v : Int) (k : Nat) (h : k < l.length) : stepped l a v (k + 1) = stepped l a v k ++ [if (k : Int) = a then wrap32 v else rdl l k] := by
  have hl : k < (sto l a v).length := by rw [sto_length]; exact h
  unfold stepped
  rw [List.take_succ_eq_append_getElem hl]
  have := rdl_sto l a v k h
  unfold rdl at this ⊢
  rw [List.getD_eq_getElem?_getD, List.getElem?_eq_getElem hl] at this
  simp at this
  rw [this]; simp
theorem stepped_all (l : List Int) (a v : Int) : stepped l a v l.length = sto l a v := by
  unfold stepped; rw [List.take_of_length_le (by rw [sto_length]; exact Nat.le_refl _)]
theorem stepped_length (l : List Int) (a v : Int) (k : Nat) (h : k ≤ l.length) : (stepped l a v k).length = k := by simp [stepped, sto_length]; omega

theorem nums_snoc (l : List Int) (x : Int) : nums (l ++ [x]) = nums l ++ [.int .i64 x] := by simp [nums]

set_option maxHeartbeats 4000000 in
set_option maxRecDepth 100000 in
theorem stored_c (A : Option Addr) (c : Nat) (l : List Int) (a v : Int) (w : World) (hlt : ∀ q, A = some q → q.block < w.heap.size) (hr : Reads w A l) (hm : l.length ≤ 32000) :
    Calls Try.prog 12 #[.slice A l.length c, .int .i64 a, .int .i64 v] w (Told w (sto l a v)) := by
  have HR := Aside.mk hr
  have HA := Aside.mk hlt
  clear hr hlt
  obtain ⟨i0, hi, hz0, hz1, hz2⟩ := info_parts Tinfo3'
  go_enter Try.func12, Try.ntmps12
  go_wp2
  go_loopw [7, 8] (fun o i wr => ∃ k : Nat, k ≤ l.length ∧ i = .int .i64 k ∧ Aside (wr.ownsRow w.heap.size 3 1 o k (nums (stepped l a v k))) ∧ Aside (Below w.heap.size w wr)) (fun _ i _ => l.length - (intOf i).toNat)
  case atStart => exact ⟨0, Nat.zero_le _, rfl, ⟨World.ownsRow_nil _ _ _ _⟩, ⟨Below.refl _ _⟩⟩
  case round =>
    obtain ⟨k, hk, rfl, HO, K⟩ := hrel
    by_cases hlt : k < l.length
    · obtain ⟨q, rfl, hq⟩ := HR.out k hlt
      have hq' := (K.out.cell (p := ⟨q, k, none⟩) (HA.out ⟨q, 0, none⟩ rfl)).trans hq
      have hst := stepped_succ l a v k hlt
      by_cases ha : (k : Int) = a
      · rw [if_pos ha] at hst
        have HS := Aside.mk hst
        have ha' : ((k : Int) == a) = true := beq_iff_eq.2 ha
        clear hst ha hq
        go_wp2_with (first
          | (go_at_call 21; (with_reducible refine (refwrap_c _ _).mono ?_); rintro e w' ⟨rfl, rfl⟩)
          | (at_builtin; refine wpList_append_own _ rfl _ _ 26 rfl w.heap.size 3 i0 (.int .i64 0) 1 8 Try.underlying26 hi hz0 hz1 hz2 rfl (by decide) _ _ _ rfl (HO.out.alloc _) ⟨wr.heap.size, 0, none⟩ 1 1 [.int .i64 (wrap32 v)] rfl rfl (cell_one_new _ _ _) (fun x hx => by simp at hx; subst hx; rfl) (by unfold maxLen; omega) (by omega) (by have := K.out.size; simp; omega) ?_; intro v' w1 hown' hgrow _; have HO2 := Aside.mk hown'; have HG2 := Aside.mk hgrow; clear hown' hgrow))
        have HO3 : Aside (w1.ownsRow w.heap.size 3 1 v' (k + 1) (nums (stepped l a v (k + 1)))) := ⟨by rw [HS.out, nums_snoc]; exact HO2.out⟩
        have K2 : Aside (Below w.heap.size w w1) := ⟨(K.out.alloc K.out.size _).grown HG2.out (by have := K.out.size; simp; omega) (fun q hq => (HO.out.lt q hq).1)⟩
        clear HO2 HG2
        go_roundw
        case rel => exact ⟨k + 1, by omega, by go_num, HO3, K2⟩
        case measure => simp [intOf]; omega
      · rw [if_neg ha] at hst
        have HS := Aside.mk hst
        have ha' : ((k : Int) == a) = false := beq_eq_false_iff_ne.2 ha
        clear hst ha hq
        go_wp2_with (first
          | (go_at_call 21; (with_reducible refine (refwrap_c _ _).mono ?_); rintro e w' ⟨rfl, rfl⟩)
          | (at_builtin; refine wpList_append_own _ rfl _ _ 26 rfl w.heap.size 3 i0 (.int .i64 0) 1 8 Try.underlying26 hi hz0 hz1 hz2 rfl (by decide) _ _ _ rfl (HO.out.alloc _) ⟨wr.heap.size, 0, none⟩ 1 1 [.int .i64 (rdl l k)] rfl rfl (cell_one_new _ _ _) (fun x hx => by simp at hx; subst hx; rfl) (by unfold maxLen; omega) (by omega) (by have := K.out.size; simp; omega) ?_; intro v' w1 hown' hgrow _; have HO2 := Aside.mk hown'; have HG2 := Aside.mk hgrow; clear hown' hgrow))
        have HO3 : Aside (w1.ownsRow w.heap.size 3 1 v' (k + 1) (nums (stepped l a v (k + 1)))) := ⟨by rw [HS.out, nums_snoc]; exact HO2.out⟩
        have K2 : Aside (Below w.heap.size w w1) := ⟨(K.out.alloc K.out.size _).grown HG2.out (by have := K.out.size; simp; omega) (fun q hq => (HO.out.lt q hq).1)⟩
        clear HO2 HG2
        go_roundw
        case rel => exact ⟨k + 1, by omega, by go_num, HO3, K2⟩
        case measure => simp [intOf]; omega
    · obtain rfl : k = l.length := by omega
      have HS := Aside.mk (stepped_all l a v)
      obtain ⟨A2, c2, he, _, _⟩ := owned_slice HO.out
      subst he
      go_wp2
      go_ret
      refine ⟨A2, c2, by rw [sto_length]; rfl, ?_, K.out⟩
      have := HO.out
      rw [HS.out] at this
      rw [sto_length]
      exact this

end Go.Proofs.Ytbjpomdenppaiaa.Hand
