/- What is pushed is popped in its order, whatever was popped ahead; then there is none: for every list (the law takes the first 100), no further condition. -/
import Derived.Test.YtnhjnbbdeilmbaaArgs
namespace Go.Proofs.Ytnhjnbbdeilmbaa.Hand
open Go.RowKit

def upTo : Nat → List Int
  | 0 => []
  | k + 1 => upTo k ++ [(k : Int)]
theorem upTo_length : ∀ k, (upTo k).length = k
  | 0 => rfl
  | k + 1 => by simp [upTo, upTo_length k]
theorem take_snoc (z : List Int) (k : Nat) (h : k < z.length) : z.take (k + 1) = z.take k ++ [rdl z k] := by
  rw [List.take_succ_eq_append_getElem h]
  simp [rdl, List.getD_eq_getElem?_getD, h]
theorem drop_take_cons (z : List Int) (k M : Nat) (h : k < M) (hM : M ≤ z.length) : (z.take M).drop k = rdl z k :: (z.take M).drop (k + 1) := by
  rw [drop_cons (z.take M) k (by simp; omega)]
  congr 1
  unfold rdl
  rw [List.getD_eq_getElem?_getD, List.getD_eq_getElem?_getD, List.getElem?_take_of_lt h]

set_option maxHeartbeats 40000000 in
set_option maxRecDepth 100000 in
theorem drains_few (a : Option Addr) (len cap : Nat) (z : List Int) (first : Int) (w : World) (hz : IsRow .i64 w a len cap z) (wf : (Lit.int .u8 first).wf = true) (h100 : len ≤ 100) :
    Calls Try.prog 3 #[.slice a len cap, .int .u8 first] w fun e w' => e = .returned (.bool true) ∧ Below w.heap.size w w' := by
  obtain ⟨f0, f1⟩ := wf_u8 wf
  obtain ⟨hlen, hcap, hmax, hcell, _⟩ := hz
  unfold maxLen at hmax
  have HC := Aside.mk hcell
  have HN := Aside.mk hlen
  clear hlen hcell wf
  obtain ⟨n1, hn1, hn50⟩ : ∃ n1 : Nat, first % 50 = (n1 : Int) ∧ n1 < 50 := ⟨(first % 50).toNat, by omega, by omega⟩
  have HN1 := Aside.mk hn1
  have K1 : Aside (Below w.heap.size w (w.alloc (.cells #[.slice none 0 0, .int .i64 0] 24))) := ⟨(Below.refl _ _).alloc (Nat.le_refl _) _⟩
  have Q1 : Aside (Qu (w.alloc (.cells #[.slice none 0 0, .int .i64 0] 24)) (fun k => k = w.heap.size) w.heap.size 0 (upTo 0)) := ⟨qu_new w⟩
  have B1 : Aside (∀ k, k = w.heap.size → w.heap.size ≤ k) := ⟨fun k h => by omega⟩
  clear hn1
  go_enter Try.func3, Try.ntmps3
  go_wp2_with fail
  go_loopw [20] (fun i wr => ∃ (k : Nat) (F : Nat → Prop), k ≤ n1 ∧ i = .int .i64 k ∧ Aside (Qu wr F w.heap.size k (upTo k)) ∧ Aside (Below w.heap.size w wr) ∧ Aside (∀ k, F k → w.heap.size ≤ k)) (fun i _ => n1 - (intOf i).toNat)
  case atStart => exact ⟨0, _, Nat.zero_le _, rfl, Q1, K1, B1⟩
  case round =>
    obtain ⟨k, F, hk, rfl, Q, K, B⟩ := hrel
    by_cases hlt : k < n1
    · have hlt' : (k : Int) < first % 50 := by have := HN1.out; omega
      go_wp2_with fail
      refine (push_c Q.out _ (by omega)).mono ?_
      rintro e w2 ⟨rfl, F2, q2, s2⟩
      have K2 := Aside.mk (K.out.trans (s2.below K.out.size B.out))
      have B2 := Aside.mk (s2.from K.out.size B.out)
      have Q2 : Aside (Qu w2 F2 w.heap.size (k + 1) (upTo (k + 1))) := ⟨q2⟩
      clear q2 s2
      go_wp2
      go_roundw
      case rel => exact ⟨k + 1, F2, by omega, by go_num, Q2, K2, B2⟩
      case measure => simp [intOf]; omega
    · obtain rfl : n1 = k := by omega
      have hge : first % 50 ≤ (n1 : Int) := by have := HN1.out; omega
      clear hlt hk
      go_wp2_with fail
      go_loopw [29] (fun i wr => ∃ (k : Nat) (F : Nat → Prop), k ≤ n1 ∧ i = .int .i64 k ∧ Aside (Qu wr F w.heap.size n1 ((upTo n1).drop k)) ∧ Aside (Below w.heap.size w wr) ∧ Aside (∀ k, F k → w.heap.size ≤ k)) (fun i _ => n1 - (intOf i).toNat)
      case atStart => exact ⟨0, F, Nat.zero_le _, rfl, Q, K, B⟩
      case round =>
        obtain ⟨k, F, hk, rfl, Q, K, B⟩ := hrel
        by_cases hlt : k < n1
        · have hlt' : (k : Int) < first % 50 := by have := HN1.out; omega
          have Qd : Aside (Qu wr F w.heap.size n1 (rdl (upTo n1) k :: (upTo n1).drop (k + 1))) := ⟨by rw [← drop_cons _ _ (by rw [upTo_length]; exact hlt)]; exact Q.out⟩
          go_wp2_with fail
          refine (pop_some Qd.out (by omega)).mono ?_
          rintro e w2 ⟨rfl, F2, q2, s2⟩
          have K2 := Aside.mk (K.out.trans (s2.below K.out.size B.out))
          have B2 := Aside.mk (s2.from K.out.size B.out)
          have Q2 := Aside.mk q2
          clear q2 s2
          go_wp2
          go_roundw
          case rel => exact ⟨k + 1, F2, by omega, by go_num, Q2, K2, B2⟩
          case measure => simp [intOf]; omega
        · obtain rfl : n1 = k := by omega
          have hge2 : first % 50 ≤ (n1 : Int) := by have := HN1.out; omega
          have Q0 : Aside (Qu wr F w.heap.size (n1 + 0) (z.take 0)) := ⟨by have := Q.out; rw [List.drop_eq_nil_of_le (by rw [upTo_length]; exact Nat.le_refl _)] at this; exact this⟩
          clear hlt hk Q hge
          go_wp2_with fail
          go_loopw [34] (fun i wr => ∃ (k : Nat) (F : Nat → Prop), k ≤ len ∧ i = .int .i64 k ∧ Aside (Qu wr F w.heap.size (n1 + k) (z.take k)) ∧ Aside (Below w.heap.size w wr) ∧ Aside (∀ k, F k → w.heap.size ≤ k)) (fun i _ => len - (intOf i).toNat)
          case atStart => exact ⟨0, F, Nat.zero_le _, rfl, Q0, K, B⟩
          case round =>
            obtain ⟨k, F, hk, rfl, Q, K, B⟩ := hrel
            by_cases hlt : k < len
            · obtain ⟨b, o, rfl, hb, hc⟩ := HC.out k (by omega)
              have hc' := (K.out.cell (p := ⟨b, o + k, none⟩) hb).trans hc
              have hts := Aside.mk (take_snoc z k (by rw [HN.out]; omega))
              clear hc
              go_wp2_with fail
              refine (push_c Q.out _ (by omega)).mono ?_
              rintro e w2 ⟨rfl, F2, q2, s2⟩
              have K2 := Aside.mk (K.out.trans (s2.below K.out.size B.out))
              have B2 := Aside.mk (s2.from K.out.size B.out)
              have Q2 : Aside (Qu w2 F2 w.heap.size (n1 + (k + 1)) (z.take (k + 1))) := ⟨by rw [hts.out]; exact q2⟩
              clear q2 s2
              go_wp2
              go_roundw
              case rel => exact ⟨k + 1, F2, by omega, by go_num, Q2, K2, B2⟩
              case measure => simp [intOf]; omega
            · obtain rfl : len = k := by omega
              clear hlt hk
              go_wp2_with fail
              go_loopw [44] (fun i wr => ∃ (k : Nat) (F : Nat → Prop), k ≤ len ∧ i = .int .i64 k ∧ Aside (Qu wr F w.heap.size (n1 + len) ((z.take len).drop k)) ∧ Aside (Below w.heap.size w wr) ∧ Aside (∀ k, F k → w.heap.size ≤ k)) (fun i _ => len - (intOf i).toNat)
              case atStart => exact ⟨0, F, Nat.zero_le _, rfl, Q, K, B⟩
              case round =>
                obtain ⟨k, F, hk, rfl, Q, K, B⟩ := hrel
                by_cases hlt : k < len
                · obtain ⟨b, o, rfl, hb, hc⟩ := HC.out k (by omega)
                  have Qd : Aside (Qu wr F w.heap.size (n1 + len) (rdl z k :: (z.take len).drop (k + 1))) := ⟨by rw [← drop_take_cons z k len hlt (by rw [HN.out]; omega)]; exact Q.out⟩
                  have HLn : Aside ((((z.take len).drop (k + 1)).length : Int) = ((len - k - 1 : Nat) : Int)) := ⟨by have := HN.out; simp; omega⟩
                  have hz1 : (((len - k - 1 : Nat) : Int) != (len : Int) - (k : Int) - 1) = false := by rw [bne_eq_false_iff_eq]; omega
                  go_wp2_with fail
                  refine (pop_some Qd.out (by omega)).mono ?_
                  rintro e w2 ⟨rfl, F2, q2, s2⟩
                  have K2 := Aside.mk (K.out.trans (s2.below K.out.size B.out))
                  have B2 := Aside.mk (s2.from K.out.size B.out)
                  have Q2 := Aside.mk q2
                  clear q2 s2
                  have hc2 := (K2.out.cell (p := ⟨b, o + k, none⟩) hb).trans hc
                  clear hc
                  go_wp2_with fail
                  refine (qlen_c Q2.out (by omega)).mono ?_
                  rintro e w' ⟨rfl, nd, rfl⟩
                  rw [HLn.out]
                  have K3 : Aside (Below w.heap.size w (w2.drewN nd)) := ⟨K2.out.trans ⟨rfl, rfl, rfl, Nat.le_refl _, fun _ _ => rfl⟩⟩
                  have Q3 : Aside (Qu (w2.drewN nd) F2 w.heap.size (n1 + len) ((z.take len).drop (k + 1))) := ⟨Q2.out⟩
                  go_wp2
                  go_roundw
                  case rel => exact ⟨k + 1, F2, by omega, by go_num, Q3, K3, B2⟩
                  case measure => simp [intOf]; omega
                · obtain rfl : len = k := by omega
                  clear hlt hk
                  have Q0 : Aside (Qu wr F w.heap.size (n1 + len) []) := ⟨by have := Q.out; rw [List.drop_eq_nil_of_le (by simp; omega)] at this; exact this⟩
                  clear Q
                  go_wp2_with fail
                  refine (pop_none Q0.out (by omega)).mono ?_
                  rintro e w2 ⟨rfl, F2, q2, s2⟩
                  have K2 := Aside.mk (K.out.trans (s2.below K.out.size B.out))
                  have Q2 := Aside.mk q2
                  clear q2 s2
                  go_wp2_with fail
                  refine (qlen_c Q2.out (by omega)).mono ?_
                  rintro e w' ⟨rfl, nd, rfl⟩
                  have K3 : Aside (Below w.heap.size w (w2.drewN nd)) := ⟨K2.out.trans ⟨rfl, rfl, rfl, Nat.le_refl _, fun _ _ => rfl⟩⟩
                  go_wp2_with fail
                  refine (awake_c _).mono ?_
                  rintro e w4 ⟨rfl, b4⟩
                  have K4 := Aside.mk (K3.out.trans (b4.mono K3.out.size))
                  clear b4
                  go_wp2
                  go_ret
                  exact ⟨rfl, K4.out⟩

set_option maxHeartbeats 40000000 in
set_option maxRecDepth 100000 in
theorem drains_many (a : Option Addr) (len cap : Nat) (z : List Int) (first : Int) (w : World) (hz : IsRow .i64 w a len cap z) (wf : (Lit.int .u8 first).wf = true) (h100 : 100 < len) :
    Calls Try.prog 3 #[.slice a len cap, .int .u8 first] w fun e w' => e = .returned (.bool true) ∧ Below w.heap.size w w' := by
  obtain ⟨f0, f1⟩ := wf_u8 wf
  obtain ⟨hlen, hcap, hmax, hcell, _⟩ := hz
  unfold maxLen at hmax
  have HC := Aside.mk hcell
  have HN := Aside.mk hlen
  clear hlen hcell wf
  obtain ⟨n1, hn1, hn50⟩ : ∃ n1 : Nat, first % 50 = (n1 : Int) ∧ n1 < 50 := ⟨(first % 50).toNat, by omega, by omega⟩
  have HN1 := Aside.mk hn1
  have K1 : Aside (Below w.heap.size w (w.alloc (.cells #[.slice none 0 0, .int .i64 0] 24))) := ⟨(Below.refl _ _).alloc (Nat.le_refl _) _⟩
  have Q1 : Aside (Qu (w.alloc (.cells #[.slice none 0 0, .int .i64 0] 24)) (fun k => k = w.heap.size) w.heap.size 0 (upTo 0)) := ⟨qu_new w⟩
  have B1 : Aside (∀ k, k = w.heap.size → w.heap.size ≤ k) := ⟨fun k h => by omega⟩
  clear hn1
  go_enter Try.func3, Try.ntmps3
  go_wp2_with fail
  go_loopw [20] (fun i wr => ∃ (k : Nat) (F : Nat → Prop), k ≤ n1 ∧ i = .int .i64 k ∧ Aside (Qu wr F w.heap.size k (upTo k)) ∧ Aside (Below w.heap.size w wr) ∧ Aside (∀ k, F k → w.heap.size ≤ k)) (fun i _ => n1 - (intOf i).toNat)
  case atStart => exact ⟨0, _, Nat.zero_le _, rfl, Q1, K1, B1⟩
  case round =>
    obtain ⟨k, F, hk, rfl, Q, K, B⟩ := hrel
    by_cases hlt : k < n1
    · have hlt' : (k : Int) < first % 50 := by have := HN1.out; omega
      go_wp2_with fail
      refine (push_c Q.out _ (by omega)).mono ?_
      rintro e w2 ⟨rfl, F2, q2, s2⟩
      have K2 := Aside.mk (K.out.trans (s2.below K.out.size B.out))
      have B2 := Aside.mk (s2.from K.out.size B.out)
      have Q2 : Aside (Qu w2 F2 w.heap.size (k + 1) (upTo (k + 1))) := ⟨q2⟩
      clear q2 s2
      go_wp2
      go_roundw
      case rel => exact ⟨k + 1, F2, by omega, by go_num, Q2, K2, B2⟩
      case measure => simp [intOf]; omega
    · obtain rfl : n1 = k := by omega
      have hge : first % 50 ≤ (n1 : Int) := by have := HN1.out; omega
      clear hlt hk
      go_wp2_with fail
      go_loopw [29] (fun i wr => ∃ (k : Nat) (F : Nat → Prop), k ≤ n1 ∧ i = .int .i64 k ∧ Aside (Qu wr F w.heap.size n1 ((upTo n1).drop k)) ∧ Aside (Below w.heap.size w wr) ∧ Aside (∀ k, F k → w.heap.size ≤ k)) (fun i _ => n1 - (intOf i).toNat)
      case atStart => exact ⟨0, F, Nat.zero_le _, rfl, Q, K, B⟩
      case round =>
        obtain ⟨k, F, hk, rfl, Q, K, B⟩ := hrel
        by_cases hlt : k < n1
        · have hlt' : (k : Int) < first % 50 := by have := HN1.out; omega
          have Qd : Aside (Qu wr F w.heap.size n1 (rdl (upTo n1) k :: (upTo n1).drop (k + 1))) := ⟨by rw [← drop_cons _ _ (by rw [upTo_length]; exact hlt)]; exact Q.out⟩
          go_wp2_with fail
          refine (pop_some Qd.out (by omega)).mono ?_
          rintro e w2 ⟨rfl, F2, q2, s2⟩
          have K2 := Aside.mk (K.out.trans (s2.below K.out.size B.out))
          have B2 := Aside.mk (s2.from K.out.size B.out)
          have Q2 := Aside.mk q2
          clear q2 s2
          go_wp2
          go_roundw
          case rel => exact ⟨k + 1, F2, by omega, by go_num, Q2, K2, B2⟩
          case measure => simp [intOf]; omega
        · obtain rfl : n1 = k := by omega
          have hge2 : first % 50 ≤ (n1 : Int) := by have := HN1.out; omega
          have Q0 : Aside (Qu wr F w.heap.size (n1 + 0) (z.take 0)) := ⟨by have := Q.out; rw [List.drop_eq_nil_of_le (by rw [upTo_length]; exact Nat.le_refl _)] at this; exact this⟩
          clear hlt hk Q hge
          go_wp2_with fail
          go_loopw [34] (fun i wr => ∃ (k : Nat) (F : Nat → Prop), k ≤ 100 ∧ i = .int .i64 k ∧ Aside (Qu wr F w.heap.size (n1 + k) (z.take k)) ∧ Aside (Below w.heap.size w wr) ∧ Aside (∀ k, F k → w.heap.size ≤ k)) (fun i _ => 100 - (intOf i).toNat)
          case atStart => exact ⟨0, F, Nat.zero_le _, rfl, Q0, K, B⟩
          case round =>
            obtain ⟨k, F, hk, rfl, Q, K, B⟩ := hrel
            by_cases hlt : k < 100
            · obtain ⟨b, o, rfl, hb, hc⟩ := HC.out k (by omega)
              have hc' := (K.out.cell (p := ⟨b, o + k, none⟩) hb).trans hc
              have hts := Aside.mk (take_snoc z k (by rw [HN.out]; omega))
              clear hc
              go_wp2_with fail
              refine (push_c Q.out _ (by omega)).mono ?_
              rintro e w2 ⟨rfl, F2, q2, s2⟩
              have K2 := Aside.mk (K.out.trans (s2.below K.out.size B.out))
              have B2 := Aside.mk (s2.from K.out.size B.out)
              have Q2 : Aside (Qu w2 F2 w.heap.size (n1 + (k + 1)) (z.take (k + 1))) := ⟨by rw [hts.out]; exact q2⟩
              clear q2 s2
              go_wp2
              go_roundw
              case rel => exact ⟨k + 1, F2, by omega, by go_num, Q2, K2, B2⟩
              case measure => simp [intOf]; omega
            · obtain rfl : 100 = k := by omega
              clear hlt hk
              rw [show ((100 : Nat) : Int) = 100 from rfl]
              go_wp2_with fail
              go_loopw [44] (fun i wr => ∃ (k : Nat) (F : Nat → Prop), k ≤ 100 ∧ i = .int .i64 k ∧ Aside (Qu wr F w.heap.size (n1 + 100) ((z.take 100).drop k)) ∧ Aside (Below w.heap.size w wr) ∧ Aside (∀ k, F k → w.heap.size ≤ k)) (fun i _ => 100 - (intOf i).toNat)
              case atStart => exact ⟨0, F, Nat.zero_le _, rfl, Q, K, B⟩
              case round =>
                obtain ⟨k, F, hk, rfl, Q, K, B⟩ := hrel
                by_cases hlt : k < 100
                · obtain ⟨b, o, rfl, hb, hc⟩ := HC.out k (by omega)
                  have Qd : Aside (Qu wr F w.heap.size (n1 + 100) (rdl z k :: (z.take 100).drop (k + 1))) := ⟨by rw [← drop_take_cons z k 100 hlt (by rw [HN.out]; omega)]; exact Q.out⟩
                  have HLn : Aside ((((z.take 100).drop (k + 1)).length : Int) = ((100 - k - 1 : Nat) : Int)) := ⟨by have := HN.out; simp; omega⟩
                  have hz1 : (((100 - k - 1 : Nat) : Int) != (100 : Int) - (k : Int) - 1) = false := by rw [bne_eq_false_iff_eq]; omega
                  go_wp2_with fail
                  refine (pop_some Qd.out (by omega)).mono ?_
                  rintro e w2 ⟨rfl, F2, q2, s2⟩
                  have K2 := Aside.mk (K.out.trans (s2.below K.out.size B.out))
                  have B2 := Aside.mk (s2.from K.out.size B.out)
                  have Q2 := Aside.mk q2
                  clear q2 s2
                  have hc2 := (K2.out.cell (p := ⟨b, o + k, none⟩) hb).trans hc
                  clear hc
                  go_wp2_with fail
                  refine (qlen_c Q2.out (by omega)).mono ?_
                  rintro e w' ⟨rfl, nd, rfl⟩
                  rw [HLn.out]
                  have K3 : Aside (Below w.heap.size w (w2.drewN nd)) := ⟨K2.out.trans ⟨rfl, rfl, rfl, Nat.le_refl _, fun _ _ => rfl⟩⟩
                  have Q3 : Aside (Qu (w2.drewN nd) F2 w.heap.size (n1 + 100) ((z.take 100).drop (k + 1))) := ⟨Q2.out⟩
                  go_wp2
                  go_roundw
                  case rel => exact ⟨k + 1, F2, by omega, by go_num, Q3, K3, B2⟩
                  case measure => simp [intOf]; omega
                · obtain rfl : 100 = k := by omega
                  clear hlt hk
                  have Q0 : Aside (Qu wr F w.heap.size (n1 + 100) []) := ⟨by have := Q.out; rw [List.drop_eq_nil_of_le (by simp; omega)] at this; exact this⟩
                  clear Q
                  go_wp2_with fail
                  refine (pop_none Q0.out (by omega)).mono ?_
                  rintro e w2 ⟨rfl, F2, q2, s2⟩
                  have K2 := Aside.mk (K.out.trans (s2.below K.out.size B.out))
                  have Q2 := Aside.mk q2
                  clear q2 s2
                  go_wp2_with fail
                  refine (qlen_c Q2.out (by omega)).mono ?_
                  rintro e w' ⟨rfl, nd, rfl⟩
                  have K3 : Aside (Below w.heap.size w (w2.drewN nd)) := ⟨K2.out.trans ⟨rfl, rfl, rfl, Nat.le_refl _, fun _ _ => rfl⟩⟩
                  go_wp2_with fail
                  refine (awake_c _).mono ?_
                  rintro e w4 ⟨rfl, b4⟩
                  have K4 := Aside.mk (K3.out.trans (b4.mono K3.out.size))
                  clear b4
                  go_wp2
                  go_ret
                  exact ⟨rfl, K4.out⟩

theorem drains_row (a : Option Addr) (len cap : Nat) (z : List Int) (first : Int) (w : World) (hz : IsRow .i64 w a len cap z) (wf : (Lit.int .u8 first).wf = true) :
    Calls Try.prog 3 #[.slice a len cap, .int .u8 first] w fun e w' => e = .returned (.bool true) ∧ Below w.heap.size w w' := by
  by_cases h : len ≤ 100
  · exact drains_few a len cap z first w hz wf h
  · exact drains_many a len cap z first w hz wf (by omega)

end Go.Proofs.Ytnhjnbbdeilmbaa.Hand
