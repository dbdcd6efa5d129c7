/- A cell is what was stored there last, brought round; no other one is turned: for every memory of at most 1,000 cells, every two places and words. -/
import Derived.Test.YtbjpomdenppaiaaArgs
import Derived.LoopTactic
namespace Go.Proofs.Ytbjpomdenppaiaa.Hand
open Go.RowKit

/-- The words behind the two stores. -/
def twice (s : Nat) (a v b x : Int) : List Int := sto (sto (List.replicate s 0) a v) b (x + 4294967296)
theorem twice_length (s : Nat) (a v b x : Int) : (twice s a v b x).length = s := by simp [twice, sto_length]
theorem wrap_far (x : Int) (h0 : -2147483648 ≤ x) (h1 : x ≤ 2147483647) : wrap32 (x + 4294967296) = x := by unfold wrap32; omega
theorem twice_b (s : Nat) (a v b x : Int) (h0 : -2147483648 ≤ x) (h1 : x ≤ 2147483647) (b0 : 0 ≤ b) (b1 : b < s) : atl (twice s a v b x) b = x := by
  unfold twice
  rw [atl_sto _ _ _ _ b0 (by simp [sto_length]; exact b1), if_pos rfl, wrap_far x h0 h1]
theorem twice_a (s : Nat) (a v b x : Int) (h0 : -2147483648 ≤ v) (h1 : v ≤ 2147483647) (a0 : 0 ≤ a) (a1 : a < s) (hab : a ≠ b) : atl (twice s a v b x) a = v := by
  unfold twice
  rw [atl_sto _ _ _ _ a0 (by simp [sto_length]; exact a1), if_neg hab, atl_sto _ _ _ _ a0 (by simpa using a1), if_pos rfl, w32_id h0 h1]
theorem twice_other (s : Nat) (a v b x : Int) (k : Nat) (hk : k < s) (ha : (k : Int) ≠ a) (hb : (k : Int) ≠ b) : rdl (twice s a v b x) k = 0 := by
  unfold twice
  rw [rdl_sto _ _ _ _ (by simp [sto_length]; exact hk), if_neg hb, rdl_sto _ _ _ _ (by simpa using hk), if_neg ha, rdl_zeros]

set_option maxHeartbeats 40000000 in
set_option maxRecDepth 100000 in
theorem last_c (n a b v x : Int) (w : World) (n0 : 0 ≤ n) (n1 : n ≤ 65535) (v0 : -2147483648 ≤ v) (v1 : v ≤ 2147483647) (x0 : -2147483648 ≤ x) (x1 : x ≤ 2147483647) :
    Calls Try.prog 4 #[.int .u16 n, .int .i64 a, .int .i64 b, .int .i32 v, .int .i32 x] w fun e w' => e = .returned (.bool true) ∧ Below w.heap.size w w' := by
  obtain ⟨s, hs, s0, s1⟩ : ∃ s : Nat, (1 + n % 1000) = (s : Int) ∧ 1 ≤ s ∧ s ≤ 1000 := ⟨(1 + n % 1000).toNat, by omega, by omega, by omega⟩
  have HS := Aside.mk hs
  have E1 : Aside ((1 + n % 1000).toNat = s) := ⟨by omega⟩
  clear hs
  go_enter Try.func4, Try.ntmps4
  go_wp2_with fail
  refine (new_i _ _ (by omega) (by omega)).mono ?_
  rintro e w1 ⟨g, h, rfl, m1, hg, hh, k1⟩
  rw [E1.out] at m1
  have M1 := Aside.mk m1
  have K1 := Aside.mk k1
  clear m1 k1
  go_wp2_with fail
  refine (store_c M1.out _ _).mono ?_
  rintro e w2 ⟨rfl, m2, k2⟩
  have M2 := Aside.mk m2
  have K2 := Aside.mk (fresh_old K1.out hh k2)
  clear m2 k2
  rw [inr_len (show (List.replicate s (0 : Int)).length = (twice s a v b x).length by rw [twice_length]; simp)]
  go_wp2_with fail
  refine (store_c M2.out _ _).mono ?_
  rintro e w3 ⟨rfl, m3, k3⟩
  have M3 : Aside (Mem w3 g h (twice s a v b x)) := ⟨m3⟩
  have K3 := Aside.mk (K2.out.trans (k3.below K2.out.size (fun _ e => by subst e; exact hh)))
  clear m3 k3
  rw [inr_len (show (sto (List.replicate s (0 : Int)) a v).length = (twice s a v b x).length by rw [twice_length, sto_length]; simp)]
  go_wp2_with fail
  refine (load_c M3.out _).mono ?_
  rintro e w' ⟨rfl, rfl⟩
  go_wp2_with fail
  refine (load_c M3.out _).mono ?_
  rintro e w' ⟨rfl, rfl⟩
  have HT := Aside.mk (twice_length s a v b x)
  have hn : ((s : Int) == 1 + n % 1000) = true := beq_iff_eq.2 HS.out.symm
  have PA : Aside (0 ≤ a ∧ a < s → a ≠ b → (atl (twice s a v b x) a != v) = false) := ⟨fun h hab => by rw [twice_a s a v b x v0 v1 h.1 h.2 hab]; exact bne_self_eq_false _⟩
  have PB : Aside (0 ≤ b ∧ b < s → (atl (twice s a v b x) b != x) = false) := ⟨fun h => by rw [twice_b s a v b x x0 x1 h.1 h.2]; exact bne_self_eq_false _⟩
  have PK : Aside (∀ k : Nat, k < s → (k : Int) ≠ a → (k : Int) ≠ b → (rdl (twice s a v b x) k != 0) = false) := ⟨fun k hk ha hb => by rw [twice_other s a v b x k hk ha hb]; rfl⟩
  have hab : (a != b) = true ∧ a ≠ b ∨ (a != b) = false := by
    by_cases e : a = b
    · exact .inr (by rw [e]; exact bne_self_eq_false _)
    · exact .inl ⟨by rw [bne_iff_ne]; exact e, e⟩
  generalize twice s a v b x = T at *
  rcases inr_ways s a with ⟨ha, hi⟩ | ⟨ha, hi⟩ | ⟨ha, hi⟩ <;> rcases inr_ways s b with ⟨hb, hj⟩ | ⟨hb, hj⟩ | ⟨hb, hj⟩ <;> rcases hab with ⟨hab, hne⟩ | hab
  all_goals
    have IA := Aside.mk (hi T HT.out)
    have IB := Aside.mk (hj T HT.out)
    have hA := Aside.mk ha
    have hB := Aside.mk hb
    clear hi hj ha hb
    rw [IA.out, IB.out]
    try (have da0 : decide (0 ≤ a) = true := by have := hA.out; simp; omega)
    try (have da0 : decide (0 ≤ a) = false := by have := hA.out; simp; omega)
    try (have db0 : decide (0 ≤ b) = true := by have := hB.out; simp; omega)
    try (have db0 : decide (0 ≤ b) = false := by have := hB.out; simp; omega)
    try (have da1 : decide (a < 1 + n % 1000) = true := by have := hA.out; have := HS.out; simp; omega)
    try (have da1 : decide (a < 1 + n % 1000) = false := by have := hA.out; have := HS.out; simp; omega)
    try (have db1 : decide (b < 1 + n % 1000) = true := by have := hB.out; have := HS.out; simp; omega)
    try (have db1 : decide (b < 1 + n % 1000) = false := by have := hB.out; have := HS.out; simp; omega)
    try (have pa := PA.out hA.out hne)
    try (have pb := PB.out hB.out)
    try clear hne
    go_wp2_with fail
    refine (words_c M3.out).mono ?_
    rintro e w4 ⟨A, c, rfl, ho, b4⟩
    have M4 : Aside (Mem w4 g h T) := ⟨M3.out.kept (Keeps.of_below b4 (fun _ => False)) id id⟩
    have K4 := Aside.mk (K3.out.trans (b4.mono K3.out.size))
    have hcap := owned_cap ho
    have HR := Aside.mk (reads_of ho)
    clear ho b4
    rw [HT.out] at hcap ⊢
    go_wp2_with fail
    go_loop [104] (fun i => ∃ k : Nat, k ≤ s ∧ i = .int .i64 k) (fun i => s - (intOf i).toNat)
    case atStart => exact ⟨0, Nat.zero_le _, rfl⟩
    case round =>
      obtain ⟨k, hk, rfl⟩ := hrel
      by_cases hlt : k < s
      · obtain ⟨q, rfl, hc⟩ := HR.out k (by rw [HT.out]; exact hlt)
        by_cases ka : (k : Int) = a
        · have ka' : ((k : Int) != a) = false := by rw [ka]; exact bne_self_eq_false _
          clear ka
          go_wp2
          go_round
          case rel => exact ⟨k + 1, by omega, by go_num⟩
          case measure => simp [intOf]; omega
        · by_cases kb : (k : Int) = b
          · have ka' : ((k : Int) != a) = true := by rw [bne_iff_ne]; exact ka
            have kb' : ((k : Int) != b) = false := by rw [kb]; exact bne_self_eq_false _
            clear ka kb
            go_wp2
            go_round
            case rel => exact ⟨k + 1, by omega, by go_num⟩
            case measure => simp [intOf]; omega
          · have ka' : ((k : Int) != a) = true := by rw [bne_iff_ne]; exact ka
            have kb' : ((k : Int) != b) = true := by rw [bne_iff_ne]; exact kb
            have kk := PK.out k hlt ka kb
            clear ka kb
            go_wp2
            go_round
            case rel => exact ⟨k + 1, by omega, by go_num⟩
            case measure => simp [intOf]; omega
      · go_wp2_with fail
        refine (words_c M4.out).mono ?_
        rintro e w5 ⟨A5, c5, rfl, ho, b5⟩
        have K5 := Aside.mk (K4.out.trans (b5.mono K4.out.size))
        clear ho b5
        rw [HT.out]
        go_wp2_with fail
        refine (awake_c _).mono ?_
        rintro e w6 ⟨rfl, b6⟩
        have K6 := Aside.mk (K5.out.trans (b6.mono K5.out.size))
        clear b6
        go_wp2
        go_ret
        exact ⟨rfl, K6.out⟩

theorem last_row (n a b v x : Int) (w : World) (wn : (Lit.int .u16 n).wf = true) (_ : (Lit.int .i64 a).wf = true) (_ : (Lit.int .i64 b).wf = true) (wv : (Lit.int .i32 v).wf = true) (wx : (Lit.int .i32 x).wf = true) :
    Calls Try.prog 4 #[.int .u16 n, .int .i64 a, .int .i64 b, .int .i32 v, .int .i32 x] w fun e w' => e = .returned (.bool true) ∧ Below w.heap.size w w' :=
  last_c n a b v x w (wf_u16 wn).1 (wf_u16 wn).2 (wf_i32 wv).1 (wf_i32 wv).2 (wf_i32 wx).1 (wf_i32 wx).2

end Go.Proofs.Ytbjpomdenppaiaa.Hand
