/- A list that was told of a memory does not turn when the memory does: for every memory of at most 300 cells, every place and word. -/
import Derived.Test.YtbjpomdenppaiaaPlain
namespace Go.Proofs.Ytbjpomdenppaiaa.Hand
open Go.RowKit

set_option maxHeartbeats 4000000 in
set_option maxRecDepth 100000 in
theorem own_c (n a v : Int) (w : World) (n0 : 0 ≤ n) (n1 : n ≤ 65535) (v0 : -2147483648 ≤ v) (v1 : v ≤ 2147483647) :
    Calls Try.prog 7 #[.int .u16 n, .int .i64 a, .int .i32 v] w fun e w' => e = .returned (.bool true) ∧ Below w.heap.size w w' := by
  have hsz : ∃ s : Nat, (1 + n % 300) = (s : Int) ∧ 1 ≤ s ∧ s ≤ 300 := ⟨(1 + n % 300).toNat, by omega, by omega, by omega⟩
  obtain ⟨s, hs, s0, s1⟩ := hsz
  have HS := Aside.mk hs
  have e1 : (1 + n % 300).toNat = s := by omega
  have E1 := Aside.mk e1
  clear hs e1
  have hv : wrap32 v = v := w32_id v0 v1
  have HV := Aside.mk hv
  clear hv
  go_enter Try.func7, Try.ntmps7
  go_wp2_with fail
  refine (new_i _ _ (by omega) (by omega)).mono ?_
  rintro e w1 ⟨g, h, rfl, m1, hg, hh, k1⟩
  rw [E1.out] at m1
  obtain ⟨L, hL⟩ : ∃ L : List Int, L = List.replicate s 0 := ⟨_, rfl⟩
  rw [← hL] at m1
  have hlen : L.length = s := by rw [hL]; simp
  have HL := Aside.mk hL
  have HN := Aside.mk hlen
  have M1 := Aside.mk m1
  have K1 := Aside.mk k1
  clear m1 k1 hL hlen
  go_wp2_with fail
  refine (words_c M1.out).mono ?_
  rintro e w2 ⟨A, c, rfl, ho, b2⟩
  have M2 : Aside (Mem w2 g h L) := ⟨M1.out.kept (Keeps.of_below b2 (fun _ => False)) id id⟩
  have K2 := Aside.mk (K1.out.none_below.trans (b2.mono K1.out.size))
  have hq : h < w1.heap.size := M1.out.lt.2
  have hcap := owned_cap ho
  have HO := Aside.mk ho
  clear ho b2
  go_wp2_with fail
  refine (store_c M2.out _ _).mono ?_
  rintro e w3 ⟨rfl, m3, k3⟩
  have K3 := Aside.mk (K2.out.trans (k3.below K2.out.size (fun _ e => by subst e; exact hh)))
  have HR := Aside.mk (reads_of (owned_kept HO.out k3 (fun q e => by subst e; exact hq)))
  have M3 := Aside.mk m3
  clear m3 k3 HO hq
  rw [HN.out] at hcap ⊢
  have hz : ∀ k, k < s → (rdl L k == 0) = true ∧ (rdl L k != 0) = false := fun k _ => by rw [HL.out, rdl_zeros]; exact ⟨rfl, rfl⟩
  have HZ := Aside.mk hz
  clear hz
  have hn : ((s : Int) == 1 + n % 300) = true := beq_iff_eq.2 HS.out.symm
  have hw : (0 ≤ a ∧ a < s) → (atl (sto L a v) a == v) = true := fun h => by
    rw [atl_sto _ _ _ _ h.1 (by rw [HN.out]; exact h.2), if_pos rfl, HV.out, beq_iff_eq]
  have HW := Aside.mk hw
  clear hw
  rcases inr_ways s a with ⟨ha, hi⟩ | ⟨⟨ha, ha'⟩, hi⟩ | ⟨⟨ha, ha'⟩, hi⟩
  all_goals
    have hi1 := hi L HN.out
    have hi2 := hi (sto L a v) (by rw [sto_length]; exact HN.out)
    have I1 := Aside.mk hi1
    have I2 := Aside.mk hi2
    clear hi hi1 hi2
    rw [I1.out]
    go_wp2_with fail
    go_loop [28] (fun i => ∃ k : Nat, k ≤ s ∧ i = .int .i64 k) (fun i => s - (intOf i).toNat)
    case atStart => exact ⟨0, Nat.zero_le _, rfl⟩
    case round =>
      obtain ⟨k, hk, rfl⟩ := hrel
      by_cases hlt : k < s
      · obtain ⟨q, rfl, hc⟩ := HR.out k (by rw [HN.out]; exact hlt)
        obtain ⟨z1, z2⟩ := HZ.out k hlt
        go_wp2
        go_round
        case rel => exact ⟨k + 1, by omega, by go_num⟩
        case measure => simp [intOf]; omega
      · go_wp2_with fail
        refine (load_c M3.out _).mono ?_
        rintro e w' ⟨rfl, rfl⟩
        rw [I2.out]
        try (have hW := HW.out ⟨ha, ha'⟩)
        go_wp2_with fail
        refine (awake_c _).mono ?_
        rintro e w4 ⟨rfl, b4⟩
        have K4 := Aside.mk (K3.out.trans (b4.mono K3.out.size))
        clear b4
        go_wp2
        go_ret
        exact ⟨rfl, K4.out⟩

theorem own_row (n a v : Int) (w : World) (wn : (Lit.int .u16 n).wf = true) (_ : (Lit.int .i64 a).wf = true) (wv : (Lit.int .i32 v).wf = true) :
    Calls Try.prog 7 #[.int .u16 n, .int .i64 a, .int .i32 v] w fun e w' => e = .returned (.bool true) ∧ Below w.heap.size w w' :=
  own_c n a v w (wf_u16 wn).1 (wf_u16 wn).2 (wf_i32 wv).1 (wf_i32 wv).2

end Go.Proofs.Ytbjpomdenppaiaa.Hand
