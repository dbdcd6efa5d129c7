/- Words that are stored one behind the other are told so: for every list of int32 numbers (the law stops at lists of more than 100), no further condition. -/
import Derived.Test.YtbjpomdenppaiaaArgs
import Derived.LoopTactic
namespace Go.Proofs.Ytbjpomdenppaiaa.Hand
open Go.RowKit

/-- The first k numbers, then noughts. -/
def filled (z : List Int) (k : Nat) : List Int := z.take k ++ List.replicate (z.length - k) 0
theorem filled_length (z : List Int) (k : Nat) (h : k ≤ z.length) : (filled z k).length = z.length := by simp [filled]; omega
theorem filled_zero (z : List Int) : filled z 0 = List.replicate z.length 0 := by simp [filled]
theorem filled_all (z : List Int) : filled z z.length = z := by simp [filled]
theorem filled_sto (z : List Int) (k : Nat) (h : k < z.length) (hw : wrap32 (rdl z k) = rdl z k) : sto (filled z k) k (rdl z k) = filled z (k + 1) := by
  rw [sto_yes (by omega) (by rw [filled_length z k (by omega)]; omega), hw, Int.toNat_natCast]
  have e : z.length - k = (z.length - (k + 1)) + 1 := by omega
  have hk : (z.take k).length = k := by simp; omega
  unfold filled
  rw [e, List.replicate_succ, List.set_append_right _ _ (by omega), hk, Nat.sub_self, List.set_cons_zero, List.take_succ_eq_append_getElem h, List.append_assoc]
  have hr : rdl z k = z[k] := by simp [rdl, List.getD_eq_getElem?_getD, h]
  rw [hr]; rfl

set_option maxHeartbeats 4000000 in
set_option maxRecDepth 100000 in
theorem many_c (a : Option Addr) (n c : Nat) (z : List Int) (w : World) (hz : IsRow .i32 w a n c z) :
    Calls Try.prog 8 #[.slice a n c] w fun e w' => e = .returned (.bool true) ∧ Below w.heap.size w w' := by
  obtain ⟨hlen, hcap, hmax, hcell, hwf⟩ := hz
  unfold maxLen at hmax
  have HL := Aside.mk hlen
  have HC := Aside.mk hcell
  have HW : Aside (∀ k, k < n → wrap32 (rdl z k) = rdl z k ∧ -2147483648 ≤ rdl z k ∧ rdl z k ≤ 2147483647) := ⟨fun k hk => by
    have hm : rdl z k ∈ z := by
      unfold rdl
      rw [List.getD_eq_getElem?_getD, List.getElem?_eq_getElem (by omega)]
      exact List.getElem_mem _
    obtain ⟨g0, g1⟩ := wf_i32 (hwf _ hm)
    exact ⟨w32_id g0 g1, g0, g1⟩⟩
  clear hlen hcell hwf
  by_cases h100 : 100 < n
  · go_enter Try.func8, Try.ntmps8
    go_wp2_with fail
    refine (awake_c _).mono ?_
    rintro e w4 ⟨rfl, b4⟩
    have K4 := Aside.mk b4
    clear b4
    go_wp2
    go_ret
    exact ⟨rfl, K4.out⟩
  · have h100' : n ≤ 100 := by omega
    clear h100
    go_enter Try.func8, Try.ntmps8
    go_wp2_with fail
    refine (new_i _ _ (by omega) (by omega)).mono ?_
    rintro e w1 ⟨g, h, rfl, m1, hg, hh, k1⟩
    rw [Int.toNat_natCast] at m1
    have M1 : Aside (Mem w1 g h (filled z 0)) := ⟨by rw [filled_zero, HL.out]; exact m1⟩
    have K1 := Aside.mk k1.none_below
    clear m1 k1
    go_wp2_with fail
    go_loopw [18] (fun i wr => ∃ k : Nat, k ≤ n ∧ i = .int .i64 k ∧ Aside (Mem wr g h (filled z k)) ∧ Aside (Below w.heap.size w wr)) (fun i _ => n - (intOf i).toNat)
    case atStart => exact ⟨0, Nat.zero_le _, rfl, M1, K1⟩
    case round =>
      obtain ⟨k, hk, rfl, M, K⟩ := hrel
      by_cases hlt : k < n
      · obtain ⟨b, o, rfl, hb, hc⟩ := HC.out k hlt
        have hc' := (K.out.cell (p := ⟨b, o + k, none⟩) hb).trans hc
        obtain ⟨hw, g0, g1⟩ := HW.out k hlt
        have hi : inr (filled z k) (k : Int) = true := inr_yes (by omega) (by rw [filled_length z k (by rw [HL.out]; exact hk), HL.out]; omega)
        have hs := filled_sto z k (by rw [HL.out]; exact hlt) hw
        have HI := Aside.mk hi
        have HS := Aside.mk hs
        clear hi hs hw hc
        go_wp2_with fail
        refine (store_c M.out _ _).mono ?_
        rintro e w2 ⟨rfl, m2, k2⟩
        rw [HS.out] at m2
        have M2 := Aside.mk m2
        have K2 := Aside.mk (K.out.trans (k2.below K.out.size (fun _ e => by subst e; exact hh)))
        clear m2 k2
        rw [HI.out]
        go_wp2
        go_roundw
        case rel => exact ⟨k + 1, by omega, by go_num, M2, K2⟩
        case measure => simp [intOf]; omega
      · obtain rfl : k = n := by omega
        clear hlt hk
        have Mz : Aside (Mem wr g h z) := ⟨by have := M.out; rw [← HL.out, filled_all] at this; exact this⟩
        clear M
        go_wp2_with fail
        refine (words_c Mz.out).mono ?_
        rintro e w2 ⟨A, c2, rfl, ho, b2⟩
        have M2 : Aside (Mem w2 g h z) := ⟨Mz.out.kept (Keeps.of_below b2 (fun _ => False)) id id⟩
        have K2 := Aside.mk (K.out.trans (b2.mono K.out.size))
        have hq : h < wr.heap.size := Mz.out.lt.2
        have hcap2 := owned_cap ho
        have HO := Aside.mk ho
        clear ho b2
        rw [HL.out] at hcap2 ⊢
        have HI : Aside (inr z (k : Int) = false) := ⟨inr_no (by rw [HL.out]; omega)⟩
        go_wp2_with fail
        refine (store_c M2.out _ _).mono ?_
        rintro e w3 ⟨rfl, m3, k3⟩
        have K3 := Aside.mk (K2.out.trans (k3.below K2.out.size (fun _ e => by subst e; exact hh)))
        have HR := Aside.mk (reads_of (owned_kept HO.out k3 (fun q e => by subst e; exact hq)))
        clear m3 k3 HO hq
        rw [HI.out]
        go_wp2_with fail
        go_loop [45] (fun i => ∃ j : Nat, j ≤ k ∧ i = .int .i64 j) (fun i => k - (intOf i).toNat)
        case atStart => exact ⟨0, Nat.zero_le _, rfl⟩
        case round =>
          obtain ⟨j, hj, rfl⟩ := hrel
          by_cases hjt : j < k
          · obtain ⟨b, o, rfl, hb, hc⟩ := HC.out j hjt
            have hc' := (K3.out.cell (p := ⟨b, o + j, none⟩) hb).trans hc
            obtain ⟨hw, g0, g1⟩ := HW.out j hjt
            obtain ⟨q, rfl, hq⟩ := HR.out j (by rw [HL.out]; exact hjt)
            clear hw hc
            go_wp2
            go_round
            case rel => exact ⟨j + 1, by omega, by go_num⟩
            case measure => simp [intOf]; omega
          · go_wp2_with fail
            refine (awake_c _).mono ?_
            rintro e w4 ⟨rfl, b4⟩
            have K4 := Aside.mk (K3.out.trans (b4.mono K3.out.size))
            clear b4
            go_wp2
            go_ret
            exact ⟨rfl, K4.out⟩

end Go.Proofs.Ytbjpomdenppaiaa.Hand
