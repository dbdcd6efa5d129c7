/- What is used is a beginning of all cells, that ends with none that is 0; all behind it are 0: for every memory of at most 300 cells and every list of acts (the law does the first 60). -/
import Derived.Test.YtbjpomdenppaiaaArgs
import Derived.LoopTactic
import Derived.StillTailTactics
namespace Go.Proofs.Ytbjpomdenppaiaa.Hand
open Go.RowKit

theorem upto_behind (l : List Int) : ∀ n j, upto l n ≤ j → j < n → rdl l j = 0
  | 0, _, _, h => absurd h (by omega)
  | n + 1, j, h0, h1 => by
    unfold upto at h0
    split at h0
    · by_cases e : j = n
      · subst e; assumption
      · exact upto_behind l n j h0 (by omega)
    · omega
theorem upto_last (l : List Int) : ∀ n j, upto l n = j + 1 → rdl l j ≠ 0
  | 0, _, h => by simp [upto] at h
  | n + 1, j, h => by
    unfold upto at h
    split at h
    · exact upto_last l n j h
    · obtain rfl : n = j := by omega
      assumption
theorem rdl_used (l : List Int) (j : Nat) (h : j < upto l l.length) : rdl (used l) j = rdl l j := by
  unfold rdl used
  rw [List.getD_eq_getElem?_getD, List.getD_eq_getElem?_getD, List.getElem?_take_of_lt h]

set_option maxHeartbeats 40000000 in
set_option maxRecDepth 100000 in
theorem usedlaw_c (n : Int) (a : Option Addr) (len cap : Nat) (z : List (Int × Int)) (w : World) (wn : (Lit.int .u16 n).wf = true) (hz : IsActs w a len cap z) :
    Calls Try.prog 6 #[.int .u16 n, .slice a len cap] w fun e w' => e = .returned (.bool true) ∧ Below w.heap.size w w' := by
  obtain ⟨n0, n1⟩ := wf_u16 wn
  obtain ⟨hlen, hcap, hmax, hcell⟩ := hz
  unfold maxLen at hmax
  have HC := Aside.mk hcell
  clear hlen hcell wn
  obtain ⟨s, hs, s1⟩ : ∃ s : Nat, (n % 301) = (s : Int) ∧ s ≤ 300 := ⟨(n % 301).toNat, by omega, by omega⟩
  have HS := Aside.mk hs
  have E1 : Aside ((n % 301).toNat = s) := ⟨by omega⟩
  clear hs
  go_enter Try.func6, Try.ntmps6
  go_wp2_with fail
  refine (new_i _ _ (by omega) (by omega)).mono ?_
  rintro e w1 ⟨g, h, rfl, m1, hg, hh, k1⟩
  rw [E1.out] at m1
  have M1 := Aside.mk m1
  have K1 := Aside.mk k1.none_below
  clear m1 k1
  go_wp2_with fail
  go_loopw [6] (fun i wr => ∃ (k : Nat) (L : List Int), k ≤ len ∧ k ≤ 60 ∧ i = .int .i64 k ∧ Aside (L.length = s) ∧ Aside (Mem wr g h L) ∧ Aside (Below w.heap.size w wr)) (fun i _ => 60 - (intOf i).toNat)
  case atStart => exact ⟨0, _, Nat.zero_le _, Nat.zero_le _, rfl, ⟨by simp⟩, M1, K1⟩
  case round =>
    obtain ⟨k, L, hk, hk2, rfl, HL, M, K⟩ := hrel
    by_cases hlt : k < len ∧ k < 60
    · obtain ⟨hlt, hlt2⟩ := hlt
      obtain ⟨b, o, rfl, hb, c0, c1, _, _⟩ := HC.out k hlt
      have c0' := (K.out.cell (p := ⟨b, o + k * 2, none⟩) hb).trans c0
      have c1' := (K.out.cell (p := ⟨b, o + k * 2 + 1, none⟩) hb).trans c1
      clear c0 c1
      go_wp2_with fail
      go_still_tail 11, (by kernel_rfl)
      have M' : Aside (Mem wr.drew g h L) := ⟨M.out.drewN 1⟩
      have K' : Aside (Below w.heap.size w wr.drew) := ⟨K.out.drew⟩
      clear M K c0' c1'
      change wpList _ _ _ _ _ wr.drew
      generalize wr.drew = wd at M' K' ⊢
      go_wp2_with fail
      refine (store_c M'.out _ _).mono ?_
      rintro e w2 ⟨rfl, m2, k2⟩
      have M2 := Aside.mk m2
      have K2 := Aside.mk (K'.out.trans (k2.below K'.out.size (fun _ e => by subst e; exact hh)))
      clear m2 k2
      go_wp2
      go_roundw
      case rel => exact ⟨k + 1, _, by omega, by omega, by go_num, ⟨by rw [sto_length]; exact HL.out⟩, M2, K2⟩
      case measure => simp [intOf]; omega
    · by_cases hkl : k < len
      all_goals
        have hd : decide (k < 60) = false ∨ ¬ k < len := by
          by_cases h : k < len
          · exact .inl (by simp; omega)
          · exact .inr h
        first
          | (have hd60 : (60 : Int) ≤ (k : Int) := by omega)
          | skip
        clear hd hlt
        go_wp2_with fail
        refine (words_c M.out).mono ?_
        rintro e w4 ⟨A, c, rfl, ho, b4⟩
        have M4 : Aside (Mem w4 g h L) := ⟨M.out.kept (Keeps.of_below b4 (fun _ => False)) id id⟩
        have K4 := Aside.mk (K.out.trans (b4.mono K.out.size))
        have hcap4 := owned_cap ho
        have HO := Aside.mk ho
        clear ho b4
        rw [HL.out] at hcap4 ⊢
        go_wp2_with fail
        refine (used_c M4.out).mono ?_
        rintro e w5 ⟨A5, c5, rfl, ho5, b5⟩
        have K5 := Aside.mk (K4.out.trans (b5.mono K4.out.size))
        have hcap5 := owned_cap ho5
        have HR := Aside.mk (reads_of (owned_kept HO.out (Keeps.of_below b5 (fun _ => False)) (fun _ f => f.elim)))
        have HU := Aside.mk (reads_of ho5)
        clear ho5 b5 HO
        have hu : (used L).length ≤ s := by rw [used_length, ← HL.out]; exact upto_le _ _
        have G1 : Aside (∀ j, j < (used L).length → rdl (used L) j = rdl L j) := ⟨fun j hj => rdl_used L j (by rw [← used_length]; exact hj)⟩
        have G2 : Aside (∀ j, (used L).length ≤ j → j < s → rdl L j = 0) := ⟨fun j h0 h1 => upto_behind L L.length j (by rw [← used_length]; exact h0) (by rw [HL.out]; exact h1)⟩
        have G3 : Aside (∀ j, (used L).length = j + 1 → (rdl (used L) j == 0) = false) := ⟨fun j hj => by
          rw [rdl_used L j (by rw [← used_length]; omega), beq_eq_false_iff_ne]
          exact upto_last L L.length j (by rw [← used_length]; exact hj)⟩
        have hn : ((s : Int) != n % 301) = false := bne_eq_false_iff_eq.2 HS.out.symm
        generalize used L = V at *
        have HV : ∃ u, V.length = u := ⟨_, rfl⟩
        obtain ⟨u, hu'⟩ := HV
        have HV := Aside.mk hu'
        rw [HV.out] at hu hcap5 ⊢
        clear hu'
        have hlast : u = 0 ∨ ∃ j q, u = j + 1 ∧ A5 = some ⟨q, 0, none⟩ ∧ w5.cell? ⟨q, j, none⟩ = some (.int .i64 (rdl V j)) ∧ (rdl V j == 0) = false := by
          by_cases h0 : u = 0
          · exact .inl h0
          · obtain ⟨q, e1, e2⟩ := HU.out (u - 1) (by rw [HV.out]; omega)
            exact .inr ⟨u - 1, q, by omega, e1, e2, G3.out (u - 1) (by rw [HV.out]; omega)⟩
        rcases hlast with rfl | ⟨j1, q1, rfl, rfl, hc1, hz1⟩
        all_goals
          go_wp2_with fail
          go_loop [70] (fun i => ∃ j : Nat, j ≤ s ∧ i = .int .i64 j) (fun i => s - (intOf i).toNat)
          case atStart => exact ⟨0, Nat.zero_le _, rfl⟩
          case round =>
            obtain ⟨j, hj, rfl⟩ := hrel
            by_cases hjt : j < s
            · obtain ⟨q, rfl, hq⟩ := HR.out j (by rw [HL.out]; exact hjt)
              by_cases hju : j < V.length
              · obtain ⟨q5, e5, hq5⟩ := HU.out j hju
                have hjv := G1.out j hju
                rw [hjv] at hq5
                clear hjv
                rw [HV.out] at hju
                first
                  | (exfalso; omega)
                  | (cases e5
                     go_wp2
                     go_round
                     case rel => exact ⟨j + 1, by omega, by go_num⟩
                     case measure => simp [intOf]; omega)
              · have hjz : (rdl L j != 0) = false := bne_eq_false_iff_eq.2 (G2.out j (by omega) hjt)
                rw [HV.out] at hju
                go_wp2
                go_round
                case rel => exact ⟨j + 1, by omega, by go_num⟩
                case measure => simp [intOf]; omega
            · go_wp2_with fail
              refine (awake_c _).mono ?_
              rintro e w6 ⟨rfl, b6⟩
              have K6 := Aside.mk (K5.out.trans (b6.mono K5.out.size))
              clear b6
              go_wp2
              go_ret
              exact ⟨rfl, K6.out⟩

theorem usedlaw_row (n : Int) (a : Option Addr) (len cap : Nat) (z : List (Int × Int)) (w : World) (wn : (Lit.int .u16 n).wf = true) (hz : IsActs w a len cap z) :
    Calls Try.prog 6 #[.int .u16 n, .slice a len cap] w fun e w' => e = .returned (.bool true) ∧ Below w.heap.size w w' := usedlaw_c n a len cap z w wn hz

end Go.Proofs.Ytbjpomdenppaiaa.Hand
