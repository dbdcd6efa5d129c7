/- Whatever is stored in a memory: what is told, and what is there, is what the reference says: for every size, every list of acts (the law does the first 60) and every place. -/
import Derived.Test.YtbjpomdenppaiaaRef
import Derived.Test.YtbjpomdenppaiaaUsed
import Derived.Deep.RegionHeld3
import Derived.Deep.LoopGhost
import Derived.Deep.CutRange
import Derived.Deep.RegionWith
namespace Go.Proofs.Ytbjpomdenppaiaa.Hand
open Go.RowKit

theorem made_owned (w : World) (s : Nat) (hs : s ≤ 32000) : (w.alloc (.cells (madeCells #[Value.int .i64 0] s) 3)).ownsRow w.heap.size 3 1 (.slice (some ⟨w.heap.size, 0, none⟩) s s) s (nums (List.replicate s 0)) := by
  refine ⟨by simp [nums], .inr ⟨_, s, _, rfl, Nat.le_refl _, heap_alloc_new w _, Nat.le_refl _, by unfold maxLen; omega, by simp [madeCells], ?_⟩⟩
  rw [made_zeros, List.take_of_length_le (by simp [nums])]

theorem Keeps.cell {S : Nat → Prop} {w w' : World} (k : Keeps S w w') {a : Addr} {v : Value} (h : w.cell? a = some v) (hs : ¬ S a.block) : w'.cell? a = some v :=
  (World.cell?_of_block (k.block a.block (World.block_lt_of_cell? w a h) hs)).trans h
theorem Keeps.undrew {S : Nat → Prop} {w w' : World} (k : Keeps S w.drew w') : Keeps S w w' := ⟨k.os, k.tape, k.output, k.size, k.block⟩
theorem owned_le {w : World} {b b' n : Nat} {v : Value} {xs : List Value} (h : w.ownsRow b 3 1 v n xs) (hb : b' ≤ b) : w.ownsRow b' 3 1 v n xs := by
  refine ⟨h.1, ?_⟩
  rcases h.2 with hn | ⟨q, cap, cur, hv, hb', r⟩
  · exact .inl hn
  · exact .inr ⟨q, cap, cur, hv, Nat.le_trans hb hb', r⟩
theorem stored_s (A : Option Addr) (s c : Nat) (l : List Int) (a v : Int) (w : World) (b : Nat) (hl : l.length = s) (ho : w.ownsRow b 3 1 (.slice A s c) s (nums l)) (hm : s ≤ 32000) :
    Calls Try.prog 12 #[.slice A s c, .int .i64 a, .int .i64 v] w (Told w (sto l a v)) := by
  subst hl
  exact stored_c A c l a v w (fun q e => by subst e; exact (ho.lt q.block rfl).2) (reads_of ho) hm
theorem refused_s (A : Option Addr) (s c : Nat) (l : List Int) (w : World) (hl : l.length = s) (hr : Reads w A l) (hc : s ≤ c) (hm : s ≤ 32000) :
    Calls Try.prog 18 #[.slice A s c] w fun e w' => e = .returned (.slice A (upto l s) c) ∧ w = w' := by
  subst hl
  exact refused_c A c l w hr hc hm
theorem same_s (A B : Option Addr) (s t c d : Nat) (l : List Int) (w : World) (hs : l.length = s) (ht : l.length = t) (ha : Reads w A l) (hb : Reads w B l) (hm : s ≤ 32000) :
    Calls Try.prog 15 #[.slice A s c, .slice B t d] w fun e w' => e = .returned (.bool true) ∧ ∃ n, w' = w.drewN n := by
  subst hs ht
  exact same_c A B c d l w ha hb hm
theorem Reads.used {w : World} {A : Option Addr} {l : List Int} (h : Reads w A l) : Reads w A (used l) := fun i hi => by
  rw [used_length] at hi
  rw [rdl_used l i hi]
  exact h i (Nat.lt_of_lt_of_le hi (upto_le _ _))
theorem Reads.drewN {w : World} {A : Option Addr} {l : List Int} (h : Reads w A l) (n : Nat) : Reads (w.drewN n) A l := h

theorem two_cells (w : World) (x y : Value) (t : TypeId) : (w.alloc (.cells #[x, y] t)).cell? ⟨w.heap.size, 0, none⟩ = some x ∧ (w.alloc (.cells #[x, y] t)).cell? ⟨w.heap.size, 1, none⟩ = some y := by
  have := heap_alloc_new w (.cells #[x, y] t)
  exact ⟨by rw [cell_of_row _ _ 0 _ _ _ this]; rfl, by rw [cell_of_row _ _ 1 _ _ _ this]; rfl⟩

set_option maxHeartbeats 40000000 in
set_option maxRecDepth 100000 in
theorem plays_in (s : Nat) (a : Option Addr) (len cap : Nat) (z : List (Int × Int)) (at_ : Int) (w : World) (hs : s ≤ 40) (hz : IsActs w a len cap z) :
    Calls Try.prog 3 #[.int .i64 s, .slice a len cap, .int .i64 at_] w fun e w' => e = .returned (.bool true) ∧ Below w.heap.size w w' := by
  obtain ⟨hlen, hcap, hmax, hcell⟩ := hz
  unfold maxLen at hmax
  have HC := Aside.mk hcell
  clear hlen hcell
  obtain ⟨i0, hi, hz0, hz1, hz2⟩ := info_parts Tinfo3
  have hmk : ∀ w : World, (Instr.makeSlice 26 (.int .i64 (s : Int)) (.int .i64 (s : Int))).run Try.prog w = .ok (.slice (some ⟨w.heap.size, 0, none⟩) s s) (w.alloc (.cells (madeCells #[Value.int .i64 0] s) 3)) := fun w => by
    have := run_make (P := Try.prog) w 26 3 i0 (.int .i64 0) Try.underlying26 hi hz0 .i64 .i64 s s (by omega) (by omega) (by rw [hz2]; omega) (by omega)
    simpa [hz1, Value.cells] using this
  clear hi hz0 hz1 hz2
  go_enter Try.func3, Try.ntmps3
  go_wp2_with fail
  refine (new_c s _ (by omega)).mono ?_
  rintro e w1 ⟨g, h, rfl, m1, hg, hh, k1⟩
  have MO := Aside.mk (made_owned w1 s (by omega))
  have M1 : Aside (Mem (w1.alloc (.cells (madeCells #[Value.int .i64 0] s) 3)) g h (List.replicate s 0)) := ⟨m1.kept ((Keeps.refl (fun _ => False) _).alloc _) id id⟩
  have K1 : Aside (Below w.heap.size w (w1.alloc (.cells (madeCells #[Value.int .i64 0] s) 3))) := ⟨k1.none_below.alloc k1.size _⟩
  have hlt := m1.lt
  have hgl := hlt.1
  have hhl := hlt.2
  have Hsz := Aside.mk k1.size
  clear m1 k1 hlt
  go_wp2_with fail
  go_loopg [8, 9] 60 (fun gk o i wr => ∃ (k : Nat) (L : List Int) (A : Option Addr) (c : Nat), gk = 60 - k ∧ k ≤ len ∧ k ≤ 60 ∧ i = .int .i64 k ∧ o = .slice A s c ∧ Aside (L.length = s) ∧ Aside (Mem wr g h L) ∧ Aside (wr.ownsRow w1.heap.size 3 1 (.slice A s c) s (nums L)) ∧ Aside (Below w.heap.size w wr) ∧ w1.heap.size ≤ wr.heap.size)
  case atStart => exact ⟨0, _, _, _, rfl, Nat.zero_le _, Nat.zero_le _, rfl, rfl, ⟨by simp⟩, M1, MO, K1, by simp⟩
  case round =>
    obtain ⟨k, L, A, c, rfl, hk, hk2, rfl, rfl, HL, M, HO, K, hsz⟩ := hrel
    by_cases hlt : k < len ∧ k < 60
    · obtain ⟨hlt, hlt2⟩ := hlt
      obtain ⟨b, o, rfl, hb, c0, c1, _, _⟩ := HC.out k hlt
      have c0' := (K.out.cell (p := ⟨b, o + k * 2, none⟩) hb).trans c0
      have c1' := (K.out.cell (p := ⟨b, o + k * 2 + 1, none⟩) hb).trans c1
      clear c0 c1
      go_upto_region 13 with (fail)
      obtain ⟨d0, d1⟩ := two_cells wr (.int .i64 (actAt z k)) (.int .i64 (actV z k)) 28
      have MA : Aside (Mem (wr.alloc (.cells #[.int .i64 (actAt z k), .int .i64 (actV z k)] 28)) g h L) := ⟨M.out.kept ((Keeps.refl (fun _ => False) _).alloc _) id id⟩
      have HOA : Aside ((wr.alloc (.cells #[.int .i64 (actAt z k), .int .i64 (actV z k)] 28)).ownsRow w1.heap.size 3 1 (.slice A s c) s (nums L)) := ⟨HO.out.alloc _⟩
      have KA : Aside (Below w.heap.size w (wr.alloc (.cells #[.int .i64 (actAt z k), .int .i64 (actV z k)] 28))) := ⟨K.out.alloc K.out.size _⟩
      have hszA : w1.heap.size ≤ (wr.alloc (.cells #[.int .i64 (actAt z k), .int .i64 (actV z k)] 28)).heap.size := by simp; omega
      have hBh : wr.heap.size ≠ h := by omega
      clear M HO K hsz c0' c1'
      generalize wr.alloc (.cells #[.int .i64 (actAt z k), .int .i64 (actV z k)] 28) = WA at *
      generalize wr.heap.size = B at *
      generalize actAt z k = p at *
      generalize actV z k = v at *
      go_cut [68] from 39 to 74 (fun t68 wx => t68 = .bool false ∧ Aside (Mem wx g h (sto L p v)) ∧ Aside (wx.ownsRow w1.heap.size 3 1 (.slice A s c) s (nums L)) ∧ Aside (Below w.heap.size w wx) ∧ w1.heap.size ≤ wx.heap.size ∧ wx.cell? ⟨B, 0, none⟩ = some (.int .i64 p) ∧ wx.cell? ⟨B, 1, none⟩ = some (.int .i64 v))
      case first =>
        have hend : ∀ w2, Mem w2 g h (sto L p v) → Keeps (fun x => x = h) WA w2 → Aside (Mem w2 g h (sto L p v)) ∧ Aside (w2.ownsRow w1.heap.size 3 1 (.slice A s c) s (nums L)) ∧ Aside (Below w.heap.size w w2) ∧ w1.heap.size ≤ w2.heap.size ∧ w2.cell? ⟨B, 0, none⟩ = some (.int .i64 p) ∧ w2.cell? ⟨B, 1, none⟩ = some (.int .i64 v) := fun w2 m2 k2 =>
          ⟨⟨m2⟩, ⟨owned_kept HOA.out k2 (fun q e => by subst e; exact hhl)⟩, ⟨KA.out.trans (k2.below KA.out.size (fun _ e => by subst e; exact hh))⟩, Nat.le_trans hszA k2.size, k2.cell d0 hBh, k2.cell d1 hBh⟩
        have HE := Aside.mk hend
        clear hend
        rcases inr_ways s p with ⟨hp, hi⟩ | ⟨⟨hp, hp'⟩, hi⟩ | ⟨⟨hp, hp'⟩, hi⟩
        · have IA := Aside.mk (hi L HL.out)
          clear hi
          have da0 : decide (0 ≤ p) = false := by simp; omega
          first | go_region_with (go_at_call 11; refine (store_c (by first | exact MA.out.drewN 1 | exact MA.out.drewN _) _ _).mono ?_; rintro e w2 ⟨rfl, m2, k2'⟩; have k2 := Aside.mk k2'; have M2 := Aside.mk m2; have d20 := k2'.cell d0 hBh; have d21 := k2'.cell d1 hBh; clear m2 k2'; rw [IA.out]) | fail
          all_goals
            go_wp2_with fail
            go_meet
            exact ⟨rfl, HE.out _ M2.out k2.out.undrew⟩
        all_goals
          have IA := Aside.mk (hi L HL.out)
          clear hi
          have da0 : decide (0 ≤ p) = true := by simp; omega
          try (have da1 : decide (p < (s : Int)) = true := by simp; omega)
          try (have da1 : decide (p < (s : Int)) = false := by simp; omega)
          go_region_held3 (fun w' => w'.cell? ⟨B, 0, none⟩ = some (.int .i64 p) ∧ w'.cell? ⟨B, 1, none⟩ = some (.int .i64 v))
            (first | go_keep | exact ⟨k2.out.cell d0 hBh, k2.out.cell d1 hBh⟩)
            ((go_at_call 11; refine (store_c (by first | exact MA.out.drewN 1 | exact MA.out.drewN _) _ _).mono ?_; rintro e w2 ⟨rfl, m2, k2'⟩; have k2 := Aside.mk k2'; have M2 := Aside.mk m2; clear m2 k2'; rw [IA.out]))
          go_wp2_with fail
          go_meet
          exact ⟨rfl, HE.out _ M2.out k2.out.undrew⟩
      case rest =>
        clear d0 d1 MA HOA KA hszA
        obtain ⟨rfl, M2, O2, K2, hsz2, e0, e1⟩ := hcut
        go_wp2_with fail
        refine (stored_s A s c L p v _ _ HL.out O2.out (by omega)).mono ?_
        rintro e w3 ⟨A3, c3, rfl, ho3, b3⟩
        rw [sto_length, HL.out] at ho3 ⊢
        have M3 : Aside (Mem w3 g h (sto L p v)) := ⟨M2.out.kept (Keeps.of_below b3 (fun _ => False)) id id⟩
        have O3 := Aside.mk (owned_le ho3 hsz2)
        have K3 := Aside.mk (K2.out.trans (b3.mono K2.out.size))
        have hsz3 := Nat.le_trans hsz2 b3.size
        clear ho3 b3 e0 e1
        go_wp2_with fail
        go_roundg (60 - (k + 1))
        case measure => omega
        case rel => exact ⟨k + 1, sto L p v, A3, c3, rfl, by omega, by omega, by go_num, rfl, ⟨by rw [sto_length]; exact HL.out⟩, M3, O3, K3, hsz3⟩
    · by_cases hkl : k < len
      all_goals
        first
          | (have hd60 : (60 : Int) ≤ (k : Int) := by omega)
          | skip
        clear hlt
        have hcap2 := owned_cap HO.out
        have HR := Aside.mk (reads_of (l := L) (by have := HO.out; rw [HL.out]; exact this))
        go_wp2_with fail
        refine (load_c M.out _).mono ?_
        rintro e w' ⟨rfl, rfl⟩
        rcases inr_ways s at_ with ⟨hp, hi⟩ | ⟨⟨hp, hp'⟩, hi⟩ | ⟨⟨hp, hp'⟩, hi⟩
        all_goals
          have IA := Aside.mk (hi L HL.out)
          clear hi
          rw [IA.out]
          try (have da0 : decide (0 ≤ at_) = false := by simp; omega)
          try (have da0 : decide (0 ≤ at_) = true := by simp; omega)
          try (have da1 : decide (at_ < (s : Int)) = true := by simp; omega)
          try (have da1 : decide (at_ < (s : Int)) = false := by simp; omega)
          first
            | (have hin : at_.toNat < L.length := by rw [HL.out]; omega
               obtain ⟨q, rfl, hcq⟩ := HR.out at_.toNat hin
               clear hin)
            | skip
          first
            | (have hat : (atl L at_ == rdl L at_.toNat) = true := by rw [atl_yes hp (by rw [HL.out]; exact hp')]; exact beq_self_eq_true _)
            | (have hat : (atl L at_ == 0) = true := by rw [atl_no (by rw [HL.out]; omega)]; rfl)
          go_wp2_with fail
          refine (len_c M.out).mono ?_
          rintro e w' ⟨rfl, rfl⟩
          rw [HL.out]
          go_wp2_with fail
          refine (words_c M.out).mono ?_
          rintro e w4 ⟨A4, c4, rfl, ho4, b4⟩
          rw [HL.out]
          have M4 : Aside (Mem w4 g h L) := ⟨M.out.kept (Keeps.of_below b4 (fun _ => False)) id id⟩
          have K4 := Aside.mk (K.out.trans (b4.mono K.out.size))
          have HR4 := Aside.mk (reads_of ho4)
          have HO4 := Aside.mk (owned_kept HO.out (Keeps.of_below b4 (fun _ => False)) (fun _ f => f.elim))
          clear ho4 b4
          go_wp2_with fail
          refine (same_s _ _ s s _ _ L _ HL.out HL.out HR4.out (reads_of (l := L) (by have := HO4.out; rw [HL.out]; exact this)) (by omega)).mono ?_
          rintro e w' ⟨rfl, nd, rfl⟩
          have M5 : Aside (Mem (w4.drewN nd) g h L) := ⟨M4.out.drewN nd⟩
          have K5 : Aside (Below w.heap.size w (w4.drewN nd)) := ⟨K4.out.trans ⟨rfl, rfl, rfl, Nat.le_refl _, fun _ _ => rfl⟩⟩
          have HO5 := Aside.mk (owned_kept HO4.out ((Keeps.refl (fun _ => False) _).drewN nd) (fun _ f => f.elim))
          go_wp2_with fail
          refine (used_c M5.out).mono ?_
          rintro e w6 ⟨A6, c6, rfl, ho6, b6⟩
          have K6 := Aside.mk (K5.out.trans (b6.mono K5.out.size))
          have HR6 := Aside.mk (reads_of ho6)
          have HO6 := Aside.mk (owned_kept HO5.out (Keeps.of_below b6 (fun _ => False)) (fun _ f => f.elim))
          clear ho6 b6
          go_wp2_with fail
          refine (refused_s _ s _ L _ HL.out (reads_of (l := L) (by have := HO6.out; rw [HL.out]; exact this)) hcap2 (by omega)).mono ?_
          rintro e w' ⟨rfl, rfl⟩
          have hul : (used L).length = upto L s := by rw [used_length, HL.out]
          have hu2 : upto L s ≤ s := upto_le _ _
          rw [hul]
          have HUL := Aside.mk hul
          clear hul
          go_wp2_with fail
          refine (same_s _ _ _ _ _ _ (used L) _ HUL.out HUL.out HR6.out (reads_of (l := L) (by have := HO6.out; rw [HL.out]; exact this)).used (by omega)).mono ?_
          rintro e w' ⟨rfl, nd2, rfl⟩
          have K7 : Aside (Below w.heap.size w (w6.drewN nd2)) := ⟨K6.out.trans ⟨rfl, rfl, rfl, Nat.le_refl _, fun _ _ => rfl⟩⟩
          go_wp2_with fail
          refine (awake_c _).mono ?_
          rintro e w8 ⟨rfl, b8⟩
          have K8 := Aside.mk (K7.out.trans (b8.mono K7.out.size))
          clear b8
          go_wp2
          go_ret
          exact ⟨rfl, K8.out⟩

set_option maxHeartbeats 4000000 in
theorem plays_row (n : Int) (a : Option Addr) (len cap : Nat) (z : List (Int × Int)) (at_ : Int) (w : World) (_ : (Lit.int .i64 n).wf = true) (hz : IsActs w a len cap z) (_ : (Lit.int .i64 at_).wf = true) :
    Calls Try.prog 3 #[.int .i64 n, .slice a len cap, .int .i64 at_] w fun e w' => e = .returned (.bool true) ∧ Below w.heap.size w w' := by
  by_cases h1 : 40 < n ∧ n ≤ 32000
  · obtain ⟨g1, g2⟩ := h1
    go_enter Try.func3, Try.ntmps3
    go_wp2_with fail
    refine (awake_c _).mono ?_
    rintro e w8 ⟨rfl, b8⟩
    have K8 := Aside.mk b8
    clear b8
    go_wp2
    go_ret
    exact ⟨rfl, K8.out⟩
  · by_cases h2 : 0 ≤ n ∧ n ≤ 40
    · obtain ⟨s, rfl⟩ := Int.eq_ofNat_of_zero_le h2.1
      exact plays_in s a len cap z at_ w (by omega) hz
    · by_cases h3 : n < 0
      all_goals
        have hn : n < 0 ∨ 32000 < n := by omega
        have HN := Aside.mk hn
        first
          | (have g3 : 32000 < n := by omega)
          | skip
        clear h1 h2 hn
        go_enter Try.func3, Try.ntmps3
        go_wp2_with fail
        refine (new_no _ _ HN.out).mono ?_
        rintro e w' ⟨rfl, rfl⟩
        go_wp2_with fail
        refine (awake_c _).mono ?_
        rintro e w8 ⟨rfl, b8⟩
        have K8 := Aside.mk b8
        clear b8
        go_wp2
        go_ret
        exact ⟨rfl, K8.out⟩

end Go.Proofs.Ytbjpomdenppaiaa.Hand
