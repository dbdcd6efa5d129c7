/- The law of the least one: for every list (the law takes the first 100), no further condition. -/
import Derived.Test.YtnhjnbbdeilmbaaGath
import Derived.Test.YtnhjnbbdeilmbaaTwice
namespace Go.Proofs.Ytnhjnbbdeilmbaa.Hand
open Go.RowKit

/-- What the law's walk from behind finds. -/
def want : List Int → Option Int
  | [] => none
  | v :: l => match want l with
    | none => some v
    | some b => if lessB b v = true then some b else some v
theorem best_from (l : List Int) (b : Int) : l.foldl pick (some b) = match want l with
    | none => some b
    | some u => if lessB u b = true then some u else some b := by
  induction l generalizing b with
  | nil => rfl
  | cons v l ih =>
    show l.foldl pick (pick (some b) v) = _
    have hw : want (v :: l) = match want l with
      | none => some v
      | some b => if lessB b v = true then some b else some v := rfl
    rw [hw]
    cases h : lessB v b with
    | true =>
      have hp : pick (some b) v = some v := by simp [pick, h]
      rw [hp, ih v]
      cases want l with
      | none => simp [h]
      | some u =>
        cases h2 : lessB u v with
        | true =>
          have h3 : lessB u b = true := by simp [lessB] at *; omega
          simp [h2, h3]
        | false => simp [h2, h]
    | false =>
      have hp : pick (some b) v = some b := by simp [pick, h]
      rw [hp, ih b]
      cases want l with
      | none => simp [h]
      | some u =>
        cases h2 : lessB u v with
        | true => simp [h2]
        | false =>
          have h3 : lessB u b = false := by simp [lessB] at *; omega
          simp [h2, h3, h]
theorem want_best (l : List Int) : want l = best l := by
  cases l with
  | nil => rfl
  | cons v l =>
    show _ = l.foldl pick (some v)
    rw [best_from]
    rfl

theorem leastG {w : World} {B g : Nat} {xs cs : List Int} {v : Value} (t : Gath w B g xs v cs) (hm : xs.length ≤ 1000000) (hB : B ≤ w.heap.size) :
    Calls Try.prog 22 #[.func (.func 26) #[] #[.pointer (some ⟨w.heap.size, 0, none⟩)], .func (.func 23) #[] #[]] (w.alloc (.cells #[.pointer (some ⟨g, 0, none⟩)] 54)) fun e w' =>
      e = .returned (.tuple #[.int .i64 ((want xs).getD 0), .bool (want xs).isSome]) ∧ Gath w' B g xs v cs ∧ Below B w w' := by
  obtain ⟨sv, hc, hg, hI⟩ := t.ints
  have hal : Below w.heap.size w (w.alloc (.cells #[.pointer (some ⟨g, 0, none⟩)] 54)) := (Below.refl _ _).alloc (Nat.le_refl _) _
  have h0 : (w.alloc (.cells #[.pointer (some ⟨g, 0, none⟩)] 54)).cell? ⟨w.heap.size, 0, none⟩ = some (.pointer (some ⟨g, 0, none⟩)) := by
    rw [cell_of_row _ _ 0 _ _ _ (heap_alloc_new w _)]; rfl
  have hI' : Ints (w.alloc (.cells #[.pointer (some ⟨g, 0, none⟩)] 54)).heap.size (w.alloc (.cells #[.pointer (some ⟨g, 0, none⟩)] 54)) sv xs := by
    rcases hI.below hal with e | ⟨b, cap, e, h1, h2, h3⟩
    · exact .inl e
    · exact .inr ⟨b, cap, e, h1, by simp; omega, h3⟩
  refine (least_c g w.heap.size sv xs (w.alloc (.cells #[.pointer (some ⟨g, 0, none⟩)] 54)) hm (by simp) (by simp; omega) h0 ((hal.cell (p := ⟨g, 1, none⟩) hg).trans hc) hI').mono ?_
  rintro e w' ⟨rfl, hb⟩
  have hb2 : Below w.heap.size w w' := hal.trans (hb.mono (by simp))
  exact ⟨by rw [want_best]; rfl, t.kept (keeps_of_below hb2), hb2.mono hB⟩

set_option maxHeartbeats 16000000 in
set_option maxRecDepth 100000 in
theorem leastlaw_c (a : Option Addr) (len cap : Nat) (z : List Int) (w : World) (hz : IsRow .i64 w a len cap z) :
    Calls Try.prog 7 #[.slice a len cap] w fun e w' => e = .returned (.bool true) ∧ Below w.heap.size w w' := by
  obtain ⟨hlen, hcap, hmax, hcell, hwf⟩ := hz
  obtain ⟨i0, hi, hz0, hz1, hz2⟩ := info_parts Tinfo3
  unfold maxLen at hmax
  have HC := Aside.mk hcell
  have HW : Aside (∀ i, i < len → okI (rdl z i)) := ⟨fun i hi => by
    have hm : rdl z i ∈ z := by
      unfold rdl
      rw [List.getD_eq_getElem?_getD, List.getElem?_eq_getElem (by omega)]
      exact List.getElem_mem _
    exact hwf _ hm⟩
  have T0 := Aside.mk (gath_new w)
  have K0 : Aside (Below w.heap.size w (w.alloc (.cells #[.map none, .slice none 0 0] 34))) := ⟨(Below.refl _ _).alloc (Nat.le_refl _) _⟩
  clear hlen hcell hwf
  go_enter Try.func7, Try.ntmps7
  go_wp2_with fail
  go_loopw [4, 5] (fun v i wr => ∃ (k : Nat) (xs : List Int), k ≤ len ∧ k ≤ 100 ∧ i = .int .i64 k ∧ Aside (xs.length ≤ k) ∧ Aside (Gath wr w.heap.size w.heap.size xs v xs) ∧ Aside (Below w.heap.size w wr)) (fun v i _ => 100 - (intOf i).toNat)
  case atStart => exact ⟨0, [], Nat.zero_le _, Nat.zero_le _, rfl, ⟨Nat.le_refl _⟩, T0, K0⟩
  case round =>
    obtain ⟨k, xs, hk, hk2, rfl, HL, T, K⟩ := hrel
    by_cases hlt : k < len ∧ k < 100
    · obtain ⟨hlt, hlt2⟩ := hlt
      obtain ⟨b, o, rfl, hb, c0⟩ := HC.out k hlt
      have HOK := Aside.mk (HW.out k hlt)
      have c1 := (K.out.cell (p := ⟨b, o + k, none⟩) hb).trans c0
      have hl1 := HL.out
      by_cases hin : rdl z k ∈ xs
      · have hd : decide (rdl z k ∈ xs) = true := decide_eq_true hin
        have hI : insI xs (rdl z k) = xs := if_pos hin
        have HD := Aside.mk hd
        have HI := Aside.mk hI
        clear hd hI hin
        go_wp2_with fail
        refine (addG T.out K.out.size HOK.out (by omega)).mono ?_
        rintro e w2 ⟨rfl, t2, k2⟩
        rw [HD.out]
        rw [HI.out] at t2
        have T2 := Aside.mk t2
        have K2 := Aside.mk (K.out.trans k2)
        clear t2 k2
        go_wp2
        go_roundw
        case rel => exact ⟨k + 1, xs, by omega, by omega, by go_num, ⟨by omega⟩, T2, K2⟩
        case measure => simp [intOf]; omega
      · have hd : decide (rdl z k ∈ xs) = false := decide_eq_false hin
        have hI : insI xs (rdl z k) = xs ++ [rdl z k] := if_neg hin
        have HD := Aside.mk hd
        have HI := Aside.mk hI
        clear hd hI hin
        go_wp2_with fail
        refine (addG T.out K.out.size HOK.out (by omega)).mono ?_
        rintro e w2 ⟨rfl, t2, k2⟩
        rw [HD.out]
        rw [HI.out] at t2
        have T2 := Aside.mk t2
        have K2 := Aside.mk (K.out.trans k2)
        have ho2 := t2.row
        have c2 := (K2.out.cell (p := ⟨b, o + k, none⟩) hb).trans c0
        clear t2 k2
        go_wp2_with (first
          | (at_builtin; refine wpList_append_lies _ rfl _ _ 22 rfl 0 3 i0 (.int .i64 0) 1 8 Try.underlying22 hi hz0 hz1 hz2 rfl (by decide) _ _ _ rfl (ho2.alloc _) ⟨w2.heap.size, 0, none⟩ 1 1 [.int .i64 (rdl z k)] rfl rfl (cell_one_new _ _ _) (fun x hx => by simp at hx; subst hx; rfl) (by decide) (by unfold maxLen; omega) (by omega) (Nat.zero_le _) _ rfl ?_; intro g2 cap w3 hown3 hgrow3 hat hlt3; have gk := T2.out.app K2.out.size hown3 hgrow3 hat hlt3; have T3 := Aside.mk gk.1; have K3 := Aside.mk (K2.out.trans gk.2); clear hown3 hgrow3 hat gk))
        go_roundw
        case rel => exact ⟨k + 1, xs ++ [rdl z k], by omega, by omega, by go_num, ⟨by simp; omega⟩, T3, K3⟩
        case measure => simp [intOf]; omega
    · by_cases hkl : k < len
      all_goals
        first
          | (have hd60 : (100 : Int) ≤ (k : Int) := by omega)
          | skip
        clear hlt
        have hl1 := HL.out
        go_wp2_with fail
        refine (setAll_c _ _).mono ?_
        rintro e w2 ⟨rfl, rfl⟩
        go_wp2_with fail
        refine (leastG T.out (by omega) K.out.size).mono ?_
        rintro e w3 ⟨rfl, t3, k3⟩
        have T3 := Aside.mk t3
        have K3 := Aside.mk (K.out.trans k3)
        obtain ⟨A, c, rfl, hcap3, hrd⟩ := t3.read
        have HR := Aside.mk hrd
        clear t3 k3 hrd T K
        go_wp2_with fail
        go_loopw [8, 9, 10] (fun s8 s9 s10 wr => ∃ k : Nat, k ≤ xs.length ∧ s10 = .int .i64 ((k : Int) - 1) ∧ s8 = .int .i64 ((want (xs.drop k)).getD 0) ∧ s9 = .bool (want (xs.drop k)).isSome ∧ wr = w3) (fun _ _ i _ => (intOf i + 1).toNat)
        case atStart => exact ⟨xs.length, Nat.le_refl _, rfl, by rw [List.drop_length]; rfl, by rw [List.drop_length]; rfl, rfl⟩
        case round =>
          obtain ⟨m, hm, rfl, rfl, rfl, rfl⟩ := hrel
          cases m with
          | zero =>
            rw [List.drop_zero]
            go_wp2_with fail
            refine (awake_c _).mono ?_
            rintro e w4 ⟨rfl, b4⟩
            have K4 := Aside.mk (K3.out.trans (b4.mono K3.out.size))
            clear b4
            go_wp2
            go_ret
            exact ⟨rfl, K4.out⟩
          | succ j =>
            have hj : ((j + 1 : Nat) : Int) - 1 = (j : Int) := by omega
            rw [hj]
            obtain ⟨q, rfl, hq, cq⟩ := HR.out j (by omega)
            have hw : want (xs.drop j) = (match want (xs.drop (j + 1)) with
              | none => some (rdl xs j)
              | some b => if lessB b (rdl xs j) = true then some b else some (rdl xs j)) := by rw [drop_cons xs j (by omega)]; rfl
            generalize want (xs.drop (j + 1)) = O at hw ⊢
            cases O with
            | none =>
              replace hw : want (xs.drop j) = some (rdl xs j) := hw
              have HWW := Aside.mk hw
              clear hw hj
              rw [show (none : Option Int).getD 0 = 0 from rfl, show (none : Option Int).isSome = false from rfl]
              go_wp2
              go_roundw
              case rel => exact ⟨j, by omega, by go_num, by rw [HWW.out]; rfl, by rw [HWW.out]; rfl, trivial⟩
              case measure => simp [intOf]
            | some u =>
              replace hw : want (xs.drop j) = if lessB u (rdl xs j) = true then some u else some (rdl xs j) := hw
              rw [show (some u).getD 0 = u from rfl, show (some u).isSome = true from rfl]
              cases hl : lessB u (rdl xs j) with
              | true =>
                rw [hl, if_pos rfl] at hw
                have HWW := Aside.mk hw
                have HLL := Aside.mk hl
                clear hw hj hl
                go_wp2_with fail
                refine (tens_c _ _ _).mono ?_
                rintro e w' ⟨rfl, rfl⟩
                rw [HLL.out]
                go_wp2
                go_roundw
                case rel => exact ⟨j, by omega, by go_num, by rw [HWW.out]; rfl, by rw [HWW.out]; rfl, trivial⟩
                case measure => simp [intOf]
              | false =>
                rw [hl, if_neg (by decide)] at hw
                have HWW := Aside.mk hw
                have HLL := Aside.mk hl
                clear hw hj hl
                go_wp2_with fail
                refine (tens_c _ _ _).mono ?_
                rintro e w' ⟨rfl, rfl⟩
                rw [HLL.out]
                go_wp2
                go_roundw
                case rel => exact ⟨j, by omega, by go_num, by rw [HWW.out]; rfl, by rw [HWW.out]; rfl, trivial⟩
                case measure => simp [intOf]

end Go.Proofs.Ytnhjnbbdeilmbaa.Hand
