/- The quotient of any two int64 numbers, and what is left over, are what the reference says: for every input, no further condition. -/
import Derived.Test.YtmaokblceahgjaaWalk
import Derived.Test.YtmaokblceahgjaaPureWordSums
import Derived.LoopTactic
namespace Go.Proofs.Ytmaokblceahgjaa.Hand
open Go.RowKit Go.Proofs.YtmaokblceahgjaaW.PrintWords Go.Proofs.YtmaokblceahgjaaW.PrintLast
open Go.Proofs.Ytmaokblceahgjaa.Num

theorem ref_c (a : Int) (w : World) : Calls Try.prog 12 #[.int .i64 a] w fun e w' => e = .returned (.int .i64 (fw a)) ∧ Drawn0 w w' :=
  PWordSums.delayslotref01_Wrap.calls a (fw a) w (Pure.ws_ref a)

/-! ## the long division, in plain numbers -/
structure Inv (x y q b : Int) : Prop where
  q0 : 0 ≤ q
  le : q * y ≤ x
  pow : b = 0 ∨ ∃ n : Nat, b = 2 ^ n
  big : b ≤ 2147483648
  cap : q = 0 ∨ b ≤ 1073741824
  lt : 0 < b → x < (q + 2 * b) * y
  fin : b = 0 → x < (q + 1) * y

theorem pow_half {b : Int} (h : ∃ n : Nat, b = 2 ^ n) : (b = 1 ∧ b / 2 = 0) ∨ (b = 2 * (b / 2) ∧ 0 < b / 2 ∧ ∃ n : Nat, b / 2 = 2 ^ n) := by
  obtain ⟨n, rfl⟩ := h
  cases n with
  | zero => left; decide
  | succ n =>
    right
    have e : (2 : Int) ^ (n + 1) / 2 = 2 ^ n := by rw [Int.pow_succ]; exact Int.mul_ediv_cancel _ (by decide)
    rw [e]
    exact ⟨by rw [Int.pow_succ]; omega, two_pow_pos n, n, rfl⟩

theorem Inv.start {x y : Int} (hx : 0 ≤ x) (hx1 : x ≤ 2147483648) (hy : 1 ≤ y) : Inv x y 0 2147483648 where
  q0 := by decide
  le := by omega
  pow := .inr ⟨31, by decide⟩
  big := by decide
  cap := .inl rfl
  lt := fun _ => by
    have : (4294967296 : Int) * 1 ≤ 4294967296 * y := by omega
    have e : (0 + 2 * 2147483648 : Int) = 4294967296 := by decide
    rw [e]; omega
  fin := fun h => by omega

theorem Inv.pow' {x y q b : Int} (h : Inv x y q b) (hb : 0 < b) : (b = 1 ∧ b / 2 = 0) ∨ (b = 2 * (b / 2) ∧ 0 < b / 2 ∧ ∃ n : Nat, b / 2 = 2 ^ n) :=
  pow_half (h.pow.resolve_left (by omega))

theorem Inv.yes {x y q b : Int} (h : Inv x y q b) (hb : 0 < b) (hc : (q + b) * y ≤ x) : Inv x y (q + b) (b / 2) := by
  have l := h.lt hb
  have g0 := h.q0
  have g1 := h.big
  rcases h.pow' hb with ⟨e1, e2⟩ | ⟨e1, e2, e3⟩
  · refine ⟨by omega, hc, .inl e2, by omega, .inr (by omega), fun g => by omega, fun _ => ?_⟩
    have e : q + b + 1 = q + 2 * b := by omega
    rw [e]; exact l
  · refine ⟨by omega, hc, .inr e3, by omega, .inr (by omega), fun _ => ?_, fun g => by omega⟩
    have e : q + b + 2 * (b / 2) = q + 2 * b := by omega
    rw [e]; exact l

theorem Inv.no {x y q b : Int} (h : Inv x y q b) (hb : 0 < b) (hc : ¬ (q + b) * y ≤ x) : Inv x y q (b / 2) := by
  have g1 := h.big
  rcases h.pow' hb with ⟨e1, e2⟩ | ⟨e1, e2, e3⟩
  · refine ⟨h.q0, h.le, .inl e2, by omega, .inr (by omega), fun g => by omega, fun _ => ?_⟩
    rw [e1] at hc; omega
  · refine ⟨h.q0, h.le, .inr e3, by omega, .inr (by omega), fun _ => ?_, fun g => by omega⟩
    rw [← e1]; omega

theorem Inv.bounds {x y q b : Int} (h : Inv x y q b) (hx1 : x ≤ 2147483648) (hy : 1 ≤ y) (hy1 : y ≤ 2147483648) (hb : 0 ≤ b) :
    q ≤ 2147483648 ∧ 0 ≤ (q + b) * y ∧ (q + b) * y ≤ 9223372036854775807 ∧ q ≤ x ∧ ((q + b) * y ≤ x → q + b ≤ x) := by
  have g0 := h.q0
  have g1 := h.le
  have g2 := h.big
  have m : ∀ z : Int, 0 ≤ z → z ≤ z * y := fun z hz => by
    have := Int.mul_le_mul_of_nonneg_left hy hz
    omega
  have m1 := m q g0
  have m2 := m (q + b) (by omega)
  refine ⟨by omega, by omega, ?_, by omega, by omega⟩
  have k : q + b ≤ 3221225472 := by rcases h.cap with e | e <;> omega
  have k2 : (q + b) * y ≤ 3221225472 * 2147483648 := Int.mul_le_mul k hy1 (by omega) (by decide)
  omega

theorem Inv.last {x y q : Int} (h : Inv x y q 0) (hy : 1 ≤ y) : x / y = q ∧ x % y = x - q * y := by
  have l := h.fin rfl
  have g := h.le
  have e : x / y = q := by
    have e1 : x / y < q + 1 := Int.ediv_lt_of_lt_mul (by omega) l
    have e2 : q ≤ x / y := Int.le_ediv_of_mul_le (by omega) g
    omega
  have := Int.mul_ediv_add_emod x y
  rw [e] at this
  refine ⟨e, ?_⟩
  rw [Int.mul_comm] at this
  omega

theorem Inv.zero {x y q b : Int} (h : Inv x y q b) (hb : ¬ 0 < b) : b = 0 := by
  rcases h.pow with e | ⟨n, e⟩
  · exact e
  · have := two_pow_pos n; omega
theorem Inv.nn {x y q b : Int} (h : Inv x y q b) : 0 ≤ b := by
  rcases h.pow with e | ⟨n, e⟩
  · omega
  · have := two_pow_pos n; omega
theorem half_lt {b : Int} (h : 0 < b) : (b / 2).toNat < b.toNat := by omega
theorem told_two {p q r s : Int} (h1 : p = r) (h2 : q = s) : Ending.returned (.tuple #[.int .i64 p, .int .i64 q]) = .returned (.tuple #[.int .i64 r, .int .i64 s]) := by rw [h1, h2]

set_option maxHeartbeats 4000000 in
set_option maxRecDepth 100000 in
theorem div_pp (a b : Int) (w : World) (ha : 0 ≤ fw a) (hb : 0 < fw b) :
    Calls Try.prog 14 #[.int .i64 a, .int .i64 b] w fun e w' => e = .returned (.tuple #[.int .i64 (fq a b), .int .i64 (fr a b)]) ∧ Drawn0 w w' := by
  have ra := w32_range a
  have rb := w32_range b
  change -2147483648 ≤ fw a ∧ fw a ≤ 2147483647 at ra
  change -2147483648 ≤ fw b ∧ fw b ≤ 2147483647 at rb
  obtain ⟨ra0, ra1⟩ := ra
  obtain ⟨rb0, rb1⟩ := rb
  have hs := Inv.start (x := fw a) (y := fw b) (by omega) (by omega) (by omega)
  have hq : fq a b = wrap32 (Int.tdiv (fw a) (fw b)) := rfl
  have hr : fr a b = Int.tmod (fw a) (fw b) := rfl
  have HQ := Aside0.mk hq
  have HR := Aside0.mk hr
  clear hq hr
  have da : decide (fw a < 0) = false := by simp; omega
  have db : decide (fw b < 0) = false := by simp; omega
  go_enter Try.func14, Try.ntmps14
  go_wp2_with (go_at_call 12; (with_reducible refine (ref_c _ _).mono ?_); rintro e w' ⟨rfl, ⟨nd, rfl⟩⟩)
  go_loop [8, 9] (fun q t => ∃ (Q B : Int), q = .int .i64 Q ∧ t = .int .i64 B ∧ Inv (fw a) (fw b) Q B) (fun _ t => (intOf t).toNat)
  case atStart => exact ⟨0, 2147483648, rfl, rfl, hs⟩
  case round =>
    obtain ⟨Q, B, rfl, rfl, hI⟩ := hrel
    have HI := Aside0.mk hI
    have g0 := hI.q0
    have gb := hI.nn
    have gB := hI.big
    obtain ⟨g1, g2, g3, g4, g5⟩ := hI.bounds (by omega) (by omega) (by omega) gb
    have gl := hI.le
    clear hI hs
    by_cases hB : 0 < B
    · by_cases hc : (Q + B) * (fw b) ≤ fw a
      · have g6 := g5 hc
        have hN := Aside0.mk (HI.out.yes hB hc)
        clear g5
        go_wp2
        go_round
        case rel => exact ⟨_, _, rfl, rfl, hN.out⟩
        case measure => simp only [intOf]; exact half_lt hB
      · have hN := Aside0.mk (HI.out.no hB hc)
        have hc' : fw a < (Q + B) * (fw b) := by omega
        clear g5 hc
        go_wp2
        go_round
        case rel => exact ⟨_, _, rfl, rfl, hN.out⟩
        case measure => simp only [intOf]; exact half_lt hB
    · obtain rfl := HI.out.zero hB
      have hL := Aside0.mk (HI.out.last (by omega))
      have gm : 0 ≤ Q * (fw b) := by simpa using g2
      clear g5 g2 g3
      go_wp2_with (go_at_call 12; (with_reducible refine (ref_c _ _).mono ?_); rintro e w' ⟨rfl, ⟨nd, rfl⟩⟩)
      go_ret2
      refine ⟨told_two ?_ ?_, by repeat (first | exact Drawn0.refl _ | apply Drawn0.step)⟩
      · rw [HQ.out]; unfold fw at *; rw [Int.tdiv_eq_ediv_of_nonneg ha, hL.out.1]
      · rw [HR.out]; rw [Int.tmod_eq_emod_of_nonneg ha, hL.out.2]

set_option maxHeartbeats 4000000 in
set_option maxRecDepth 100000 in
theorem div_pn (a b : Int) (w : World) (ha : 0 ≤ fw a) (hb : fw b < 0) :
    Calls Try.prog 14 #[.int .i64 a, .int .i64 b] w fun e w' => e = .returned (.tuple #[.int .i64 (fq a b), .int .i64 (fr a b)]) ∧ Drawn0 w w' := by
  have ra := w32_range a
  have rb := w32_range b
  change -2147483648 ≤ fw a ∧ fw a ≤ 2147483647 at ra
  change -2147483648 ≤ fw b ∧ fw b ≤ 2147483647 at rb
  obtain ⟨ra0, ra1⟩ := ra
  obtain ⟨rb0, rb1⟩ := rb
  have hs := Inv.start (x := fw a) (y := -fw b) (by omega) (by omega) (by omega)
  have hq : fq a b = wrap32 (Int.tdiv (fw a) (fw b)) := rfl
  have hr : fr a b = Int.tmod (fw a) (fw b) := rfl
  have HQ := Aside0.mk hq
  have HR := Aside0.mk hr
  clear hq hr
  have da : decide (fw a < 0) = false := by simp; omega
  have db : decide (fw b < 0) = true := by simp; omega
  go_enter Try.func14, Try.ntmps14
  go_wp2_with (go_at_call 12; (with_reducible refine (ref_c _ _).mono ?_); rintro e w' ⟨rfl, ⟨nd, rfl⟩⟩)
  go_loop [8, 9] (fun q t => ∃ (Q B : Int), q = .int .i64 Q ∧ t = .int .i64 B ∧ Inv (fw a) (-fw b) Q B) (fun _ t => (intOf t).toNat)
  case atStart => exact ⟨0, 2147483648, rfl, rfl, hs⟩
  case round =>
    obtain ⟨Q, B, rfl, rfl, hI⟩ := hrel
    have HI := Aside0.mk hI
    have g0 := hI.q0
    have gb := hI.nn
    have gB := hI.big
    obtain ⟨g1, g2, g3, g4, g5⟩ := hI.bounds (by omega) (by omega) (by omega) gb
    have gl := hI.le
    clear hI hs
    by_cases hB : 0 < B
    · by_cases hc : (Q + B) * (-fw b) ≤ fw a
      · have g6 := g5 hc
        have hN := Aside0.mk (HI.out.yes hB hc)
        clear g5
        go_wp2
        go_round
        case rel => exact ⟨_, _, rfl, rfl, hN.out⟩
        case measure => simp only [intOf]; exact half_lt hB
      · have hN := Aside0.mk (HI.out.no hB hc)
        have hc' : fw a < (Q + B) * (-fw b) := by omega
        clear g5 hc
        go_wp2
        go_round
        case rel => exact ⟨_, _, rfl, rfl, hN.out⟩
        case measure => simp only [intOf]; exact half_lt hB
    · obtain rfl := HI.out.zero hB
      have hL := Aside0.mk (HI.out.last (by omega))
      have gm : 0 ≤ Q * (-fw b) := by simpa using g2
      clear g5 g2 g3
      go_wp2_with (go_at_call 12; (with_reducible refine (ref_c _ _).mono ?_); rintro e w' ⟨rfl, ⟨nd, rfl⟩⟩)
      go_ret2
      refine ⟨told_two ?_ ?_, by repeat (first | exact Drawn0.refl _ | apply Drawn0.step)⟩
      · rw [HQ.out]; unfold fw at *; rw [show Int.tdiv (wrap32 a) (wrap32 b) = -(wrap32 a / -wrap32 b) by rw [← Int.tdiv_eq_ediv_of_nonneg ha, Int.tdiv_neg]; omega, hL.out.1]
      · rw [HR.out]; rw [show Int.tmod (fw a) (fw b) = Int.tmod (fw a) (-fw b) by rw [Int.tmod_neg], Int.tmod_eq_emod_of_nonneg ha, hL.out.2]

set_option maxHeartbeats 4000000 in
set_option maxRecDepth 100000 in
theorem div_np (a b : Int) (w : World) (ha : fw a < 0) (hb : 0 < fw b) :
    Calls Try.prog 14 #[.int .i64 a, .int .i64 b] w fun e w' => e = .returned (.tuple #[.int .i64 (fq a b), .int .i64 (fr a b)]) ∧ Drawn0 w w' := by
  have ra := w32_range a
  have rb := w32_range b
  change -2147483648 ≤ fw a ∧ fw a ≤ 2147483647 at ra
  change -2147483648 ≤ fw b ∧ fw b ≤ 2147483647 at rb
  obtain ⟨ra0, ra1⟩ := ra
  obtain ⟨rb0, rb1⟩ := rb
  have hs := Inv.start (x := -fw a) (y := fw b) (by omega) (by omega) (by omega)
  have hq : fq a b = wrap32 (Int.tdiv (fw a) (fw b)) := rfl
  have hr : fr a b = Int.tmod (fw a) (fw b) := rfl
  have HQ := Aside0.mk hq
  have HR := Aside0.mk hr
  clear hq hr
  have da : decide (fw a < 0) = true := by simp; omega
  have db : decide (fw b < 0) = false := by simp; omega
  go_enter Try.func14, Try.ntmps14
  go_wp2_with (go_at_call 12; (with_reducible refine (ref_c _ _).mono ?_); rintro e w' ⟨rfl, ⟨nd, rfl⟩⟩)
  go_loop [8, 9] (fun q t => ∃ (Q B : Int), q = .int .i64 Q ∧ t = .int .i64 B ∧ Inv (-fw a) (fw b) Q B) (fun _ t => (intOf t).toNat)
  case atStart => exact ⟨0, 2147483648, rfl, rfl, hs⟩
  case round =>
    obtain ⟨Q, B, rfl, rfl, hI⟩ := hrel
    have HI := Aside0.mk hI
    have g0 := hI.q0
    have gb := hI.nn
    have gB := hI.big
    obtain ⟨g1, g2, g3, g4, g5⟩ := hI.bounds (by omega) (by omega) (by omega) gb
    have gl := hI.le
    clear hI hs
    by_cases hB : 0 < B
    · by_cases hc : (Q + B) * (fw b) ≤ -fw a
      · have g6 := g5 hc
        have hN := Aside0.mk (HI.out.yes hB hc)
        clear g5
        go_wp2
        go_round
        case rel => exact ⟨_, _, rfl, rfl, hN.out⟩
        case measure => simp only [intOf]; exact half_lt hB
      · have hN := Aside0.mk (HI.out.no hB hc)
        have hc' : -fw a < (Q + B) * (fw b) := by omega
        clear g5 hc
        go_wp2
        go_round
        case rel => exact ⟨_, _, rfl, rfl, hN.out⟩
        case measure => simp only [intOf]; exact half_lt hB
    · obtain rfl := HI.out.zero hB
      have hL := Aside0.mk (HI.out.last (by omega))
      have gm : 0 ≤ Q * (fw b) := by simpa using g2
      clear g5 g2 g3
      go_wp2_with (go_at_call 12; (with_reducible refine (ref_c _ _).mono ?_); rintro e w' ⟨rfl, ⟨nd, rfl⟩⟩)
      go_ret2
      refine ⟨told_two ?_ ?_, by repeat (first | exact Drawn0.refl _ | apply Drawn0.step)⟩
      · rw [HQ.out]; unfold fw at *; rw [show Int.tdiv (wrap32 a) (wrap32 b) = -(-wrap32 a / wrap32 b) by rw [← Int.tdiv_eq_ediv_of_nonneg (by omega), Int.neg_tdiv]; omega, hL.out.1]
      · rw [HR.out]; rw [show Int.tmod (fw a) (fw b) = -(Int.tmod (-fw a) (fw b)) by rw [Int.neg_tmod]; omega, Int.tmod_eq_emod_of_nonneg (by omega), hL.out.2]

set_option maxHeartbeats 4000000 in
set_option maxRecDepth 100000 in
theorem div_nn (a b : Int) (w : World) (ha : fw a < 0) (hb : fw b < 0) :
    Calls Try.prog 14 #[.int .i64 a, .int .i64 b] w fun e w' => e = .returned (.tuple #[.int .i64 (fq a b), .int .i64 (fr a b)]) ∧ Drawn0 w w' := by
  have ra := w32_range a
  have rb := w32_range b
  change -2147483648 ≤ fw a ∧ fw a ≤ 2147483647 at ra
  change -2147483648 ≤ fw b ∧ fw b ≤ 2147483647 at rb
  obtain ⟨ra0, ra1⟩ := ra
  obtain ⟨rb0, rb1⟩ := rb
  have hs := Inv.start (x := -fw a) (y := -fw b) (by omega) (by omega) (by omega)
  have hq : fq a b = wrap32 (Int.tdiv (fw a) (fw b)) := rfl
  have hr : fr a b = Int.tmod (fw a) (fw b) := rfl
  have HQ := Aside0.mk hq
  have HR := Aside0.mk hr
  clear hq hr
  have da : decide (fw a < 0) = true := by simp; omega
  have db : decide (fw b < 0) = true := by simp; omega
  go_enter Try.func14, Try.ntmps14
  go_wp2_with (go_at_call 12; (with_reducible refine (ref_c _ _).mono ?_); rintro e w' ⟨rfl, ⟨nd, rfl⟩⟩)
  go_loop [8, 9] (fun q t => ∃ (Q B : Int), q = .int .i64 Q ∧ t = .int .i64 B ∧ Inv (-fw a) (-fw b) Q B) (fun _ t => (intOf t).toNat)
  case atStart => exact ⟨0, 2147483648, rfl, rfl, hs⟩
  case round =>
    obtain ⟨Q, B, rfl, rfl, hI⟩ := hrel
    have HI := Aside0.mk hI
    have g0 := hI.q0
    have gb := hI.nn
    have gB := hI.big
    obtain ⟨g1, g2, g3, g4, g5⟩ := hI.bounds (by omega) (by omega) (by omega) gb
    have gl := hI.le
    clear hI hs
    by_cases hB : 0 < B
    · by_cases hc : (Q + B) * (-fw b) ≤ -fw a
      · have g6 := g5 hc
        have hN := Aside0.mk (HI.out.yes hB hc)
        clear g5
        go_wp2
        go_round
        case rel => exact ⟨_, _, rfl, rfl, hN.out⟩
        case measure => simp only [intOf]; exact half_lt hB
      · have hN := Aside0.mk (HI.out.no hB hc)
        have hc' : -fw a < (Q + B) * (-fw b) := by omega
        clear g5 hc
        go_wp2
        go_round
        case rel => exact ⟨_, _, rfl, rfl, hN.out⟩
        case measure => simp only [intOf]; exact half_lt hB
    · obtain rfl := HI.out.zero hB
      have hL := Aside0.mk (HI.out.last (by omega))
      have gm : 0 ≤ Q * (-fw b) := by simpa using g2
      clear g5 g2 g3
      go_wp2_with (go_at_call 12; (with_reducible refine (ref_c _ _).mono ?_); rintro e w' ⟨rfl, ⟨nd, rfl⟩⟩)
      go_ret2
      refine ⟨told_two ?_ ?_, by repeat (first | exact Drawn0.refl _ | apply Drawn0.step)⟩
      · rw [HQ.out]; unfold fw at *; rw [show Int.tdiv (wrap32 a) (wrap32 b) = -wrap32 a / -wrap32 b by rw [← Int.tdiv_eq_ediv_of_nonneg (by omega), Int.neg_tdiv, Int.tdiv_neg]; omega, hL.out.1]
      · rw [HR.out]; rw [show Int.tmod (fw a) (fw b) = -(Int.tmod (-fw a) (-fw b)) by rw [Int.neg_tmod, Int.tmod_neg]; omega, Int.tmod_eq_emod_of_nonneg (by omega), hL.out.2]

end Go.Proofs.Ytmaokblceahgjaa.Hand
