/- Of no memory nothing is told, and nothing is done to it: for every place and word, no further condition. -/
import Derived.Test.YtbjpomdenppaiaaMem
namespace Go.Proofs.Ytbjpomdenppaiaa.Hand
open Go.RowKit

theorem Keeps.none_below {a b : World} (h : Keeps (fun _ => False) a b) : Below a.heap.size a b := h.below (Nat.le_refl _) (fun _ f => f.elim)
theorem fresh_old {w w1 w2 : World} {h : Nat} (k1 : Keeps (fun _ => False) w w1) (hh : w.heap.size ≤ h) (k2 : Keeps (fun x => x = h) w1 w2) : Below w.heap.size w w2 :=
  k1.none_below.trans (k2.below k1.size (fun _ e => by subst e; exact hh))

set_option maxHeartbeats 4000000 in
set_option maxRecDepth 100000 in
theorem awake_c (w : World) : Calls Try.prog 9 #[] w fun e w' => e = .returned (.bool true) ∧ Below w.heap.size w w' := by
  go_enter Try.func9, Try.ntmps9
  go_wp2_with fail
  refine (new_c 3 _ (by decide)).mono ?_
  rintro e w1 ⟨g, h, rfl, m1, hg, hh, k1⟩
  have M1 := Aside.mk m1
  have K1 := Aside.mk k1
  clear m1 k1
  go_wp2_with fail
  refine (store_c M1.out _ _).mono ?_
  rintro e w2 ⟨rfl, m2, k2⟩
  rw [show sto (List.replicate 3 0) 1 4294967301 = [0, 5, 0] from by decide +kernel] at m2
  have M2 : Aside (Mem w2 g h [0, 5, 0]) := ⟨m2⟩
  have K2 := Aside.mk (fresh_old K1.out hh k2)
  clear m2 k2
  rw [show inr (List.replicate 3 0) 1 = true from by decide +kernel]
  go_wp2_with fail
  refine (store_c M2.out _ _).mono ?_
  rintro e w3 ⟨rfl, m3, k3⟩
  rw [show sto [0, 5, 0] 3 1 = [0, 5, 0] from by decide +kernel] at m3
  have M3 : Aside (Mem w3 g h [0, 5, 0]) := ⟨m3⟩
  have K3 := Aside.mk (K2.out.trans (k3.below K2.out.size (fun _ e => by subst e; exact hh)))
  clear m3 k3
  rw [show inr [0, 5, 0] 3 = false from by decide +kernel]
  go_wp2_with fail
  refine (load_c M3.out _).mono ?_
  rintro e w' ⟨rfl, rfl⟩
  rw [show inr [0, 5, 0] 1 = true from rfl, show atl [0, 5, 0] 1 = 5 from by decide +kernel]
  go_wp2_with fail
  refine (len_c M3.out).mono ?_
  rintro e w' ⟨rfl, rfl⟩
  go_wp2_with fail
  refine (used_c M3.out).mono ?_
  rintro e w4 ⟨A, c, rfl, _, b4⟩
  have K4 := Aside.mk (K3.out.trans (b4.mono K3.out.size))
  clear b4
  rw [show (used [0, 5, 0]).length = 2 from by decide +kernel]
  go_wp2
  go_ret
  exact ⟨rfl, K4.out⟩

set_option maxHeartbeats 4000000 in
set_option maxRecDepth 100000 in
theorem none_c (a v : Int) (w : World) : Calls Try.prog 5 #[.int .i64 a, .int .i64 v] w fun e w' => e = .returned (.bool true) ∧ Below w.heap.size w w' := by
  go_enter Try.func5, Try.ntmps5
  go_wp2_with (first
    | (go_at_call 13; (with_reducible refine (load_nil _ _).mono ?_); rintro e w' ⟨rfl, rfl⟩)
    | (go_at_call 11; (with_reducible refine (store_nil _ _ _).mono ?_); rintro e w' ⟨rfl, rfl⟩)
    | (go_at_call 14; (with_reducible refine (len_nil _).mono ?_); rintro e w' ⟨rfl, rfl⟩)
    | (go_at_call 16; (with_reducible refine (words_nil _).mono ?_); rintro e w' ⟨rfl, rfl⟩)
    | (go_at_call 17; (with_reducible refine (used_nil _).mono ?_); rintro e w' ⟨rfl, rfl⟩)
    | (go_at_call 9; (with_reducible refine (awake_c _).mono ?_); rintro e w' ⟨rfl, hb⟩; have HB := Aside.mk hb; clear hb))
  go_ret
  exact ⟨rfl, HB.out⟩

theorem none_row (a v : Int) (w : World) (_ : (Lit.int .i64 a).wf = true) (_ : (Lit.int .i64 v).wf = true) : Calls Try.prog 5 #[.int .i64 a, .int .i64 v] w fun e w' => e = .returned (.bool true) ∧ Below w.heap.size w w' := none_c a v w

end Go.Proofs.Ytbjpomdenppaiaa.Hand
