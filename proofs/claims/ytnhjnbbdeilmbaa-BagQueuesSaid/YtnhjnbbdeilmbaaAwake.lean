/- The fixed answer of the stage, and what the laws need of frames. -/
import Derived.Test.YtnhjnbbdeilmbaaSetI
import Derived.Test.YtnhjnbbdeilmbaaSetS
namespace Go.Proofs.Ytnhjnbbdeilmbaa.Hand
open Go.RowKit

theorem qu_new (w : World) : Qu (w.alloc (.cells #[.slice none 0 0, .int .i64 0] 24)) (fun k => k = w.heap.size) w.heap.size 0 [] := by
  refine ⟨.slice none 0 0, 0, 0, [], heap_alloc_new w _, rfl, World.ownsRow_nil _ _ _ _, ?_, Nat.le_refl _, Nat.le_refl _, rfl, fun k hk => by subst hk; simp⟩
  intro k hk
  simp [Value.ownBlock] at hk
theorem setI_new (w : World) : SetI (w.alloc (.cells #[.map none, .slice none 0 0] 34)) (fun k => k = w.heap.size) w.heap.size [] := by
  refine ⟨none, .slice none 0 0, heap_alloc_new w _, rfl, .inl ⟨rfl, rfl⟩, World.ownsRow_nil _ _ _ _, ?_, fun k hk => by subst hk; simp⟩
  intro k hk
  simp [Value.ownBlock] at hk
theorem setS_new (w : World) : SetS (w.alloc (.cells #[.map none, .slice none 0 0] 38)) (fun k => k = w.heap.size) w.heap.size [] := by
  refine ⟨none, .slice none 0 0, heap_alloc_new w _, rfl, .inl ⟨rfl, rfl⟩, World.ownsRow_nil _ _ _ _, ?_, fun k hk => by subst hk; simp⟩
  intro k hk
  simp [Value.ownBlock] at hk

theorem Qu.kept {w w' : World} {F S : Nat → Prop} {g m : Nat} {xs : List Int} (q : Qu w F g m xs) (k : Keeps S w w') (hd : ∀ k, F k → ¬ S k) : Qu w' F g m xs := by
  obtain ⟨v, n, f, cs, hg, hF, ho, hv, hf, hn, hx, hlt⟩ := q
  exact ⟨v, n, f, cs, (k.block g (hlt g hF) (hd g hF)).trans hg, hF, owned_mono ho (fun j hj => k.block j (hlt j (hv j hj).1) (hd j (hv j hj).1)), hv, hf, hn, hx, fun j hj => Nat.lt_of_lt_of_le (hlt j hj) k.size⟩
theorem map_kept {P : Program} {w w' : World} {S : Nat → Prop} {kt b n : Nat} {R : Value → Option (DataW Unit × List MemPlace)} {D : DataW Unit} (h : w.ownsMap P kt R b n D) (k : Keeps S w w') (hb : ¬ S b) : w'.ownsMap P kt R b n D := by
  have hl := h.lt
  obtain ⟨es, cl, hbm, r⟩ := h
  exact ⟨es, cl, (k.block b hl hb).trans hbm, r⟩
theorem SetI.kept {w w' : World} {F S : Nat → Prop} {g : Nat} {xs : List Int} (s : SetI w F g xs) (k : Keeps S w w') (hd : ∀ k, F k → ¬ S k) : SetI w' F g xs := by
  obtain ⟨mv, v, hg, hF, hm, ho, hv, hlt⟩ := s
  refine ⟨mv, v, (k.block g (hlt g hF) (hd g hF)).trans hg, hF, ?_, owned_mono ho (fun j hj => k.block j (hlt j (hv j hj).1) (hd j (hv j hj).1)), hv, fun j hj => Nat.lt_of_lt_of_le (hlt j hj) k.size⟩
  rcases hm with hm | ⟨b, D, h1, h2, h3, h4⟩
  · exact .inl hm
  · exact .inr ⟨b, D, h1, h2, map_kept h3 k (hd b h2), h4⟩
theorem SetS.kept {w w' : World} {F S : Nat → Prop} {g : Nat} {xs : List (List UInt8)} (s : SetS w F g xs) (k : Keeps S w w') (hd : ∀ k, F k → ¬ S k) : SetS w' F g xs := by
  obtain ⟨mv, v, hg, hF, hm, ho, hv, hlt⟩ := s
  refine ⟨mv, v, (k.block g (hlt g hF) (hd g hF)).trans hg, hF, ?_, owned_mono ho (fun j hj => k.block j (hlt j (hv j hj).1) (hd j (hv j hj).1)), hv, fun j hj => Nat.lt_of_lt_of_le (hlt j hj) k.size⟩
  rcases hm with hm | ⟨b, D, h1, h2, h3, h4⟩
  · exact .inl hm
  · exact .inr ⟨b, D, h1, h2, map_kept h3 k (hd b h2), h4⟩
theorem Qu.lt {w : World} {F : Nat → Prop} {g m : Nat} {xs : List Int} (q : Qu w F g m xs) : ∀ k, F k → k < w.heap.size := by
  obtain ⟨v, n, f, cs, _, _, _, _, _, _, _, hlt⟩ := q
  exact hlt
theorem SetI.lt {w : World} {F : Nat → Prop} {g : Nat} {xs : List Int} (s : SetI w F g xs) : ∀ k, F k → k < w.heap.size := by
  obtain ⟨mv, v, _, _, _, _, _, hlt⟩ := s
  exact hlt
theorem SetS.lt {w : World} {F : Nat → Prop} {g : Nat} {xs : List (List UInt8)} (s : SetS w F g xs) : ∀ k, F k → k < w.heap.size := by
  obtain ⟨mv, v, _, _, _, _, _, hlt⟩ := s
  exact hlt

theorem Step.below {F F' : Nat → Prop} {w w' : World} {B : Nat} (s : Step F w w' F') (hB : B ≤ w.heap.size) (hF : ∀ k, F k → B ≤ k) : Below B w w' := s.keeps.below hB hF
theorem Step.from {F F' : Nat → Prop} {w w' : World} {B : Nat} (s : Step F w w' F') (hB : B ≤ w.heap.size) (hF : ∀ k, F k → B ≤ k) : ∀ k, F' k → B ≤ k := fun k hk => (s.gains k hk).elim (hF k) (fun h => Nat.le_trans hB h)
theorem Step.apart {F F' G : Nat → Prop} {w w' : World} (s : Step F w w' F') (hd : ∀ k, G k → ¬ F k) (hG : ∀ k, G k → k < w.heap.size) : ∀ k, G k → ¬ F' k := fun k hk h =>
  (s.gains k h).elim (hd k hk) (fun h2 => by have := hG k hk; omega)
theorem Keeps.of_alloc (w : World) (o : Obj) : Keeps (fun _ => False) w (w.alloc o) := (Keeps.refl _ _).alloc o

set_option maxHeartbeats 4000000 in
set_option maxRecDepth 100000 in
theorem awake_c (w : World) : Calls Try.prog 11 #[] w fun e w' => e = .returned (.bool true) ∧ Below w.heap.size w w' := by
  have K1 : Aside (Below w.heap.size w (w.alloc (.cells #[.slice none 0 0, .int .i64 0] 24))) := ⟨(Below.refl _ _).alloc (Nat.le_refl _) _⟩
  have Q1 := Aside.mk (qu_new w)
  have B1 : Aside (∀ k, k = w.heap.size → w.heap.size ≤ k) := ⟨fun k h => by omega⟩
  go_enter Try.func11, Try.ntmps11
  go_wp2_with fail
  refine (push_c Q1.out _ (by decide)).mono ?_
  rintro e w2 ⟨rfl, F2, q2, s2⟩
  have K2 := Aside.mk (K1.out.trans (s2.below K1.out.size B1.out))
  have B2 := Aside.mk (s2.from K1.out.size B1.out)
  have Q2 := Aside.mk q2
  clear q2 s2
  go_wp2_with fail
  refine (push_c Q2.out _ (by decide)).mono ?_
  rintro e w3 ⟨rfl, F3, q3, s3⟩
  have K3 := Aside.mk (K2.out.trans (s3.below K2.out.size B2.out))
  have B3 := Aside.mk (s3.from K2.out.size B2.out)
  have Q3 : Aside (Qu w3 F3 w.heap.size 2 [1, 2]) := ⟨q3⟩
  clear q3 s3
  go_wp2_with fail
  refine (pop_some Q3.out (by decide)).mono ?_
  rintro e w4 ⟨rfl, F4, q4, s4⟩
  have K4 := Aside.mk (K3.out.trans (s4.below K3.out.size B3.out))
  have B4 := Aside.mk (s4.from K3.out.size B3.out)
  have Q5 : Aside (Qu (w4.alloc (.cells #[.map none, .slice none 0 0] 34)) F4 w.heap.size 2 [2]) := ⟨q4.kept (Keeps.of_alloc _ _) (fun _ _ f => f)⟩
  have A5 : Aside (∀ k, F4 k → ¬ k = w4.heap.size) := ⟨fun k hk => by have := q4.lt k hk; omega⟩
  have K5 : Aside (Below w.heap.size w (w4.alloc (.cells #[.map none, .slice none 0 0] 34))) := ⟨K4.out.alloc K4.out.size _⟩
  have S5 := Aside.mk (setI_new w4)
  have C5 : Aside (∀ k, k = w4.heap.size → w.heap.size ≤ k) := ⟨fun k h => by have := K4.out.size; omega⟩
  clear q4 s4
  go_wp2_with fail
  refine (addI S5.out (x := 3) (by unfold okI; decide) (by decide)).mono ?_
  rintro e w6 ⟨rfl, F6, s6, t6⟩
  have S6 : Aside (SetI w6 F6 w4.heap.size [3]) := ⟨s6⟩
  have K6 := Aside.mk (K5.out.trans (t6.below K5.out.size C5.out))
  have C6 := Aside.mk (t6.from K5.out.size C5.out)
  have A6 := Aside.mk (t6.apart A5.out Q5.out.lt)
  have Q6 := Aside.mk (Q5.out.kept t6.keeps A5.out)
  clear s6 t6
  go_wp2_with fail
  refine (addI S6.out (x := 3) (by unfold okI; decide) (by decide)).mono ?_
  rintro e w7 ⟨rfl, F7, s7, t7⟩
  have S7 : Aside (SetI w7 F7 w4.heap.size [3]) := ⟨s7⟩
  have K7 := Aside.mk (K6.out.trans (t7.below K6.out.size C6.out))
  have Q7 := Aside.mk (Q6.out.kept t7.keeps A6.out)
  clear s7 t7
  go_wp2_with fail
  refine (qlen_c Q7.out (by decide)).mono ?_
  rintro e w8 ⟨rfl, nd, rfl⟩
  have S8 : Aside (SetI (w7.drewN nd) F7 w4.heap.size [3]) := ⟨S7.out⟩
  have K8 : Aside (Below w.heap.size w (w7.drewN nd)) := ⟨K7.out.trans ⟨rfl, rfl, rfl, Nat.le_refl _, fun _ _ => rfl⟩⟩
  go_wp2_with fail
  refine (hasI S8.out (x := 3) (by unfold okI; decide)).mono ?_
  rintro e w' ⟨rfl, rfl⟩
  go_wp2_with fail
  refine (lenI S8.out).mono ?_
  rintro e w' ⟨rfl, rfl⟩
  go_wp2
  go_ret
  exact ⟨rfl, K8.out⟩

end Go.Proofs.Ytnhjnbbdeilmbaa.Hand
