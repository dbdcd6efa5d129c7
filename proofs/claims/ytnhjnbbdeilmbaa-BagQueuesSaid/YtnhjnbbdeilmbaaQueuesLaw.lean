/- The law of queues: for every list (the law takes the first 100), no further condition. -/
import Derived.Test.YtnhjnbbdeilmbaaQueued
namespace Go.Proofs.Ytnhjnbbdeilmbaa.Hand
open Go.RowKit

theorem Qu.up {w : World} {F : Nat → Prop} {g m : Nat} {xs : List Int} (q : Qu w F g m xs) : Qu w F g (m + 1) xs := by
  obtain ⟨v, n, f, cs, hg, hF, ho, hv, hf, hn, hx, hlt⟩ := q
  exact ⟨v, n, f, cs, hg, hF, ho, hv, hf, by omega, hx, hlt⟩
theorem Qu.length {w : World} {F : Nat → Prop} {g m : Nat} {xs : List Int} (q : Qu w F g m xs) : xs.length ≤ m := by
  obtain ⟨v, n, f, cs, hg, hF, ho, hv, hf, hn, hx, hlt⟩ := q
  rw [← hx, List.length_drop, owned_len ho]; omega

/-- A queue and a list beside it. -/
structure QL (w : World) (B g m : Nat) (xs : List Int) (v : Value) (cs : List Int) : Prop where
  out : ∃ F, Qu w F g m xs ∧ (∀ k, F k → B ≤ k) ∧ Lst w B F v cs
theorem QL.kept {w w' : World} {B g m : Nat} {xs cs : List Int} {v : Value} (t : QL w B g m xs v cs) (k : Keeps (fun _ => False) w w') : QL w' B g m xs v cs := by
  obtain ⟨F, s, hF, l⟩ := t.out
  exact ⟨F, s.kept k (fun _ _ f => f), hF, l.kept (k.mono (fun _ f => f.elim))⟩
theorem ql_new (w : World) : QL (w.alloc (.cells #[.slice none 0 0, .int .i64 0] 24)) w.heap.size w.heap.size 0 [] (.slice none 0 0) [] :=
  ⟨_, qu_new w, fun k h => by omega, Lst.nil _ _ _⟩
theorem QL.up {w : World} {B g m : Nat} {xs cs : List Int} {v : Value} (t : QL w B g m xs v cs) : QL w B g (m + 1) xs v cs := by
  obtain ⟨F, s, r⟩ := t.out
  exact ⟨F, s.up, r⟩
theorem QL.length {w : World} {B g m : Nat} {xs cs : List Int} {v : Value} (t : QL w B g m xs v cs) : xs.length ≤ m := by
  obtain ⟨F, s, r⟩ := t.out
  exact s.length
def GaveQ (w : World) (B g m : Nat) (xs : List Int) (v : Value) (cs : List Int) (r : Array Value) (e : Ending) (w' : World) : Prop :=
  e = .returned (.tuple r) ∧ QL w' B g m xs v cs ∧ Below B w w'
theorem pushQ {w : World} {B g m : Nat} {xs cs : List Int} {v : Value} (t : QL w B g m xs v cs) (hB : B ≤ w.heap.size) (x : Int) (hm : m < 1000000) :
    Calls Try.prog 8 #[.pointer (some ⟨g, 0, none⟩), .int .i64 x] w (GaveQ w B g (m + 1) (xs ++ [x]) v cs #[]) := by
  obtain ⟨F, s, hF, l⟩ := t.out
  refine (push_c s x hm).mono ?_
  rintro e w' ⟨rfl, F', s', st⟩
  exact ⟨rfl, ⟨F', s', st.from hB hF, l.step st⟩, st.below hB hF⟩
theorem popQ0 {w : World} {B g m : Nat} {cs : List Int} {v : Value} (t : QL w B g m [] v cs) (hB : B ≤ w.heap.size) (hm : m ≤ 1000000) :
    Calls Try.prog 9 #[.pointer (some ⟨g, 0, none⟩)] w (GaveQ w B g m [] v cs #[.int .i64 0, .bool false]) := by
  obtain ⟨F, s, hF, l⟩ := t.out
  refine (pop_none s hm).mono ?_
  rintro e w' ⟨rfl, F', s', st⟩
  exact ⟨rfl, ⟨F', s', st.from hB hF, l.step st⟩, st.below hB hF⟩
theorem popQ1 {w : World} {B g m : Nat} {y : Int} {ys cs : List Int} {v : Value} (t : QL w B g m (y :: ys) v cs) (hB : B ≤ w.heap.size) (hm : m ≤ 1000000) :
    Calls Try.prog 9 #[.pointer (some ⟨g, 0, none⟩)] w (GaveQ w B g m ys v cs #[.int .i64 y, .bool true]) := by
  obtain ⟨F, s, hF, l⟩ := t.out
  refine (pop_some s hm).mono ?_
  rintro e w' ⟨rfl, F', s', st⟩
  exact ⟨rfl, ⟨F', s', st.from hB hF, l.step st⟩, st.below hB hF⟩
theorem lenQ {w : World} {B g m : Nat} {xs cs : List Int} {v : Value} (t : QL w B g m xs v cs) (hm : m ≤ 1000000) :
    Calls Try.prog 10 #[.pointer (some ⟨g, 0, none⟩)] w fun e w' => e = .returned (.int .i64 (xs.length : Nat)) ∧ ∃ n, w' = w.drewN n := by
  obtain ⟨F, s, r⟩ := t.out
  exact qlen_c s hm
theorem QL.row {w : World} {B g m : Nat} {xs cs : List Int} {v : Value} (t : QL w B g m xs v cs) : w.ownsRow 0 3 1 v cs.length (nums cs) := by
  obtain ⟨F, _, _, l⟩ := t.out
  exact l.1
theorem QL.reads {w : World} {B g m : Nat} {xs cs : List Int} {v : Value} (t : QL w B g m xs v cs) : ∃ A c, v = .slice A cs.length c ∧ Reads w A cs := reads_own t.row
theorem QL.lt {w : World} {B g m n c : Nat} {xs cs : List Int} {A : Option Addr} (t : QL w B g m xs (.slice A n c) cs) : ∀ b, A = some ⟨b, 0, none⟩ → b < w.heap.size := fun b e => by
  obtain ⟨F, _, _, l⟩ := t.out
  subst e
  exact (l.2 b rfl).2.2
theorem QL.app {w w1 : World} {B g m : Nat} {xs cs : List Int} {v : Value} {x : Int} {o : Obj} {g2 cap : Nat} (t : QL w B g m xs v cs) (hB : B ≤ w.heap.size)
    (ho : w1.ownsRow 0 3 1 (.slice (some ⟨g2, 0, none⟩) (cs.length + 1) cap) (cs.length + 1) (nums cs ++ [.int .i64 x])) (hgr : (w.alloc o).grownBy w1 v.ownBlock) (hat : v.ownBlock = some g2 ∨ g2 = (w.alloc o).heap.size) (hlt2 : g2 < w1.heap.size) :
    QL w1 B g m xs (.slice (some ⟨g2, 0, none⟩) (cs.length + 1) cap) (cs ++ [x]) ∧ Below B w w1 := by
  obtain ⟨F, s, hF, l⟩ := t.out
  obtain ⟨l', k⟩ := l.app hB s.lt ho hgr hat hlt2
  exact ⟨⟨F, s.kept k (fun j hj e => (l.2 j e).2.1 hj), hF, l'⟩, k.below hB (fun j e => (l.2 j e).1)⟩
theorem based {w : World} {b n : Nat} {v : Value} {xs : List Value} (h : w.ownsRow b 3 1 v n xs) : w.ownsRow 0 3 1 v n xs ∧ ∀ k, v.ownBlock = some k → b ≤ k ∧ k < w.heap.size := by
  refine ⟨⟨h.1, ?_⟩, ?_⟩
  · rcases h.2 with hn | ⟨q, cap, cur, hv, hb', hh, r⟩
    · exact .inl hn
    · exact .inr ⟨q, cap, cur, hv, Nat.zero_le _, hh, r⟩
  · intro k hk
    rcases h.2 with hn | ⟨q, cap, cur, hv, hb', hh, r⟩
    · rw [hn.1] at hk; simp [Value.ownBlock] at hk
    · rw [hv] at hk
      simp [Value.ownBlock] at hk
      subst hk
      exact ⟨hb', (Array.getElem?_eq_some_iff.1 hh).1⟩
/-- A new list in the old one's place. -/
theorem QL.other {w w' : World} {B g m : Nat} {xs cs ds : List Int} {v v' : Value} (t : QL w B g m xs v cs) (hB : B ≤ w.heap.size) (ho : w'.ownsRow w.heap.size 3 1 v' ds.length (nums ds)) (hb : Below w.heap.size w w') : QL w' B g m xs v' ds := by
  obtain ⟨F, s, hF, l⟩ := t.out
  obtain ⟨h0, h1⟩ := based ho
  exact ⟨F, s.kept (keeps_of_below hb) (fun _ _ f => f), hF, h0, fun k hk => ⟨by have := (h1 k hk).1; omega, fun hf => by have := s.lt k hf; have := (h1 k hk).1; omega, (h1 k hk).2⟩⟩
theorem queuedQ {w : World} {B g m : Nat} {xs cs : List Int} {v : Value} (t : QL w B g m xs v cs) (hm : m ≤ 1000) :
    Calls Try.prog 17 #[.pointer (some ⟨g, 0, none⟩)] w fun e w' => ∃ v', e = .returned (.tuple #[v', .bool true]) ∧ w'.ownsRow w.heap.size 3 1 v' xs.length (nums xs) ∧ Below w.heap.size w w' := by
  have hl := t.length
  obtain ⟨F, s, r⟩ := t.out
  exact queued_c s (by omega) (by omega)
theorem app_below {W w1 : World} {n₀ k : Nat} {v : Value} {xs : List Value} {tmp : Obj} (hrow : W.ownsRow n₀ 3 1 v k xs) (hn₀ : n₀ ≤ W.heap.size) (hgrow : (W.alloc tmp).grownBy w1 v.ownBlock) : Below n₀ W w1 := by
  refine ((Below.refl n₀ W).alloc hn₀ tmp).grown hgrow (by simp; omega) fun j ej => ?_
  exact ((based hrow).2 j ej).1

set_option maxHeartbeats 4000000 in
theorem without_c (A : Option Addr) (c : Nat) (l : List Int) (w : World) (hr : Reads w A l) (hAb : ∀ b, A = some ⟨b, 0, none⟩ → b < w.heap.size) (hm : l.length ≤ 1000000) :
    Calls Try.prog 16 #[.slice A l.length c] w fun e w' => ∃ v', e = .returned v' ∧ w'.ownsRow w.heap.size 3 1 v' (l.drop 1).length (nums (l.drop 1)) ∧ Below w.heap.size w w' := by
  have HR := Aside.mk hr
  have HA := Aside.mk hAb
  obtain ⟨i0, hi, hz0, hz1, hz2⟩ := info_parts Tinfo3
  have hdl : (l.drop 1).length = l.length - 1 := List.length_drop
  have HRD : Aside (∀ j, rdl (l.drop 1) j = rdl l (j + 1)) := ⟨fun j => by rw [rdl_drop, Nat.add_comm]⟩
  generalize l.drop 1 = d at *
  clear hr hAb
  go_enter Try.func16, Try.ntmps16
  go_wp2
  go_loopw [3, 4] (fun v i wr => ∃ j : Nat, j ≤ d.length ∧ i = .int .i64 ((j + 1 : Nat) : Int) ∧ Aside (wr.ownsRow w.heap.size 3 1 v j (nums (d.take j))) ∧ Aside (Below w.heap.size w wr)) (fun v i _ => d.length + 1 - (intOf i).toNat)
  case atStart => exact ⟨0, Nat.zero_le _, rfl, ⟨by rw [List.take_zero]; exact World.ownsRow_nil _ _ _ _⟩, ⟨Below.refl _ _⟩⟩
  case round =>
    obtain ⟨j, hj, rfl, HO, K⟩ := hrel
    by_cases hlt : j < d.length
    · obtain ⟨b, rfl, hc⟩ := HR.out (j + 1) (by omega)
      have hbl := HA.out b rfl
      rw [← HRD.out] at hc
      have hc1 := (K.out.cell (p := ⟨b, j + 1, none⟩) hbl).trans hc
      have ho2 := HO.out
      have hsz := K.out.size
      have hjl : j + 1 < l.length := by omega
      have HT : Aside (d.take (j + 1) = d.take j ++ [rdl d j]) := ⟨take_snoc' d j hlt⟩
      clear hc
      obtain ⟨q, hq⟩ : ∃ q : Nat, j + 1 = q := ⟨_, rfl⟩
      rw [hq] at hc1 hjl ⊢
      go_wp2_with (first
        | (at_builtin; refine wpList_append_lies _ rfl _ _ 22 rfl w.heap.size 3 i0 (.int .i64 0) 1 8 Try.underlying22 hi hz0 hz1 hz2 rfl (by decide) _ _ _ rfl (ho2.alloc _) ⟨wr.heap.size, 0, none⟩ 1 1 [.int .i64 (rdl d j)] rfl rfl (cell_one_new _ _ _) (fun x hx => by simp at hx; subst hx; rfl) (by decide) (by unfold maxLen; omega) (by omega) (by simp; omega) _ rfl ?_; intro g2 cap w3 hown3 hgrow3 hat hlt3; have HO3 := Aside.mk hown3; have K3 := Aside.mk (K.out.trans (app_below HO.out hsz hgrow3)); clear hown3 hgrow3 hat))
      go_roundw
      case rel => exact ⟨j + 1, by omega, by go_num, ⟨by rw [HT.out, nums_snoc]; have h3 := HO3.out; rw [hq] at h3 ⊢; exact h3⟩, K3⟩
      case measure => simp [intOf]; omega
    · obtain rfl : j = d.length := by omega
      have ho2 := HO.out
      rw [List.take_length] at ho2
      have HO2 := Aside.mk ho2
      have hge : l.length ≤ d.length + 1 := by omega
      clear hlt hj ho2
      go_wp2
      go_ret
      exact ⟨_, rfl, HO2.out, K.out⟩

set_option maxHeartbeats 16000000 in
set_option maxRecDepth 100000 in
theorem queueslaw_c (a : Option Addr) (len cap : Nat) (z : List Int) (w : World) (hz : IsRow .i64 w a len cap z) :
    Calls Try.prog 5 #[.slice a len cap] w fun e w' => e = .returned (.bool true) ∧ Below w.heap.size w w' := by
  obtain ⟨hlen, hcap, hmax, hcell, hwf⟩ := hz
  obtain ⟨i0, hi, hz0, hz1, hz2⟩ := info_parts Tinfo3
  unfold maxLen at hmax
  have HC := Aside.mk hcell
  have T0 := Aside.mk (ql_new w)
  have K0 : Aside (Below w.heap.size w (w.alloc (.cells #[.slice none 0 0, .int .i64 0] 24))) := ⟨(Below.refl _ _).alloc (Nat.le_refl _) _⟩
  clear hlen hcell hwf
  go_enter Try.func5, Try.ntmps5
  go_wp2_with fail
  go_loopw [4, 5] (fun v i wr => ∃ (k : Nat) (xs : List Int), k ≤ len ∧ k ≤ 100 ∧ i = .int .i64 k ∧ Aside (QL wr w.heap.size w.heap.size k xs v xs) ∧ Aside (Below w.heap.size w wr)) (fun v i _ => 100 - (intOf i).toNat)
  case atStart => exact ⟨0, [], Nat.zero_le _, Nat.zero_le _, rfl, T0, K0⟩
  case round =>
    obtain ⟨k, xs, hk, hk2, rfl, T, K⟩ := hrel
    by_cases hlt : k < len ∧ k < 100
    · obtain ⟨hlt, hlt2⟩ := hlt
      obtain ⟨b, o, rfl, hb, c0⟩ := HC.out k hlt
      have c1 := (K.out.cell (p := ⟨b, o + k, none⟩) hb).trans c0
      by_cases hneg : rdl z k < 0
      · cases xs with
        | nil =>
          obtain ⟨A, c, rfl, hR⟩ := T.out.reads
          go_wp2_with fail
          refine (popQ0 T.out K.out.size (by omega)).mono ?_
          rintro e w2 ⟨rfl, t2, k2⟩
          have T2 := Aside.mk t2
          have K2 := Aside.mk (K.out.trans k2)
          have LTA := Aside.mk (QL.lt T2.out)
          clear t2 k2 hR
          go_wp2_with fail
          refine (without_c _ _ [] _ (fun j hj => by simp at hj) (fun b e => LTA.out b e) (by simp)).mono ?_
          rintro e w3 ⟨v3, rfl, o3, k3⟩
          have T3 : Aside (QL w3 w.heap.size w.heap.size k [] v3 []) := ⟨T2.out.other K2.out.size o3 k3⟩
          have K3 := Aside.mk (K2.out.trans (k3.mono K2.out.size))
          clear o3 k3
          go_wp2_with fail
          refine (queuedQ T3.out (by omega)).mono ?_
          rintro e w5 ⟨v5, rfl, o5, k5⟩
          have T5 := Aside.mk (T3.out.kept (keeps_of_below k5))
          have K5 := Aside.mk (K3.out.trans (k5.mono K3.out.size))
          obtain ⟨A5, c5, rfl, hR5⟩ := reads_own o5
          obtain ⟨A6, c6, rfl, hR6⟩ := T5.out.reads
          have H5 := Aside.mk hR5
          have H6 := Aside.mk hR6
          have hl5 := T5.out.length
          clear o5 k5 hR5 hR6
          go_wp2_with fail
          refine (same_c A5 A6 c5 c6 [] _ H5.out H6.out (by omega)).mono ?_
          rintro e w6 ⟨rfl, n6, rfl⟩
          have T6 : Aside (QL (w5.drewN n6) w.heap.size w.heap.size k [] (.slice A6 ([]).length c6) []) := ⟨T5.out.kept ((Keeps.refl _ _).drewN n6)⟩
          have K6 : Aside (Below w.heap.size w (w5.drewN n6)) := ⟨K5.out.trans ⟨rfl, rfl, rfl, Nat.le_refl _, fun _ _ => rfl⟩⟩
          generalize w5.drewN n6 = W6 at T6 K6 ⊢
          go_wp2_with fail
          refine (lenQ T6.out (by omega)).mono ?_
          rintro e w7 ⟨rfl, n7, rfl⟩
          have T7 : Aside (QL (W6.drewN n7) w.heap.size w.heap.size k [] (.slice A6 ([]).length c6) []) := ⟨T6.out.kept ((Keeps.refl _ _).drewN n7)⟩
          have K7 : Aside (Below w.heap.size w (W6.drewN n7)) := ⟨K6.out.trans ⟨rfl, rfl, rfl, Nat.le_refl _, fun _ _ => rfl⟩⟩
          generalize W6.drewN n7 = W7 at T7 K7 ⊢
          go_wp2_with fail
          go_roundw
          case rel => exact ⟨k + 1, [], by omega, by omega, by go_num, ⟨T7.out.up⟩, K7⟩
          case measure => simp [intOf]; omega
        | cons y ys =>
          obtain ⟨A, c, rfl, hR⟩ := T.out.reads
          clear hR
          go_wp2_with fail
          refine (popQ1 T.out K.out.size (by omega)).mono ?_
          rintro e w2 ⟨rfl, t2, k2⟩
          have T2 := Aside.mk t2
          have K2 := Aside.mk (K.out.trans k2)
          obtain ⟨A', c', hAc, hR⟩ := t2.reads
          obtain ⟨rfl, _, rfl⟩ : A = A' ∧ True ∧ c = c' := by injection hAc with h1 h2 h3; exact ⟨h1, trivial, h3⟩
          obtain ⟨q0, rfl, hc0⟩ := hR 0 (by simp)
          replace hc0 : w2.cell? ⟨q0, 0, none⟩ = some (.int .i64 y) := hc0
          have hyl : (y :: ys).length = ys.length + 1 := rfl
          have hl1 := T2.out.length
          have LTA := Aside.mk (QL.lt T2.out)
          have H2 := Aside.mk hR
          clear t2 k2 hR hAc
          go_wp2_with fail
          refine (without_c _ _ (y :: ys) _ H2.out (fun b e => LTA.out b e) (by simp; omega)).mono ?_
          rintro e w3 ⟨v3, rfl, o3, k3⟩
          have T3 : Aside (QL w3 w.heap.size w.heap.size k ys v3 ys) := ⟨T2.out.other K2.out.size o3 k3⟩
          have K3 := Aside.mk (K2.out.trans (k3.mono K2.out.size))
          clear o3 k3
          go_wp2_with fail
          refine (queuedQ T3.out (by omega)).mono ?_
          rintro e w5 ⟨v5, rfl, o5, k5⟩
          have T5 := Aside.mk (T3.out.kept (keeps_of_below k5))
          have K5 := Aside.mk (K3.out.trans (k5.mono K3.out.size))
          obtain ⟨A5, c5, rfl, hR5⟩ := reads_own o5
          obtain ⟨A6, c6, rfl, hR6⟩ := T5.out.reads
          have H5 := Aside.mk hR5
          have H6 := Aside.mk hR6
          have hl5 := T5.out.length
          clear o5 k5 hR5 hR6
          go_wp2_with fail
          refine (same_c A5 A6 c5 c6 ys _ H5.out H6.out (by omega)).mono ?_
          rintro e w6 ⟨rfl, n6, rfl⟩
          have T6 : Aside (QL (w5.drewN n6) w.heap.size w.heap.size k ys (.slice A6 (ys).length c6) ys) := ⟨T5.out.kept ((Keeps.refl _ _).drewN n6)⟩
          have K6 : Aside (Below w.heap.size w (w5.drewN n6)) := ⟨K5.out.trans ⟨rfl, rfl, rfl, Nat.le_refl _, fun _ _ => rfl⟩⟩
          generalize w5.drewN n6 = W6 at T6 K6 ⊢
          go_wp2_with fail
          refine (lenQ T6.out (by omega)).mono ?_
          rintro e w7 ⟨rfl, n7, rfl⟩
          have T7 : Aside (QL (W6.drewN n7) w.heap.size w.heap.size k ys (.slice A6 (ys).length c6) ys) := ⟨T6.out.kept ((Keeps.refl _ _).drewN n7)⟩
          have K7 : Aside (Below w.heap.size w (W6.drewN n7)) := ⟨K6.out.trans ⟨rfl, rfl, rfl, Nat.le_refl _, fun _ _ => rfl⟩⟩
          generalize W6.drewN n7 = W7 at T7 K7 ⊢
          go_wp2_with fail
          go_roundw
          case rel => exact ⟨k + 1, ys, by omega, by omega, by go_num, ⟨T7.out.up⟩, K7⟩
          case measure => simp [intOf]; omega
      · have hneg' : 0 ≤ rdl z k := by omega
        clear hneg
        go_wp2_with fail
        refine (pushQ T.out K.out.size _ (by omega)).mono ?_
        rintro e w2 ⟨rfl, t2, k2⟩
        have T2 := Aside.mk t2
        have K2 := Aside.mk (K.out.trans k2)
        have ho2 := t2.row
        have hl2 : xs.length ≤ k := T.out.length
        have c2 := (K2.out.cell (p := ⟨b, o + k, none⟩) hb).trans c0
        clear t2 k2
        go_wp2_with (first
          | (at_builtin; refine wpList_append_lies _ rfl _ _ 22 rfl 0 3 i0 (.int .i64 0) 1 8 Try.underlying22 hi hz0 hz1 hz2 rfl (by decide) _ _ _ rfl (ho2.alloc _) ⟨w2.heap.size, 0, none⟩ 1 1 [.int .i64 (rdl z k)] rfl rfl (cell_one_new _ _ _) (fun x hx => by simp at hx; subst hx; rfl) (by decide) (by unfold maxLen; omega) (by omega) (Nat.zero_le _) _ rfl ?_; intro g2 cap w3 hown3 hgrow3 hat hlt3; have gk := T2.out.app K2.out.size hown3 hgrow3 hat hlt3; have T3 := Aside.mk gk.1; have K3 := Aside.mk (K2.out.trans gk.2); clear hown3 hgrow3 hat gk))
        obtain ⟨ds, hds⟩ : ∃ ds, xs ++ [rdl z k] = ds := ⟨_, rfl⟩
        have hdl : ds.length = xs.length + 1 := by rw [← hds]; simp
        rw [hds, ← hdl] at T3
        rw [← hdl]
        clear hds hdl
        go_wp2_with fail
        refine (queuedQ T3.out (by omega)).mono ?_
        rintro e w5 ⟨v5, rfl, o5, k5⟩
        have T5 := Aside.mk (T3.out.kept (keeps_of_below k5))
        have K5 := Aside.mk (K3.out.trans (k5.mono K3.out.size))
        obtain ⟨A5, c5, rfl, hR5⟩ := reads_own o5
        obtain ⟨A6, c6, h6, hR6⟩ := T5.out.reads
        injection h6 with h61 h62 h63
        subst h61
        subst h63
        clear h62
        have H5 := Aside.mk hR5
        have H6 := Aside.mk hR6
        have hl5 := T5.out.length
        clear o5 k5 hR5 hR6
        go_wp2_with fail
        refine (same_c A5 (some ⟨g2, 0, none⟩) c5 cap ds _ H5.out H6.out (by omega)).mono ?_
        rintro e w6 ⟨rfl, n6, rfl⟩
        have T6 : Aside (QL (w5.drewN n6) w.heap.size w.heap.size (k + 1) ds (.slice (some ⟨g2, 0, none⟩) ds.length cap) ds) := ⟨T5.out.kept ((Keeps.refl _ _).drewN n6)⟩
        have K6 : Aside (Below w.heap.size w (w5.drewN n6)) := ⟨K5.out.trans ⟨rfl, rfl, rfl, Nat.le_refl _, fun _ _ => rfl⟩⟩
        generalize w5.drewN n6 = W6 at T6 K6 ⊢
        go_wp2_with fail
        refine (lenQ T6.out (by omega)).mono ?_
        rintro e w7 ⟨rfl, n7, rfl⟩
        have T7 : Aside (QL (W6.drewN n7) w.heap.size w.heap.size (k + 1) ds (.slice (some ⟨g2, 0, none⟩) ds.length cap) ds) := ⟨T6.out.kept ((Keeps.refl _ _).drewN n7)⟩
        have K7 : Aside (Below w.heap.size w (W6.drewN n7)) := ⟨K6.out.trans ⟨rfl, rfl, rfl, Nat.le_refl _, fun _ _ => rfl⟩⟩
        generalize W6.drewN n7 = W7 at T7 K7 ⊢
        go_wp2_with fail
        go_roundw
        case rel => exact ⟨k + 1, ds, by omega, by omega, by go_num, T7, K7⟩
        case measure => simp [intOf]; omega
    · by_cases hkl : k < len
      all_goals
        first
          | (have hd60 : (100 : Int) ≤ (k : Int) := by omega)
          | skip
        clear hlt
        go_wp2_with fail
        refine (awake_c _).mono ?_
        rintro e w4 ⟨rfl, b4⟩
        have K4 := Aside.mk (K.out.trans (b4.mono K.out.size))
        clear b4
        go_wp2
        go_ret
        exact ⟨rfl, K4.out⟩

end Go.Proofs.Ytnhjnbbdeilmbaa.Hand
