/- A set of texts as the program lays it, and what Has, Add and Len do to it. -/
import Derived.Test.YtnhjnbbdeilmbaaPop
import Derived.Maps.Own
import Derived.Maps.OwnSet
import Derived.Maps.OwnOps
import Derived.Maps.Views
import Derived.WalkSpells
import Derived.Carry
namespace Go.Proofs.Ytnhjnbbdeilmbaa.Hand
open Go.RowKit Go.Maps

theorem TinfoS : (Try.prog.info? 9).map (fun i => (i.zero, i.size, i.bytes)) = some (some (.string ByteArray.empty), 1, 16) := by kernel_rfl
theorem lawS : Keyed Try.prog 9 := string_keyed Try.underlying9
/-- What a key may be, how it lies, how it reads. -/
def okS (x : (List UInt8)) : Prop := x.length ≤ maxLen
def encS (x : (List UInt8)) : Value := .string ⟨x.toArray⟩
def litS (x : (List UInt8)) : Lit := .string x
theorem keyS {x : (List UInt8)} (h : okS x) : keyOf Try.prog 9 (encS x) = some (litS x) := by
  unfold keyOf
  simp only [Try.underlying9]
  unfold mapKey encS litS
  simp only [Try.underlying9]
  exact if_pos (by unfold okS at h; show x.toArray.size ≤ maxLen; simpa using h)
theorem litS_inj {x y : (List UInt8)} (h : litS x = litS y) : x = y := by
  unfold litS at h; injection h
theorem isKeyS (x : (List UInt8)) : WideAt.IsKeyLit (litS x) := trivial

/-- The map of a set. -/
def MapS (w : World) (F : Nat → Prop) (mv : Option Nat) (xs : List (List UInt8)) : Prop :=
  (mv = none ∧ xs = []) ∨ ∃ (b : Nat) (D : DataW Unit), mv = some b ∧ F b ∧ w.ownsMap Try.prog 9 (plainElem Try.prog 4) b xs.length D ∧
    ∀ x, D.atKey (litS x) (.lit (.bool false)) = .lit (.bool (decide (x ∈ xs)))

/-- Block g is a set of xs, in their order; F: the blocks that are its own. -/
def SetS (w : World) (F : Nat → Prop) (g : Nat) (xs : List (List UInt8)) : Prop :=
  ∃ mv v, w.heap[g]? = some (.cells #[.map mv, v] 38 (0, 0)) ∧ F g ∧ MapS w F mv xs ∧ w.ownsRow 0 9 1 v xs.length (xs.map encS) ∧ (∀ k, v.ownBlock = some k → F k ∧ k ≠ g) ∧ ∀ k, F k → k < w.heap.size

def insS (xs : List (List UInt8)) (x : (List UInt8)) : List (List UInt8) := if x ∈ xs then xs else xs ++ [x]
def AddedS (w : World) (F : Nat → Prop) (g : Nat) (xs : List (List UInt8)) (x : (List UInt8)) (e : Ending) (w' : World) : Prop :=
  e = .returned (.bool (!decide (x ∈ xs))) ∧ ∃ F', SetS w' F' g (insS xs x) ∧ Step F w w' F'

theorem zeroS (w : World) : (zeroValue 4).run Try.prog w = .ok (.bool false) w := by kernel_rfl

/-- What a look-up tells. -/
theorem lookS {w : World} {F : Nat → Prop} {mv : Option Nat} {xs : List (List UInt8)} (h : MapS w F mv xs) {x : (List UInt8)} (hx : okS x) :
    (Instr.lookup 35 (.map mv) (encS x) false).run Try.prog w = .ok (.bool (decide (x ∈ xs))) w := by
  rcases h with ⟨rfl, rfl⟩ | ⟨b, D, rfl, _, ho, hD⟩
  · have := Maps.look_nil (w := w) (P := Try.prog) (t := 35) (e := 4) false lawS Try.underlying35 (zeroS w) (keyS hx)
    simpa using this
  · obtain ⟨v, ps, hrun, hv⟩ := ho.lookup lawS Try.underlying35 (zeroS w) (plainElem_bool Try.underlying4 false) (keyS hx)
    rw [hD x] at hv
    unfold plainElem at hv
    simp only [Try.underlying4] at hv
    cases v <;> simp at hv
    rename_i y
    rw [hrun, hv.1]

theorem lenS {w : World} {F : Nat → Prop} {g : Nat} {xs : List (List UInt8)} (s : SetS w F g xs) : Calls Try.prog 15 #[.pointer (some ⟨g, 0, none⟩)] w fun e w' => e = .returned (.int .i64 (xs.length : Nat)) ∧ w = w' := by
  obtain ⟨mv, v, hg, hF, hm, ho, hv, hlt⟩ := s
  have hform : ∃ A c, v = .slice A xs.length c := by
    rcases ho.2 with ⟨rfl, h0⟩ | ⟨q, cap, cur, rfl, _⟩
    · exact ⟨none, 0, by rw [h0]⟩
    · exact ⟨_, _, rfl⟩
  obtain ⟨A, c, rfl⟩ := hform
  have hc1 : w.cell? ⟨g, 1, none⟩ = some (.slice A xs.length c) := by rw [cell_of_row _ _ 1 _ _ _ hg]; rfl
  clear hg hF hm ho hv hlt
  go_enter Try.func15, Try.ntmps15
  go_wp2
  go_ret
  exact ⟨rfl, rfl⟩

theorem hasS {w : World} {F : Nat → Prop} {g : Nat} {xs : List (List UInt8)} (s : SetS w F g xs) {x : (List UInt8)} (hx : okS x) :
    Calls Try.prog 24 #[.pointer (some ⟨g, 0, none⟩), .string ⟨x.toArray⟩] w fun e w' => e = .returned (.bool (decide (x ∈ xs))) ∧ w = w' := by
  obtain ⟨mv, v, hg, hF, hm, ho, hv, hlt⟩ := s
  have hc0 : w.cell? ⟨g, 0, none⟩ = some (.map mv) := by rw [cell_of_row _ _ 0 _ _ _ hg]; rfl
  have hl := lookS hm hx
  unfold encS at hl
  clear hg hF hm ho hv hlt
  generalize decide (x ∈ xs) = d at *
  go_enter Try.func24, Try.ntmps24
  go_wp2
  go_ret
  exact ⟨rfl, rfl⟩

theorem inS_put {D : DataW Unit} (hD : IsMap D) {xs : List (List UInt8)} {x : (List UInt8)} (h : ∀ y, D.atKey (litS y) (.lit (.bool false)) = .lit (.bool (decide (y ∈ xs)))) :
    ∀ y, (D.put (litS x) (.lit (.bool true))).atKey (litS y) (.lit (.bool false)) = .lit (.bool (decide (y ∈ xs ++ [x]))) := fun y => by
  by_cases e : y = x
  · subst e
    rw [atKey_put_same hD (isKeyS y)]
    simp
  · rw [atKey_put_other (fun e' => e (litS_inj e')), h y]
    simp [e]

/-- Behind the steps of Add: the map is turned (block b), the order has gained one, the set's own block is written. -/
theorem addedS {w wm w1 : World} {F : Nat → Prop} {g b g2 cap : Nat} {v : Value} {xs : List (List UInt8)} {x : (List UInt8)} {D : DataW Unit} {o : Obj} (hx : ¬ x ∈ xs) (hF : F g) (hlt : ∀ k, F k → k < w.heap.size) (hv : ∀ k, v.ownBlock = some k → F k ∧ k ≠ g)
    (hb : F b ∨ w.heap.size ≤ b) (hk : Keeps F w wm) (hgm : wm.heap[g]? = some (.cells #[.map (some b), v] 38 (0, 0))) (hov : wm.ownsRow 0 9 1 v xs.length (xs.map encS))
    (hm : wm.ownsMap Try.prog 9 (plainElem Try.prog 4) b (xs.length + 1) D) (hD : ∀ y, D.atKey (litS y) (.lit (.bool false)) = .lit (.bool (decide (y ∈ xs ++ [x]))))
    (ho : w1.ownsRow 0 9 1 (.slice (some ⟨g2, 0, none⟩) (xs.length + 1) cap) (xs.length + 1) (xs.map encS ++ [encS x])) (hgr : (wm.alloc o).grownBy w1 v.ownBlock) (hat : v.ownBlock = some g2 ∨ g2 = (wm.alloc o).heap.size) (hlt2 : g2 < w1.heap.size) :
    AddedS w F g xs x (.returned (.bool true)) (w1.setCell ⟨g, 1, none⟩ (.slice (some ⟨g2, 0, none⟩) (xs.length + 1) cap)) := by
  have hgl := hlt g hF
  have hsz := hk.size
  have hg2 : F g2 ∨ w.heap.size ≤ g2 := by
    rcases hat with h | h
    · exact .inl (hv g2 h).1
    · right; rw [h]; simp; omega
  have hg2g : g2 ≠ g := by
    rcases hat with h | h
    · exact (hv g2 h).2
    · intro e; rw [e] at h; simp at h; omega
  have hbl := hm.lt
  have hbg : b ≠ g := fun e => by
    obtain ⟨es, cl, hbm, _⟩ := hm
    rw [e, hgm] at hbm
    cases hbm
  have hvb : some b ≠ v.ownBlock := fun e => by
    obtain ⟨es, cl, hbm, _⟩ := hm
    rcases hov.2 with ⟨rfl, _⟩ | ⟨q, c', cur, rfl, _, hq, _⟩
    · cases e
    · have e3 := Option.some.inj e
      rw [e3] at hbm
      rw [show w.heap.size = w.heap.size from rfl] at hsz
      have : wm.heap[q]? = some (.map es cl) := hbm
      rw [hq] at this
      cases this
  have hgm' : (wm.alloc o).heap[g]? = some (.cells #[.map (some b), v] 38 (0, 0)) := (Below.heap_alloc _ _ _ (by omega)).trans hgm
  have hb1 := (hgr.block g (by simp; omega) (fun e => (hv g e.symm).2 rfl)).trans hgm'
  have hm1 := ((hm.alloc o).kept hgr hvb).setCell (a := ⟨g, 1, none⟩) hbg (.slice (some ⟨g2, 0, none⟩) (xs.length + 1) cap)
  have hkk : Keeps F w (w1.setCell ⟨g, 1, none⟩ (.slice (some ⟨g2, 0, none⟩) (xs.length + 1) cap)) := ((hk.alloc o).grown hgr (fun k e => (hv k e).1)).setCell (p := ⟨g, 1, none⟩) hF _
  have hlen : (xs ++ [x]).length = xs.length + 1 := by simp
  have hgs := hgr.size
  simp at hgs
  refine ⟨by simp [hx], fun k => F k ∨ k = b ∨ k = g2, ?_, hkk, ?_⟩
  · unfold insS
    rw [if_neg hx]
    refine ⟨some b, .slice (some ⟨g2, 0, none⟩) (xs.length + 1) cap, heap_set hb1 1 _, .inl hF, .inr ⟨b, D, rfl, .inr (.inl rfl), ?_, hD⟩, ?_, ?_, ?_⟩
    · rw [hlen]; exact hm1
    · rw [hlen, List.map_append]
      refine owned_mono ho (fun k hk => ?_)
      simp [Value.ownBlock] at hk
      subst hk
      exact Below.heap_setCell _ _ _ _ hg2g
    · intro k hk
      simp [Value.ownBlock] at hk
      subst hk
      exact ⟨.inr (.inr rfl), hg2g⟩
    · intro k hk
      simp
      rcases hk with h | rfl | rfl
      · have := hlt k h; omega
      · omega
      · exact hlt2
  · intro k hk
    rcases hk with h | rfl | rfl
    · exact .inl h
    · exact hb
    · exact hg2

set_option maxHeartbeats 4000000 in
theorem addOldS {w : World} {F : Nat → Prop} {g : Nat} {xs : List (List UInt8)} (s : SetS w F g xs) {x : (List UInt8)} (hx : okS x) (hin : x ∈ xs) :
    Calls Try.prog 13 #[.pointer (some ⟨g, 0, none⟩), .string ⟨x.toArray⟩] w (AddedS w F g xs x) := by
  have S := Aside.mk s
  have HX := Aside.mk hx
  have hd : Aside (decide (x ∈ xs) = true) := ⟨decide_eq_true hin⟩
  have HF : Aside (AddedS w F g xs x (.returned (.bool false)) w) := ⟨⟨by rw [hd.out]; rfl, F, by unfold insS; rw [if_pos hin]; exact s, Step.refl _ _⟩⟩
  clear s hx hin
  go_enter Try.func13, Try.ntmps13
  go_wp2_with (go_at_call 24; (with_reducible refine (hasS S.out HX.out).mono ?_); rintro e w' ⟨rfl, rfl⟩; rw [hd.out])
  go_ret
  exact HF.out

set_option maxHeartbeats 4000000 in
theorem addNewS {w : World} {F : Nat → Prop} {g : Nat} {xs : List (List UInt8)} (s : SetS w F g xs) {x : (List UInt8)} (hx : okS x) (hin : ¬ x ∈ xs) (hl : xs.length < 1000000) :
    Calls Try.prog 13 #[.pointer (some ⟨g, 0, none⟩), .string ⟨x.toArray⟩] w (AddedS w F g xs x) := by
  have S := Aside.mk s
  obtain ⟨mv, v, hg, hF, hm, ho, hv, hlt⟩ := s
  obtain ⟨i0, hi, hz0, hz1, hz2⟩ := info_parts TinfoS
  have HX := Aside.mk hx
  have HIN := Aside.mk hin
  have hd : Aside (decide (x ∈ xs) = false) := ⟨decide_eq_false hin⟩
  have HV := Aside.mk hv
  have HF := Aside.mk hF
  have HL := Aside.mk hlt
  have HG := Aside.mk hg
  have HO := Aside.mk ho
  have hgl := (Array.getElem?_eq_some_iff.1 hg).1
  have c0 : w.cell? ⟨g, 0, none⟩ = some (.map mv) := by rw [cell_of_row _ _ 0 _ _ _ hg]; rfl
  have hq : ∀ (w : World) (r : Option Nat), (binOp .eql 35 (.map r) (.map none)).run Try.prog w = .ok (.bool r.isNone) w := fun w r => run_eql_map_nil w _ _ _ r Try.underlying35
  rcases hm with ⟨rfl, rfl⟩ | ⟨b, D, rfl, hbF, hom, hD⟩
  · have hmm := @run_makeMap Try.prog
    have f0 : w.frozen? ⟨g, 0, none⟩ = false := by simp [World.frozen?, hg]
    have hown : ((w.setCell ⟨g, 0, none⟩ (.map (some w.heap.size))).alloc (.map #[] 0)).ownsMap (H := Unit) Try.prog 9 (plainElem Try.prog 4) w.heap.size 0 (.map []) := by
      have := World.ownsMap_made (H := Unit) (w.setCell ⟨g, 0, none⟩ (.map (some w.heap.size))) Try.prog 9 (plainElem Try.prog 4)
      rwa [World.size_setCell] at this
    have HGR2 : ∀ w2, ((w.setCell ⟨g, 0, none⟩ (.map (some w.heap.size))).alloc (.map #[] 0)).grownBy w2 (some w.heap.size) →
        w2.heap[g]? = some (.cells #[.map (some w.heap.size), v] 38 (0, 0)) ∧ w2.ownsRow 0 9 1 v 0 ([].map encS) ∧ Keeps F w w2 := fun w2 hgr => by
      have hb1 := (hgr.block g (by simp; omega) (by simp; omega)).trans ((Below.heap_alloc _ _ _ (by simp; omega)).trans (heap_set HG.out 0 (.map (some w.heap.size))))
      refine ⟨hb1, owned_mono HO.out (fun k hk => ?_), ?_⟩
      · obtain ⟨hkF, hkg⟩ := HV.out k hk
        have hkl := HL.out k hkF
        rw [hgr.block k (by simp; omega) (by simp; omega), Below.heap_alloc _ _ _ (by simp; omega), Below.heap_setCell _ _ _ _ hkg]
      · have hkk : Keeps (fun k => F k ∨ w.heap.size ≤ k) w w2 := ((((Keeps.refl _ w).setCell (S := fun k => F k ∨ w.heap.size ≤ k) (p := ⟨g, 0, none⟩) (.inl HF.out) _).alloc (.map #[] 0)).grown hgr (fun k e => by right; simp at e; omega))
        exact ⟨hkk.os, hkk.tape, hkk.output, hkk.size, fun k hk hn => hkk.block k hk (fun h => h.elim hn (fun h => by omega))⟩
    have HI := Aside.mk (inS_put (xs := []) (x := x) ⟨[], rfl⟩ (D := (.map [] : DataW Unit)) (fun y => by simp [DataW.atKey]))
    clear hg hF ho hv hlt hx hin
    go_enter Try.func13, Try.ntmps13
    go_wp2_with (first
      | (go_at_call 24; (with_reducible refine (hasS S.out HX.out).mono ?_); rintro e w' ⟨rfl, rfl⟩; rw [hd.out])
      | (at_mapUpdate; refine wpList_mapUpdate_own _ rfl _ _ _ 35 rfl 9 4 lawS Try.underlying35 (plainElem Try.prog 4) _ _ _ rfl hown (by unfold maxLen; omega) _ _ _ rfl rfl (keyS HX.out) _ [] (plainElem_bool Try.underlying4 true) ?_; intro w2 hown2 hgrow2; have HM2 := Aside.mk hown2; have gm := HGR2 w2 hgrow2; have GM := Aside.mk gm.1; have OM := Aside.mk gm.2.1; have KM := Aside.mk gm.2.2; have c1 : w2.cell? ⟨g, 1, none⟩ = some v := (by rw [cell_of_row _ _ 1 _ _ _ gm.1]; rfl); have ho2 := gm.2.1; clear hown2 hgrow2 gm)
      | (at_builtin; refine wpList_append_lies _ rfl _ _ 36 rfl 0 9 i0 (.string ByteArray.empty) 1 16 Try.underlying36 hi hz0 hz1 hz2 rfl (by decide) v _ _ rfl (ho2.alloc _) ⟨w2.heap.size, 0, none⟩ 1 1 [.string ⟨x.toArray⟩] rfl rfl (cell_one_new _ _ _) (fun x hx => by simp at hx; subst hx; rfl) (by decide) (by unfold maxLen; omega) (by omega) (Nat.zero_le _) _ rfl ?_; intro g2 cap w3 hown3 hgrow3 hat hlt3; have HO3 := Aside.mk hown3; have HGR3 := Aside.mk hgrow3; have HAT := Aside.mk hat; have hb3 := (hgrow3.block g (by simp; have := KM.out.size; omega) (fun e => (HV.out g e.symm).2 rfl)).trans ((Below.heap_alloc _ _ _ (by have := KM.out.size; omega)).trans GM.out); have c3 : w3.cell? ⟨g, 1, none⟩ = some v := (by rw [cell_of_row _ _ 1 _ _ _ hb3]; rfl); have f3 : w3.frozen? ⟨g, 1, none⟩ = false := (by simp [World.frozen?, hb3]); clear hown3 hgrow3 hat hb3))
    go_ret
    exact addedS HIN.out HF.out HL.out HV.out (.inr (Nat.le_refl _)) KM.out GM.out OM.out HM2.out HI.out HO3.out HGR3.out HAT.out hlt3
  · have hown := hom
    have hbg : b ≠ g := fun e => by
      obtain ⟨es, cl, hbm, _⟩ := hom
      rw [e, hg] at hbm
      cases hbm
    have hvb : ∀ k, v.ownBlock = some k → k ≠ b := fun k e1 e2 => by
      obtain ⟨es, cl, hbm, _⟩ := hom
      rcases ho.2 with ⟨rfl, _⟩ | ⟨q, c', cur, rfl, _, hq, _⟩
      · cases e1
      · have e3 : q = k := Option.some.inj e1
        rw [e3, e2, hbm] at hq
        cases hq
    have HGR2 : ∀ w2, w.grownBy w2 (some b) → w2.heap[g]? = some (.cells #[.map (some b), v] 38 (0, 0)) ∧ w2.ownsRow 0 9 1 v xs.length (xs.map encS) ∧ Keeps F w w2 := fun w2 hgr => by
      refine ⟨(hgr.block g hgl (fun e => hbg (Option.some.inj e).symm)).trans HG.out, owned_mono HO.out (fun k hk => ?_), (Keeps.refl F w).grown hgr (fun k e => by rw [← Option.some.inj e]; exact hbF)⟩
      exact hgr.block k (HL.out k (HV.out k hk).1) (fun e => hvb k hk (Option.some.inj e))
    have HI := Aside.mk (inS_put (x := x) (hom.isMap) hD)
    have HB := Aside.mk hbF
    clear hg hF ho hv hlt hx hin hD hom hvb hbF
    go_enter Try.func13, Try.ntmps13
    go_wp2_with (first
      | (go_at_call 24; (with_reducible refine (hasS S.out HX.out).mono ?_); rintro e w' ⟨rfl, rfl⟩; rw [hd.out])
      | (at_mapUpdate; refine wpList_mapUpdate_own _ rfl _ _ _ 35 rfl 9 4 lawS Try.underlying35 (plainElem Try.prog 4) _ _ _ rfl hown (by unfold maxLen; omega) _ _ _ rfl rfl (keyS HX.out) _ [] (plainElem_bool Try.underlying4 true) ?_; intro w2 hown2 hgrow2; have HM2 := Aside.mk hown2; have gm := HGR2 w2 hgrow2; have GM := Aside.mk gm.1; have OM := Aside.mk gm.2.1; have KM := Aside.mk gm.2.2; have c1 : w2.cell? ⟨g, 1, none⟩ = some v := (by rw [cell_of_row _ _ 1 _ _ _ gm.1]; rfl); have ho2 := gm.2.1; clear hown2 hgrow2 gm)
      | (at_builtin; refine wpList_append_lies _ rfl _ _ 36 rfl 0 9 i0 (.string ByteArray.empty) 1 16 Try.underlying36 hi hz0 hz1 hz2 rfl (by decide) v _ _ rfl (ho2.alloc _) ⟨w2.heap.size, 0, none⟩ 1 1 [.string ⟨x.toArray⟩] rfl rfl (cell_one_new _ _ _) (fun x hx => by simp at hx; subst hx; rfl) (by decide) (by unfold maxLen; omega) (by omega) (Nat.zero_le _) _ rfl ?_; intro g2 cap w3 hown3 hgrow3 hat hlt3; have HO3 := Aside.mk hown3; have HGR3 := Aside.mk hgrow3; have HAT := Aside.mk hat; have hb3 := (hgrow3.block g (by simp; have := KM.out.size; omega) (fun e => (HV.out g e.symm).2 rfl)).trans ((Below.heap_alloc _ _ _ (by have := KM.out.size; omega)).trans GM.out); have c3 : w3.cell? ⟨g, 1, none⟩ = some v := (by rw [cell_of_row _ _ 1 _ _ _ hb3]; rfl); have f3 : w3.frozen? ⟨g, 1, none⟩ = false := (by simp [World.frozen?, hb3]); clear hown3 hgrow3 hat hb3))
    go_ret
    exact addedS HIN.out HF.out HL.out HV.out (.inl HB.out) KM.out GM.out OM.out HM2.out HI.out HO3.out HGR3.out HAT.out hlt3

theorem addS {w : World} {F : Nat → Prop} {g : Nat} {xs : List (List UInt8)} (s : SetS w F g xs) {x : (List UInt8)} (hx : okS x) (hl : xs.length < 1000000) :
    Calls Try.prog 13 #[.pointer (some ⟨g, 0, none⟩), .string ⟨x.toArray⟩] w (AddedS w F g xs x) := by
  by_cases hin : x ∈ xs
  · exact addOldS s hx hin
  · exact addNewS s hx hin hl

end Go.Proofs.Ytnhjnbbdeilmbaa.Hand
