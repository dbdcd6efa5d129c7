/- A set of numbers as the program lays it, and what Has, Add and Len do to it. -/
import Derived.Test.YtnhjnbbdeilmbaaPop
import Derived.Maps.Own
import Derived.Maps.OwnSet
import Derived.Maps.OwnOps
import Derived.Maps.Views
import Derived.WalkSpells
import Derived.Carry
namespace Go.Proofs.Ytnhjnbbdeilmbaa.Hand
open Go.RowKit Go.Maps

theorem TinfoI : (Try.prog.info? 3).map (fun i => (i.zero, i.size, i.bytes)) = some (some (.int .i64 0), 1, 8) := by kernel_rfl
theorem lawI : Keyed Try.prog 3 := int_keyed Try.underlying3
/-- What a key may be, how it lies, how it reads. -/
def okI (x : Int) : Prop := (Lit.int .i64 x).wf = true
def encI (x : Int) : Value := .int .i64 x
def litI (x : Int) : Lit := .int .i64 x
theorem keyI {x : Int} (h : okI x) : keyOf Try.prog 3 (encI x) = some (litI x) := by
  unfold keyOf
  simp only [Try.underlying3]
  unfold mapKey encI litI
  simp only [Try.underlying3]
  exact if_pos (by unfold okI at h; simpa using h)
theorem litI_inj {x y : Int} (h : litI x = litI y) : x = y := by
  unfold litI at h; injection h
theorem isKeyI (x : Int) : WideAt.IsKeyLit (litI x) := trivial

/-- The map of a set. -/
def MapI (w : World) (F : Nat → Prop) (mv : Option Nat) (xs : List Int) : Prop :=
  (mv = none ∧ xs = []) ∨ ∃ (b : Nat) (D : DataW Unit), mv = some b ∧ F b ∧ w.ownsMap Try.prog 3 (plainElem Try.prog 4) b xs.length D ∧
    ∀ x, D.atKey (litI x) (.lit (.bool false)) = .lit (.bool (decide (x ∈ xs)))

/-- Block g is a set of xs, in their order; F: the blocks that are its own. -/
def SetI (w : World) (F : Nat → Prop) (g : Nat) (xs : List Int) : Prop :=
  ∃ mv v, w.heap[g]? = some (.cells #[.map mv, v] 34 (0, 0)) ∧ F g ∧ MapI w F mv xs ∧ w.ownsRow 0 3 1 v xs.length (xs.map encI) ∧ (∀ k, v.ownBlock = some k → F k ∧ k ≠ g) ∧ ∀ k, F k → k < w.heap.size

def insI (xs : List Int) (x : Int) : List Int := if x ∈ xs then xs else xs ++ [x]
def AddedI (w : World) (F : Nat → Prop) (g : Nat) (xs : List Int) (x : Int) (e : Ending) (w' : World) : Prop :=
  e = .returned (.bool (!decide (x ∈ xs))) ∧ ∃ F', SetI w' F' g (insI xs x) ∧ Step F w w' F'

theorem zeroI (w : World) : (zeroValue 4).run Try.prog w = .ok (.bool false) w := by kernel_rfl

/-- What a look-up tells. -/
theorem lookI {w : World} {F : Nat → Prop} {mv : Option Nat} {xs : List Int} (h : MapI w F mv xs) {x : Int} (hx : okI x) :
    (Instr.lookup 32 (.map mv) (encI x) false).run Try.prog w = .ok (.bool (decide (x ∈ xs))) w := by
  rcases h with ⟨rfl, rfl⟩ | ⟨b, D, rfl, _, ho, hD⟩
  · have := Maps.look_nil (w := w) (P := Try.prog) (t := 32) (e := 4) false lawI Try.underlying32 (zeroI w) (keyI hx)
    simpa using this
  · obtain ⟨v, ps, hrun, hv⟩ := ho.lookup lawI Try.underlying32 (zeroI w) (plainElem_bool Try.underlying4 false) (keyI hx)
    rw [hD x] at hv
    unfold plainElem at hv
    simp only [Try.underlying4] at hv
    cases v <;> simp at hv
    rename_i y
    rw [hrun, hv.1]

theorem lenI {w : World} {F : Nat → Prop} {g : Nat} {xs : List Int} (s : SetI w F g xs) : Calls Try.prog 14 #[.pointer (some ⟨g, 0, none⟩)] w fun e w' => e = .returned (.int .i64 (xs.length : Nat)) ∧ w = w' := by
  obtain ⟨mv, v, hg, hF, hm, ho, hv, hlt⟩ := s
  have hform : ∃ A c, v = .slice A xs.length c := by
    rcases ho.2 with ⟨rfl, h0⟩ | ⟨q, cap, cur, rfl, _⟩
    · exact ⟨none, 0, by rw [h0]⟩
    · exact ⟨_, _, rfl⟩
  obtain ⟨A, c, rfl⟩ := hform
  have hc1 : w.cell? ⟨g, 1, none⟩ = some (.slice A xs.length c) := by rw [cell_of_row _ _ 1 _ _ _ hg]; rfl
  clear hg hF hm ho hv hlt
  go_enter Try.func14, Try.ntmps14
  go_wp2
  go_ret
  exact ⟨rfl, rfl⟩

theorem hasI {w : World} {F : Nat → Prop} {g : Nat} {xs : List Int} (s : SetI w F g xs) {x : Int} (hx : okI x) :
    Calls Try.prog 20 #[.pointer (some ⟨g, 0, none⟩), .int .i64 x] w fun e w' => e = .returned (.bool (decide (x ∈ xs))) ∧ w = w' := by
  obtain ⟨mv, v, hg, hF, hm, ho, hv, hlt⟩ := s
  have hc0 : w.cell? ⟨g, 0, none⟩ = some (.map mv) := by rw [cell_of_row _ _ 0 _ _ _ hg]; rfl
  have hl := lookI hm hx
  unfold encI at hl
  clear hg hF hm ho hv hlt
  generalize decide (x ∈ xs) = d at *
  go_enter Try.func20, Try.ntmps20
  go_wp2
  go_ret
  exact ⟨rfl, rfl⟩

theorem inI_put {D : DataW Unit} (hD : IsMap D) {xs : List Int} {x : Int} (h : ∀ y, D.atKey (litI y) (.lit (.bool false)) = .lit (.bool (decide (y ∈ xs)))) :
    ∀ y, (D.put (litI x) (.lit (.bool true))).atKey (litI y) (.lit (.bool false)) = .lit (.bool (decide (y ∈ xs ++ [x]))) := fun y => by
  by_cases e : y = x
  · subst e
    rw [atKey_put_same hD (isKeyI y)]
    simp
  · rw [atKey_put_other (fun e' => e (litI_inj e')), h y]
    simp [e]

/-- Behind the steps of Add: the map is turned (block b), the order has gained one, the set's own block is written. -/
theorem addedI {w wm w1 : World} {F : Nat → Prop} {g b g2 cap : Nat} {v : Value} {xs : List Int} {x : Int} {D : DataW Unit} {o : Obj} (hx : ¬ x ∈ xs) (hF : F g) (hlt : ∀ k, F k → k < w.heap.size) (hv : ∀ k, v.ownBlock = some k → F k ∧ k ≠ g)
    (hb : F b ∨ w.heap.size ≤ b) (hk : Keeps F w wm) (hgm : wm.heap[g]? = some (.cells #[.map (some b), v] 34 (0, 0))) (hov : wm.ownsRow 0 3 1 v xs.length (xs.map encI))
    (hm : wm.ownsMap Try.prog 3 (plainElem Try.prog 4) b (xs.length + 1) D) (hD : ∀ y, D.atKey (litI y) (.lit (.bool false)) = .lit (.bool (decide (y ∈ xs ++ [x]))))
    (ho : w1.ownsRow 0 3 1 (.slice (some ⟨g2, 0, none⟩) (xs.length + 1) cap) (xs.length + 1) (xs.map encI ++ [encI x])) (hgr : (wm.alloc o).grownBy w1 v.ownBlock) (hat : v.ownBlock = some g2 ∨ g2 = (wm.alloc o).heap.size) (hlt2 : g2 < w1.heap.size) :
    AddedI w F g xs x (.returned (.bool true)) (w1.setCell ⟨g, 1, none⟩ (.slice (some ⟨g2, 0, none⟩) (xs.length + 1) cap)) := by
  have hgl := hlt g hF
  have hsz := hk.size
  have hg2 : F g2 ∨ w.heap.size ≤ g2 := by
    rcases hat with h | h
    · exact .inl (hv g2 h).1
    · right; rw [h]; simp; omega
  have hg2g : g2 ≠ g := by
    rcases hat with h | h
    · exact (hv g2 h).2
    · intro e; rw [e] at h; simp at h; omega
  have hbl := hm.lt
  have hbg : b ≠ g := fun e => by
    obtain ⟨es, cl, hbm, _⟩ := hm
    rw [e, hgm] at hbm
    cases hbm
  have hvb : some b ≠ v.ownBlock := fun e => by
    obtain ⟨es, cl, hbm, _⟩ := hm
    rcases hov.2 with ⟨rfl, _⟩ | ⟨q, c', cur, rfl, _, hq, _⟩
    · cases e
    · have e3 := Option.some.inj e
      rw [e3] at hbm
      rw [show w.heap.size = w.heap.size from rfl] at hsz
      have : wm.heap[q]? = some (.map es cl) := hbm
      rw [hq] at this
      cases this
  have hgm' : (wm.alloc o).heap[g]? = some (.cells #[.map (some b), v] 34 (0, 0)) := (Below.heap_alloc _ _ _ (by omega)).trans hgm
  have hb1 := (hgr.block g (by simp; omega) (fun e => (hv g e.symm).2 rfl)).trans hgm'
  have hm1 := ((hm.alloc o).kept hgr hvb).setCell (a := ⟨g, 1, none⟩) hbg (.slice (some ⟨g2, 0, none⟩) (xs.length + 1) cap)
  have hkk : Keeps F w (w1.setCell ⟨g, 1, none⟩ (.slice (some ⟨g2, 0, none⟩) (xs.length + 1) cap)) := ((hk.alloc o).grown hgr (fun k e => (hv k e).1)).setCell (p := ⟨g, 1, none⟩) hF _
  have hlen : (xs ++ [x]).length = xs.length + 1 := by simp
  have hgs := hgr.size
  simp at hgs
  refine ⟨by simp [hx], fun k => F k ∨ k = b ∨ k = g2, ?_, hkk, ?_⟩
  · unfold insI
    rw [if_neg hx]
    refine ⟨some b, .slice (some ⟨g2, 0, none⟩) (xs.length + 1) cap, heap_set hb1 1 _, .inl hF, .inr ⟨b, D, rfl, .inr (.inl rfl), ?_, hD⟩, ?_, ?_, ?_⟩
    · rw [hlen]; exact hm1
    · rw [hlen, List.map_append]
      refine owned_mono ho (fun k hk => ?_)
      simp [Value.ownBlock] at hk
      subst hk
      exact Below.heap_setCell _ _ _ _ hg2g
    · intro k hk
      simp [Value.ownBlock] at hk
      subst hk
      exact ⟨.inr (.inr rfl), hg2g⟩
    · intro k hk
      simp
      rcases hk with h | rfl | rfl
      · have := hlt k h; omega
      · omega
      · exact hlt2
  · intro k hk
    rcases hk with h | rfl | rfl
    · exact .inl h
    · exact hb
    · exact hg2

set_option maxHeartbeats 4000000 in
theorem addOldI {w : World} {F : Nat → Prop} {g : Nat} {xs : List Int} (s : SetI w F g xs) {x : Int} (hx : okI x) (hin : x ∈ xs) :
    Calls Try.prog 12 #[.pointer (some ⟨g, 0, none⟩), .int .i64 x] w (AddedI w F g xs x) := by
  have S := Aside.mk s
  have HX := Aside.mk hx
  have hd : Aside (decide (x ∈ xs) = true) := ⟨decide_eq_true hin⟩
  have HF : Aside (AddedI w F g xs x (.returned (.bool false)) w) := ⟨⟨by rw [hd.out]; rfl, F, by unfold insI; rw [if_pos hin]; exact s, Step.refl _ _⟩⟩
  clear s hx hin
  go_enter Try.func12, Try.ntmps12
  go_wp2_with (go_at_call 20; (with_reducible refine (hasI S.out HX.out).mono ?_); rintro e w' ⟨rfl, rfl⟩; rw [hd.out])
  go_ret
  exact HF.out

set_option maxHeartbeats 4000000 in
theorem addNewI {w : World} {F : Nat → Prop} {g : Nat} {xs : List Int} (s : SetI w F g xs) {x : Int} (hx : okI x) (hin : ¬ x ∈ xs) (hl : xs.length < 1000000) :
    Calls Try.prog 12 #[.pointer (some ⟨g, 0, none⟩), .int .i64 x] w (AddedI w F g xs x) := by
  have S := Aside.mk s
  obtain ⟨mv, v, hg, hF, hm, ho, hv, hlt⟩ := s
  obtain ⟨i0, hi, hz0, hz1, hz2⟩ := info_parts TinfoI
  have HX := Aside.mk hx
  have HIN := Aside.mk hin
  have hd : Aside (decide (x ∈ xs) = false) := ⟨decide_eq_false hin⟩
  have HV := Aside.mk hv
  have HF := Aside.mk hF
  have HL := Aside.mk hlt
  have HG := Aside.mk hg
  have HO := Aside.mk ho
  have hgl := (Array.getElem?_eq_some_iff.1 hg).1
  have c0 : w.cell? ⟨g, 0, none⟩ = some (.map mv) := by rw [cell_of_row _ _ 0 _ _ _ hg]; rfl
  have hq : ∀ (w : World) (r : Option Nat), (binOp .eql 32 (.map r) (.map none)).run Try.prog w = .ok (.bool r.isNone) w := fun w r => run_eql_map_nil w _ _ _ r Try.underlying32
  rcases hm with ⟨rfl, rfl⟩ | ⟨b, D, rfl, hbF, hom, hD⟩
  · have hmm := @run_makeMap Try.prog
    have f0 : w.frozen? ⟨g, 0, none⟩ = false := by simp [World.frozen?, hg]
    have hown : ((w.setCell ⟨g, 0, none⟩ (.map (some w.heap.size))).alloc (.map #[] 0)).ownsMap (H := Unit) Try.prog 3 (plainElem Try.prog 4) w.heap.size 0 (.map []) := by
      have := World.ownsMap_made (H := Unit) (w.setCell ⟨g, 0, none⟩ (.map (some w.heap.size))) Try.prog 3 (plainElem Try.prog 4)
      rwa [World.size_setCell] at this
    have HGR2 : ∀ w2, ((w.setCell ⟨g, 0, none⟩ (.map (some w.heap.size))).alloc (.map #[] 0)).grownBy w2 (some w.heap.size) →
        w2.heap[g]? = some (.cells #[.map (some w.heap.size), v] 34 (0, 0)) ∧ w2.ownsRow 0 3 1 v 0 ([].map encI) ∧ Keeps F w w2 := fun w2 hgr => by
      have hb1 := (hgr.block g (by simp; omega) (by simp; omega)).trans ((Below.heap_alloc _ _ _ (by simp; omega)).trans (heap_set HG.out 0 (.map (some w.heap.size))))
      refine ⟨hb1, owned_mono HO.out (fun k hk => ?_), ?_⟩
      · obtain ⟨hkF, hkg⟩ := HV.out k hk
        have hkl := HL.out k hkF
        rw [hgr.block k (by simp; omega) (by simp; omega), Below.heap_alloc _ _ _ (by simp; omega), Below.heap_setCell _ _ _ _ hkg]
      · have hkk : Keeps (fun k => F k ∨ w.heap.size ≤ k) w w2 := ((((Keeps.refl _ w).setCell (S := fun k => F k ∨ w.heap.size ≤ k) (p := ⟨g, 0, none⟩) (.inl HF.out) _).alloc (.map #[] 0)).grown hgr (fun k e => by right; simp at e; omega))
        exact ⟨hkk.os, hkk.tape, hkk.output, hkk.size, fun k hk hn => hkk.block k hk (fun h => h.elim hn (fun h => by omega))⟩
    have HI := Aside.mk (inI_put (xs := []) (x := x) ⟨[], rfl⟩ (D := (.map [] : DataW Unit)) (fun y => by simp [DataW.atKey]))
    clear hg hF ho hv hlt hx hin
    go_enter Try.func12, Try.ntmps12
    go_wp2_with (first
      | (go_at_call 20; (with_reducible refine (hasI S.out HX.out).mono ?_); rintro e w' ⟨rfl, rfl⟩; rw [hd.out])
      | (at_mapUpdate; refine wpList_mapUpdate_own _ rfl _ _ _ 32 rfl 3 4 lawI Try.underlying32 (plainElem Try.prog 4) _ _ _ rfl hown (by unfold maxLen; omega) _ _ _ rfl rfl (keyI HX.out) _ [] (plainElem_bool Try.underlying4 true) ?_; intro w2 hown2 hgrow2; have HM2 := Aside.mk hown2; have gm := HGR2 w2 hgrow2; have GM := Aside.mk gm.1; have OM := Aside.mk gm.2.1; have KM := Aside.mk gm.2.2; have c1 : w2.cell? ⟨g, 1, none⟩ = some v := (by rw [cell_of_row _ _ 1 _ _ _ gm.1]; rfl); have ho2 := gm.2.1; clear hown2 hgrow2 gm)
      | (at_builtin; refine wpList_append_lies _ rfl _ _ 22 rfl 0 3 i0 (.int .i64 0) 1 8 Try.underlying22 hi hz0 hz1 hz2 rfl (by decide) v _ _ rfl (ho2.alloc _) ⟨w2.heap.size, 0, none⟩ 1 1 [.int .i64 x] rfl rfl (cell_one_new _ _ _) (fun x hx => by simp at hx; subst hx; rfl) (by decide) (by unfold maxLen; omega) (by omega) (Nat.zero_le _) _ rfl ?_; intro g2 cap w3 hown3 hgrow3 hat hlt3; have HO3 := Aside.mk hown3; have HGR3 := Aside.mk hgrow3; have HAT := Aside.mk hat; have hb3 := (hgrow3.block g (by simp; have := KM.out.size; omega) (fun e => (HV.out g e.symm).2 rfl)).trans ((Below.heap_alloc _ _ _ (by have := KM.out.size; omega)).trans GM.out); have c3 : w3.cell? ⟨g, 1, none⟩ = some v := (by rw [cell_of_row _ _ 1 _ _ _ hb3]; rfl); have f3 : w3.frozen? ⟨g, 1, none⟩ = false := (by simp [World.frozen?, hb3]); clear hown3 hgrow3 hat hb3))
    go_ret
    exact addedI HIN.out HF.out HL.out HV.out (.inr (Nat.le_refl _)) KM.out GM.out OM.out HM2.out HI.out HO3.out HGR3.out HAT.out hlt3
  · have hown := hom
    have hbg : b ≠ g := fun e => by
      obtain ⟨es, cl, hbm, _⟩ := hom
      rw [e, hg] at hbm
      cases hbm
    have hvb : ∀ k, v.ownBlock = some k → k ≠ b := fun k e1 e2 => by
      obtain ⟨es, cl, hbm, _⟩ := hom
      rcases ho.2 with ⟨rfl, _⟩ | ⟨q, c', cur, rfl, _, hq, _⟩
      · cases e1
      · have e3 : q = k := Option.some.inj e1
        rw [e3, e2, hbm] at hq
        cases hq
    have HGR2 : ∀ w2, w.grownBy w2 (some b) → w2.heap[g]? = some (.cells #[.map (some b), v] 34 (0, 0)) ∧ w2.ownsRow 0 3 1 v xs.length (xs.map encI) ∧ Keeps F w w2 := fun w2 hgr => by
      refine ⟨(hgr.block g hgl (fun e => hbg (Option.some.inj e).symm)).trans HG.out, owned_mono HO.out (fun k hk => ?_), (Keeps.refl F w).grown hgr (fun k e => by rw [← Option.some.inj e]; exact hbF)⟩
      exact hgr.block k (HL.out k (HV.out k hk).1) (fun e => hvb k hk (Option.some.inj e))
    have HI := Aside.mk (inI_put (x := x) (hom.isMap) hD)
    have HB := Aside.mk hbF
    clear hg hF ho hv hlt hx hin hD hom hvb hbF
    go_enter Try.func12, Try.ntmps12
    go_wp2_with (first
      | (go_at_call 20; (with_reducible refine (hasI S.out HX.out).mono ?_); rintro e w' ⟨rfl, rfl⟩; rw [hd.out])
      | (at_mapUpdate; refine wpList_mapUpdate_own _ rfl _ _ _ 32 rfl 3 4 lawI Try.underlying32 (plainElem Try.prog 4) _ _ _ rfl hown (by unfold maxLen; omega) _ _ _ rfl rfl (keyI HX.out) _ [] (plainElem_bool Try.underlying4 true) ?_; intro w2 hown2 hgrow2; have HM2 := Aside.mk hown2; have gm := HGR2 w2 hgrow2; have GM := Aside.mk gm.1; have OM := Aside.mk gm.2.1; have KM := Aside.mk gm.2.2; have c1 : w2.cell? ⟨g, 1, none⟩ = some v := (by rw [cell_of_row _ _ 1 _ _ _ gm.1]; rfl); have ho2 := gm.2.1; clear hown2 hgrow2 gm)
      | (at_builtin; refine wpList_append_lies _ rfl _ _ 22 rfl 0 3 i0 (.int .i64 0) 1 8 Try.underlying22 hi hz0 hz1 hz2 rfl (by decide) v _ _ rfl (ho2.alloc _) ⟨w2.heap.size, 0, none⟩ 1 1 [.int .i64 x] rfl rfl (cell_one_new _ _ _) (fun x hx => by simp at hx; subst hx; rfl) (by decide) (by unfold maxLen; omega) (by omega) (Nat.zero_le _) _ rfl ?_; intro g2 cap w3 hown3 hgrow3 hat hlt3; have HO3 := Aside.mk hown3; have HGR3 := Aside.mk hgrow3; have HAT := Aside.mk hat; have hb3 := (hgrow3.block g (by simp; have := KM.out.size; omega) (fun e => (HV.out g e.symm).2 rfl)).trans ((Below.heap_alloc _ _ _ (by have := KM.out.size; omega)).trans GM.out); have c3 : w3.cell? ⟨g, 1, none⟩ = some v := (by rw [cell_of_row _ _ 1 _ _ _ hb3]; rfl); have f3 : w3.frozen? ⟨g, 1, none⟩ = false := (by simp [World.frozen?, hb3]); clear hown3 hgrow3 hat hb3))
    go_ret
    exact addedI HIN.out HF.out HL.out HV.out (.inl HB.out) KM.out GM.out OM.out HM2.out HI.out HO3.out HGR3.out HAT.out hlt3

theorem addI {w : World} {F : Nat → Prop} {g : Nat} {xs : List Int} (s : SetI w F g xs) {x : Int} (hx : okI x) (hl : xs.length < 1000000) :
    Calls Try.prog 12 #[.pointer (some ⟨g, 0, none⟩), .int .i64 x] w (AddedI w F g xs x) := by
  by_cases hin : x ∈ xs
  · exact addOldI s hx hin
  · exact addNewI s hx hin hl

end Go.Proofs.Ytnhjnbbdeilmbaa.Hand
