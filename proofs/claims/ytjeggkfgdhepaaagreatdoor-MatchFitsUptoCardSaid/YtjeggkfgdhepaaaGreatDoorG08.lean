/- The reference's IsOf: which patterns are of a type. -/
import Derived.Test.YtjeggkfgdhepaaaGreatDoorG07
import Derived.LaidMore
import Derived.Lay
import Derived.MakeChecks
import Derived.Stop.LaidErr
import Derived.Stop.Joined
import Derived.Shelf.Vars
import Derived.HandedShaped
import Derived.Deep.DeepHandedRow
import Derived.Lib.LaidTab
import Derived.Carry
set_option linter.unusedVariables false
set_option linter.unusedSimpArgs false
namespace Go.Proofs.YtjeggkfgdhepaaaGreatDoor
open Go.RowKit
open Go.Proofs

section
variable {P : Program} {ops : Array Oper} {Q : Exit → Act → World → Prop} {S : World → Prop}
/-- A guarded operation that is wanted. -/
theorem wpMix_stepw {m k : Nat} {a : Act} {w : World} {o : Oper} {rest : List (Nat × Bool × Oper)} (hw : Region.wanted o (yielded ops a.tmps) = true)
    (h : ∀ K : Act → World → Prop, (∀ a w, (k < m → S w) → wpMix P ops Q S m rest a w → K a w) → o.wp P a w K Q) : wpMix P ops Q S m ((k, false, o) :: rest) a w := by
  have h1 := h _ (fun a w hS hK => (⟨hS, hK⟩ : (k < m → S w) ∧ wpMix P ops Q S m rest a w))
  unfold wpMix
  simp only [hw, if_true]
  exact .inl h1
/-- One that is not. -/
theorem wpMix_skip {m k : Nat} {a : Act} {w : World} {o : Oper} {rest : List (Nat × Bool × Oper)} (hw : Region.wanted o (yielded ops a.tmps) = false)
    (hS : S w) (h : wpMix P ops Q S m rest (a.put o.dst undef) w) : wpMix P ops Q S m ((k, false, o) :: rest) a w := by
  unfold wpMix
  simp only [hw]
  exact ⟨fun _ => hS, h⟩
theorem wpMix_none {m k : Nat} {a : Act} {w : World} {o : Oper} {rest : List (Nat × Bool × Oper)} (hw : Region.wanted o (yielded ops a.tmps) = false)
    (h2 : wpMix P ops Q S m rest (a.put o.dst undef) w) : wpMix P ops Q S m ((k, true, o) :: rest) a w := ⟨undef, .inr ⟨hw, rfl⟩, h2⟩
end
/-- Two boxes, and two rows of two. -/
def SP2 (bt bp : Nat) (td tn : ByteArray) (b1 o1 tc : Nat) (t0 t1 : Ty) (d s : ByteArray) (n : Int) (b2 o2 c : Nat) (p0 p1 : Pt) (W : World) : Prop :=
  W.cell? ⟨bt, 0, none⟩ = some (.string td) ∧ W.cell? ⟨bt, 1, none⟩ = some (.string tn) ∧ W.cell? ⟨bt, 2, none⟩ = some (.slice (some ⟨b1, o1, none⟩) 2 tc) ∧ bt < W.heap.size ∧
  W.cell? ⟨bp, 0, none⟩ = some (.string d) ∧ W.cell? ⟨bp, 1, none⟩ = some (.string s) ∧ W.cell? ⟨bp, 2, none⟩ = some (.int .i64 n) ∧ W.cell? ⟨bp, 3, none⟩ = some (.slice (some ⟨b2, o2, none⟩) 2 c) ∧ bp < W.heap.size ∧
  (W.cell? ⟨b1, o1, none⟩ = some (.string t0.dof) ∧ W.cell? ⟨b1, o1 + 1, none⟩ = some (.string t0.name) ∧ W.cell? ⟨b1, o1 + 2, none⟩ = some (.slice t0.at_ t0.args.length t0.cap) ∧
  W.cell? ⟨b1, o1 + 3, none⟩ = some (.string t1.dof) ∧ W.cell? ⟨b1, o1 + 4, none⟩ = some (.string t1.name) ∧ W.cell? ⟨b1, o1 + 5, none⟩ = some (.slice t1.at_ t1.args.length t1.cap)) ∧
  (W.cell? ⟨b2, o2, none⟩ = some (.string p0.dof) ∧ W.cell? ⟨b2, o2 + 1, none⟩ = some (.string p0.name) ∧ W.cell? ⟨b2, o2 + 2, none⟩ = some (.int .i64 p0.num) ∧ W.cell? ⟨b2, o2 + 3, none⟩ = some (.slice p0.at_ p0.args.length p0.cap) ∧
  W.cell? ⟨b2, o2 + 4, none⟩ = some (.string p1.dof) ∧ W.cell? ⟨b2, o2 + 5, none⟩ = some (.string p1.name) ∧ W.cell? ⟨b2, o2 + 6, none⟩ = some (.int .i64 p1.num) ∧ W.cell? ⟨b2, o2 + 7, none⟩ = some (.slice p1.at_ p1.args.length p1.cap))
theorem two_rows {B : Nat} {w : World} {A : Option Addr} {p0 p1 : Pt} (h : RowAt B w 4 A ([p0, p1].map Pt.cells)) : ∃ b o, A = some ⟨b, o, none⟩ ∧ b < B ∧ ∀ W, Below B w W → 
    W.cell? ⟨b, o, none⟩ = some (.string p0.dof) ∧ W.cell? ⟨b, o + 1, none⟩ = some (.string p0.name) ∧ W.cell? ⟨b, o + 2, none⟩ = some (.int .i64 p0.num) ∧ W.cell? ⟨b, o + 3, none⟩ = some (.slice p0.at_ p0.args.length p0.cap) ∧
    W.cell? ⟨b, o + 4, none⟩ = some (.string p1.dof) ∧ W.cell? ⟨b, o + 5, none⟩ = some (.string p1.name) ∧ W.cell? ⟨b, o + 6, none⟩ = some (.int .i64 p1.num) ∧ W.cell? ⟨b, o + 7, none⟩ = some (.slice p1.at_ p1.args.length p1.cap) := by
  obtain ⟨b, o, rfl, hb, hc⟩ := h (by simp)
  refine ⟨b, o, rfl, hb, fun W hW => ?_⟩
  have h0 := hc 0 p0.cells rfl
  have h1 := hc 1 p1.cells rfl
  have k := fun (j : Nat) => (hW.cell (p := ⟨b, o + j, none⟩) hb)
  refine ⟨(k 0).trans (h0 0 _ rfl), (k 1).trans (h0 1 _ rfl), (k 2).trans (h0 2 _ rfl), (k 3).trans (h0 3 _ rfl), (k 4).trans (h1 0 _ rfl), (k 5).trans (h1 1 _ rfl), (k 6).trans (h1 2 _ rfl), (k 7).trans (h1 3 _ rfl)⟩
theorem two_tys {B : Nat} {w : World} {A : Option Addr} {p0 p1 : Ty} (h : RowAt B w 3 A ([p0, p1].map Ty.cells)) : ∃ b o, A = some ⟨b, o, none⟩ ∧ b < B ∧ ∀ W, Below B w W → 
    W.cell? ⟨b, o, none⟩ = some (.string p0.dof) ∧ W.cell? ⟨b, o + 1, none⟩ = some (.string p0.name) ∧ W.cell? ⟨b, o + 2, none⟩ = some (.slice p0.at_ p0.args.length p0.cap) ∧
    W.cell? ⟨b, o + 3, none⟩ = some (.string p1.dof) ∧ W.cell? ⟨b, o + 4, none⟩ = some (.string p1.name) ∧ W.cell? ⟨b, o + 5, none⟩ = some (.slice p1.at_ p1.args.length p1.cap) := by
  obtain ⟨b, o, rfl, hb, hc⟩ := h (by simp)
  refine ⟨b, o, rfl, hb, fun W hW => ?_⟩
  have h0 := hc 0 p0.cells rfl
  have h1 := hc 1 p1.cells rfl
  have k := fun (j : Nat) => (hW.cell (p := ⟨b, o + j, none⟩) hb)
  refine ⟨(k 0).trans (h0 0 _ rfl), (k 1).trans (h0 1 _ rfl), (k 2).trans (h0 2 _ rfl), (k 3).trans (h1 0 _ rfl), (k 4).trans (h1 1 _ rfl), (k 5).trans (h1 2 _ rfl)⟩
theorem two_list {α : Type} {l : List α} (h : l.length = 2) : ∃ a b, l = [a, b] := by
  match l, h with
  | [a, b], _ => exact ⟨a, b, rfl⟩
theorem one_list {α : Type} {l : List α} (h : l.length = 1) : ∃ a, l = [a] := by
  match l, h with
  | [a], _ => exact ⟨a, rfl⟩
def IsOfC (A : Option Addr) (l : List Dt) (c : Nat) (p : Pt) : Prop := ∀ (t : Ty) (w : World), DtsIn w.heap.size w A l → p.In w.heap.size w → p.wellB = true → t.In w.heap.size w → t.well (kindB .con) = true →
    Calls Tryz.prog 39 #[.slice A l.length c, t.val, p.val] w fun e w' => e = .returned (.bool (p.isOf l t)) ∧ Below w.heap.size w w'
set_option maxRecDepth 100000 in
set_option maxHeartbeats 8000000 in
/-- Two parts. -/
theorem isOf_pair (A : Option Addr) (l : List Dt) (c : Nat) (p0 p1 : Pt) (h0 : IsOfC A l c p0) (h1 : IsOfC A l c p1) (d s : ByteArray) (n : Int) (Ap : Option Addr) (cp : Nat) (hdo : (d.toList == [112, 97, 105, 114]) = true)
    (t : Ty) (w : World) (hd : DtsIn w.heap.size w A l) (hp : (Pt.mk d s n Ap cp [p0, p1]).In w.heap.size w) (hw : (Pt.mk d s n Ap cp [p0, p1]).wellB = true) (ht : t.In w.heap.size w) (htw : t.well (kindB .con) = true) :
    Calls Tryz.prog 39 #[.slice A l.length c, t.val, (Pt.mk d s n Ap cp [p0, p1]).val] w fun e w' => e = .returned (.bool ((Pt.mk d s n Ap cp [p0, p1]).isOf l t)) ∧ Below w.heap.size w w' := by
  obtain ⟨-, -, -, -, -, hprow, hpall⟩ := Pt.In_mk.1 hp
  rw [Pt.wellB_mk, Bool.and_eq_true, List.all_eq_true] at hw
  have g1 := do_other (b := [97, 110, 121]) hdo (by decide)
  have g2 := do_other (b := [118, 97, 114]) hdo (by decide)
  have g3 := do_other (b := [105, 110, 116]) hdo (by decide)
  have g4 := do_other (b := [98, 111, 111, 108]) hdo (by decide)
  have g5 := do_other (b := [117, 110, 105, 116]) hdo (by decide)
  have g6 := do_other (b := [110, 105, 108]) hdo (by decide)
  have HRES := Lib.hid (show (Pt.mk d s n Ap cp [p0, p1]).isOf l t = (isDo [112, 97, 105, 114] t.dof && isOfL l [p0, p1] t.args) by
    rw [Pt.isOf_mk]
    simp only [isDo, g1, g2, g3, g4, g5, g6, hdo, Bool.or_false, Bool.false_eq_true, if_false, if_true])
  generalize (Pt.mk d s n Ap cp [p0, p1]).isOf l t = res at HRES ⊢
  have HB0 := Lib.hid (((Below.refl w.heap.size w).alloc (Nat.le_refl _) (.cells #[.string t.dof, .string t.name, .slice t.at_ t.args.length t.cap] 25)).alloc (by simp) (.cells #[.string d, .string s, .int .i64 n, .slice Ap 2 cp] 28))
  have K1 := Lib.hid ((Blk.new w #[.string t.dof, .string t.name, .slice t.at_ t.args.length t.cap] 25).alloc (.cells #[.string d, .string s, .int .i64 n, .slice Ap 2 cp] 28))
  have K2 := Lib.hid (Blk.new' (w.alloc (.cells #[.string t.dof, .string t.name, .slice t.at_ t.args.length t.cap] 25)) #[.string d, .string s, .int .i64 n, .slice Ap 2 cp] 28 (w.heap.size + 1) (by simp))
  obtain ⟨b2, o2, rfl, hb2, hpc⟩ := two_rows hprow
  obtain ⟨tt, htt⟩ : ∃ x, (t.dof.toList == [112, 97, 105, 114]) = x := ⟨_, rfl⟩
  have HTT := Lib.hid htt
  cases tt
  case false =>
    have HR := Lib.hid (show res = false by rw [HRES.out]; unfold isDo; rw [HTT.out]; rfl)
    have hbox : ∀ W, Below ((w.alloc (.cells #[.string t.dof, .string t.name, .slice t.at_ t.args.length t.cap] 25)).alloc (.cells #[.string d, .string s, .int .i64 n, .slice (some ⟨b2, o2, none⟩) 2 cp] 28)).heap.size ((w.alloc (.cells #[.string t.dof, .string t.name, .slice t.at_ t.args.length t.cap] 25)).alloc (.cells #[.string d, .string s, .int .i64 n, .slice (some ⟨b2, o2, none⟩) 2 cp] 28)) W → B2 (w.heap.size + 1) w.heap.size d s n (some ⟨b2, o2, none⟩) 2 cp t W := fun W hW => by
      have k1 := K1.out.below hW K1.out.lt
      have k2 := K2.out.below hW K2.out.lt
      exact ⟨k2.cell 0, k2.cell 1, k2.cell 2, k2.cell 3, k1.cell 0, k1.cell 1, k1.cell 2⟩
    have HBOX := Lib.hid hbox
    unfold Ty.val Pt.val at *
    simp only [Pt.dof, Pt.name, Pt.num, Pt.at_, Pt.cap, Pt.args, List.length_cons, List.length_nil, Nat.zero_add, Nat.reduceAdd] at *
    clear hbox hprow hpc hpall hw hp ht htw hd
    go_enter Tryz.func39, Tryz.ntmps39
    go_wp2_with fail
    refine region_mix (B2 (w.heap.size + 1) w.heap.size d s n (some ⟨b2, o2, none⟩) 2 cp t) [(0, true), (1, true), (2, true), (3, true), (4, true), (5, true), (6, true), (7, true), (8, true), (9, true), (10, true), (11, true), (12, true), (13, false), (14, false), (15, false), (16, true), (17, true), (18, true), (19, true), (20, true), (21, true), (22, true), (23, true), (24, true), (25, false), (26, false), (27, false)] 26 (by kernel_rfl) (by kernel_rfl) (HBOX.out _ (Below.refl _ _).drew) ?_
    simp only [pickM, List.filterMap_cons, List.getElem?_cons_zero, List.getElem?_cons_succ, List.filterMap_nil, Option.map_some]
    iterate 4
      refine wpMix_read ?_ (by rfl) (fun W hW => ?_) ?_
      rotate_left
      · unfold B2 at hW
        go_simp
        try with_reducible rfl
      simp only [Act.put, List.setIfInBounds_toArray, List.set_cons_zero, List.set_cons_succ]
    iterate 9
      refine wpMix_none (by rfl) ?_
      simp only [Act.put, List.setIfInBounds_toArray, List.set_cons_zero, List.set_cons_succ]
    refine wpMix_skip (by rfl) (HBOX.out _ (Below.refl _ _).drew) ?_
    simp only [Act.put, List.setIfInBounds_toArray, List.set_cons_zero, List.set_cons_succ]
    iterate 2
      refine wpMix_step rfl (fun K hK => ?_)
      go_simp
      refine hK _ _ (fun _ => HBOX.out _ (Below.refl _ _).drew) ?_
      clear hK K
    iterate 9
      refine wpMix_none (by rfl) ?_
      simp only [Act.put, List.setIfInBounds_toArray, List.set_cons_zero, List.set_cons_succ]
    refine wpMix_skip (by rfl) (HBOX.out _ (Below.refl _ _).drew) ?_
    simp only [Act.put, List.setIfInBounds_toArray, List.set_cons_zero, List.set_cons_succ]
    iterate 2
      refine wpMix_step rfl (fun K hK => ?_)
      go_simp
      refine hK _ _ (fun _ => HBOX.out _ (Below.refl _ _).drew) ?_
      clear hK K
    refine wpMix_nil ?_
    refine NoPanic.normal ?_
    go_wp2_with fail
    go_ret
    exact ⟨by rw [HR.out]; rfl, HB0.out.drew⟩
  case true =>
    have har : t.args.length = 2 := by
      have h1 := (Ty.well_parts htw).1
      rw [arity_pair htt] at h1
      simpa using h1.symm
    obtain ⟨td, tn, tA, tc, tl⟩ := t
    simp only [Ty.dof, Ty.name, Ty.at_, Ty.cap, Ty.args] at *
    obtain ⟨t0, t1, rfl⟩ := two_list har
    obtain ⟨-, -, -, -, htrow, htall⟩ := Ty.In_mk.1 ht
    obtain ⟨b1, o1, rfl, hb1, htc⟩ := two_tys htrow
    have HTW := Lib.hid ((Ty.well_parts htw).2)
    have hbox : ∀ W, Below ((w.alloc (.cells #[.string td, .string tn, .slice (some ⟨b1, o1, none⟩) 2 tc] 25)).alloc (.cells #[.string d, .string s, .int .i64 n, .slice (some ⟨b2, o2, none⟩) 2 cp] 28)).heap.size ((w.alloc (.cells #[.string td, .string tn, .slice (some ⟨b1, o1, none⟩) 2 tc] 25)).alloc (.cells #[.string d, .string s, .int .i64 n, .slice (some ⟨b2, o2, none⟩) 2 cp] 28)) W → SP2 w.heap.size (w.heap.size + 1) td tn b1 o1 tc t0 t1 d s n b2 o2 cp p0 p1 W := fun W hW => by
      have k1 := K1.out.below hW K1.out.lt
      have k2 := K2.out.below hW K2.out.lt
      have hb := HB0.out.trans (hW.mono HB0.out.size)
      exact ⟨k1.cell 0, k1.cell 1, k1.cell 2, k1.lt, k2.cell 0, k2.cell 1, k2.cell 2, k2.cell 3, k2.lt, htc W hb, hpc W hb⟩
    have HBOX := Lib.hid hbox
    have HC0 := Lib.hid (fun (W : World) (hW : Below w.heap.size w W) => h0 t0 W (hd.next hW) ((hpall p0 (by simp)).next hW) (hw.2 p0 (by simp)) ((htall t0 (by simp)).next hW) (HTW.out t0 (by simp [Ty.args])))
    have HC1 := Lib.hid (fun (W : World) (hW : Below w.heap.size w W) => h1 t1 W (hd.next hW) ((hpall p1 (by simp)).next hW) (hw.2 p1 (by simp)) ((htall t1 (by simp)).next hW) (HTW.out t1 (by simp [Ty.args])))
    have HR := Lib.hid (show res = (p0.isOf l t0 && p1.isOf l t1) by rw [HRES.out]; unfold isDo isOfL; rw [htt]; simp)
    unfold Ty.val Pt.val at *
    simp only [Pt.dof, Pt.name, Pt.num, Pt.at_, Pt.cap, Pt.args, Ty.dof, Ty.name, Ty.at_, Ty.cap, Ty.args, List.length_cons, List.length_nil, Nat.zero_add, Nat.reduceAdd] at *
    clear hbox hprow hpc hpall hw hp ht htw hd htrow htall htc h0 h1 har
    generalize p0.isOf l t0 = r0 at HC0 HR
    generalize p1.isOf l t1 = r1 at HC1 HR
    cases r0
    case false =>
      go_enter Tryz.func39, Tryz.ntmps39
      go_wp2_with fail
      generalize ((w.alloc (.cells #[.string td, .string tn, .slice (some ⟨b1, o1, none⟩) 2 tc] 25)).alloc (.cells #[.string d, .string s, .int .i64 n, .slice (some ⟨b2, o2, none⟩) 2 cp] 28)) = w0 at HBOX HB0 ⊢
      refine region_mix (SP2 w.heap.size (w.heap.size + 1) td tn b1 o1 tc t0 t1 d s n b2 o2 cp p0 p1) [(0, true), (1, true), (2, true), (3, true), (4, true), (5, true), (6, true), (7, true), (8, true), (9, true), (10, true), (11, true), (12, true), (13, false), (14, false), (15, false), (16, true), (17, true), (18, true), (19, true), (20, true), (21, true), (22, true), (23, true), (24, true), (25, false), (26, false), (27, false)] 26 (by kernel_rfl) (by kernel_rfl) (HBOX.out _ (Below.refl _ _).drew) ?_
      simp only [pickM, List.filterMap_cons, List.getElem?_cons_zero, List.getElem?_cons_succ, List.filterMap_nil, Option.map_some]
      iterate 13
        refine wpMix_read ?_ (by rfl) (fun W hW => ?_) ?_
        rotate_left
        · unfold SP2 at hW
          go_simp
          try with_reducible rfl
        simp only [Act.put, List.setIfInBounds_toArray, List.set_cons_zero, List.set_cons_succ]
      refine wpMix_stepw (by rfl) (fun K hK => ?_)
      go_simp
      refine Calls.mono (HC0.out _ (HB0.out.drew)) ?_
      rintro e w5 ⟨rfl, hb5⟩
      have HD5 := Lib.hid (((Below.refl w0.heap.size w0).drew).trans (hb5.mono ((Below.refl w0.heap.size w0).drew).size))
      clear hb5
      refine hK _ _ (fun _ => HBOX.out _ HD5.out) ?_
      clear hK K
      iterate 2
        refine wpMix_step rfl (fun K hK => ?_)
        go_simp
        refine hK _ _ (fun _ => HBOX.out _ HD5.out) ?_
        clear hK K
      iterate 9
        refine wpMix_none (by rfl) ?_
        simp only [Act.put, List.setIfInBounds_toArray, List.set_cons_zero, List.set_cons_succ]
      refine wpMix_skip (by rfl) (HBOX.out _ HD5.out) ?_
      simp only [Act.put, List.setIfInBounds_toArray, List.set_cons_zero, List.set_cons_succ]
      iterate 2
        refine wpMix_step rfl (fun K hK => ?_)
        go_simp
        refine hK _ _ (fun _ => HBOX.out _ HD5.out) ?_
        clear hK K
      refine wpMix_nil ?_
      refine NoPanic.normal ?_
      go_wp2_with fail
      go_ret
      exact ⟨by rw [HR.out]; rfl, HB0.out.trans (HD5.out.mono HB0.out.size)⟩
    case true =>
      go_enter Tryz.func39, Tryz.ntmps39
      go_wp2_with fail
      generalize ((w.alloc (.cells #[.string td, .string tn, .slice (some ⟨b1, o1, none⟩) 2 tc] 25)).alloc (.cells #[.string d, .string s, .int .i64 n, .slice (some ⟨b2, o2, none⟩) 2 cp] 28)) = w0 at HBOX HB0 ⊢
      refine region_mix (SP2 w.heap.size (w.heap.size + 1) td tn b1 o1 tc t0 t1 d s n b2 o2 cp p0 p1) [(0, true), (1, true), (2, true), (3, true), (4, true), (5, true), (6, true), (7, true), (8, true), (9, true), (10, true), (11, true), (12, true), (13, false), (14, false), (15, false), (16, true), (17, true), (18, true), (19, true), (20, true), (21, true), (22, true), (23, true), (24, true), (25, false), (26, false), (27, false)] 26 (by kernel_rfl) (by kernel_rfl) (HBOX.out _ (Below.refl _ _).drew) ?_
      simp only [pickM, List.filterMap_cons, List.getElem?_cons_zero, List.getElem?_cons_succ, List.filterMap_nil, Option.map_some]
      iterate 13
        refine wpMix_read ?_ (by rfl) (fun W hW => ?_) ?_
        rotate_left
        · unfold SP2 at hW
          go_simp
          try with_reducible rfl
        simp only [Act.put, List.setIfInBounds_toArray, List.set_cons_zero, List.set_cons_succ]
      refine wpMix_stepw (by rfl) (fun K hK => ?_)
      go_simp
      refine Calls.mono (HC0.out _ (HB0.out.drew)) ?_
      rintro e w5 ⟨rfl, hb5⟩
      have HD5 := Lib.hid (((Below.refl w0.heap.size w0).drew).trans (hb5.mono ((Below.refl w0.heap.size w0).drew).size))
      clear hb5
      refine hK _ _ (fun _ => HBOX.out _ HD5.out) ?_
      clear hK K
      iterate 2
        refine wpMix_step rfl (fun K hK => ?_)
        go_simp
        refine hK _ _ (fun _ => HBOX.out _ HD5.out) ?_
        clear hK K
      iterate 9
        refine wpMix_read ?_ (by rfl) (fun W hW => ?_) ?_
        rotate_left
        · unfold SP2 at hW
          go_simp
          try with_reducible rfl
        simp only [Act.put, List.setIfInBounds_toArray, List.set_cons_zero, List.set_cons_succ]
      refine wpMix_stepw (by rfl) (fun K hK => ?_)
      go_simp
      refine Calls.mono (HC1.out _ (HB0.out.trans (HD5.out.mono HB0.out.size))) ?_
      rintro e w6 ⟨rfl, hb6⟩
      have HD6 := Lib.hid (HD5.out.trans (hb6.mono HD5.out.size))
      clear hb6
      refine hK _ _ (fun _ => HBOX.out _ HD6.out) ?_
      clear hK K
      iterate 2
        refine wpMix_step rfl (fun K hK => ?_)
        go_simp
        refine hK _ _ (fun _ => HBOX.out _ HD6.out) ?_
        clear hK K
      refine wpMix_nil ?_
      refine NoPanic.normal ?_
      go_wp2_with fail
      go_ret
      exact ⟨by rw [HR.out]; simp, HB0.out.trans (HD6.out.mono HB0.out.size)⟩
end Go.Proofs.YtjeggkfgdhepaaaGreatDoor

/- The reference's IsOf: cons, constructors, and the whole. -/
set_option linter.unusedVariables false
set_option linter.unusedSimpArgs false
namespace Go.Proofs.YtjeggkfgdhepaaaGreatDoor
open Go.RowKit
open Go.Proofs

def SC2 (bt bp : Nat) (td tn : ByteArray) (b1 o1 tc : Nat) (t0 : Ty) (d s : ByteArray) (n : Int) (b2 o2 c : Nat) (p0 p1 : Pt) (W : World) : Prop :=
  W.cell? ⟨bt, 0, none⟩ = some (.string td) ∧ W.cell? ⟨bt, 1, none⟩ = some (.string tn) ∧ W.cell? ⟨bt, 2, none⟩ = some (.slice (some ⟨b1, o1, none⟩) 1 tc) ∧ bt < W.heap.size ∧
  W.cell? ⟨bp, 0, none⟩ = some (.string d) ∧ W.cell? ⟨bp, 1, none⟩ = some (.string s) ∧ W.cell? ⟨bp, 2, none⟩ = some (.int .i64 n) ∧ W.cell? ⟨bp, 3, none⟩ = some (.slice (some ⟨b2, o2, none⟩) 2 c) ∧ bp < W.heap.size ∧
  (W.cell? ⟨b1, o1, none⟩ = some (.string t0.dof) ∧ W.cell? ⟨b1, o1 + 1, none⟩ = some (.string t0.name) ∧ W.cell? ⟨b1, o1 + 2, none⟩ = some (.slice t0.at_ t0.args.length t0.cap)) ∧
  (W.cell? ⟨b2, o2, none⟩ = some (.string p0.dof) ∧ W.cell? ⟨b2, o2 + 1, none⟩ = some (.string p0.name) ∧ W.cell? ⟨b2, o2 + 2, none⟩ = some (.int .i64 p0.num) ∧ W.cell? ⟨b2, o2 + 3, none⟩ = some (.slice p0.at_ p0.args.length p0.cap) ∧
  W.cell? ⟨b2, o2 + 4, none⟩ = some (.string p1.dof) ∧ W.cell? ⟨b2, o2 + 5, none⟩ = some (.string p1.name) ∧ W.cell? ⟨b2, o2 + 6, none⟩ = some (.int .i64 p1.num) ∧ W.cell? ⟨b2, o2 + 7, none⟩ = some (.slice p1.at_ p1.args.length p1.cap))
theorem one_ty {B : Nat} {w : World} {A : Option Addr} {p0 : Ty} (h : RowAt B w 3 A ([p0].map Ty.cells)) : ∃ b o, A = some ⟨b, o, none⟩ ∧ b < B ∧ ∀ W, Below B w W → 
    W.cell? ⟨b, o, none⟩ = some (.string p0.dof) ∧ W.cell? ⟨b, o + 1, none⟩ = some (.string p0.name) ∧ W.cell? ⟨b, o + 2, none⟩ = some (.slice p0.at_ p0.args.length p0.cap) := by
  obtain ⟨b, o, rfl, hb, hc⟩ := h (by simp)
  refine ⟨b, o, rfl, hb, fun W hW => ?_⟩
  have h0 := hc 0 p0.cells rfl
  have k := fun (j : Nat) => (hW.cell (p := ⟨b, o + j, none⟩) hb)
  refine ⟨(k 0).trans (h0 0 _ rfl), (k 1).trans (h0 1 _ rfl), (k 2).trans (h0 2 _ rfl)⟩
theorem one_row {B : Nat} {w : World} {A : Option Addr} {p0 : Pt} (h : RowAt B w 4 A ([p0].map Pt.cells)) : ∃ b o, A = some ⟨b, o, none⟩ ∧ b < B ∧ ∀ W, Below B w W → 
    W.cell? ⟨b, o, none⟩ = some (.string p0.dof) ∧ W.cell? ⟨b, o + 1, none⟩ = some (.string p0.name) ∧ W.cell? ⟨b, o + 2, none⟩ = some (.int .i64 p0.num) ∧ W.cell? ⟨b, o + 3, none⟩ = some (.slice p0.at_ p0.args.length p0.cap) := by
  obtain ⟨b, o, rfl, hb, hc⟩ := h (by simp)
  refine ⟨b, o, rfl, hb, fun W hW => ?_⟩
  have h0 := hc 0 p0.cells rfl
  have k := fun (j : Nat) => (hW.cell (p := ⟨b, o + j, none⟩) hb)
  refine ⟨(k 0).trans (h0 0 _ rfl), (k 1).trans (h0 1 _ rfl), (k 2).trans (h0 2 _ rfl), (k 3).trans (h0 3 _ rfl)⟩
set_option maxRecDepth 100000 in
set_option maxHeartbeats 8000000 in
/-- A list's head and rest. -/
theorem isOf_cons (A : Option Addr) (l : List Dt) (c : Nat) (p0 p1 : Pt) (h0 : IsOfC A l c p0) (h1 : IsOfC A l c p1) (d s : ByteArray) (n : Int) (Ap : Option Addr) (cp : Nat) (hdo : (d.toList == [99, 111, 110, 115]) = true)
    (t : Ty) (w : World) (hd : DtsIn w.heap.size w A l) (hp : (Pt.mk d s n Ap cp [p0, p1]).In w.heap.size w) (hw : (Pt.mk d s n Ap cp [p0, p1]).wellB = true) (ht : t.In w.heap.size w) (htw : t.well (kindB .con) = true) :
    Calls Tryz.prog 39 #[.slice A l.length c, t.val, (Pt.mk d s n Ap cp [p0, p1]).val] w fun e w' => e = .returned (.bool ((Pt.mk d s n Ap cp [p0, p1]).isOf l t)) ∧ Below w.heap.size w w' := by
  obtain ⟨-, -, -, -, -, hprow, hpall⟩ := Pt.In_mk.1 hp
  rw [Pt.wellB_mk, Bool.and_eq_true, List.all_eq_true] at hw
  have g1 := do_other (b := [97, 110, 121]) hdo (by decide)
  have g2 := do_other (b := [118, 97, 114]) hdo (by decide)
  have g3 := do_other (b := [105, 110, 116]) hdo (by decide)
  have g4 := do_other (b := [98, 111, 111, 108]) hdo (by decide)
  have g5 := do_other (b := [117, 110, 105, 116]) hdo (by decide)
  have g6 := do_other (b := [110, 105, 108]) hdo (by decide)
  have g7 := do_other (b := [112, 97, 105, 114]) hdo (by decide)
  have HRES := Lib.hid (show (Pt.mk d s n Ap cp [p0, p1]).isOf l t = (isDo [108, 105, 115, 116] t.dof && isOfL l [p0, p1] (t.args.take 1 ++ [t])) by
    rw [Pt.isOf_mk]
    simp only [isDo, g1, g2, g3, g4, g5, g6, g7, hdo, Bool.or_false, Bool.false_eq_true, if_false, if_true])
  generalize (Pt.mk d s n Ap cp [p0, p1]).isOf l t = res at HRES ⊢
  have HB0 := Lib.hid (((Below.refl w.heap.size w).alloc (Nat.le_refl _) (.cells #[.string t.dof, .string t.name, .slice t.at_ t.args.length t.cap] 25)).alloc (by simp) (.cells #[.string d, .string s, .int .i64 n, .slice Ap 2 cp] 28))
  have K1 := Lib.hid ((Blk.new w #[.string t.dof, .string t.name, .slice t.at_ t.args.length t.cap] 25).alloc (.cells #[.string d, .string s, .int .i64 n, .slice Ap 2 cp] 28))
  have K2 := Lib.hid (Blk.new' (w.alloc (.cells #[.string t.dof, .string t.name, .slice t.at_ t.args.length t.cap] 25)) #[.string d, .string s, .int .i64 n, .slice Ap 2 cp] 28 (w.heap.size + 1) (by simp))
  obtain ⟨b2, o2, rfl, hb2, hpc⟩ := two_rows hprow
  obtain ⟨tt, htt⟩ : ∃ x, (t.dof.toList == [108, 105, 115, 116]) = x := ⟨_, rfl⟩
  have HTT := Lib.hid htt
  cases tt
  case false =>
    have HR := Lib.hid (show res = false by rw [HRES.out]; unfold isDo; rw [HTT.out]; rfl)
    have hbox : ∀ W, Below ((w.alloc (.cells #[.string t.dof, .string t.name, .slice t.at_ t.args.length t.cap] 25)).alloc (.cells #[.string d, .string s, .int .i64 n, .slice (some ⟨b2, o2, none⟩) 2 cp] 28)).heap.size ((w.alloc (.cells #[.string t.dof, .string t.name, .slice t.at_ t.args.length t.cap] 25)).alloc (.cells #[.string d, .string s, .int .i64 n, .slice (some ⟨b2, o2, none⟩) 2 cp] 28)) W → B2 (w.heap.size + 1) w.heap.size d s n (some ⟨b2, o2, none⟩) 2 cp t W := fun W hW => by
      have k1 := K1.out.below hW K1.out.lt
      have k2 := K2.out.below hW K2.out.lt
      exact ⟨k2.cell 0, k2.cell 1, k2.cell 2, k2.cell 3, k1.cell 0, k1.cell 1, k1.cell 2⟩
    have HBOX := Lib.hid hbox
    unfold Ty.val Pt.val at *
    simp only [Pt.dof, Pt.name, Pt.num, Pt.at_, Pt.cap, Pt.args, List.length_cons, List.length_nil, Nat.zero_add, Nat.reduceAdd] at *
    clear hbox hprow hpc hpall hw hp ht htw hd
    go_enter Tryz.func39, Tryz.ntmps39
    go_wp2_with fail
    refine region_mix (B2 (w.heap.size + 1) w.heap.size d s n (some ⟨b2, o2, none⟩) 2 cp t) [(0, true), (1, true), (2, true), (3, true), (4, true), (5, true), (6, true), (7, true), (8, true), (9, true), (10, true), (11, true), (12, true), (13, false), (14, false), (15, false), (16, true), (17, true), (18, true), (19, true), (20, true), (21, true), (22, false), (23, false), (24, false)] 23 (by kernel_rfl) (by kernel_rfl) (HBOX.out _ (Below.refl _ _).drew) ?_
    simp only [pickM, List.filterMap_cons, List.getElem?_cons_zero, List.getElem?_cons_succ, List.filterMap_nil, Option.map_some]
    iterate 4
      refine wpMix_read ?_ (by rfl) (fun W hW => ?_) ?_
      rotate_left
      · unfold B2 at hW
        go_simp
        try with_reducible rfl
      simp only [Act.put, List.setIfInBounds_toArray, List.set_cons_zero, List.set_cons_succ]
    iterate 9
      refine wpMix_none (by rfl) ?_
      simp only [Act.put, List.setIfInBounds_toArray, List.set_cons_zero, List.set_cons_succ]
    refine wpMix_skip (by rfl) (HBOX.out _ (Below.refl _ _).drew) ?_
    simp only [Act.put, List.setIfInBounds_toArray, List.set_cons_zero, List.set_cons_succ]
    iterate 2
      refine wpMix_step rfl (fun K hK => ?_)
      go_simp
      refine hK _ _ (fun _ => HBOX.out _ (Below.refl _ _).drew) ?_
      clear hK K
    iterate 6
      refine wpMix_none (by rfl) ?_
      simp only [Act.put, List.setIfInBounds_toArray, List.set_cons_zero, List.set_cons_succ]
    refine wpMix_skip (by rfl) (HBOX.out _ (Below.refl _ _).drew) ?_
    simp only [Act.put, List.setIfInBounds_toArray, List.set_cons_zero, List.set_cons_succ]
    iterate 2
      refine wpMix_step rfl (fun K hK => ?_)
      go_simp
      refine hK _ _ (fun _ => HBOX.out _ (Below.refl _ _).drew) ?_
      clear hK K
    refine wpMix_nil ?_
    refine NoPanic.normal ?_
    go_wp2_with fail
    go_ret
    exact ⟨by rw [HR.out]; rfl, HB0.out.drew⟩
  case true =>
    have har : t.args.length = 1 := by
      have h1 := (Ty.well_parts htw).1
      rw [arity_list htt] at h1
      simpa using h1.symm
    obtain ⟨td, tn, tA, tc, tl⟩ := t
    have HHT := Lib.hid ht
    have HHW := Lib.hid htw
    simp only [Ty.dof, Ty.name, Ty.at_, Ty.cap, Ty.args] at *
    obtain ⟨t0, rfl⟩ := one_list har
    obtain ⟨-, -, -, -, htrow, htall⟩ := Ty.In_mk.1 ht
    obtain ⟨b1, o1, rfl, hb1, htc⟩ := one_ty htrow
    have HTW := Lib.hid ((Ty.well_parts htw).2)
    have hbox : ∀ W, Below ((w.alloc (.cells #[.string td, .string tn, .slice (some ⟨b1, o1, none⟩) 1 tc] 25)).alloc (.cells #[.string d, .string s, .int .i64 n, .slice (some ⟨b2, o2, none⟩) 2 cp] 28)).heap.size ((w.alloc (.cells #[.string td, .string tn, .slice (some ⟨b1, o1, none⟩) 1 tc] 25)).alloc (.cells #[.string d, .string s, .int .i64 n, .slice (some ⟨b2, o2, none⟩) 2 cp] 28)) W → SC2 w.heap.size (w.heap.size + 1) td tn b1 o1 tc t0 d s n b2 o2 cp p0 p1 W := fun W hW => by
      have k1 := K1.out.below hW K1.out.lt
      have k2 := K2.out.below hW K2.out.lt
      have hb := HB0.out.trans (hW.mono HB0.out.size)
      exact ⟨k1.cell 0, k1.cell 1, k1.cell 2, k1.lt, k2.cell 0, k2.cell 1, k2.cell 2, k2.cell 3, k2.lt, htc W hb, hpc W hb⟩
    have HBOX := Lib.hid hbox
    have HC0 := Lib.hid (fun (W : World) (hW : Below w.heap.size w W) => h0 t0 W (hd.next hW) ((hpall p0 (by simp)).next hW) (hw.2 p0 (by simp)) ((htall t0 (by simp)).next hW) (HTW.out t0 (by simp [Ty.args])))
    have HC1 := Lib.hid (fun (W : World) (hW : Below w.heap.size w W) => h1 (.mk td tn (some ⟨b1, o1, none⟩) tc [t0]) W (hd.next hW) ((hpall p1 (by simp)).next hW) (hw.2 p1 (by simp)) (HHT.out.next hW) HHW.out)
    have HR := Lib.hid (show res = (p0.isOf l t0 && p1.isOf l (.mk td tn (some ⟨b1, o1, none⟩) tc [t0])) by rw [HRES.out]; unfold isDo isOfL; rw [htt]; simp)
    clear hbox hprow hpc hpall hw hp ht htw hd htrow htall htc h0 h1 har HHT HHW HTW HRES
    generalize p0.isOf l t0 = r0 at HC0 HR
    generalize p1.isOf l (.mk td tn (some ⟨b1, o1, none⟩) tc [t0]) = r1 at HC1 HR
    unfold Ty.val Pt.val at *
    simp only [Pt.dof, Pt.name, Pt.num, Pt.at_, Pt.cap, Pt.args, Ty.dof, Ty.name, Ty.at_, Ty.cap, Ty.args, List.length_cons, List.length_nil, Nat.zero_add, Nat.reduceAdd] at *
    cases r0
    case false =>
      go_enter Tryz.func39, Tryz.ntmps39
      go_wp2_with fail
      generalize ((w.alloc (.cells #[.string td, .string tn, .slice (some ⟨b1, o1, none⟩) 1 tc] 25)).alloc (.cells #[.string d, .string s, .int .i64 n, .slice (some ⟨b2, o2, none⟩) 2 cp] 28)) = w0 at HBOX HB0 ⊢
      refine region_mix (SC2 w.heap.size (w.heap.size + 1) td tn b1 o1 tc t0 d s n b2 o2 cp p0 p1) [(0, true), (1, true), (2, true), (3, true), (4, true), (5, true), (6, true), (7, true), (8, true), (9, true), (10, true), (11, true), (12, true), (13, false), (14, false), (15, false), (16, true), (17, true), (18, true), (19, true), (20, true), (21, true), (22, false), (23, false), (24, false)] 23 (by kernel_rfl) (by kernel_rfl) (HBOX.out _ (Below.refl _ _).drew) ?_
      simp only [pickM, List.filterMap_cons, List.getElem?_cons_zero, List.getElem?_cons_succ, List.filterMap_nil, Option.map_some]
      iterate 13
        refine wpMix_read ?_ (by rfl) (fun W hW => ?_) ?_
        rotate_left
        · unfold SC2 at hW
          go_simp
          try with_reducible rfl
        simp only [Act.put, List.setIfInBounds_toArray, List.set_cons_zero, List.set_cons_succ]
      refine wpMix_stepw (by rfl) (fun K hK => ?_)
      go_simp
      refine Calls.mono (HC0.out _ (HB0.out.drew)) ?_
      rintro e w5 ⟨rfl, hb5⟩
      have HD5 := Lib.hid (((Below.refl w0.heap.size w0).drew).trans (hb5.mono ((Below.refl w0.heap.size w0).drew).size))
      clear hb5
      refine hK _ _ (fun _ => HBOX.out _ HD5.out) ?_
      clear hK K
      iterate 2
        refine wpMix_step rfl (fun K hK => ?_)
        go_simp
        refine hK _ _ (fun _ => HBOX.out _ HD5.out) ?_
        clear hK K
      iterate 6
        refine wpMix_none (by rfl) ?_
        simp only [Act.put, List.setIfInBounds_toArray, List.set_cons_zero, List.set_cons_succ]
      refine wpMix_skip (by rfl) (HBOX.out _ HD5.out) ?_
      simp only [Act.put, List.setIfInBounds_toArray, List.set_cons_zero, List.set_cons_succ]
      iterate 2
        refine wpMix_step rfl (fun K hK => ?_)
        go_simp
        refine hK _ _ (fun _ => HBOX.out _ HD5.out) ?_
        clear hK K
      refine wpMix_nil ?_
      refine NoPanic.normal ?_
      go_wp2_with fail
      go_ret
      exact ⟨by rw [HR.out]; rfl, HB0.out.trans (HD5.out.mono HB0.out.size)⟩
    case true =>
      go_enter Tryz.func39, Tryz.ntmps39
      go_wp2_with fail
      generalize ((w.alloc (.cells #[.string td, .string tn, .slice (some ⟨b1, o1, none⟩) 1 tc] 25)).alloc (.cells #[.string d, .string s, .int .i64 n, .slice (some ⟨b2, o2, none⟩) 2 cp] 28)) = w0 at HBOX HB0 ⊢
      refine region_mix (SC2 w.heap.size (w.heap.size + 1) td tn b1 o1 tc t0 d s n b2 o2 cp p0 p1) [(0, true), (1, true), (2, true), (3, true), (4, true), (5, true), (6, true), (7, true), (8, true), (9, true), (10, true), (11, true), (12, true), (13, false), (14, false), (15, false), (16, true), (17, true), (18, true), (19, true), (20, true), (21, true), (22, false), (23, false), (24, false)] 23 (by kernel_rfl) (by kernel_rfl) (HBOX.out _ (Below.refl _ _).drew) ?_
      simp only [pickM, List.filterMap_cons, List.getElem?_cons_zero, List.getElem?_cons_succ, List.filterMap_nil, Option.map_some]
      iterate 13
        refine wpMix_read ?_ (by rfl) (fun W hW => ?_) ?_
        rotate_left
        · unfold SC2 at hW
          go_simp
          try with_reducible rfl
        simp only [Act.put, List.setIfInBounds_toArray, List.set_cons_zero, List.set_cons_succ]
      refine wpMix_stepw (by rfl) (fun K hK => ?_)
      go_simp
      refine Calls.mono (HC0.out _ (HB0.out.drew)) ?_
      rintro e w5 ⟨rfl, hb5⟩
      have HD5 := Lib.hid (((Below.refl w0.heap.size w0).drew).trans (hb5.mono ((Below.refl w0.heap.size w0).drew).size))
      clear hb5
      refine hK _ _ (fun _ => HBOX.out _ HD5.out) ?_
      clear hK K
      iterate 2
        refine wpMix_step rfl (fun K hK => ?_)
        go_simp
        refine hK _ _ (fun _ => HBOX.out _ HD5.out) ?_
        clear hK K
      iterate 6
        refine wpMix_read ?_ (by rfl) (fun W hW => ?_) ?_
        rotate_left
        · unfold SC2 at hW
          go_simp
          try with_reducible rfl
        simp only [Act.put, List.setIfInBounds_toArray, List.set_cons_zero, List.set_cons_succ]
      refine wpMix_stepw (by rfl) (fun K hK => ?_)
      go_simp
      refine Calls.mono (HC1.out _ (HB0.out.trans (HD5.out.mono HB0.out.size))) ?_
      rintro e w6 ⟨rfl, hb6⟩
      have HD6 := Lib.hid (HD5.out.trans (hb6.mono HD5.out.size))
      clear hb6
      refine hK _ _ (fun _ => HBOX.out _ HD6.out) ?_
      clear hK K
      iterate 2
        refine wpMix_step rfl (fun K hK => ?_)
        go_simp
        refine hK _ _ (fun _ => HBOX.out _ HD6.out) ?_
        clear hK K
      refine wpMix_nil ?_
      refine NoPanic.normal ?_
      go_wp2_with fail
      go_ret
      exact ⟨by rw [HR.out]; simp, HB0.out.trans (HD6.out.mono HB0.out.size)⟩
/-- What the datatype of a name gives. -/
theorem dtFound_cons {B : Nat} {w : World} {A : Option Addr} {l : List Dt} (h : DtsIn B w A l) (n : ByteArray) : ∃ nm A9 c9, (dtFound l n).1 = .agg #[.string nm, .slice A9 (consOf l n).length c9] ∧ RowAt B w 5 A9 ((consOf l n).map Cn.cells) ∧
    (∀ x ∈ consOf l n, x.In B w ∧ ∃ d ∈ l, x ∈ d.cons) ∧ (consOf l n).length ≤ 1099511627776 := by
  unfold dtFound consOf
  cases hf : l.find? fun d => d.name.toList == n.toList with
  | none => exact ⟨emptyS, none, 0, rfl, fun h0 => (by simp at h0), fun x hx => (by cases hx), (by simp)⟩
  | some d =>
    have hm := List.mem_of_find?_eq_some hf
    obtain ⟨h1, h2, h3, h4, h5⟩ := h.each d hm
    exact ⟨d.name, d.at_, d.cap, rfl, h4, fun x hx => ⟨h5 x hx, d, hm, hx⟩, h2⟩
/-- The constructor's box, and the pattern's first part. -/
def SX (bx bp : Nat) (cc : Cn) (d s : ByteArray) (n : Int) (b2 o2 c : Nat) (p0 : Pt) (W : World) : Prop :=
  W.cell? ⟨bx, 0, none⟩ = some (.string cc.name) ∧ W.cell? ⟨bx, 1, none⟩ = some (.bool cc.has) ∧ W.cell? ⟨bx, 2, none⟩ = some (.string cc.ty.dof) ∧ W.cell? ⟨bx, 3, none⟩ = some (.string cc.ty.name) ∧ W.cell? ⟨bx, 4, none⟩ = some (.slice cc.ty.at_ cc.ty.args.length cc.ty.cap) ∧ bx < W.heap.size ∧
  W.cell? ⟨bp, 3, none⟩ = some (.slice (some ⟨b2, o2, none⟩) 1 c) ∧ bp < W.heap.size ∧
  (W.cell? ⟨b2, o2, none⟩ = some (.string p0.dof) ∧ W.cell? ⟨b2, o2 + 1, none⟩ = some (.string p0.name) ∧ W.cell? ⟨b2, o2 + 2, none⟩ = some (.int .i64 p0.num) ∧ W.cell? ⟨b2, o2 + 3, none⟩ = some (.slice p0.at_ p0.args.length p0.cap))
def SX0 (bx : Nat) (W : World) : Prop := W.cell? ⟨bx, 1, none⟩ = some (.bool false) ∧ bx < W.heap.size
set_option maxRecDepth 100000 in
set_option maxHeartbeats 16000000 in
/-- A constructor. -/
theorem isOf_con (A : Option Addr) (l : List Dt) (c : Nat) (hty : ∀ d ∈ l, ∀ x ∈ d.cons, x.has = true → x.ty.well (kindB .con) = true) (d s : ByteArray) (n : Int) (Ap : Option Addr) (cp : Nat) (ps : List Pt) (hps : ∀ q ∈ ps, IsOfC A l c q)
    (g1 : (d.toList == [97, 110, 121]) = false) (g2 : (d.toList == [118, 97, 114]) = false) (g3 : (d.toList == [105, 110, 116]) = false) (g4 : (d.toList == [98, 111, 111, 108]) = false) (g5 : (d.toList == [117, 110, 105, 116]) = false) (g6 : (d.toList == [110, 105, 108]) = false)
    (g7 : (d.toList == [112, 97, 105, 114]) = false) (g8 : (d.toList == [99, 111, 110, 115]) = false)
    (t : Ty) (w : World) (hd : DtsIn w.heap.size w A l) (hp : (Pt.mk d s n Ap cp ps).In w.heap.size w) (hw : (Pt.mk d s n Ap cp ps).wellB = true) (ht : t.In w.heap.size w) (htw : t.well (kindB .con) = true) :
    Calls Tryz.prog 39 #[.slice A l.length c, t.val, (Pt.mk d s n Ap cp ps).val] w fun e w' => e = .returned (.bool ((Pt.mk d s n Ap cp ps).isOf l t)) ∧ Below w.heap.size w w' := by
  obtain ⟨-, -, -, -, -, hprow, hpall⟩ := Pt.In_mk.1 hp
  rw [Pt.wellB_mk, Bool.and_eq_true, List.all_eq_true] at hw
  have HRES := Lib.hid (show (Pt.mk d s n Ap cp ps).isOf l t = (match pickC l t s ps.length with | none => false | some c => !c.has || isOfL l ps [c.ty]) by
    rw [Pt.isOf_mk]
    simp only [isDo, g1, g2, g3, g4, g5, g6, g7, g8, Bool.or_false, Bool.false_eq_true, if_false, if_true]
    cases pickC l t s ps.length <;> rfl)
  generalize (Pt.mk d s n Ap cp ps).isOf l t = res at HRES ⊢
  obtain ⟨nm, A9, c9, hform, hrow9, hx9, hl9⟩ := dtFound_cons hd t.name
  have HR9 := Lib.hid hrow9
  have HX9 := Lib.hid hx9
  have HFORM := Lib.hid hform
  have HD := Lib.hid hd
  have HP := Lib.hid hpall
  have HPR := Lib.hid hprow
  have HPW := Lib.hid hw.2
  have HPS := Lib.hid hps
  have HTY := Lib.hid hty
  have HPICK := Lib.hid (show pickC l t s ps.length = (consOf l t.name).find? (fun c => isDo [100, 97, 116, 97] t.dof && (c.name.toList == s.toList && (c.has == ((ps.length : Int) == 1)))) from rfl)
  have HCD := Lib.hid (fun (W : World) (hW : Below w.heap.size w W) => datatype_any A l c t.name W (HD.out.next hW))
  generalize consOf l t.name = cs at hform hrow9 hx9 hl9 HR9 HX9 HFORM HPICK
  have HB0 := Lib.hid (((Below.refl w.heap.size w).alloc (Nat.le_refl _) (.cells #[.string t.dof, .string t.name, .slice t.at_ t.args.length t.cap] 25)).alloc (by simp) (.cells #[.string d, .string s, .int .i64 n, .slice Ap ps.length cp] 28))
  have K1 := Lib.hid ((Blk.new w #[.string t.dof, .string t.name, .slice t.at_ t.args.length t.cap] 25).alloc (.cells #[.string d, .string s, .int .i64 n, .slice Ap ps.length cp] 28))
  have K2 := Lib.hid (Blk.new' (w.alloc (.cells #[.string t.dof, .string t.name, .slice t.at_ t.args.length t.cap] 25)) #[.string d, .string s, .int .i64 n, .slice Ap ps.length cp] 28 (w.heap.size + 1) (by simp))
  clear hform hrow9 hx9 hprow hpall hd hp hw ht htw hps hty
  unfold Ty.val Pt.val
  simp only [Pt.dof, Pt.name, Pt.num, Pt.at_, Pt.cap, Pt.args]
  obtain ⟨tdat, hdat⟩ : ∃ x, (t.dof.toList == [100, 97, 116, 97]) = x := ⟨_, rfl⟩
  obtain ⟨lb, hlb⟩ : ∃ x, ((ps.length : Int) == 1) = x := ⟨_, rfl⟩
  have HPICK2 := Lib.hid (show pickC l t s ps.length = cs.find? (fun c => tdat && (c.name.toList == s.toList && (c.has == lb))) by rw [HPICK.out]; unfold isDo; rw [hdat, hlb])
  have HLB := Lib.hid hlb
  clear HPICK
  go_enter Tryz.func39, Tryz.ntmps39
  go_wp2_with fail
  generalize ((w.alloc (.cells #[.string t.dof, .string t.name, .slice t.at_ t.args.length t.cap] 25)).alloc (.cells #[.string d, .string s, .int .i64 n, .slice Ap ps.length cp] 28)) = w0 at HB0 K1 K2 ⊢
  refine Calls.mono (HCD.out _ HB0.out) ?_
  rintro e w1 ⟨rfl, hb1⟩
  rw [HFORM.out]
  have HB1 := Lib.hid (HB0.out.trans (hb1.mono HB0.out.size))
  have K11 := Lib.hid (K1.out.below hb1 K1.out.lt)
  have K21 := Lib.hid (K2.out.below hb1 K2.out.lt)
  generalize (dtFound l t.name).2 = fnd at *
  clear hb1
  go_wp2_with fail
  have HB2 := Lib.hid (HB1.out.alloc HB1.out.size (.cells #[.string nm, .slice A9 cs.length c9] 111))
  have K12 := Lib.hid (K11.out.alloc (.cells #[.string nm, .slice A9 cs.length c9] 111))
  have K22 := Lib.hid (K21.out.alloc (.cells #[.string nm, .slice A9 cs.length c9] 111))
  generalize w1.alloc (.cells #[.string nm, .slice A9 cs.length c9] 111) = w2 at HB2 K12 K22 ⊢
  go_loopw [95] (fun iv wr => ∃ k : Nat, iv = .int .i64 k ∧ k ≤ cs.length ∧ Hid (Below w2.heap.size w2 wr) ∧ Hid (∀ j x, j < k → cs[j]? = some x → (fun c : Cn => tdat && (c.name.toList == s.toList && (c.has == lb))) x = false)) (fun iv _ => cs.length - (intOf iv).toNat)
  case atStart => exact ⟨0, rfl, Nat.zero_le _, Below.refl _ _, Lib.hid fun j x hj => absurd hj (Nat.not_lt_zero _)⟩
  case round =>
    obtain ⟨k, rfl, hk, HC, HN⟩ := hrel
    have HBW := Lib.hid (HB2.out.trans (HC.out.mono HB2.out.size))
    by_cases hlt : k < cs.length
    · obtain ⟨x, b5, off5, hq5, hm5, hat5, hb5, z0, z1, z2, z3, z4⟩ := Cn.arg_at HR9.out HBW.out hlt
      have HQ5 := Lib.hid hq5
      have HA5 := Lib.hid hat5
      rw [hat5]
      have HIN := Lib.hid (HX9.out x hm5)
      have hnamel := (HX9.out x hm5).1.1
      have KA := Lib.hid ((K12.out.below HC.out K12.out.lt).alloc (.cells #[.string x.name, .bool x.has, .string x.ty.dof, .string x.ty.name, .slice x.ty.at_ x.ty.args.length x.ty.cap] 117))
      have KB := Lib.hid ((K22.out.below HC.out K22.out.lt).alloc (.cells #[.string x.name, .bool x.has, .string x.ty.dof, .string x.ty.name, .slice x.ty.at_ x.ty.args.length x.ty.cap] 117))
      obtain ⟨y0, y1, y2⟩ := (K12.out.below HC.out K12.out.lt).three
      obtain ⟨v0, v1, v2, v3⟩ := (K22.out.below HC.out K22.out.lt).four
      have yl := (K12.out.below HC.out K12.out.lt).lt
      have vl := (K22.out.below HC.out K22.out.lt).lt
      have HBC := Lib.hid (HC.out.alloc HC.out.size (.cells #[.string x.name, .bool x.has, .string x.ty.dof, .string x.ty.name, .slice x.ty.at_ x.ty.args.length x.ty.cap] 117))
      have HKX := Lib.hid (Blk.new wr #[.string x.name, .bool x.has, .string x.ty.dof, .string x.ty.name, .slice x.ty.at_ x.ty.args.length x.ty.cap] 117)
      clear hq5
      obtain ⟨tnm, hnm⟩ : ∃ y, (x.name.toList == s.toList) = y := ⟨_, rfl⟩
      obtain ⟨hs, hhs⟩ : ∃ y, x.has = y := ⟨_, rfl⟩
      have HNM := Lib.hid (And.intro hnm hhs)
      rw [hhs] at z1 HKX HBC KA KB
      cases tdat
      case false =>
        go_wp2_with fail
        exact ⟨⟨k + 1, by go_num, by omega, HBC.out, Lib.hid (not_before HN.out HQ5.out (by simp))⟩, by simp [intOf]; omega⟩
      case true =>
        cases tnm
        case false =>
          go_wp2_with fail
          exact ⟨⟨k + 1, by go_num, by omega, HBC.out, Lib.hid (not_before HN.out HQ5.out (by simp [HNM.out.1]))⟩, by simp [intOf]; omega⟩
        case true =>
          cases hs <;> cases lb
          · have HPK := Lib.hid (show pickC l t s ps.length = some x by rw [HPICK2.out, find_hit HQ5.out (by simp [HNM.out.1, HNM.out.2]) HN.out])
            have HR := Lib.hid (show res = true by rw [HRES.out, HPK.out]; simp only [HNM.out.2]; rfl)
            have hbox : ∀ W, Below (wr.alloc (.cells #[.string x.name, .bool false, .string x.ty.dof, .string x.ty.name, .slice x.ty.at_ x.ty.args.length x.ty.cap] 117)).heap.size (wr.alloc (.cells #[.string x.name, .bool false, .string x.ty.dof, .string x.ty.name, .slice x.ty.at_ x.ty.args.length x.ty.cap] 117)) W → SX0 wr.heap.size W := fun W hW => by
              have k1 := HKX.out.below hW HKX.out.lt
              exact ⟨k1.cell 1, k1.lt⟩
            have HBOX := Lib.hid hbox
            clear hbox
            go_wp2_with fail
            generalize hwx : wr.alloc (.cells #[.string x.name, .bool false, .string x.ty.dof, .string x.ty.name, .slice x.ty.at_ x.ty.args.length x.ty.cap] 117) = wx at HBOX HBC ⊢
            refine region_mix (SX0 wr.heap.size) [(0, true), (1, true), (2, true), (3, true), (4, true), (5, true), (6, true), (7, true), (8, true), (9, true), (10, true), (11, false), (12, false), (13, false)] 12 (by kernel_rfl) (by kernel_rfl) (HBOX.out _ (Below.refl _ _).drew) ?_
            simp only [pickM, List.filterMap_cons, List.getElem?_cons_zero, List.getElem?_cons_succ, List.filterMap_nil, Option.map_some]
            iterate 4
              refine wpMix_read ?_ (by rfl) (fun W hW => ?_) ?_
              rotate_left
              · unfold SX0 at hW
                go_simp
                try with_reducible rfl
              simp only [Act.put, List.setIfInBounds_toArray, List.set_cons_zero, List.set_cons_succ]
            iterate 7
              refine wpMix_none (by rfl) ?_
              simp only [Act.put, List.setIfInBounds_toArray, List.set_cons_zero, List.set_cons_succ]
            refine wpMix_skip (by rfl) (HBOX.out _ (Below.refl _ _).drew) ?_
            simp only [Act.put, List.setIfInBounds_toArray, List.set_cons_zero, List.set_cons_succ]
            iterate 2
              refine wpMix_step rfl (fun K hK => ?_)
              go_simp
              refine hK _ _ (fun _ => HBOX.out _ (Below.refl _ _).drew) ?_
              clear hK K
            refine wpMix_nil ?_
            refine NoPanic.normal ?_
            go_wp2_with fail
            go_ret
            exact ⟨by rw [HR.out]; rfl, HB2.out.trans (HBC.out.drew.mono HB2.out.size)⟩

          · go_wp2_with fail
            exact ⟨⟨k + 1, by go_num, by omega, HBC.out, Lib.hid (not_before HN.out HQ5.out (by simp [HNM.out.1, HNM.out.2]))⟩, by simp [intOf]; omega⟩
          · go_wp2_with fail
            exact ⟨⟨k + 1, by go_num, by omega, HBC.out, Lib.hid (not_before HN.out HQ5.out (by simp [HNM.out.1, HNM.out.2]))⟩, by simp [intOf]; omega⟩
          · have HPK := Lib.hid (show pickC l t s ps.length = some x by rw [HPICK2.out, find_hit HQ5.out (by simp [HNM.out.1, HNM.out.2]) HN.out])
            obtain ⟨p0, hp0⟩ := one_list (show ps.length = 1 by have h9 := HLB.out; rw [beq_iff_eq] at h9; omega)
            subst hp0
            have HR := Lib.hid (show res = p0.isOf l x.ty by rw [HRES.out, HPK.out]; simp only [HNM.out.2, isOfL]; simp)
            obtain ⟨b2, o2, hAp, hb2, hpc⟩ := one_row HPR.out
            subst hAp
            have HPC := Lib.hid hpc
            have hbox : ∀ W, Below (wr.alloc (.cells #[.string x.name, .bool true, .string x.ty.dof, .string x.ty.name, .slice x.ty.at_ x.ty.args.length x.ty.cap] 117)).heap.size (wr.alloc (.cells #[.string x.name, .bool true, .string x.ty.dof, .string x.ty.name, .slice x.ty.at_ x.ty.args.length x.ty.cap] 117)) W → SX wr.heap.size (w.heap.size + 1) x d s n b2 o2 cp p0 W := fun W hW => by
              have k1 := HKX.out.below hW HKX.out.lt
              have k2 := KB.out.below hW KB.out.lt
              have hb := (HB2.out.trans (HBC.out.mono HB2.out.size)).trans (hW.mono (Nat.le_trans HB2.out.size HBC.out.size))
              exact ⟨k1.cell 0, by rw [HNM.out.2]; exact k1.cell 1, k1.cell 2, k1.cell 3, k1.cell 4, k1.lt, k2.cell 3, k2.lt, HPC.out W hb⟩
            have HBOX := Lib.hid hbox
            have HX1 := Lib.hid HIN.out.1.2
            have HX2 := Lib.hid (show x.ty.well (kindB .con) = true by obtain ⟨d9, hd9, hx9⟩ := HIN.out.2; exact HTY.out d9 hd9 x hx9 HNM.out.2)
            have HC0 := Lib.hid (fun (W : World) (hW : Below w.heap.size w W) => HPS.out p0 (by simp) x.ty W (HD.out.next hW) ((HP.out p0 (by simp)).next hW) (HPW.out p0 (by simp)) (HX1.out.next hW) HX2.out)
            generalize p0.isOf l x.ty = r0 at HC0 HR
            clear hbox hpc
            unfold Ty.val Pt.val at HC0
            simp only [List.length_cons, List.length_nil, Nat.zero_add] at *
            go_wp2_with fail
            generalize hwx : wr.alloc (.cells #[.string x.name, .bool true, .string x.ty.dof, .string x.ty.name, .slice x.ty.at_ x.ty.args.length x.ty.cap] 117) = w0 at HBOX HBC ⊢
            refine region_mix (SX wr.heap.size (w.heap.size + 1) x d s n b2 o2 cp p0) [(0, true), (1, true), (2, true), (3, true), (4, true), (5, true), (6, true), (7, true), (8, true), (9, true), (10, true), (11, false), (12, false), (13, false)] 12 (by kernel_rfl) (by kernel_rfl) (HBOX.out _ (Below.refl _ _).drew) ?_
            simp only [pickM, List.filterMap_cons, List.getElem?_cons_zero, List.getElem?_cons_succ, List.filterMap_nil, Option.map_some]
            iterate 11
              refine wpMix_read ?_ (by rfl) (fun W hW => ?_) ?_
              rotate_left
              · unfold SX at hW
                go_simp
                try with_reducible rfl
              simp only [Act.put, List.setIfInBounds_toArray, List.set_cons_zero, List.set_cons_succ]
            refine wpMix_stepw (by rfl) (fun K hK => ?_)
            go_simp
            refine Calls.mono (HC0.out _ (HB2.out.trans (HBC.out.drew.mono HB2.out.size))) ?_
            rintro e w5 ⟨rfl, hb5⟩
            have HD5 := Lib.hid (((Below.refl w0.heap.size w0).drew).trans (hb5.mono ((Below.refl w0.heap.size w0).drew).size))
            clear hb5
            refine hK _ _ (fun _ => HBOX.out _ HD5.out) ?_
            clear hK K
            iterate 2
              refine wpMix_step rfl (fun K hK => ?_)
              go_simp
              refine hK _ _ (fun _ => HBOX.out _ HD5.out) ?_
              clear hK K
            refine wpMix_nil ?_
            refine NoPanic.normal ?_
            go_wp2_with fail
            go_ret
            exact ⟨by rw [HR.out]; simp, HB2.out.trans ((HBC.out.trans (HD5.out.mono HBC.out.size)).mono HB2.out.size)⟩

    · have hk2 : k = cs.length := by omega
      have hn := HN.out
      rw [hk2] at hn
      have HR := Lib.hid (show res = false by rw [HRES.out, HPICK2.out, find_miss hn])
      clear hn hk2
      go_wp2_with fail
      go_ret
      exact ⟨by rw [HR.out]; rfl, HBW.out⟩
set_option maxRecDepth 100000 in
set_option maxHeartbeats 8000000 in
theorem isOf_any (A : Option Addr) (l : List Dt) (c : Nat) (hty : ∀ d ∈ l, ∀ x ∈ d.cons, x.has = true → x.ty.well (kindB .con) = true) : ∀ p : Pt, IsOfC A l c p := by
  refine Pt.induct fun d s n Ap cp ps ih t w hd hp hw ht htw => ?_
  have HB0 := Lib.hid (((Below.refl w.heap.size w).alloc (Nat.le_refl _) (.cells #[.string t.dof, .string t.name, .slice t.at_ t.args.length t.cap] 25)).alloc (by simp) (.cells #[.string d, .string s, .int .i64 n, .slice Ap ps.length cp] 28))
  have hmk := Pt.isOf_mk l d s n Ap cp ps t
  have HMK := Lib.hid hmk
  have hnode := (show nodeOk d s n ps.length = true by rw [Pt.wellB_mk, Bool.and_eq_true] at hw; exact hw.1)
  have HNODE := Lib.hid hnode
  clear hmk hnode
  obtain ⟨t1, g1⟩ : ∃ x, (d.toList == [97, 110, 121]) = x := ⟨_, rfl⟩
  cases t1
  case true =>
    have HR := Lib.hid (show (Pt.mk d s n Ap cp ps).isOf l t = true by rw [HMK.out]; simp [isDo, g1])
    generalize (Pt.mk d s n Ap cp ps).isOf l t = res at HR ⊢
    clear HMK ih hd hp hw ht htw
    unfold Ty.val Pt.val
    simp only [Pt.dof, Pt.name, Pt.num, Pt.at_, Pt.cap, Pt.args]
    go_enter Tryz.func39, Tryz.ntmps39
    go_wp2_with fail
    go_ret
    exact ⟨by rw [HR.out]; rfl, HB0.out⟩
  obtain ⟨t2, g2⟩ : ∃ x, (d.toList == [118, 97, 114]) = x := ⟨_, rfl⟩
  cases t2
  case true =>
    have HR := Lib.hid (show (Pt.mk d s n Ap cp ps).isOf l t = true by rw [HMK.out]; simp [isDo, g1, g2])
    generalize (Pt.mk d s n Ap cp ps).isOf l t = res at HR ⊢
    clear HMK ih hd hp hw ht htw
    unfold Ty.val Pt.val
    simp only [Pt.dof, Pt.name, Pt.num, Pt.at_, Pt.cap, Pt.args]
    go_enter Tryz.func39, Tryz.ntmps39
    go_wp2_with fail
    go_ret
    exact ⟨by rw [HR.out]; rfl, HB0.out⟩
  obtain ⟨te, hte⟩ : ∃ x, (t.dof.toList == d.toList) = x := ⟨_, rfl⟩
  obtain ⟨t3, g3⟩ : ∃ x, (d.toList == [105, 110, 116]) = x := ⟨_, rfl⟩
  cases t3
  case true =>
    have HR := Lib.hid (show (Pt.mk d s n Ap cp ps).isOf l t = te by rw [HMK.out]; simp [isDo, g1, g2, g3, hte])
    generalize (Pt.mk d s n Ap cp ps).isOf l t = res at HR ⊢
    clear HMK ih hd hp hw ht htw
    unfold Ty.val Pt.val
    simp only [Pt.dof, Pt.name, Pt.num, Pt.at_, Pt.cap, Pt.args]
    go_enter Tryz.func39, Tryz.ntmps39
    go_wp2_with fail
    go_ret
    exact ⟨by rw [HR.out]; rfl, HB0.out⟩
  obtain ⟨t4, g4⟩ : ∃ x, (d.toList == [98, 111, 111, 108]) = x := ⟨_, rfl⟩
  cases t4
  case true =>
    have HR := Lib.hid (show (Pt.mk d s n Ap cp ps).isOf l t = te by rw [HMK.out]; simp [isDo, g1, g2, g3, g4, hte])
    generalize (Pt.mk d s n Ap cp ps).isOf l t = res at HR ⊢
    clear HMK ih hd hp hw ht htw
    unfold Ty.val Pt.val
    simp only [Pt.dof, Pt.name, Pt.num, Pt.at_, Pt.cap, Pt.args]
    go_enter Tryz.func39, Tryz.ntmps39
    go_wp2_with fail
    go_ret
    exact ⟨by rw [HR.out]; rfl, HB0.out⟩
  obtain ⟨t5, g5⟩ : ∃ x, (d.toList == [117, 110, 105, 116]) = x := ⟨_, rfl⟩
  cases t5
  case true =>
    have HR := Lib.hid (show (Pt.mk d s n Ap cp ps).isOf l t = te by rw [HMK.out]; simp [isDo, g1, g2, g3, g4, g5, hte])
    generalize (Pt.mk d s n Ap cp ps).isOf l t = res at HR ⊢
    clear HMK ih hd hp hw ht htw
    unfold Ty.val Pt.val
    simp only [Pt.dof, Pt.name, Pt.num, Pt.at_, Pt.cap, Pt.args]
    go_enter Tryz.func39, Tryz.ntmps39
    go_wp2_with fail
    go_ret
    exact ⟨by rw [HR.out]; rfl, HB0.out⟩
  obtain ⟨t6, g6⟩ : ∃ x, (d.toList == [110, 105, 108]) = x := ⟨_, rfl⟩
  cases t6
  case true =>
    obtain ⟨tl, htl⟩ : ∃ x, (t.dof.toList == [108, 105, 115, 116]) = x := ⟨_, rfl⟩
    have HR := Lib.hid (show (Pt.mk d s n Ap cp ps).isOf l t = tl by rw [HMK.out]; simp [isDo, g1, g2, g3, g4, g5, g6, htl])
    generalize (Pt.mk d s n Ap cp ps).isOf l t = res at HR ⊢
    clear HMK ih hd hp hw ht htw
    unfold Ty.val Pt.val
    simp only [Pt.dof, Pt.name, Pt.num, Pt.at_, Pt.cap, Pt.args]
    go_enter Tryz.func39, Tryz.ntmps39
    go_wp2_with fail
    go_ret
    exact ⟨by rw [HR.out]; rfl, HB0.out⟩
  obtain ⟨t7, g7⟩ : ∃ x, (d.toList == [112, 97, 105, 114]) = x := ⟨_, rfl⟩
  cases t7
  case true =>
    have hl2 : ps.length = 2 := by
      have h := HNODE.out
      unfold nodeOk at h
      simp only [g1, g2, g3, g4, g5, g6, g7, Bool.or_false, Bool.false_or, Bool.false_eq_true, if_false, if_true, Bool.true_or, Bool.and_eq_true, beq_iff_eq] at h
      exact h.2
    obtain ⟨p0, p1, rfl⟩ := two_list hl2
    exact isOf_pair A l c p0 p1 (ih p0 (by simp)) (ih p1 (by simp)) d s n Ap cp g7 t w hd hp hw ht htw
  obtain ⟨t8, g8⟩ : ∃ x, (d.toList == [99, 111, 110, 115]) = x := ⟨_, rfl⟩
  cases t8
  case true =>
    have hl2 : ps.length = 2 := by
      have h := HNODE.out
      unfold nodeOk at h
      simp only [g1, g2, g3, g4, g5, g6, g7, g8, Bool.or_false, Bool.false_or, Bool.false_eq_true, if_false, if_true, Bool.or_true, Bool.and_eq_true, beq_iff_eq] at h
      exact h.2
    obtain ⟨p0, p1, rfl⟩ := two_list hl2
    exact isOf_cons A l c p0 p1 (ih p0 (by simp)) (ih p1 (by simp)) d s n Ap cp g8 t w hd hp hw ht htw
  exact isOf_con A l c hty d s n Ap cp ps ih g1 g2 g3 g4 g5 g6 g7 g8 t w hd hp hw ht htw
end Go.Proofs.YtjeggkfgdhepaaaGreatDoor

/- The law MatchFits, walked. -/
set_option linter.unusedVariables false
set_option linter.unusedSimpArgs false
namespace Go.Proofs.YtjeggkfgdhepaaaGreatDoor
open Go.RowKit
open Go.Proofs

theorem there_well {l : List Dt} {t : Ty} (h : t.there (dTo l l.length) = true) : t.well (kindB .con) = true := by
  unfold Ty.there Ty.valid at h
  simp only [Bool.and_eq_true] at h
  exact h.1.1
theorem sound_tys {l : List Dt} {t : Ty} (h : soundB l t = true) : t.well (kindB .con) = true ∧ (∀ d ∈ l, ∀ x ∈ d.cons, x.has = true → x.ty.well (kindB .con) = true) ∧ distinctB (l.map Dt.name) = true ∧ distinctB ((allCons l).map Cn.name) = true := by
  have h0 := h
  rw [sound_world, Bool.and_eq_true] at h
  unfold soundB at h0
  simp only [Bool.and_eq_true] at h0
  refine ⟨there_well h.2, fun d hd x hx hh => ?_, h0.2.1, h0.2.2.1⟩
  have hw := h.1
  unfold worldB at hw
  simp only [Bool.and_eq_true, List.all_eq_true] at hw
  have := hw.2.2.2.2 x (by unfold allCons; exact List.mem_flatMap.2 ⟨d, hd, hx⟩)
  rw [hh] at this
  exact there_well (by simpa using this)
set_option maxRecDepth 100000 in
set_option maxHeartbeats 4000000 in
theorem rFits_any (A : Option Addr) (l : List Dt) (c : Nat) (t : Ty) (p : Pt) (w : World) (he : Env w) (h : DtsIn w.heap.size w A l) (ht : t.In w.heap.size w) (hp : p.In w.heap.size w) (hpw : p.wellB = true) (hcnt : t.count ≤ 1048576) (hcc : ∀ d ∈ l, ∀ x ∈ d.cons, x.ty.count ≤ 1048576) :
    Calls Tryz.prog 12 #[.slice A l.length c, t.val, p.val] w fun e w' => e = .returned (.tuple #[.bool (soundB l t && p.fit (lookOf l) t), .int .i64 (fitsErr (soundB l t))]) ∧ Below w.heap.size w w' := by
  have HC1 := Lib.hid (fun (W : World) (hW : Below w.heap.size w W) => sound_any A l c t W (he.next hW) (h.next hW) (ht.next hW) hcnt hcc)
  have HC2 := Lib.hid (fun (hs : soundB l t = true) (W : World) (hW : Below w.heap.size w W) => isOf_any A l c (sound_tys hs).2.1 p t W (h.next hW) (hp.next hW) hpw (ht.next hW) (sound_tys hs).1)
  have HFIT := Lib.hid (fun (hs : soundB l t = true) => isOf_fit (sound_tys hs).2.2.1 (sound_tys hs).2.2.2 p t hpw)
  clear he h ht hp
  generalize hss : soundB l t = sd at HC1 HC2 HFIT ⊢
  clear hss
  have HB0 := Lib.hid (((Below.refl w.heap.size w).alloc (Nat.le_refl _) (.cells #[.string t.dof, .string t.name, .slice t.at_ t.args.length t.cap] 25)).alloc (by simp) (.cells #[.string p.dof, .string p.name, .int .i64 p.num, .slice p.at_ p.args.length p.cap] 28))
  have K1 := Lib.hid ((Blk.new w #[.string t.dof, .string t.name, .slice t.at_ t.args.length t.cap] 25).alloc (.cells #[.string p.dof, .string p.name, .int .i64 p.num, .slice p.at_ p.args.length p.cap] 28))
  have K2 := Lib.hid (Blk.new' (w.alloc (.cells #[.string t.dof, .string t.name, .slice t.at_ t.args.length t.cap] 25)) #[.string p.dof, .string p.name, .int .i64 p.num, .slice p.at_ p.args.length p.cap] 28 (w.heap.size + 1) (by simp))
  unfold fitsErr
  unfold Ty.val Pt.val at *
  cases sd
  case false =>
    go_enter Tryz.func12, Tryz.ntmps12
    go_wp2_with fail
    refine Calls.mono (HC1.out _ HB0.out) ?_
    rintro e w1 ⟨rfl, hb1⟩
    have HB1 := Lib.hid (HB0.out.trans (hb1.mono HB0.out.size))
    clear hb1
    go_wp2_with fail
    go_ret2
    exact ⟨rfl, HB1.out⟩
  case true =>
    have HF := Lib.hid (HFIT.out rfl)
    have HC := Lib.hid (HC2.out rfl)
    generalize p.isOf l t = r at HF HC
    generalize p.fit (lookOf l) t = r2 at HF ⊢
    have hr := HF.out
    subst hr
    clear HC2 HFIT HF
    go_enter Tryz.func12, Tryz.ntmps12
    go_wp2_with fail
    generalize ((w.alloc (.cells #[.string t.dof, .string t.name, .slice t.at_ t.args.length t.cap] 25)).alloc (.cells #[.string p.dof, .string p.name, .int .i64 p.num, .slice p.at_ p.args.length p.cap] 28)) = w0 at HB0 K1 K2 ⊢
    refine Calls.mono (HC1.out _ HB0.out) ?_
    rintro e w1 ⟨rfl, hb1⟩
    have HB1 := Lib.hid (HB0.out.trans (hb1.mono HB0.out.size))
    obtain ⟨y0, y1, y2⟩ := (K1.out.below hb1 K1.out.lt).three
    have yl := (K1.out.below hb1 K1.out.lt).lt
    obtain ⟨z0, z1, z2, z3⟩ := (K2.out.below hb1 K2.out.lt).four
    have zl := (K2.out.below hb1 K2.out.lt).lt
    clear hb1
    go_wp2_with fail
    refine Calls.mono (HC.out _ HB1.out) ?_
    rintro e w2 ⟨rfl, hb2⟩
    have HB2 := Lib.hid (HB1.out.trans (hb2.mono HB1.out.size))
    clear hb2
    go_wp2_with fail
    go_ret2
    exact ⟨by simp, HB2.out⟩
set_option maxRecDepth 100000 in
set_option maxHeartbeats 4000000 in
theorem fits_law (A : Option Addr) (l : List Dt) (c : Nat) (t : Ty) (p : Pt) (w : World) (he : Env w) (h : DtsIn w.heap.size w A l) (ht : t.In w.heap.size w) (hp : p.In w.heap.size w) (hpb : p.binds.length ≤ 1048576) (hcnt : t.count ≤ 1048576) (hcc : ∀ d ∈ l, ∀ x ∈ d.cons, x.ty.count ≤ 1048576) :
    Calls Tryz.prog 3 #[.slice A l.length c, t.val, p.val] w fun e w' => e = .returned (.bool true) ∧ Below w.heap.size w w' := by
  have HC1 := Lib.hid (fun (W : World) (hW : Below w.heap.size w W) => validFlat_any p W (he.next hW) (hp.next hW) hpb)
  have HC2 := Lib.hid (fun (W : World) (hW : Below w.heap.size w W) => fitsP_any A l c t p W (he.next hW) (h.next hW) (ht.next hW) (hp.next hW) hpb)
  have HC3 := Lib.hid (fun (hw : p.wellB = true) (W : World) (hW : Below w.heap.size w W) => rFits_any A l c t p W (he.next hW) (h.next hW) (ht.next hW) (hp.next hW) hw hcnt hcc)
  have HC4 := Lib.hid (fun (W : World) (hW : Below w.heap.size w W) => awake_any W (he.next hW))
  have HASK := Lib.hid (fun (hpat : p.patB = true) => show askB l t p = soundB l t by unfold askB; rw [hpat, Bool.and_true, sound_world])
  have HWELL := Lib.hid (fun (hpat : p.patB = true) => show p.wellB = true by unfold Pt.patB Pt.okS at hpat; simp only [Bool.and_eq_true] at hpat; exact hpat.1.1)
  clear he h ht hp
  generalize hpat : p.patB = pb at HC1 HASK HWELL
  clear hpat
  have HB0 := Lib.hid (((Below.refl w.heap.size w).alloc (Nat.le_refl _) (.cells #[.string t.dof, .string t.name, .slice t.at_ t.args.length t.cap] 25)).alloc (by simp) (.cells #[.string p.dof, .string p.name, .int .i64 p.num, .slice p.at_ p.args.length p.cap] 28))
  have K1 := Lib.hid ((Blk.new w #[.string t.dof, .string t.name, .slice t.at_ t.args.length t.cap] 25).alloc (.cells #[.string p.dof, .string p.name, .int .i64 p.num, .slice p.at_ p.args.length p.cap] 28))
  have K2 := Lib.hid (Blk.new' (w.alloc (.cells #[.string t.dof, .string t.name, .slice t.at_ t.args.length t.cap] 25)) #[.string p.dof, .string p.name, .int .i64 p.num, .slice p.at_ p.args.length p.cap] 28 (w.heap.size + 1) (by simp))
  unfold Ty.val Pt.val at *
  cases pb
  case false =>
    go_enter Tryz.func3, Tryz.ntmps3
    go_wp2_with fail
    refine Calls.mono (HC1.out _ HB0.out) ?_
    rintro e w1 ⟨rfl, hb1⟩
    have HB1 := Lib.hid (HB0.out.trans (hb1.mono HB0.out.size))
    clear hb1
    go_wp2_with fail
    refine Calls.mono (HC4.out _ HB1.out) ?_
    rintro e w2 ⟨rfl, hb2⟩
    have HB2 := Lib.hid (HB1.out.trans (hb2.mono HB1.out.size))
    clear hb2
    go_wp2_with fail
    go_ret
    exact ⟨rfl, HB2.out⟩
  case true =>
    have HC3' := Lib.hid (HC3.out (HWELL.out rfl))
    have ha := HASK.out rfl
    rw [ha] at HC2
    clear HASK HWELL HC3 ha
    generalize (soundB l t && p.fit (lookOf l) t) = x1 at HC2 HC3'
    generalize fitsErr (soundB l t) = x2 at HC2 HC3'
    go_enter Tryz.func3, Tryz.ntmps3
    go_wp2_with fail
    generalize ((w.alloc (.cells #[.string t.dof, .string t.name, .slice t.at_ t.args.length t.cap] 25)).alloc (.cells #[.string p.dof, .string p.name, .int .i64 p.num, .slice p.at_ p.args.length p.cap] 28)) = w0 at HB0 K1 K2 ⊢
    refine Calls.mono (HC1.out _ HB0.out) ?_
    rintro e w1 ⟨rfl, hb1⟩
    have HB1 := Lib.hid (HB0.out.trans (hb1.mono HB0.out.size))
    have K11 := Lib.hid (K1.out.below hb1 K1.out.lt)
    have K21 := Lib.hid (K2.out.below hb1 K2.out.lt)
    obtain ⟨y0, y1, y2⟩ := K11.out.three
    have yl := K11.out.lt
    obtain ⟨z0, z1, z2, z3⟩ := K21.out.four
    have zl := K21.out.lt
    clear hb1
    go_wp2_with fail
    refine Calls.mono (HC2.out _ HB1.out) ?_
    rintro e w2 ⟨rfl, hb2⟩
    have HB2 := Lib.hid (HB1.out.trans (hb2.mono HB1.out.size))
    have K12 := Lib.hid (K11.out.below hb2 K11.out.lt)
    have K22 := Lib.hid (K21.out.below hb2 K21.out.lt)
    clear hb2 y0 y1 y2 yl z0 z1 z2 z3 zl
    obtain ⟨y0, y1, y2⟩ := K12.out.three
    have yl := K12.out.lt
    obtain ⟨z0, z1, z2, z3⟩ := K22.out.four
    have zl := K22.out.lt
    go_wp2_with fail
    refine Calls.mono (HC3'.out _ HB2.out) ?_
    rintro e w3 ⟨rfl, hb3⟩
    have HB3 := Lib.hid (HB2.out.trans (hb3.mono HB2.out.size))
    clear hb3 y0 y1 y2 yl z0 z1 z2 z3 zl
    go_wp2_with fail
    refine Calls.mono (HC4.out _ HB3.out) ?_
    rintro e w4 ⟨rfl, hb4⟩
    have HB4 := Lib.hid (HB3.out.trans (hb4.mono HB3.out.size))
    clear hb4
    go_wp2_with fail
    go_ret
    exact ⟨rfl, HB4.out⟩
end Go.Proofs.YtjeggkfgdhepaaaGreatDoor

/- What each of the six cards needs of the row: the witness, the library's variables in any world that the row lets in, and the form of the answer. -/
set_option linter.unusedVariables false
set_option linter.unusedSimpArgs false
namespace Go.Proofs.YtjeggkfgdhepaaaGreatDoor
set_option maxRecDepth 100000
open Go.ChangeShapes Go.WideShapes Go.ChangeAt Go.RowKit

theorem own : ownKnob Tryz.prog.godebug = none := by kernel_rfl
theorem laidOut : laidOutB Tryz.prog = true := by kernel_rfl
abbrev laidM : List (String × DataW Unit) := [("math/bits.deBruijn32tab", Rows.laid_math_bits_deBruijn32tab), ("math/bits.deBruijn64tab", Rows.laid_math_bits_deBruijn64tab), ("internal/strconv.uint64pow10", Rows.laid_internal_strconv_uint64pow10), ("unicode/utf8.acceptRanges", Rows.laid_unicode_utf8_acceptRanges), ("strconv.ErrRange", Rows.laid_strconv_ErrRange), ("strconv.ErrSyntax", Rows.laid_strconv_ErrSyntax), ("unicode.White_Space", Rows.laid_unicode_White_Space), ("strings.asciiSpace", Rows.laid_strings_asciiSpace), ("unicode/utf8.first", Rows.laid_unicode_utf8_first)]
set_option maxRecDepth 100000 in
theorem space_is : (Rows.laid_strings_asciiSpace : DataW Unit) = Lib.tabData .u8 Lib.asciiSpaceTab := by kernel_rfl
theorem space_tab {W : World} (h : laidMetH Tryz.prog laidM W) : Lib.TabIs Tryz.prog W "strings.asciiSpace" .u8 Lib.asciiSpaceTab := by
  rw [MakeChecks.laidMetH_plain _ _ _ (by kernel_rfl)] at h
  have h2 := h.tail.tail.tail.tail.tail.tail.tail
  rw [space_is] at h2
  exact Lib.tabIs_of_head (g := 0) (t := 195) (e := 5) (n := 256) (by kernel_rfl) (by kernel_rfl) (by kernel_rfl) (by kernel_rfl) (by kernel_rfl) (by kernel_rfl) h2
theorem env_of {W : World} (hL : laidMetH Tryz.prog laidM W) (hsh : W.ShapedOpen Tryz.prog) : Env W := by
  refine ⟨space_tab hL, ?_, ?_⟩
  · exact cell_of_shapedOpen_int (P := Tryz.prog) (g := 1) (t := 3) (zero := #[.int .i64 0]) hsh (of_decide_eq_true (by kernel_rfl)) (by kernel_rfl) rfl (by kernel_rfl) (by kernel_rfl) Tryz.underlying3
  · obtain ⟨cs, hh, -⟩ := hsh.1 3 #[.nilIface] 192 (of_decide_eq_true (by kernel_rfl)) (by kernel_rfl)
    have := (Array.getElem?_eq_some_iff.1 hh).1
    omega
/-- The witness' world. -/
noncomputable abbrev witW (os : Os) (args : Array Value) : World := (World.laidAll Tryz.prog os laidM).forCall (fun _ _ => 0) ⟨#[], args, []⟩
set_option maxRecDepth 100000 in
theorem wit_laid (os : Os) (args : Array Value) : laidMet Tryz.prog laidM (witW os args).memory := laidMet_laidAll _ (by kernel_rfl) (by kernel_rfl)
theorem wit_laidH (os : Os) (args : Array Value) : laidMetH Tryz.prog laidM (witW os args).memory := by
  rw [MakeChecks.laidMetH_plain _ _ _ (by kernel_rfl)]
  exact wit_laid os args
set_option maxRecDepth 100000 in
theorem wit_shaped (os : Os) (args : Array Value) : (witW os args).Shaped Tryz.prog := World.shaped_of_ZipB (by kernel_rfl) (by kernel_rfl)
theorem wit_row {H : Type} {enc : TypeId × Value → H} {os : Os} {f : FuncId} {fn : Func} {s : OpenSpec} (args : Array Value)
    (hok : Input.okWideB Tryz.prog (witW os args) f ⟨#[], args, []⟩ = true) (hrow : s.preRow enc Tryz.prog fn [] false laidM (witW os args).memory args) :
    ∃ (w : World) (tape : Tape) (i : Input), w.os = os ∧ (w.forCall tape i).Shaped Tryz.prog ∧ i.vars = [] ∧ Input.okWide Tryz.prog (w.forCall tape i) .any w.heap.size f i ∧
      s.preRow enc Tryz.prog fn [] false laidM (w.forCall tape i).memory i.args ∧ ({} : Assume).holds Tryz.prog (lone (Frame.enter Tryz.prog f i.args .normal) [] (w.forCall tape i)) :=
  ⟨World.laidAll Tryz.prog os laidM, fun _ _ => 0, ⟨#[], args, []⟩, World.laidAll_os _ _ _, wit_shaped os args, (Input.okWide_of_okWideB (base := 0) hok).1, (Input.okWide_of_okWideB hok).2, hrow, by
    simp only [Assume.holds]
    exact ⟨by simp, by simp, by simp, by simp, by simp⟩⟩
section
variable {H : Type} {enc : TypeId × Value → H} {W : World} {base : Nat}
/-- An argument that is a pattern. -/
theorem arg_pt {v : Value} {d : DataW H} {p : List MemPlace} (hval : Value.okWide Tryz.prog W .any base 28 v) (h : DataW.Trod enc Tryz.prog W 0 (fun _ => true) true 28 v d p) (hb : blk d ≤ 1048576) :
    ∃ q : Pt, v = q.val ∧ q.In W.heap.size W ∧ q.count ≤ blk d := by
  obtain ⟨cs, rfl, hsz⟩ := okWide_struct Tryz.underlying28 hval
  obtain ⟨fuel, hf⟩ := h
  obtain ⟨q, hq, hg⟩ := open_pt fuel _ _ hf
  obtain ⟨h1, h2⟩ := hg hb
  refine ⟨q, ?_, h1, h2⟩
  have e : cs = q.cells.toArray := by rw [← hq]; rfl
  rw [e]
  rfl
theorem arg_ty {v : Value} {d : DataW H} {p : List MemPlace} (hval : Value.okWide Tryz.prog W .any base 25 v) (h : DataW.Trod enc Tryz.prog W 0 (fun _ => true) true 25 v d p) (hb : blk d ≤ 1048576) :
    ∃ q : Ty, v = q.val ∧ q.In W.heap.size W ∧ q.count ≤ blk d := by
  obtain ⟨cs, rfl, hsz⟩ := okWide_struct Tryz.underlying25 hval
  obtain ⟨fuel, hf⟩ := h
  obtain ⟨q, hq, hg⟩ := open_ty fuel _ _ hf
  obtain ⟨h1, h2⟩ := hg hb
  refine ⟨q, ?_, h1, h2⟩
  have e : cs = q.cells.toArray := by rw [← hq]; rfl
  rw [e]
  rfl
theorem arg_pts {v : Value} {d : DataW H} {p : List MemPlace} (hval : Value.okWide Tryz.prog W .any base 26 v) (h : DataW.Trod enc Tryz.prog W 0 (fun _ => true) true 26 v d p) (hb : blk d ≤ 1048576) :
    ∃ A c l, v = .slice A (List.length l) c ∧ PtsIn W.heap.size W A l ∧ l.length ≤ c ∧ (A = none → c = 0) ∧ l.length ≤ 1048576 ∧ c ≤ 1048576 ∧ (l.map Pt.count).sum ≤ 1048576 := by
  obtain ⟨a0, len0, cap0, rfl⟩ := okWide_slice Tryz.underlying26 hval
  obtain ⟨fuel, hf⟩ := h
  exact open_pts hf hb
theorem arg_dts {v : Value} {d : DataW H} {p : List MemPlace} (hval : Value.okWide Tryz.prog W .any base 22 v) (h : DataW.Trod enc Tryz.prog W 0 (fun _ => true) true 22 v d p) (hb : blk d ≤ 1048576) :
    ∃ A c l, v = .slice A (List.length l) c ∧ DtsIn W.heap.size W A l ∧ l.length ≤ c ∧ (A = none → c = 0) ∧ c ≤ 1048576 ∧ ∀ d ∈ l, ∀ x ∈ d.cons, x.ty.count ≤ 1048576 := by
  obtain ⟨a0, len0, cap0, rfl⟩ := okWide_slice Tryz.underlying22 hval
  obtain ⟨fuel, hf⟩ := h
  obtain ⟨A, c, l, hv, hrow, hall, hl, hA, hlen, hc, hsum⟩ := open_dts hf hb
  exact ⟨A, c, l, hv, ⟨hrow, fun d hd => (hall d hd).1, hlen, by unfold consN; rw [List.take_length]; exact hsum⟩, hl, hA, hc, fun d hd => (hall d hd).2.2.2⟩
end
end Go.Proofs.YtjeggkfgdhepaaaGreatDoor
