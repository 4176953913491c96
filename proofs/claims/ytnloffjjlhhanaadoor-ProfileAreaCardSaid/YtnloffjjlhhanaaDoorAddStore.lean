/- The reference's add: store. -/
import Derived.Test.YtnloffjjlhhanaaDoorAddNoStore
set_option linter.unusedVariables false
set_option linter.unusedSimpArgs false
namespace Go.Proofs.YtnloffjjlhhanaaDoor
open Go.RowKit
open Go.Proofs

set_option maxRecDepth 100000 in
set_option maxHeartbeats 4000000 in
theorem put_steps (x : Lf) (n f : Int) (hf : f = (if x.fin % 32 > 0 ∧ x.fin % 32 + n > 32 then x.fin + (32 - x.fin % 32) else x.fin) + n) :
    x.put n = { x with objs := x.objs + 1, wds := x.wds + n, fin := f, pages := max x.pages ({ x with objs := x.objs + 1, wds := x.wds + n, fin := f } : Lf).now } := by
  subst hf
  rfl
theorem TrAt.line {B gl i : Nat} {w : World} {R : Loc} {t : Tr} {s' : Int} {y : Lf} (h : TrAt B w R { t with step := s', st := { t.st with lf := t.st.lf.set i y } }) (hi : i < t.st.lf.length) (hg : R.Al = some ⟨gl, 0, none⟩) :
    (∀ j v, j < 9 → y.row[j]? = some v → w.cell? ⟨gl, i * 9 + j, none⟩ = some v) ∧ (∀ j, j < 9 → w.frozen? ⟨gl, i * 9 + j, none⟩ = false) ∧ gl < w.heap.size := by
  obtain ⟨g, h1, h2, h3, h4⟩ := row_flat h.rowl (i := i) (x := y) (by simp [hi])
  rw [hg] at h1
  simp only [Option.some.injEq, Addr.mk.injEq, and_true] at h1
  subst h1
  exact ⟨h2, h3, h4⟩
theorem TrAt.line_set {B gl i j : Nat} {w : World} {R : Loc} {t : Tr} {s' : Int} {x y : Lf} {v : Value} (h : TrAt B w R { t with step := s', st := { t.st with lf := t.st.lf.set i x } }) (hi : i < t.st.lf.length) (hg : R.Al = some ⟨gl, 0, none⟩)
    (hj : j < 9) (hy : y.row = x.row.set j v) (hgd : y.bounded = decide (y.words > 0)) : TrAt B (w.setCell ⟨gl, i * 9 + j, none⟩ v) R { t with step := s', st := { t.st with lf := t.st.lf.set i y } } := by
  have := h.setLine (i := i) (x := x) (y := y) (by simp [hi]) hg hj hy hgd
  simpa [List.set_set] using this
set_option maxRecDepth 100000 in
set_option maxHeartbeats 4000000 in
theorem add_store (B : Nat) (w : World) (R : Loc) (t : Tr) (e : Ev) (m : Nat) (h : TrAt B w R t) (hok : TrOk m t) (hm : m ≤ 4000) (hB : B ≤ w.heap.size) (hp : (t.early e || t.late e) = false) (ha_open : isOpen e = false) (ha_collect : isCollect e = false) (ha_left : isLeft e = false) (ha_store : isStore e = true) (j i : Nat) (x : Lf) (hj : t.place e.life = (j : Int)) (hji : t.st.op[j]? = some i) (hx : t.st.lf[i]? = some x) (hlife : e.life = (i : Int) + 1) (hcan : (decide (2 ≤ e.words) && decide (e.words ≤ 32) && x.may e.words) = true) :
    Calls Tryd.prog 38 #[.pointer (some ⟨R.t, 0, none⟩), e.val] w (AddPost B R w (t.add e)) := by
  have c2 : w.cell? ⟨R.t, 2, none⟩ = some (.int .i64 t.hole) := h.blk.cell 2
  have c4 : w.cell? ⟨R.t, 4, none⟩ = some (.int .i64 t.left) := h.blk.cell 4
  have c5 : w.cell? ⟨R.t, 5, none⟩ = some (.int .i64 t.step) := h.blk.cell 5
  have hl := h.blk.lt
  have H := Lib.hid h
  have hlf := hok.bd.lf
  have hop := hok.bd.op
  have HOK := Lib.hid hok
  have HP := Lib.hid hp
  have hp1 : ((e.step < t.step → False) ∧ (20000 < e.step → False)) := by
    unfold Tr.early at hp
    constructor
    · intro hh; simp [hh] at hp
    · intro hh; simp [hh] at hp
  have p1 : decide (e.step < t.step) = false := by simpa using hp1.1
  have p2 : decide (20000 < e.step) = false := by simpa using hp1.2
  have aopen : (e.act.toList == [111, 112, 101, 110]) = false := ha_open
  have acollect : (e.act.toList == [99, 111, 108, 108, 101, 99, 116]) = false := ha_collect
  have aleft : (e.act.toList == [108, 101, 102, 116]) = false := ha_left
  have astore : (e.act.toList == [115, 116, 111, 114, 101]) = true := ha_store
  have q1 : decide (0 < t.left) = false := by
    cases hb : decide (0 < t.left)
    · rfl
    · unfold Tr.early isLeft at hp; simp [hb, aleft] at hp
  have q2 : decide (0 < t.hole) = false := by
    cases hb : decide (0 < t.hole)
    · rfl
    · unfold Tr.early isOpen at hp; simp [hb, aopen] at hp
  have HJ := Lib.hid hj
  have HJI := Lib.hid hji
  have HXX := Lib.hid hx
  have HLIFE := Lib.hid hlife
  clear hj hji hx hlife
  unfold Ev.val
  have z5 := h.blk.free 5
  clear h hok hp hp1
  iterate 1
    go_enter Tryd.func38, Tryd.ntmps38
    go_wp2_with fail
    go_quiet (fail)
    obtain ⟨n1, rfl⟩ : ∃ n1 : Nat, n1 = nq := ⟨_, rfl⟩
    go_wp2_with fail
    go_quiet (fail)
    go_upto_region 6 with fail
    generalize hw2 : World.setCell (World.drewN (World.alloc w (.cells #[.int .i64 e.step, .int .i64 e.life, .int .i64 e.words, .string e.act] 52)) (n1 + nq)) ⟨R.t, 5, none⟩ (.int .i64 e.step) = w2
    have hne : w.heap.size ≠ R.t := by omega
    have HF2 : Hid (Fr (fun j => j = R.t) w w2) := hw2 ▸ Fr.put (((Fr.refl _ _).alloc _).drewN _) 5 _
    have h2 : TrAt B w2 R { t with step := e.step } := hw2 ▸ (H.out.fr0 (((Fr.refl No w).alloc _).drewN _)).head 5 e.step { t with step := e.step } rfl rfl
    have hbox : Blk w2 w.heap.size #[.int .i64 e.step, .int .i64 e.life, .int .i64 e.words, .string e.act] 52 := hw2 ▸ ((Blk.new _ _ _).drewN _).far hne _
    have hsz2 := HF2.out.size
    have e0 : w2.cell? ⟨w.heap.size, 0, none⟩ = some (.int .i64 e.step) := hbox.cell 0
    have e1 : w2.cell? ⟨w.heap.size, 1, none⟩ = some (.int .i64 e.life) := hbox.cell 1
    have e2 : w2.cell? ⟨w.heap.size, 2, none⟩ = some (.int .i64 e.words) := hbox.cell 2
    have e3 : w2.cell? ⟨w.heap.size, 3, none⟩ = some (.string e.act) := hbox.cell 3
    have hbl2 := hbox.lt
    have hl2 := h2.blk.lt
    have H2 := Lib.hid h2
    have HB2 := Lib.hid hbox
    clear hw2 h2 hbox c2 c4 c5 z5 H
    have hj := HJ.out
    have hji := HJI.out
    have hx := HXX.out
    have hlife := HLIFE.out
    have HA : Hid (t.add e = if decide (2 ≤ e.words) && decide (e.words ≤ 32) && x.may e.words then some { t with step := e.step, st := { t.st with lf := t.st.lf.set i (x.put e.words) } } else none) := by
      have ei : t.st.op.getD (t.place e.life).toNat 0 = i := by rw [hj, Int.toNat_natCast, List.getD_eq_getElem?_getD, hji]; rfl
      have ex : t.life i = x := by unfold Tr.life; rw [List.getD_eq_getElem?_getD, hx]; rfl
      unfold Hid Tr.add
      rw [HP.out]
      simp only [ha_open, ha_collect, ha_left, Bool.false_eq_true, if_false, ei, ex]
      rw [if_neg (by rw [hj]; omega)]
      simp only [ha_store, if_true]
    have hpc : Calls Tryd.prog 50 #[.pointer (some ⟨R.t, 0, none⟩), .int .i64 e.life] w2 fun en w' => en = .returned (.int .i64 (j : Int)) ∧ w2 = w' := hj ▸ trPlace B w2 R { t with step := e.step } e.life H2.out (by show t.st.op.length ≤ 10000; omega) (by show t.st.lf.length ≤ 10000; omega)
    have HPC := Lib.hid hpc
    have hjl : j < t.st.op.length := (List.getElem?_eq_some_iff.1 hji).1
    have hil : i < t.st.lf.length := (List.getElem?_eq_some_iff.1 hx).1
    have hxs := HOK.out.bd.lives _ (List.mem_of_getElem? hx)
    obtain ⟨gl, hAl, hcl, hzl, hgl⟩ := row_flat H2.out.rowl hx
    have f0 : w2.cell? ⟨R.t, 0, none⟩ = some (.slice R.Al t.st.lf.length R.cl) := H2.out.blk.cell 0
    rw [hAl] at f0
    have HAL := Lib.hid hAl
    have hnel : R.t ≠ gl := fun hh => H2.out.ne_l H2.out.blk (by decide) (by rw [hAl, ← hh]; rfl)
    have hneb : w.heap.size ≠ gl := fun hh => H2.out.ne_l HB2.out (by decide) (by rw [hAl, ← hh]; rfl)
    have HGD := Lib.hid (H2.out.good _ (List.mem_of_getElem? hx))
    have HX := Lib.hid hx
    rw [hlife] at e1
    rw [hlife] at HPC
    have k0 : decide ((j : Int) < 0) = false := by simp
    have k1 : (0 : Int) ≤ (i : Int) := by omega
    have k2 : (i : Int) < (t.st.lf.length : Int) := by omega
    have q3 : w2.cell? ⟨gl, i * 9 + 3, none⟩ = some (.int .i64 x.objs) := hcl 3 _ (by omega) rfl
    have q4 : w2.cell? ⟨gl, i * 9 + 4, none⟩ = some (.int .i64 x.wds) := hcl 4 _ (by omega) rfl
    have q5 : w2.cell? ⟨gl, i * 9 + 5, none⟩ = some (.int .i64 x.pages) := hcl 5 _ (by omega) rfl
    have q6 : w2.cell? ⟨gl, i * 9 + 6, none⟩ = some (.bool x.bounded) := hcl 6 _ (by omega) rfl
    have q7 : w2.cell? ⟨gl, i * 9 + 7, none⟩ = some (.int .i64 x.words) := hcl 7 _ (by omega) rfl
    have q8 : w2.cell? ⟨gl, i * 9 + 8, none⟩ = some (.int .i64 x.fin) := hcl 8 _ (by omega) rfl
    have HCL := Lib.hid hcl
    have HZL := Lib.hid hzl
    clear hpc hj hji hx hlife hAl hcl hzl
    have hg := HGD.out
    have hw : (2 ≤ e.words ∧ e.words ≤ 32) ∧ x.may e.words = true := by simpa using hcan
    have g1 : decide (e.words < 2) = false := by simp; omega
    have g2 : decide (32 < e.words) = false := by simp; omega
    have hways : x.bounded = false ∨ (x.bounded = true ∧ decide (0 < x.objs) = false ∧ decide (x.words + 1 < e.words) = false) := by
      rw [hg]
      have h5 := hw.2
      unfold Lf.may at h5
      cases g1 : decide (x.words > 0) <;> cases g2 : decide (x.objs > 0) <;> cases g3 : decide (e.words > x.words + 1) <;> simp_all
    rw [hcan] at HA
    have hw0 := hw.1.1
    have hw1 := hw.1.2
    clear hcan hg hw
    have r3 : w2.frozen? ⟨gl, i * 9 + 3, none⟩ = false := HZL.out 3 (by omega)
    have r4 : w2.frozen? ⟨gl, i * 9 + 4, none⟩ = false := HZL.out 4 (by omega)
    have r5 : w2.frozen? ⟨gl, i * 9 + 5, none⟩ = false := HZL.out 5 (by omega)
    have r8 : w2.frozen? ⟨gl, i * 9 + 8, none⟩ = false := HZL.out 8 (by omega)
    have q0 : w2.cell? ⟨gl, i * 9, none⟩ = some (.int .i64 x.life) := HCL.out 0 _ (by omega) rfl
    have q1' : w2.cell? ⟨gl, i * 9 + 1, none⟩ = some (.int .i64 x.opened) := HCL.out 1 _ (by omega) rfl
    have q2' : w2.cell? ⟨gl, i * 9 + 2, none⟩ = some (.int .i64 x.ended) := HCL.out 2 _ (by omega) rfl
    obtain ⟨f, hf⟩ : ∃ f, f = (if x.fin % 32 > 0 ∧ x.fin % 32 + e.words > 32 then x.fin + (32 - x.fin % 32) else x.fin) + e.words := ⟨_, rfl⟩
    have hfb : 0 ≤ f ∧ f ≤ 400000 := by rw [hf]; split <;> omega
    have SC : Hid (∀ W : World, Calls Tryd.prog 51 #[.int .i64 x.fin, .int .i64 e.words] W fun en W' => en = .returned (.int .i64 f) ∧ W' = W) := fun W => (hf ▸ storedR x.fin e.words W (by omega) (by omega) (by omega) (by omega) : Calls Tryd.prog 51 #[.int .i64 x.fin, .int .i64 e.words] W fun en W' => en = .returned (.int .i64 f) ∧ W = W').mono fun _ _ ⟨h, h'⟩ => ⟨h, h'.symm⟩
    have HF := Lib.hid hf
    clear hf
    go_wp2_with fail
    refine HPC.out.mono ?_
    rintro en w3 ⟨rfl, rfl⟩
    go_upto_region 28 with (go_quiet (fail))
    obtain ⟨n2, rfl⟩ : ∃ n2 : Nat, n2 = nq := ⟨_, rfl⟩
    have hi1 := hil
    rcases hways with g3 | ⟨g3, g4, g5⟩
    all_goals
      rw [g3] at q6
      go_quiet (fail)
      go_upto_region 31 with fail
      generalize hw4 : World.setCell (World.drewN w2 (n2 + nq)) ⟨gl, i * 9 + 3, none⟩ (.int .i64 (x.objs + 1)) = w4
      have T4 : TrAt B w4 R { t with step := e.step, st := { t.st with lf := t.st.lf.set i { x with objs := x.objs + 1 } } } := hw4 ▸ (H2.out.fr0 (Fr.quiet _)).setLine (y := { x with objs := x.objs + 1 }) HX.out HAL.out (by omega) rfl HGD.out
      have F4 : Fr R.foot w w4 := hw4 ▸ Fr.setCell (a := ⟨gl, i * 9 + 3, none⟩) ((HF2.out.wider fun _ _ h => .inl h).drewN _) (.inl (.inr (.inl (by rw [HAL.out]; rfl)))) _
      have B4 : Blk w4 w.heap.size #[.int .i64 e.step, .int .i64 e.life, .int .i64 e.words, .string e.act] 52 := hw4 ▸ (HB2.out.drewN _).far hneb _
      obtain ⟨L4, Z4, G4⟩ := T4.line hi1 HAL.out
      have a2 : w4.cell? ⟨w.heap.size, 2, none⟩ = some (.int .i64 e.words) := B4.cell 2
      have a4 : w4.cell? ⟨gl, i * 9 + 4, none⟩ = some (.int .i64 x.wds) := L4 4 _ (by omega) rfl
      have b4 := Z4 4 (by omega)
      have hbl4 := B4.lt
      have HT4 := Lib.hid T4
      have HF4 := Lib.hid F4
      have HB4 := Lib.hid B4
      clear hw4 T4 F4 B4 L4 Z4 e0 e1 e2 e3 q0 q1' q2' q3 q4 q5 q6 q7 q8 r3 r4 r5 r8 f0
      refine region_tail 7 (by kernel_rfl) (by kernel_rfl) ?_
      simp only [List.take_succ_cons, List.take_zero, List.drop_succ_cons, List.drop_zero]
      repeat still_step
      refine wpStill_nil ?_
      go_upto_region 32 with fail
      generalize hw5 : World.drew (World.setCell w4 ⟨gl, i * 9 + 4, none⟩ (.int .i64 (x.wds + e.words))) = w5
      have T5 : TrAt B w5 R { t with step := e.step, st := { t.st with lf := t.st.lf.set i { x with objs := x.objs + 1, wds := x.wds + e.words } } } := hw5 ▸ (HT4.out.line_set (y := { x with objs := x.objs + 1, wds := x.wds + e.words }) hi1 HAL.out (by omega) rfl HGD.out).fr0 (Fr.quiet 1)
      have F5 : Fr R.foot w w5 := hw5 ▸ (Fr.setCell (a := ⟨gl, i * 9 + 4, none⟩) HF4.out (.inl (.inr (.inl (by rw [HAL.out]; rfl)))) _).drewN 1
      have B5 : Blk w5 w.heap.size #[.int .i64 e.step, .int .i64 e.life, .int .i64 e.words, .string e.act] 52 := hw5 ▸ (HB4.out.far hneb _).drewN 1
      obtain ⟨L5, Z5, G5⟩ := T5.line hi1 HAL.out
      have a2' : w5.cell? ⟨w.heap.size, 2, none⟩ = some (.int .i64 e.words) := B5.cell 2
      have a8 : w5.cell? ⟨gl, i * 9 + 8, none⟩ = some (.int .i64 x.fin) := L5 8 _ (by omega) rfl
      have b8 := Z5 8 (by omega)
      have hbl5 := B5.lt
      have HT5 := Lib.hid T5
      have HF5 := Lib.hid F5
      have HB5 := Lib.hid B5
      clear hw5 T5 F5 B5 L5 Z5 a2 a4 b4 hbl4 G4
      refine region_tail 8 (by kernel_rfl) (by kernel_rfl) ?_
      simp only [List.take_succ_cons, List.take_zero, List.drop_succ_cons, List.drop_zero]
      iterate 7 still_step
      refine wpStill_step (fun K hK => ?_)
      go_simp
      refine ⟨_, SC.out _, hK _ ?_⟩
      clear hK K
      refine wpStill_nil ?_
      go_upto_region 33 with fail
      generalize hw6 : World.drew (World.setCell w5 ⟨gl, i * 9 + 8, none⟩ (.int .i64 f)) = w6
      have T6 : TrAt B w6 R { t with step := e.step, st := { t.st with lf := t.st.lf.set i { x with objs := x.objs + 1, wds := x.wds + e.words, fin := f } } } := hw6 ▸ (HT5.out.line_set (y := { x with objs := x.objs + 1, wds := x.wds + e.words, fin := f }) hi1 HAL.out (by omega) rfl HGD.out).fr0 (Fr.quiet 1)
      have F6 : Fr R.foot w w6 := hw6 ▸ (Fr.setCell (a := ⟨gl, i * 9 + 8, none⟩) HF5.out (.inl (.inr (.inl (by rw [HAL.out]; rfl)))) _).drewN 1
      obtain ⟨L6, Z6, G6⟩ := T6.line hi1 HAL.out
      have HS6 : Hid (w6.cell? ⟨gl, i * 9, none⟩ = some (.int .i64 x.life) ∧ w6.cell? ⟨gl, i * 9 + 1, none⟩ = some (.int .i64 x.opened) ∧ w6.cell? ⟨gl, i * 9 + 2, none⟩ = some (.int .i64 x.ended) ∧ w6.cell? ⟨gl, i * 9 + 3, none⟩ = some (.int .i64 (x.objs + 1)) ∧ w6.cell? ⟨gl, i * 9 + 4, none⟩ = some (.int .i64 (x.wds + e.words)) ∧ w6.cell? ⟨gl, i * 9 + 5, none⟩ = some (.int .i64 x.pages) ∧ w6.cell? ⟨gl, i * 9 + 6, none⟩ = some (.bool x.bounded) ∧ w6.cell? ⟨gl, i * 9 + 7, none⟩ = some (.int .i64 x.words) ∧ w6.cell? ⟨gl, i * 9 + 8, none⟩ = some (.int .i64 f)) :=
        ⟨L6 0 _ (by omega) rfl, L6 1 _ (by omega) rfl, L6 2 _ (by omega) rfl, L6 3 _ (by omega) rfl, L6 4 _ (by omega) rfl, L6 5 _ (by omega) rfl, L6 6 _ (by omega) rfl, L6 7 _ (by omega) rfl, L6 8 _ (by omega) rfl⟩
      obtain ⟨p, hp⟩ : ∃ p, p = ({ x with objs := x.objs + 1, wds := x.wds + e.words, fin := f } : Lf).now := ⟨_, rfl⟩
      have HPUT : Hid (x.put e.words = { { x with objs := x.objs + 1, wds := x.wds + e.words, fin := f } with pages := max x.pages p }) := by
        unfold Hid
        rw [hp]
        exact put_steps x e.words f HF.out
      have NC : Hid (∀ W : World, Calls Tryd.prog 52 #[.agg #[.int .i64 x.life, .int .i64 x.opened, .int .i64 x.ended, .int .i64 (x.objs + 1), .int .i64 (x.wds + e.words), .int .i64 x.pages, .bool x.bounded, .int .i64 x.words, .int .i64 f]] W fun en W' => en = .returned (.int .i64 p) ∧ Fr No W W') := fun W => hp ▸ lineNow { x with objs := x.objs + 1, wds := x.wds + e.words, fin := f } W HGD.out (by show 0 ≤ f; omega) (by show f ≤ 1000000; omega)
      clear hp
      have b5 := Z6 5 (by omega)
      have HT6 := Lib.hid T6
      have HF6 := Lib.hid F6
      clear hw6 T6 F6 L6 Z6 a2' a8 b8 hbl5 G5
      refine region_mid (fun W => W.cell? ⟨gl, i * 9, none⟩ = some (.int .i64 x.life) ∧ W.cell? ⟨gl, i * 9 + 1, none⟩ = some (.int .i64 x.opened) ∧ W.cell? ⟨gl, i * 9 + 2, none⟩ = some (.int .i64 x.ended) ∧ W.cell? ⟨gl, i * 9 + 3, none⟩ = some (.int .i64 (x.objs + 1)) ∧ W.cell? ⟨gl, i * 9 + 4, none⟩ = some (.int .i64 (x.wds + e.words)) ∧ W.cell? ⟨gl, i * 9 + 5, none⟩ = some (.int .i64 x.pages) ∧ W.cell? ⟨gl, i * 9 + 6, none⟩ = some (.bool x.bounded) ∧ W.cell? ⟨gl, i * 9 + 7, none⟩ = some (.int .i64 x.words) ∧ W.cell? ⟨gl, i * 9 + 8, none⟩ = some (.int .i64 f)) 8 10 (by kernel_rfl) (by kernel_rfl) HS6.out ?_
      simp only [List.take_succ_cons, List.take_zero, List.drop_succ_cons, List.drop_zero]
      repeat
        refine wpHeld_want ?_ (by rfl) (fun W hW => ?_) ?_
        rotate_left
        · (try dsimp only at hW)
          go_simp
          try with_reducible rfl
        simp only [Act.put, List.setIfInBounds_toArray, List.set_cons_zero, List.set_cons_succ]
      refine wpHeld_nil ?_
      have NCC := NC.out w6.drew
      rw [g3] at NCC
      have HNCC := Lib.hid NCC
      clear NCC
      refine wpKeep_step rfl (fun K hK => ?_)
      go_simp
      refine HNCC.out.mono ?_
      rintro en w7 ⟨rfl, hf7⟩
      have hgk : ∀ j v, w6.cell? ⟨gl, j, none⟩ = some v → w7.cell? ⟨gl, j, none⟩ = some v := fun j v hv => (hf7.cell G6 (fun h => h)).trans hv
      have S6 := HS6.out
      have HS7 : Hid (w7.cell? ⟨gl, i * 9, none⟩ = some (.int .i64 x.life) ∧ w7.cell? ⟨gl, i * 9 + 1, none⟩ = some (.int .i64 x.opened) ∧ w7.cell? ⟨gl, i * 9 + 2, none⟩ = some (.int .i64 x.ended) ∧ w7.cell? ⟨gl, i * 9 + 3, none⟩ = some (.int .i64 (x.objs + 1)) ∧ w7.cell? ⟨gl, i * 9 + 4, none⟩ = some (.int .i64 (x.wds + e.words)) ∧ w7.cell? ⟨gl, i * 9 + 5, none⟩ = some (.int .i64 x.pages) ∧ w7.cell? ⟨gl, i * 9 + 6, none⟩ = some (.bool x.bounded) ∧ w7.cell? ⟨gl, i * 9 + 7, none⟩ = some (.int .i64 x.words) ∧ w7.cell? ⟨gl, i * 9 + 8, none⟩ = some (.int .i64 f)) :=
        ⟨hgk _ _ S6.1, hgk _ _ S6.2.1, hgk _ _ S6.2.2.1, hgk _ _ S6.2.2.2.1, hgk _ _ S6.2.2.2.2.1, hgk _ _ S6.2.2.2.2.2.1, hgk _ _ S6.2.2.2.2.2.2.1, hgk _ _ S6.2.2.2.2.2.2.2.1, hgk _ _ S6.2.2.2.2.2.2.2.2⟩
      clear hgk S6
      have a5' : w7.cell? ⟨gl, i * 9 + 5, none⟩ = some (.int .i64 x.pages) := HS7.out.2.2.2.2.2.1
      have T7 : TrAt B w7 R { t with step := e.step, st := { t.st with lf := t.st.lf.set i { x with objs := x.objs + 1, wds := x.wds + e.words, fin := f } } } := (HT6.out.fr0 (Fr.quiet 1)).fr0 hf7
      have b5' := (T7.line hi1 HAL.out).2.1 5 (by omega)
      have G7 := (T7.line hi1 HAL.out).2.2
      have F7 : Fr R.foot w w7 := (HF6.out.drewN 1).then hf7 fun _ _ h => h.elim
      have HT7 := Lib.hid T7
      have HF7 := Lib.hid F7
      clear T7 F7 hf7 b5
      refine hK _ _ HS7.out ?_
      clear hK K
      refine wpKeep_step rfl (fun K hK => ?_)
      go_simp
      refine hK _ _ HS7.out ?_
      clear hK K
      refine wpKeep_rest _ _ _ _ (by omega) ?_
      go_wp2_with fail
      all_goals
        refine NoPanic.normal ?_
        go_wp2_with fail
        go_ret
        unfold AddPost
        rw [HA.out]
        refine ⟨Fr.setCell (a := ⟨gl, i * 9 + 5, none⟩) HF7.out (.inl (.inr (.inl (by rw [HAL.out]; rfl)))) _, rfl, R, rfl, ?_, fun k hk => .inl hk⟩
        first
        | (have e1 : max x.pages p = p := by omega
           exact HT7.out.line_set (y := x.put e.words) hi1 HAL.out (by omega) (by rw [HPUT.out, e1]; rfl) (by rw [HPUT.out]; exact HGD.out))
        | (have e1 : max x.pages p = x.pages := by omega
           exact HT7.out.line_set (y := x.put e.words) hi1 HAL.out (by omega) (by rw [HPUT.out, e1]; rfl) (by rw [HPUT.out]; exact HGD.out))
end Go.Proofs.YtnloffjjlhhanaaDoor
