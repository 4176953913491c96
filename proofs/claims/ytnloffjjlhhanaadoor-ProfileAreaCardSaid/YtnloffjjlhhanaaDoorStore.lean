/- film.store. -/
import Derived.Test.YtnloffjjlhhanaaDoorBegin
set_option linter.unusedVariables false
set_option linter.unusedSimpArgs false
namespace Go.Proofs.YtnloffjjlhhanaaDoor
open Go.RowKit
open Go.Proofs

theorem lifePages (b : Nat) (wd en : Int) (w : World) (h0 : w.cell? ⟨b, 0, none⟩ = some (.int .i64 wd)) (h1 : w.cell? ⟨b, 1, none⟩ = some (.int .i64 en)) (he0 : 0 ≤ en) (he1 : en ≤ 1000000) :
    Calls Tryd.prog 47 #[.pointer (some ⟨b, 0, none⟩)] w fun e w' => e = .returned (.int .i64 (if wd > 0 then 0 else (en + 31) / 32)) ∧ w = w' := by
  by_cases h : 0 < wd
  all_goals
    go_enter Tryd.func47, Tryd.ntmps47
    go_wp2
    go_ret
    first | (simp [h]; done) | (simp [h]; omega)

section
variable {B : Nat} {w w1 : World} {F : Film} {s : St}
/-- One life is written. -/
theorem FilmAt.setLife (h : FilmAt B w F s) {i k : Nat} {x y : Lf} (hk : F.bl[i]? = some k) (hx : s.lf[i]? = some x) (hf : Fr (fun j => j = k) w w1) (hb : Blk w1 k y.cells 80) :
    FilmAt B w1 F { s with lf := s.lf.set i y } := by
  have hkb := (h.lives i k x hk hx).2
  have hil : i < s.lf.length := (List.getElem?_eq_some_iff.1 hx).1
  have hne : ∀ j cs t, Blk w j cs t → t ≠ 80 → ¬ j = k := by
    rintro j cs t hj ht rfl
    unfold Blk at hj hkb
    rw [hj] at hkb
    simp only [Option.some.injEq, Obj.cells.injEq] at hkb
    exact ht hkb.2.1
  refine ⟨h.base, ?_, ?_, ?_, ?_, h.nodup, ?_, h.apart, ?_⟩
  · simp only [List.length_set]
    exact hf.blk h.blk (hne _ _ _ h.blk (by decide))
  · exact row_stays h.rowo fun j hj => hf.block j (h.rowo.lt j hj).2 (by rintro rfl; exact row_ne h.rowo hkb (by decide) hj)
  · simp only [List.length_set]
    exact row_stays h.rowa fun j hj => hf.block j (h.rowa.lt j hj).2 (by rintro rfl; exact row_ne h.rowa hkb (by decide) hj)
  · simp [h.len]
  · intro j m z hm hz
    by_cases e : j = i
    · subst e
      rw [hk] at hm
      simp only [Option.some.injEq] at hm
      subst hm
      rw [List.getElem?_set_self hil] at hz
      simp only [Option.some.injEq] at hz
      subst hz
      exact ⟨(h.lives j k x hk hx).1, hb⟩
    · rw [List.getElem?_set_ne (Ne.symm e)] at hz
      refine ⟨(h.lives j m z hm hz).1, hf.blk (h.lives j m z hm hz).2 ?_⟩
      rintro rfl
      exact e ((List.getElem?_inj (List.getElem?_eq_some_iff.1 hm).1 h.nodup).1 (hm.trans hk.symm))
  · intro j hj
    have := h.opens j hj
    simp [this]
end

def Lf.put (x : Lf) (n : Int) : Lf :=
  let f := (if x.fin % 32 > 0 ∧ x.fin % 32 + n > 32 then x.fin + (32 - x.fin % 32) else x.fin) + n
  { x with fin := f, objs := x.objs + 1, wds := x.wds + n, pages := max x.pages (if x.words > 0 then 0 else (f + 31) / 32) }
def Lf.may (x : Lf) (n : Int) : Bool := !(decide (x.words > 0) && (decide (x.objs > 0) || decide (n > x.words + 1)))
def Lf.small (x : Lf) : Prop := 0 ≤ x.words ∧ x.words ≤ 31 ∧ 0 ≤ x.fin ∧ x.fin ≤ 900000 ∧ 0 ≤ x.objs ∧ x.objs ≤ 900000 ∧ 0 ≤ x.wds ∧ x.wds ≤ 900000 ∧ 0 ≤ x.pages ∧ x.pages ≤ 900000

theorem max_int (a b : Int) : (if a < b then b else a) = max a b := by rw [Int.max_def]; split <;> split <;> omega

set_option maxRecDepth 100000 in
set_option maxHeartbeats 2000000 in
theorem store_yes (B : Nat) (w : World) (F : Film) (s : St) (e : Ev) (h : FilmAt B w F s) (hop : s.op.length ≤ 10000) (hB : B ≤ w.heap.size) (j i : Nat) (x : Lf)
    (hat : s.at e.life = j) (hji : s.op[j]? = some i) (hix : s.lf[i]? = some x) (hw0 : 2 ≤ e.words) (hw1 : e.words ≤ 32) (hmay : x.may e.words = true) (hsm : x.small) :
    Calls Tryd.prog 56 #[.pointer (some ⟨F.f, 0, none⟩), e.val] w fun en w' => en = .returned (.bool true) ∧ Fr F.foot w w' ∧
      FilmAt B w' F { s with lf := s.lf.set i (x.put e.words) } := by
  obtain ⟨b0, b1, b2, b3, b4, b5, b6, b7, b8, b9⟩ := hsm
  have hjl : j < s.op.length := (List.getElem?_eq_some_iff.1 hji).1
  unfold Ev.val
  go_enter Tryd.func56, Tryd.ntmps56
  go_wp2_with fail
  refine (film_at B _ F s _ (h.fr0 ((Fr.refl _ _).alloc _)) hop).mono ?_
  rintro en w1 ⟨rfl, hfr⟩
  rw [hat]
  have h1 := (h.fr0 ((Fr.refl No w).alloc _)).fr0 hfr
  have hfr0 : Fr No w w1 := ((Fr.refl No w).alloc _).trans hfr
  have hbox : Blk w1 w.heap.size #[.int .i64 e.step, .int .i64 e.life, .int .i64 e.words, .string e.act] 52 := hfr.blk (Blk.new _ _ _) (fun hh => hh)
  have x0 := hbox.cell 0
  have x1 := hbox.cell 1
  have x2 := hbox.cell 2
  have hbl := hbox.lt
  have c0 := h1.blk.cell 0
  have hfl := h1.blk.lt
  obtain ⟨g, k, x', hAo, hcj, -, hbk, hx', hbk1, hgl⟩ := h1.open_at hji
  rw [hix] at hx'
  simp only [Option.some.injEq] at hx'
  subst hx'
  rw [hAo] at c0
  have l0 : w1.cell? ⟨k, 0, none⟩ = some (.int .i64 x.words) := hbk1.cell 0
  have l1 : w1.cell? ⟨k, 1, none⟩ = some (.int .i64 x.fin) := hbk1.cell 1
  have l3 : w1.cell? ⟨k, 3, none⟩ = some (.int .i64 x.opened) := hbk1.cell 3
  have l5 : w1.cell? ⟨k, 5, none⟩ = some (.int .i64 x.objs) := hbk1.cell 5
  have l6 : w1.cell? ⟨k, 6, none⟩ = some (.int .i64 x.wds) := hbk1.cell 6
  have l7 : w1.cell? ⟨k, 7, none⟩ = some (.int .i64 x.pages) := hbk1.cell 7
  have z1 := hbk1.free 1
  have z5 := hbk1.free 5
  have z6 := hbk1.free 6
  have z7 := hbk1.free 7
  have hkl := hbk1.lt
  have H := Lib.hid h1
  have H0 := Lib.hid hfr0
  have HB := Lib.hid hbk1
  have HK := Lib.hid hbk
  have HX := Lib.hid hix
  clear h1 hfr0 hfr hbk1 hbk hix hat h hji hAo
  have hg : (decide (0 < x.words) = false) ∨ (decide (0 < x.words) = true ∧ decide (0 < x.objs) = false ∧ decide (x.words + 1 < e.words) = false) := by
    have := hmay
    unfold Lf.may at this
    by_cases h1 : 0 < x.words <;> by_cases h2 : 0 < x.objs <;> by_cases h3 : x.words + 1 < e.words <;> simp_all
  have hr : (x.fin % 32 ≤ 0) ∨ (0 < x.fin % 32 ∧ x.fin % 32 + e.words ≤ 32) ∨ (0 < x.fin % 32 ∧ 32 < x.fin % 32 + e.words) := by omega
  have hr0 : 0 ≤ x.fin % 32 ∧ x.fin % 32 < 32 := by omega
  clear hmay
  go_upto_region 5 with (go_at_call 28; refine (between_is _ _ _ true (by simp [hw0, hw1]) _).mono ?_; rintro e w' ⟨rfl, rfl⟩)
  go_cut [49] (fun sl wx => sl = .bool false ∧ ∃ q, w1.drewN q = wx)
  case first =>
    rcases hg with hg | ⟨hg, hg1, hg2⟩
    all_goals
      go_quiet (fail)
      go_wp2_with fail
      go_meet
      exact ⟨rfl, _, rfl⟩
  case rest =>
    obtain ⟨rfl, q, rfl⟩ := hcut
    clear hg
    go_upto_region 8 with fail
    go_cut [63] (fun sl wx => sl = .bool (decide (0 < x.fin % 32) && decide (32 < x.fin % 32 + e.words)) ∧ w1.drewN q = wx)
    case first =>
      rcases hr with hr | ⟨hr, hr1⟩ | ⟨hr, hr1⟩
      · have he : Hid ((decide (0 < x.fin % 32) && decide (32 < x.fin % 32 + e.words)) = false) := by unfold Hid; simp; omega
        go_wp2_with fail
        go_meet
        exact ⟨by first | (rw [he.out]; done) | (congr 1; simp; omega) | (congr 1; simp; done), rfl⟩
      · have he : Hid ((decide (0 < x.fin % 32) && decide (32 < x.fin % 32 + e.words)) = false) := by unfold Hid; simp; omega
        go_wp2_with fail
        go_meet
        exact ⟨by first | (rw [he.out]; done) | (congr 1; simp; omega) | (congr 1; simp; done), rfl⟩
      · have he : Hid ((decide (0 < x.fin % 32) && decide (32 < x.fin % 32 + e.words)) = true) := by unfold Hid; simp; omega
        go_wp2_with fail
        go_meet
        exact ⟨by first | (rw [he.out]; done) | (congr 1; simp; omega) | (congr 1; simp; done), rfl⟩
    case rest =>
      obtain ⟨rfl, rfl⟩ := hcut
      go_upto_if 63 with fail
      go_cut [] (fun wx => Fr (fun j => j = k) w1 wx ∧ Blk wx k ({ x with fin := if x.fin % 32 > 0 ∧ x.fin % 32 + e.words > 32 then x.fin + (32 - x.fin % 32) else x.fin } : Lf).cells 80)
      case first =>
        rcases hr with hr | ⟨hr, hr1⟩ | ⟨hr, hr1⟩
        · have e1 : decide (0 < x.fin % 32) = false := by simp; omega
          go_wp2_with fail
          go_meet
          exact ⟨Fr.quiet _, by rw [if_neg (by omega)]; exact HB.out.drewN _⟩
        · have e1 : decide (0 < x.fin % 32) = true := by simpa using hr
          have e2 : decide (32 < x.fin % 32 + e.words) = false := by simp; omega
          go_wp2_with fail
          go_meet
          exact ⟨Fr.quiet _, by rw [if_neg (by omega)]; exact HB.out.drewN _⟩
        · have e1 : decide (0 < x.fin % 32) = true := by simpa using hr
          have e2 : decide (32 < x.fin % 32 + e.words) = true := by simpa using hr1
          go_wp2_with fail
          go_meet
          refine ⟨Fr.setCell (S := fun j => j = k) (Fr.quiet _) (.inl rfl) _, ?_⟩
          rw [if_pos ⟨hr, hr1⟩]
          exact (HB.out.drewN q).set 1 _
      case rest =>
        obtain ⟨hf2, hb2⟩ := hcut
        generalize hf1 : (if x.fin % 32 > 0 ∧ x.fin % 32 + e.words > 32 then x.fin + (32 - x.fin % 32) else x.fin) = f1 at hb2
        have hf1b : 0 ≤ f1 ∧ f1 ≤ 900032 := by rw [← hf1]; split <;> omega
        have hbox2 : Blk wc w.heap.size _ _ := hf2.blk hbox (by rintro hh; have hbk := HB.out; rw [← hh] at hbk; unfold Blk at hbk hbox; rw [hbk] at hbox; simp at hbox)
        have x2' := hbox2.cell 2
        have l0' : wc.cell? ⟨k, 0, none⟩ = some (.int .i64 x.words) := hb2.cell 0
        have l1' : wc.cell? ⟨k, 1, none⟩ = some (.int .i64 f1) := hb2.cell 1
        have l5' : wc.cell? ⟨k, 5, none⟩ = some (.int .i64 x.objs) := hb2.cell 5
        have l6' : wc.cell? ⟨k, 6, none⟩ = some (.int .i64 x.wds) := hb2.cell 6
        have l7' : wc.cell? ⟨k, 7, none⟩ = some (.int .i64 x.pages) := hb2.cell 7
        have z1' := hb2.free 1
        have z5' := hb2.free 5
        have z6' := hb2.free 6
        have z7' := hb2.free 7
        have hkl' := hb2.lt
        have hbl' := hbox2.lt
        have HB2 := Lib.hid hb2
        have HF1 := Lib.hid hf1
        have HF2 := Lib.hid hf2
        clear hb2 hf1 hf2 hbox hbox2 x0 x1 x2 l0 l1 l3 l5 l6 l7 z1 z5 z6 z7 c0 hcj hgl hr hr0 hkl hbl hfl
        go_wp2_with fail
        refine region_tail 9 (by kernel_rfl) (by kernel_rfl) ?_
        simp only [List.take_succ_cons, List.take_zero, List.drop_succ_cons, List.drop_zero]
        repeat still_step
        refine wpStill_nil ?_
        go_wp2_with fail
        refine region_tail 11 (by kernel_rfl) (by kernel_rfl) ?_
        simp only [List.take_succ_cons, List.take_zero, List.drop_succ_cons, List.drop_zero]
        repeat still_step
        refine wpStill_nil ?_
        go_wp2_with fail
        refine region_tail 12 (by kernel_rfl) (by kernel_rfl) ?_
        simp only [List.take_succ_cons, List.take_zero, List.drop_succ_cons, List.drop_zero]
        iterate 7 still_step
        refine wpStill_step (fun K hK => ?_)
        go_simp
        refine ⟨_, (lifePages k x.words (f1 + e.words) _ ?_ ?_ (by omega) (by omega)).mono fun _ _ ⟨h, h'⟩ => ⟨h, h'.symm⟩, hK _ ?_⟩
        · go_simp
        · go_simp
        clear hK K
        repeat still_step
        refine wpStill_nil ?_
        go_wp2_with fail
        clear x2' l0' l1' l5' l6' l7' z1' z5' z6' z7' hkl' hbl'
        all_goals
          go_ret
          refine ⟨rfl, H0.out.then0 (S' := fun j => j = k) ?hfr (fun j _ hj => .inr (.inr (.inr (hj ▸ List.mem_of_getElem? HK.out)))), H.out.setLife HK.out HX.out ?hfr (Blk.cast (((((HB2.out.set 1 _).set 5 _).set 6 _).set 7 _).drewN 3) ?_)⟩
          case hfr => exact ((((HF2.out.put 1 _).put 5 _).put 6 _).put 7 _).drewN 3
          · simp only [Lf.cells, Lf.put, HF1.out]
            simp
            omega
end Go.Proofs.YtnloffjjlhhanaaDoor
