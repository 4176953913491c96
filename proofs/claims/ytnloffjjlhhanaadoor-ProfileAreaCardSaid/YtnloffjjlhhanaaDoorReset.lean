/- film.reset. -/
import Derived.Test.YtnloffjjlhhanaaDoorCollect
set_option linter.unusedVariables false
set_option linter.unusedSimpArgs false
namespace Go.Proofs.YtnloffjjlhhanaaDoor
open Go.RowKit
open Go.Proofs

def St.reset (s : St) (e : Ev) (l : List Ev) : Option St :=
  if s.at e.life < 0 then none else
  if e.words = 0 then
    match l with
    | [] => none
    | e2 :: _ =>
      if e2.words = (s.lf.getD (s.op.getD (s.at e.life).toNat 0) default).words ∧ e2.step = e.step ∧ canBegin s e2 = true then
        some { lf := (s.lf ++ [newLf e2]).set (s.op.getD (s.at e.life).toNat 0) { s.lf.getD (s.op.getD (s.at e.life).toNat 0) default with ended := e.step }, op := s.op.set (s.at e.life).toNat s.lf.length }
      else none
  else none

section
variable {B : Nat} {w : World} {F : Film} {s : St}
/-- A pointer among the open ones is written. -/
theorem FilmAt.setOpen (h : FilmAt B w F s) {i k g j : Nat} (hk : F.bl[i]? = some k) (hg : F.Ao = some ⟨g, 0, none⟩) :
    FilmAt B (w.setCell ⟨g, j, none⟩ (ptr k)) F { s with op := s.op.set j i } := by
  have hil : i < s.lf.length := by rw [← h.len]; exact (List.getElem?_eq_some_iff.1 hk).1
  have hown : (Value.slice F.Ao 0 0).ownBlock = some g := by rw [hg]; rfl
  have hne : ∀ n cs t, Blk w n cs t → t ≠ 78 → n ≠ g := fun n cs t hb ht e => row_ne h.rowo hb ht (own_eq.2 (by rw [e]; exact hown))
  refine ⟨h.base, ?_, ?_, ?_, h.len, h.nodup, ?_, h.apart, ?_⟩
  · simp only [List.length_set]
    exact h.blk.far (hne _ _ _ h.blk (by decide)) _
  · have hrow := h.rowo
    rw [hg] at hrow
    have hs := (hrow.stored j (ptr k)).1
    simp only [List.length_set]
    rw [List.map_set, hg]
    have e : ptr (F.bl.getD i 0) = ptr k := by rw [List.getD_eq_getElem?_getD, hk]; rfl
    rw [e]
    exact hs
  · exact ownsRow_setCell_other h.rowa (fun e => h.apart g hown (own_eq.1 e)) _
  · intro m n x hm hx
    exact ⟨(h.lives m n x hm hx).1, (h.lives m n x hm hx).2.far (hne _ _ _ (h.lives m n x hm hx).2 (by decide)) _⟩
  · intro m hm
    rcases List.mem_or_eq_of_mem_set hm with hm | rfl
    · exact h.opens m hm
    · exact hil
end

set_option maxRecDepth 100000 in
set_option maxHeartbeats 4000000 in
theorem film_reset (B : Nat) (w : World) (F : Film) (s : St) (A : Option Addr) (cap : Nat) (e : Ev) (l : List Ev) (h : FilmAt B w F s) (hop : s.op.length ≤ 10000) (hlf : s.lf.length ≤ 10000) (hB : B ≤ w.heap.size) (hev : Evs B w A (e :: l)) (hl : l.length ≤ 10000) :
    Calls Tryd.prog 57 #[.pointer (some ⟨F.f, 0, none⟩), .slice A (e :: l).length cap] w fun en w' =>
      (s.reset e l = none ∧ en = .returned (.int .i64 0) ∧ Fr No w w') ∨
      (∃ s' F', s.reset e l = some s' ∧ en = .returned (.int .i64 2) ∧ F'.f = F.f ∧ Fr F.foot w w' ∧ FilmAt B w' F' s' ∧ ∀ k, F'.foot k → F.foot k ∨ w.heap.size ≤ k) := by
  obtain ⟨b, off, rfl, hbB, hbl, e0, e1, e2, -⟩ := hev 0 e rfl
  simp only [Nat.zero_mul, Nat.add_zero] at e0 e1 e2
  have HE := Lib.hid hev
  clear hev
  rw [List.length_cons]
  have hlo := fidx_lo (s.op.map fun i => (s.lf.getD i default).life == e.life)
  go_enter Tryd.func57, Tryd.ntmps57
  go_wp2_with fail
  refine (film_at B w F s _ h hop).mono ?_
  rintro en w1 ⟨rfl, hf1⟩
  have h1 := h.fr0 hf1
  have H0 := Lib.hid h
  have HF1 := Lib.hid hf1
  have H1 := Lib.hid h1
  have e0' : w1.cell? ⟨b, off, none⟩ = some (.int .i64 e.step) := by rw [hf1.cell hbl (fun hh => hh)]; exact e0
  have e2' : w1.cell? ⟨b, off + 2, none⟩ = some (.int .i64 e.words) := by rw [hf1.cell hbl (fun hh => hh)]; exact e2
  have hbl' := World.block_lt_of_cell? w1 _ e0'
  clear e0 e1 e2 h h1 hf1
  by_cases hneg : s.at e.life < 0
  · have HN : Hid (s.reset e l = none) := by unfold Hid St.reset; rw [if_pos hneg]
    have hd : decide (s.at e.life < 0) = true := by simpa using hneg
    generalize s.at e.life = j at *
    go_wp2_with fail
    go_quiet (fail)
    go_wp2_with fail
    go_ret
    exact .inl ⟨HN.out, rfl, HF1.out.drewN _⟩
  · obtain ⟨j, hj⟩ : ∃ j : Nat, s.at e.life = j := ⟨(s.at e.life).toNat, by omega⟩
    have hjl : j < s.op.length := by
      have hp := fidx_at _ j hj
      rw [List.getElem?_map] at hp
      cases hi : s.op[j]? with
      | none => rw [hi] at hp; cases hp
      | some i => exact (List.getElem?_eq_some_iff.1 hi).1
    have hji : s.op[j]? = some (s.op[j]'hjl) := List.getElem?_eq_getElem _
    generalize (s.op[j]'hjl) = i at hji
    obtain ⟨g, k, x, hAo, hcj, -, hbk, hx, hb1, hgl⟩ := H1.out.open_at hji
    have c0 : w1.cell? ⟨F.f, 0, none⟩ = some (.slice F.Ao s.op.length F.co) := H1.out.blk.cell 0
    rw [hAo] at c0
    have hfl := H1.out.blk.lt
    have l0 : w1.cell? ⟨k, 0, none⟩ = some (.int .i64 x.words) := hb1.cell 0
    have hkl := hb1.lt
    have hd : decide ((j : Int) < 0) = false := by simp
    have egi : s.op.getD j 0 = i := by rw [List.getD_eq_getElem?_getD, hji]; rfl
    have egx : s.lf.getD i default = x := by rw [List.getD_eq_getElem?_getD, hx]; rfl
    have HR : Hid (s.reset e l = if e.words = 0 then (match l with | [] => none | e2 :: _ => if e2.words = x.words ∧ e2.step = e.step ∧ canBegin s e2 = true then some { lf := (s.lf ++ [newLf e2]).set i { x with ended := e.step }, op := s.op.set j s.lf.length } else none) else none) := by
      unfold Hid St.reset
      rw [if_neg hneg, hj]
      simp only [Int.toNat_natCast, egi, egx]
    have HAo := Lib.hid hAo
    have HBK := Lib.hid hbk
    have HX := Lib.hid hx
    have HB1 := Lib.hid hb1
    have HJI := Lib.hid hji
    rw [hj]
    clear hj hneg egi egx hAo hbk hx hb1 hji hlo
    by_cases g2 : e.words = 0
    · have g2' : (e.words != 0) = false := by simpa using g2
      have HG2 := Lib.hid g2
      cases l with
      | nil =>
        clear g2
        go_wp2_with fail
        go_quiet (fail)
        go_wp2_with fail
        go_ret
        exact .inl ⟨by rw [HR.out, if_pos HG2.out], rfl, HF1.out.drewN _⟩
      | cons e2 r =>
        obtain ⟨b2, off2, hb2, hb2B, hb2l, f0, f1, f2, f3⟩ := HE.out.fr0 HF1.out 1 e2 rfl
        simp only [Option.some.injEq, Addr.mk.injEq, and_true] at hb2
        obtain ⟨rfl, rfl⟩ := hb2
        simp only [Nat.one_mul] at f0 f1 f2 f3
        have HR2 : Hid (s.reset e (e2 :: r) = if e2.words = x.words ∧ e2.step = e.step ∧ canBegin s e2 = true then some { lf := (s.lf ++ [newLf e2]).set i { x with ended := e.step }, op := s.op.set j s.lf.length } else none) := by
          unfold Hid; rw [HR.out, if_pos HG2.out]
        rw [List.length_cons]
        have g3 : decide ((r.length : Int) + 1 + 1 < 2) = false := by simp; omega
        clear g2
        by_cases g4 : e2.words = x.words
        · have g4' : (e2.words != x.words) = false := by simpa using g4
          have HG4 := Lib.hid g4
          clear g4
          by_cases g5 : e2.step = e.step
          · have g5' : (e2.step != e.step) = false := by simpa using g5
            have HG5 := Lib.hid g5
            clear g5
            cases hcb : canBegin s e2 with
            | false =>
              have HN : Hid (s.reset e (e2 :: r) = none) := by unfold Hid; rw [HR2.out, if_neg (by rintro ⟨-, -, h⟩; rw [hcb] at h; cases h)]
              have HCB := Lib.hid hcb
              clear hcb
              go_wp2_with fail
              go_quiet (fail)
              go_wp2_with fail
              refine (begin_no B _ F s e2 (H1.out.fr0 (Fr.quiet _)) hlf HCB.out).mono ?_
              rintro en w2 ⟨rfl, hf2⟩
              go_wp2_with fail
              go_ret
              exact .inl ⟨HN.out, rfl, (HF1.out.drewN _).trans hf2⟩
            | true =>
              have HY : Hid (s.reset e (e2 :: r) = some { lf := (s.lf ++ [newLf e2]).set i { x with ended := e.step }, op := s.op.set j s.lf.length }) := by unfold Hid; rw [HR2.out, if_pos ⟨HG4.out, HG5.out, hcb⟩]
              have HCB := Lib.hid hcb
              clear hcb
              go_wp2_with fail
              go_quiet (fail)
              go_wp2_with fail
              refine (begin_yes B _ F s e2 (H1.out.fr0 (Fr.quiet _)) hlf (by have := HF1.out.size; simp; omega) HCB.out).mono ?_
              rintro en w2 ⟨kn, Aa, ca, rfl, hf2, hkn, h2, hAaf⟩
              have hkn' : w1.heap.size ≤ kn := hkn
              have HAF := Lib.hid hAaf
              clear hAaf
              have hji := HJI.out
              obtain ⟨g', k', x', hAo', hcj', fzj, hbk', hx', hb2, hgl2⟩ := h2.open_at (j := j) (i := i) hji
              have hil : i < s.lf.length := (List.getElem?_eq_some_iff.1 HX.out).1
              have hibl : i < F.bl.length := (List.getElem?_eq_some_iff.1 HBK.out).1
              rw [List.getElem?_append_left hibl, HBK.out] at hbk'
              simp only [Option.some.injEq] at hbk'
              subst hbk'
              rw [List.getElem?_append_left hil, HX.out] at hx'
              simp only [Option.some.injEq] at hx'
              subst hx'
              rw [HAo.out] at hAo'
              simp only [Option.some.injEq, Addr.mk.injEq, and_true] at hAo'
              subst hAo'
              have c0' : w2.cell? ⟨F.f, 0, none⟩ = some (.slice F.Ao s.op.length F.co) := h2.blk.cell 0
              rw [HAo.out] at c0'
              have hfl2 := h2.blk.lt
              have z4 := hb2.free 4
              have l4 : w2.cell? ⟨k, 4, none⟩ = some (.int .i64 x.ended) := hb2.cell 4
              have hkl2 := hb2.lt
              have hnf : ¬ F.foot b := fun hh => by have := (H0.out.foot_lt hh).1; omega
              have hbq : b < (w1.drewN nq).heap.size := hbl'
              have e0'' : w2.cell? ⟨b, off, none⟩ = some (.int .i64 e.step) := by rw [hf2.cell hbq hnf]; exact e0'
              have hbl2 := World.block_lt_of_cell? w2 _ e0''
              have hnek : g ≠ k := by
                rintro rfl
                have := row_ne h2.rowo hb2 (by decide)
                exact this (own_eq.2 (by show (Value.slice F.Ao 0 0).ownBlock = _; rw [HAo.out]; rfl))
              have hneF : F.f ≠ k := by
                rintro hh
                have h3 := h2.blk
                rw [show ({ F with Aa := Aa, ca := ca, bl := F.bl ++ [kn] } : Film).f = F.f from rfl, hh] at h3
                unfold Blk at h3 hb2
                rw [hb2] at h3
                simp at h3
              have H2 := Lib.hid h2
              have HF2 := Lib.hid hf2
              have HB2 := Lib.hid hb2
              clear h2 hf2 hb2 c0 hcj l0 hkl hgl hfl e0' e2' f0 f1 f2 f3 hbl' hb2l hnf hbq
              have q1 : (0 : Int) < (r.length : Int) + 1 + 1 := by omega
              have q2 : (0 : Int) ≤ (r.length : Int) := by omega
              go_wp2_with fail
              refine region_tail 11 (by kernel_rfl) (by kernel_rfl) ?_
              simp only [List.take_succ_cons, List.take_zero, List.drop_succ_cons, List.drop_zero]
              repeat still_step
              refine wpStill_nil ?_
              go_wp2_with fail
              go_ret
              have hx1 : (s.lf ++ [newLf e2])[i]? = some x := by rw [List.getElem?_append_left hil]; exact HX.out
              have hb1 : (F.bl ++ [kn])[i]? = some k := by rw [List.getElem?_append_left hibl]; exact HBK.out
              have hk1 : (F.bl ++ [kn])[s.lf.length]? = some kn := by rw [← H0.out.len, List.getElem?_append_right (Nat.le_refl _)]; simp
              have h3 := H2.out.setLife (y := { x with ended := e.step }) hb1 hx1 ((Fr.refl _ _).put 4 (.int .i64 e.step)) (Blk.cast (HB2.out.set 4 (.int .i64 e.step)) (by simp [Lf.cells]))
              have h4 := h3.setOpen (i := s.lf.length) (k := kn) (g := g) (j := j) hk1 HAo.out
              refine .inr ⟨_, { F with Aa := Aa, ca := ca, bl := F.bl ++ [kn] }, HY.out, rfl, rfl, ?_, h4.fr0 (Fr.quiet 1), ?_⟩
              · have hf3 : Fr F.foot w w2 := ((HF1.out.wider fun _ _ h => h.elim).trans (Fr.quiet nq)).then HF2.out fun _ _ h => h
                have hf4 : Fr F.foot w (w2.setCell ⟨k, 4, none⟩ (.int .i64 e.step)) := Fr.setCell (a := ⟨k, 4, none⟩) hf3 (.inl (.inr (.inr (.inr (List.mem_of_getElem? HBK.out))))) _
                exact Fr.drewN (Fr.setCell (a := ⟨g, j, none⟩) hf4 (.inl (.inr (.inl (by rw [HAo.out]; rfl)))) _) 1
              · intro n hn
                have hw1 := HF1.out.size
                rcases hn with hn | hn | hn | hn
                · exact .inl (.inl hn)
                · exact .inl (.inr (.inl hn))
                · rcases HAF.out n hn with h5 | h5
                  · exact .inl h5
                  · exact .inr (Nat.le_trans hw1 h5)
                · rcases List.mem_append.1 hn with hn | hn
                  · exact .inl (.inr (.inr (.inr hn)))
                  · simp at hn
                    omega
          · have g5' : (e2.step != e.step) = true := by simpa using g5
            have HN : Hid (s.reset e (e2 :: r) = none) := by unfold Hid; rw [HR2.out, if_neg (by rintro ⟨-, h, -⟩; exact g5 h)]
            clear g5
            go_wp2_with fail
            go_quiet (fail)
            go_wp2_with fail
            go_ret
            exact .inl ⟨HN.out, rfl, HF1.out.drewN _⟩
        · have g4' : (e2.words != x.words) = true := by simpa using g4
          have HN : Hid (s.reset e (e2 :: r) = none) := by unfold Hid; rw [HR2.out, if_neg (by rintro ⟨h, -⟩; exact g4 h)]
          clear g4
          go_wp2_with fail
          go_quiet (fail)
          go_wp2_with fail
          go_ret
          exact .inl ⟨HN.out, rfl, HF1.out.drewN _⟩
    · have g2' : (e.words != 0) = true := by simpa using g2
      have HN : Hid (s.reset e l = none) := by unfold Hid; rw [HR.out, if_neg g2]
      clear g2
      go_wp2_with fail
      go_quiet (fail)
      go_wp2_with fail
      go_ret
      exact .inl ⟨HN.out, rfl, HF1.out.drewN _⟩
end Go.Proofs.YtnloffjjlhhanaaDoor
