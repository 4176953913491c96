/- The reference's opened, where it is right. -/
import Derived.Test.YtnloffjjlhhanaaDoorOpened
set_option linter.unusedVariables false
set_option linter.unusedSimpArgs false
namespace Go.Proofs.YtnloffjjlhhanaaDoor
open Go.RowKit
open Go.Proofs

set_option maxRecDepth 100000 in
set_option maxHeartbeats 2000000 in
theorem opened_yes (B : Nat) (w : World) (R : Loc) (t : Tr) (e : Ev) (h : TrAt B w R t) (hlf : t.st.lf.length ≤ 10000) (hop : t.st.op.length ≤ 10000) (hB : B ≤ w.heap.size) (hh : 0 ≤ t.hole ∧ t.hole ≤ t.st.op.length) (hyes : t.mayOpen e = true) :
    Calls Tryd.prog 48 #[.pointer (some ⟨R.t, 0, none⟩), e.val] w fun en w' => en = .returned (.bool true) ∧ Fr R.foot w w' ∧ ∃ R', R'.t = R.t ∧ TrAt B w' R' (t.opened e) ∧ ∀ k, R'.foot k → R.foot k ∨ w.heap.size ≤ k := by
  obtain ⟨i0, hi, hz0, hz1, hz2⟩ := info_parts info_line
  obtain ⟨i0', hi', hz0', hz1', hz2'⟩ := info_parts info_int
  have c0 : w.cell? ⟨R.t, 0, none⟩ = some (.slice R.Al t.st.lf.length R.cl) := h.blk.cell 0
  have c2 : w.cell? ⟨R.t, 2, none⟩ = some (.int .i64 t.hole) := h.blk.cell 2
  have c3 : w.cell? ⟨R.t, 3, none⟩ = some (.int .i64 t.room) := h.blk.cell 3
  have z0 := h.blk.free 0
  have hl := h.blk.lt
  have H := Lib.hid h
  clear h
  unfold Ev.val
  have hc : (((e.life == (t.st.lf.length : Int) + 1) = true ∧ 0 ≤ e.words) ∧ e.words ≤ 31) ∧ ((t.st.lf.length = 0 → e.words = 0)) ∧ (0 < t.hole → e.words = t.room) := by
    simp only [Tr.mayOpen, Bool.and_eq_true, decide_eq_true_eq] at hyes
    refine ⟨hyes.1.1, fun h0 => ?_, fun h0 => ?_⟩
    · have := hyes.1.2
      rw [h0] at this
      simpa using this
    · have := hyes.2
      simpa [h0] using this
  obtain ⟨⟨⟨g1, g2⟩, g3⟩, g4, g5⟩ := hc
  have G1 : Hid (e.life = (t.st.lf.length : Int) + 1) := by unfold Hid; simpa using g1
  have g1' : (e.life != (t.st.lf.length : Int) + 1) = false := by simpa using g1
  have g2' : decide (e.words < 0) = false := by simp; omega
  have g3' : decide (31 < e.words) = false := by simp; omega
  have hw4 : ((t.st.lf.length : Int) == 0) = false ∨ (((t.st.lf.length : Int) == 0) = true ∧ (e.words != 0) = false) := by
    by_cases h0 : t.st.lf.length = 0
    · exact .inr ⟨by simp [h0], by simpa using g4 h0⟩
    · exact .inl (beq_eq_false_iff_ne.2 (by omega))
  have hw5 : decide (0 < t.hole) = false ∨ (decide (0 < t.hole) = true ∧ (e.words != t.room) = false) := by
    by_cases h0 : 0 < t.hole
    · exact .inr ⟨by simpa using h0, by simpa using g5 h0⟩
    · exact .inl (by simpa using h0)
  clear hyes g1 g4 g5
  go_enter Tryd.func48, Tryd.ntmps48
  go_upto_region 1 with fail
  go_cut [52] (fun sl wx => sl = .bool false ∧ Fr No w wx ∧ Blk wx w.heap.size #[.int .i64 e.step, .int .i64 e.life, .int .i64 e.words, .string e.act] 52)
  case first =>
    rcases hw4 with g4 | ⟨g4, g4'⟩ <;> rcases hw5 with g5 | ⟨g5, g5'⟩
    all_goals
      go_quiet (fail)
      go_wp2_with fail
      go_meet
      exact ⟨rfl, ((Fr.refl _ _).alloc _).drewN _, (Blk.new _ _ _).drewN _⟩
  case rest =>
    obtain ⟨rfl, hf1, hbox⟩ := hcut
    have h1 := H.out.fr0 hf1
    obtain ⟨w1, rfl⟩ : ∃ w1 : World, w1 = wc := ⟨_, rfl⟩
    have d0 : w1.cell? ⟨R.t, 0, none⟩ = some (.slice R.Al t.st.lf.length R.cl) := h1.blk.cell 0
    have y0 := h1.blk.free 0
    have hl1 := h1.blk.lt
    have x0 : w1.cell? ⟨w.heap.size, 0, none⟩ = some (.int .i64 e.step) := hbox.cell 0
    have x1 : w1.cell? ⟨w.heap.size, 1, none⟩ = some (.int .i64 e.life) := hbox.cell 1
    have x2 : w1.cell? ⟨w.heap.size, 2, none⟩ = some (.int .i64 e.words) := hbox.cell 2
    have hbl := hbox.lt
    have hbx : BoxS w.heap.size R.t 0 e.step e.life e.words (.slice R.Al t.st.lf.length R.cl) w1 := ⟨x0, x1, x2, d0⟩
    have hne : w.heap.size ≠ R.t := by omega
    have H1 := Lib.hid h1
    have HF1 := Lib.hid hf1
    have HBOX := Lib.hid hbox
    have FOWN : Hid ((w1.alloc (.cells (newLf e).row.toArray 31)).drew.ownsRow B 31 9 (.slice R.Al t.st.lf.length R.cl) t.st.lf.length (t.st.lf.flatMap Lf.row)) := World.ownsRow.alloc h1.rowl _
    have FNEW : Hid (∀ j u, (newLf e).row[j]? = some u → (w1.alloc (.cells (newLf e).row.toArray 31)).drew.cell? ((⟨w1.heap.size, 0, none⟩ : Addr).add j) = some u) :=
      World.news_of_block (w := (w1.alloc (.cells (newLf e).row.toArray 31)).drew) (cs := (newLf e).row.toArray) (heap_alloc_new w1 _)
    have FS2 : Hid (BoxS w.heap.size R.t 0 e.step e.life e.words (.slice R.Al t.st.lf.length R.cl) (w1.alloc (.cells (newLf e).row.toArray 31)).drew) := hbx.same (Below.heap_alloc _ _ _ hbl) (Below.heap_alloc _ _ _ hl1)
    have HBX := Lib.hid hbx
    have hsz1 := HF1.out.size
    clear hw4 hw5 c0 c2 c3 z0 h1 hf1 hbox hbx
    go_upto_region 3 with fail
    go_cut [] (fun wx => ∃ A c, Hid (Fr R.foot w1 wx ∧ TrAt B wx { R with Al := A, cl := c } { t with st := { t.st with lf := t.st.lf ++ [newLf e] } } ∧ Blk wx w.heap.size #[.int .i64 e.step, .int .i64 e.life, .int .i64 e.words, .string e.act] 52 ∧ ∀ k, (Value.slice A 0 0).ownBlock = some k → (Value.slice R.Al 0 0).ownBlock = some k ∨ w1.heap.size ≤ k))
    case first =>
      refine region_mid (fun W => W.cell? ⟨w.heap.size, 0, none⟩ = some (.int .i64 e.step) ∧ W.cell? ⟨w.heap.size, 1, none⟩ = some (.int .i64 e.life) ∧ W.cell? ⟨w.heap.size, 2, none⟩ = some (.int .i64 e.words) ∧ W.cell? ⟨R.t, 0, none⟩ = some (.slice R.Al t.st.lf.length R.cl)) 15 17 (by kernel_rfl) (by kernel_rfl) HBX.out ?_
      simp only [List.take_succ_cons, List.take_zero, List.drop_succ_cons, List.drop_zero]
      clear d0 x0 x1 x2
      repeat
        refine wpHeld_want ?_ (by rfl) (fun W hW => ?_) ?_
        rotate_left
        · (try dsimp only at hW)
          go_simp
          try with_reducible rfl
        simp only [Act.put, List.setIfInBounds_toArray, List.set_cons_zero, List.set_cons_succ]
      refine wpHeld_nil ?_
      refine wpKeep_step rfl (fun K hK => ?_)
      go_simp
      refine hK _ _ FS2.out ?_
      clear hK K
      refine wpKeep_step rfl (fun K hK => ?_)
      refine wp_append_lies _ (.tmp 57) (.tmp 68) 56 rfl B 31 i0 _ 9 72 Tryd.underlying56 hi hz0 hz1 hz2 rfl (by decide) (.slice R.Al t.st.lf.length R.cl) t.st.lf.length (t.st.lf.flatMap Lf.row) (by simp [Act.eval, Act.put]) FOWN.out ⟨w1.heap.size, 0, none⟩ 1 1 (newLf e).row (by simp [Act.eval, Act.put]) rfl FNEW.out (by simp [Lf.row, Value.oneCell']) (by omega) (by unfold maxLen; omega) (by omega) (by simp; omega) (w1.heap.size + 1) (by simp) ?_
      intro g c w2 hown hgrow hat hlt
      have hf2 : Fr (fun j => (Value.slice R.Al 0 0).ownBlock = some j) w1 w2 := Fr.grown (((Fr.refl _ _).alloc _).drew) hgrow (fun k hk => .inl (own_eq.1 hk))
      have hb2 := hf2.blk H1.out.blk (H1.out.ne_l H1.out.blk (by decide))
      have hbox2 := hf2.blk HBOX.out (H1.out.ne_l HBOX.out (by decide))
      refine hK _ _ ⟨hbox2.cell 0, hbox2.cell 1, hbox2.cell 2, hb2.cell 0⟩ ?_
      clear hK K
      refine wpKeep_rest _ _ _ _ (by omega) ?_
      have r0 := hb2.cell 0
      have r1 := hb2.free 0
      have r2 := hb2.lt
      have HFIN := Lib.hid (H1.out.pushLine hf2 rfl rfl hown)
      have HBOX2 := Lib.hid hbox2
      have HF2 := Lib.hid hf2
      have HAT := Lib.hid hat
      clear hown hgrow hat hb2 hf2 hbox2
      go_wp2_with fail
      refine NoPanic.normal ?_
      go_wp2_with fail
      go_meet
      refine ⟨_, _, Lib.hid ⟨?_, HFIN.out, HBOX2.out.far hne _, ?_⟩⟩
      · exact Fr.setCell (a := ⟨R.t, 0, none⟩) (HF2.out.wider fun i _ hi => .inr (.inl hi)) (.inl (.inl rfl)) _
      · intro k hk
        simp only [Value.ownBlock, Option.some.injEq] at hk
        subst hk
        rcases HAT.out with h5 | h5
        · exact .inl (own_eq.1 h5)
        · exact .inr (by omega)
    case rest =>
      obtain ⟨A, c, HCUT⟩ := hcut
      have h2 := HCUT.out.2.1
      have hbox := HCUT.out.2.2.1
      have hsz2 := HCUT.out.1.size
      obtain ⟨w2, rfl⟩ : ∃ w2 : World, w2 = wc := ⟨_, rfl⟩
      have d1 : w2.cell? ⟨R.t, 1, none⟩ = some (.slice R.Ao t.st.op.length R.co) := h2.blk.cell 1
      have d2 : w2.cell? ⟨R.t, 2, none⟩ = some (.int .i64 t.hole) := h2.blk.cell 2
      have y1 := h2.blk.free 1
      have y2 := h2.blk.free 2
      have hl2 := h2.blk.lt
      have x1' : w2.cell? ⟨w.heap.size, 1, none⟩ = some (.int .i64 e.life) := hbox.cell 1
      have hbl2 := hbox.lt
      have H2 := Lib.hid h2
      have HBOX2 := Lib.hid hbox
      have HNEW : Hid (∀ k, (Value.slice A 0 0).ownBlock = some k → R.foot k ∨ w.heap.size ≤ k) := fun k hk => by
        rcases HCUT.out.2.2.2 k hk with h5 | h5
        · exact .inl (.inr (.inl h5))
        · exact .inr (by omega)
      have HFR : Hid (Fr R.foot w w2) := HF1.out.then0 HCUT.out.1 fun _ _ h => h
      clear h2 hbox d0 y0 x0 x1 x2 HBX FOWN FNEW FS2
      by_cases hhole : 0 < t.hole
      · obtain ⟨j, hj⟩ : ∃ j : Nat, t.hole = (j : Int) + 1 := ⟨(t.hole - 1).toNat, by omega⟩
        have hjl : j < t.st.op.length := by omega
        have hji : t.st.op[j]? = some (t.st.op[j]'hjl) := List.getElem?_eq_getElem _
        obtain ⟨g, x, hA, hc, hfz, -, hgl⟩ := H2.out.open_at (i := t.st.op[j]'hjl) hji
        simp only at hA
        have HA := Lib.hid hA
        have hc' : w2.cell? ⟨g, j, none⟩ = some (.int .i64 ((t.st.op[j]'hjl : Nat) + 1)) := hc
        have hne2 : R.t ≠ g := fun hh => H2.out.ne_o H2.out.blk (by decide) (by simp only; rw [hA, ← hh]; rfl)
        rw [hA] at d1
        rw [hj] at d2
        have HJ := Lib.hid hj
        have HT : Hid (t.opened e = { t with st := { lf := t.st.lf ++ [newLf e], op := t.st.op.set j t.st.lf.length }, hole := 0 }) := by
          unfold Hid Tr.opened
          rw [if_pos hhole]
          congr 3
          omega
        have k1 : (0 : Int) ≤ (j : Int) := by omega
        have k2 : (j : Int) < (t.st.op.length : Int) := by omega
        have k3 : decide (0 < (j : Int) + 1) = true := by simp
        generalize (t.st.op[j]'hjl) = i at hc'
        clear hhole hj hji hc hA hh
        go_wp2_with fail
        refine region_tail 11 (by kernel_rfl) (by kernel_rfl) ?_
        simp only [List.take_succ_cons, List.take_zero, List.drop_succ_cons, List.drop_zero]
        repeat still_step
        refine wpStill_nil ?_
        go_wp2_with fail
        go_ret
        have hv : Value.int .i64 e.life = num t.st.lf.length := by unfold num; rw [G1.out]
        have h3 := H2.out.setNum (i := t.st.lf.length) (j := j) (g := g) (by simp) HA.out
        have h4 := h3.head 2 0 (t.opened e) (by rw [HT.out]) (by rw [HT.out]; rfl)
        rw [← hv] at h4
        refine ⟨rfl, ?_, { R with Al := A, cl := c }, rfl, h4.fr0 (Fr.quiet 1), fun k hk => ?_⟩
        · exact Fr.drewN (Fr.setCell (a := ⟨R.t, 2, none⟩) (Fr.setCell (a := ⟨g, j, none⟩) HFR.out (.inl (.inr (.inr (by rw [HA.out]; rfl)))) _) (.inl (.inl rfl)) _) 1
        · rcases hk with hk | hk | hk
          · exact .inl (.inl hk)
          · exact HNEW.out k hk
          · exact .inl (.inr (.inr hk))
      · have hh0 : t.hole = 0 := by omega
        have k3 : decide (0 < t.hole) = false := by simp; omega
        have HT : Hid (t.opened e = { t with st := { lf := t.st.lf ++ [newLf e], op := t.st.op ++ [t.st.lf.length] } }) := by
          unfold Hid Tr.opened
          rw [if_neg hhole]
        have hbx : BoxS w.heap.size R.t 1 e.step e.life e.words (.slice R.Ao t.st.op.length R.co) w2 := ⟨HBOX2.out.cell 0, x1', HBOX2.out.cell 2, d1⟩
        have HBX := Lib.hid hbx
        have FOWN : Hid ((w2.alloc (.cells #[.int .i64 e.life] 3)).drew.ownsRow B 3 1 (.slice R.Ao t.st.op.length R.co) t.st.op.length (t.st.op.map num)) := World.ownsRow.alloc H2.out.rowo _
        have FNEW : Hid (∀ j u, [num t.st.lf.length][j]? = some u → (w2.alloc (.cells #[.int .i64 e.life] 3)).drew.cell? ((⟨w2.heap.size, 0, none⟩ : Addr).add j) = some u) := by
          have hv : num t.st.lf.length = Value.int .i64 e.life := by unfold num; rw [G1.out]
          unfold Hid
          rw [hv]
          exact World.news_of_block (w := (w2.alloc (.cells #[.int .i64 e.life] 3)).drew) (cs := #[.int .i64 e.life]) (heap_alloc_new w2 _)
        have FS2 : Hid (BoxS w.heap.size R.t 1 e.step e.life e.words (.slice R.Ao t.st.op.length R.co) (w2.alloc (.cells #[.int .i64 e.life] 3)).drew) := hbx.same (Below.heap_alloc _ _ _ hbl2) (Below.heap_alloc _ _ _ hl2)
        clear hbx hhole hh hh0
        go_wp2_with fail
        refine region_mid (fun W => W.cell? ⟨w.heap.size, 0, none⟩ = some (.int .i64 e.step) ∧ W.cell? ⟨w.heap.size, 1, none⟩ = some (.int .i64 e.life) ∧ W.cell? ⟨w.heap.size, 2, none⟩ = some (.int .i64 e.words) ∧ W.cell? ⟨R.t, 1, none⟩ = some (.slice R.Ao t.st.op.length R.co)) 7 9 (by kernel_rfl) (by kernel_rfl) HBX.out ?_
        simp only [List.take_succ_cons, List.take_zero, List.drop_succ_cons, List.drop_zero]
        clear d1 x1'
        repeat
          refine wpHeld_want ?_ (by rfl) (fun W hW => ?_) ?_
          rotate_left
          · (try dsimp only at hW)
            go_simp
            try with_reducible rfl
          simp only [Act.put, List.setIfInBounds_toArray, List.set_cons_zero, List.set_cons_succ]
        refine wpHeld_nil ?_
        refine wpKeep_step rfl (fun K hK => ?_)
        go_simp
        refine hK _ _ FS2.out ?_
        clear hK K
        refine wpKeep_step rfl (fun K hK => ?_)
        refine wp_append_lies _ (.tmp 96) (.tmp 99) 37 rfl B 3 i0' _ 1 8 Tryd.underlying37 hi' hz0' hz1' hz2' rfl (by decide) (.slice R.Ao t.st.op.length R.co) t.st.op.length (t.st.op.map num) (by simp [Act.eval, Act.put]) FOWN.out ⟨w2.heap.size, 0, none⟩ 1 1 [num t.st.lf.length] (by simp [Act.eval, Act.put]) rfl FNEW.out (by simp [num, Value.oneCell']) (by omega) (by unfold maxLen; omega) (by omega) (by simp; omega) (w2.heap.size + 1) (by simp) ?_
        intro g c2 w3 hown hgrow hat hlt
        have hf3 : Fr (fun j => (Value.slice R.Ao 0 0).ownBlock = some j) w2 w3 := Fr.grown (((Fr.refl _ _).alloc _).drew) hgrow (fun k hk => .inl (own_eq.1 hk))
        have hb3 := hf3.blk H2.out.blk (H2.out.ne_o H2.out.blk (by decide))
        have hbox3 := hf3.blk HBOX2.out (H2.out.ne_o HBOX2.out (by decide))
        refine hK _ _ ⟨hbox3.cell 0, hbox3.cell 1, hbox3.cell 2, hb3.cell 1⟩ ?_
        clear hK K
        refine wpKeep_rest _ _ _ _ (by omega) ?_
        have r0 : w3.cell? ⟨R.t, 1, none⟩ = some (.slice R.Ao t.st.op.length R.co) := hb3.cell 1
        have r1 := hb3.free 1
        have r2 := hb3.lt
        have HFIN := Lib.hid (H2.out.pushNum (i := t.st.lf.length) hf3 rfl (by simp) hown)
        have HF3 := Lib.hid hf3
        have HAT := Lib.hid hat
        clear hown hgrow hat hb3 hf3 hbox3
        go_wp2_with fail
        refine NoPanic.normal ?_
        go_wp2_with fail
        go_ret
        refine ⟨rfl, ?_, { R with Al := A, cl := c, Ao := some ⟨g, 0, none⟩, co := c2 }, rfl, HT.out ▸ HFIN.out, fun k hk => ?_⟩
        · exact Fr.setCell (a := ⟨R.t, 1, none⟩) (HFR.out.trans (HF3.out.wider fun i _ hi => .inr (.inr hi))) (.inl (.inl rfl)) _
        · rcases hk with hk | hk | hk
          · exact .inl (.inl hk)
          · exact HNEW.out k hk
          · simp only [Value.ownBlock, Option.some.injEq] at hk
            subst hk
            rcases HAT.out with h5 | h5
            · exact .inl (.inr (.inr (own_eq.1 h5)))
            · exact .inr (by omega)
end Go.Proofs.YtnloffjjlhhanaaDoor
