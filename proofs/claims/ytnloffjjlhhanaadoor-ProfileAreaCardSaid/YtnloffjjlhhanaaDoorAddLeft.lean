/- The reference's add: left. -/
import Derived.Test.YtnloffjjlhhanaaDoorAddCollect
set_option linter.unusedVariables false
set_option linter.unusedSimpArgs false
namespace Go.Proofs.YtnloffjjlhhanaaDoor
open Go.RowKit
open Go.Proofs

set_option maxRecDepth 100000 in
set_option maxHeartbeats 4000000 in
theorem add_left (B : Nat) (w : World) (R : Loc) (t : Tr) (e : Ev) (m : Nat) (h : TrAt B w R t) (hok : TrOk m t) (hm : m ≤ 4000) (hB : B ≤ w.heap.size) (hp : (t.early e || t.late e) = false) (ha_open : isOpen e = false) (ha_collect : isCollect e = false) (ha_left : isLeft e = true) :
    Calls Tryd.prog 38 #[.pointer (some ⟨R.t, 0, none⟩), e.val] w (AddPost B R w (t.add e)) := by
  have c2 : w.cell? ⟨R.t, 2, none⟩ = some (.int .i64 t.hole) := h.blk.cell 2
  have c4 : w.cell? ⟨R.t, 4, none⟩ = some (.int .i64 t.left) := h.blk.cell 4
  have c5 : w.cell? ⟨R.t, 5, none⟩ = some (.int .i64 t.step) := h.blk.cell 5
  have hl := h.blk.lt
  have H := Lib.hid h
  have hlf := hok.bd.lf
  have hop := hok.bd.op
  have HOK := Lib.hid hok
  have HP := Lib.hid hp
  have hp1 : ((e.step < t.step → False) ∧ (20000 < e.step → False)) := by
    unfold Tr.early at hp
    constructor
    · intro hh; simp [hh] at hp
    · intro hh; simp [hh] at hp
  have p1 : decide (e.step < t.step) = false := by simpa using hp1.1
  have p2 : decide (20000 < e.step) = false := by simpa using hp1.2
  have aopen : (e.act.toList == [111, 112, 101, 110]) = false := ha_open
  have acollect : (e.act.toList == [99, 111, 108, 108, 101, 99, 116]) = false := ha_collect
  have aleft : (e.act.toList == [108, 101, 102, 116]) = true := ha_left
  have q2 : decide (0 < t.hole) = false := by
    cases hb : decide (0 < t.hole)
    · rfl
    · unfold Tr.early isOpen at hp; simp [hb, aopen] at hp
  have q1 : decide (0 < t.left) = false ∨ (decide (0 < t.left) = true ∧ (e.step != t.step) = false) := by
    cases hb : decide (0 < t.left)
    · exact .inl rfl
    · refine .inr ⟨rfl, ?_⟩
      cases hs : (e.step != t.step)
      · rfl
      · unfold Tr.late at hp; simp [hb, hs] at hp
  unfold Ev.val
  have z5 := h.blk.free 5
  clear h hok hp hp1
  rcases q1 with q1 | ⟨q1, q3⟩
  · go_enter Tryd.func38, Tryd.ntmps38
    go_wp2_with fail
    go_quiet (fail)
    obtain ⟨n1, rfl⟩ : ∃ n1 : Nat, n1 = nq := ⟨_, rfl⟩
    go_wp2_with fail
    go_quiet (fail)
    go_upto_region 6 with fail
    generalize hw2 : World.setCell (World.drewN (World.alloc w (.cells #[.int .i64 e.step, .int .i64 e.life, .int .i64 e.words, .string e.act] 52)) (n1 + nq)) ⟨R.t, 5, none⟩ (.int .i64 e.step) = w2
    have hne : w.heap.size ≠ R.t := by omega
    have HF2 : Hid (Fr (fun j => j = R.t) w w2) := hw2 ▸ Fr.put (((Fr.refl _ _).alloc _).drewN _) 5 _
    have h2 : TrAt B w2 R { t with step := e.step } := hw2 ▸ (H.out.fr0 (((Fr.refl No w).alloc _).drewN _)).head 5 e.step { t with step := e.step } rfl rfl
    have hbox : Blk w2 w.heap.size #[.int .i64 e.step, .int .i64 e.life, .int .i64 e.words, .string e.act] 52 := hw2 ▸ ((Blk.new _ _ _).drewN _).far hne _
    have hsz2 := HF2.out.size
    have e0 : w2.cell? ⟨w.heap.size, 0, none⟩ = some (.int .i64 e.step) := hbox.cell 0
    have e1 : w2.cell? ⟨w.heap.size, 1, none⟩ = some (.int .i64 e.life) := hbox.cell 1
    have e2 : w2.cell? ⟨w.heap.size, 2, none⟩ = some (.int .i64 e.words) := hbox.cell 2
    have e3 : w2.cell? ⟨w.heap.size, 3, none⟩ = some (.string e.act) := hbox.cell 3
    have hbl2 := hbox.lt
    have hl2 := h2.blk.lt
    have H2 := Lib.hid h2
    have HB2 := Lib.hid hbox
    clear hw2 h2 hbox c2 c4 c5 z5 H
    have HA : Hid (t.add e = if decide (0 < t.left) && ((t.due : Int) + 1 == e.life) && decide (0 ≤ e.words) && decide (e.words ≤ (t.life t.due).fin) then
      some { t with step := e.step, left := t.left - 1, st := { t.st with lf := t.st.lf.set t.due { t.life t.due with fin := e.words } } } else none) := by
      unfold Hid Tr.add
      rw [HP.out, ha_open, ha_collect, ha_left]
      rfl
    go_wp2_with fail
    refine (trInf B w2 R { t with step := e.step } H2.out (by show t.st.op.length ≤ 10000; omega) (by show t.st.lf.length ≤ 10000; omega)).mono ?_
    rintro en w3 ⟨A, c, rfl, hf3, hrow⟩
    have h3 := H2.out.fr0 hf3
    have hb3 := hf3.blk HB2.out (fun hh => hh)
    have f0 : w3.cell? ⟨R.t, 0, none⟩ = some (.slice R.Al t.st.lf.length R.cl) := h3.blk.cell 0
    have f4 : w3.cell? ⟨R.t, 4, none⟩ = some (.int .i64 t.left) := h3.blk.cell 4
    have z4 := h3.blk.free 4
    have hl3 := h3.blk.lt
    have g1 : w3.cell? ⟨w.heap.size, 1, none⟩ = some (.int .i64 e.life) := hb3.cell 1
    have g2 : w3.cell? ⟨w.heap.size, 2, none⟩ = some (.int .i64 e.words) := hb3.cell 2
    have hbl3 := hb3.lt
    have HF3 : Hid (Fr R.foot w w3) := (HF2.out.wider fun _ _ h => .inl h).then hf3 fun _ _ h => h.elim
    have hil : t.st.inf.length ≤ 10000 := by
      have : t.st.inf.length ≤ t.st.op.length := List.length_filter_le _ _
      omega
    have hq0 := HOK.out.left0
    have hq1 := HOK.out.left1
    have H3 := Lib.hid h3
    have HROW := Lib.hid hrow
    clear h3 hb3 hf3 hrow e0 e1 e2 e3
    have hl0 : t.left = 0 := by
      have := of_decide_eq_false q1
      omega
    have k0 : (t.left == 0) = true := by simpa using hl0
    rw [q1] at HA
    clear q1 hl0
    go_wp2_with fail
    go_quiet (fail)
    go_wp2_with fail
    go_ret
    unfold AddPost
    rw [HA.out]
    exact ⟨HF3.out.drewN _, rfl⟩
  · go_enter Tryd.func38, Tryd.ntmps38
    go_wp2_with fail
    go_quiet (fail)
    obtain ⟨n1, rfl⟩ : ∃ n1 : Nat, n1 = nq := ⟨_, rfl⟩
    go_wp2_with fail
    go_quiet (fail)
    go_upto_region 6 with fail
    generalize hw2 : World.setCell (World.drewN (World.alloc w (.cells #[.int .i64 e.step, .int .i64 e.life, .int .i64 e.words, .string e.act] 52)) (n1 + nq)) ⟨R.t, 5, none⟩ (.int .i64 e.step) = w2
    have hne : w.heap.size ≠ R.t := by omega
    have HF2 : Hid (Fr (fun j => j = R.t) w w2) := hw2 ▸ Fr.put (((Fr.refl _ _).alloc _).drewN _) 5 _
    have h2 : TrAt B w2 R { t with step := e.step } := hw2 ▸ (H.out.fr0 (((Fr.refl No w).alloc _).drewN _)).head 5 e.step { t with step := e.step } rfl rfl
    have hbox : Blk w2 w.heap.size #[.int .i64 e.step, .int .i64 e.life, .int .i64 e.words, .string e.act] 52 := hw2 ▸ ((Blk.new _ _ _).drewN _).far hne _
    have hsz2 := HF2.out.size
    have e0 : w2.cell? ⟨w.heap.size, 0, none⟩ = some (.int .i64 e.step) := hbox.cell 0
    have e1 : w2.cell? ⟨w.heap.size, 1, none⟩ = some (.int .i64 e.life) := hbox.cell 1
    have e2 : w2.cell? ⟨w.heap.size, 2, none⟩ = some (.int .i64 e.words) := hbox.cell 2
    have e3 : w2.cell? ⟨w.heap.size, 3, none⟩ = some (.string e.act) := hbox.cell 3
    have hbl2 := hbox.lt
    have hl2 := h2.blk.lt
    have H2 := Lib.hid h2
    have HB2 := Lib.hid hbox
    clear hw2 h2 hbox c2 c4 c5 z5 H
    have HA : Hid (t.add e = if decide (0 < t.left) && ((t.due : Int) + 1 == e.life) && decide (0 ≤ e.words) && decide (e.words ≤ (t.life t.due).fin) then
      some { t with step := e.step, left := t.left - 1, st := { t.st with lf := t.st.lf.set t.due { t.life t.due with fin := e.words } } } else none) := by
      unfold Hid Tr.add
      rw [HP.out, ha_open, ha_collect, ha_left]
      rfl
    go_wp2_with fail
    refine (trInf B w2 R { t with step := e.step } H2.out (by show t.st.op.length ≤ 10000; omega) (by show t.st.lf.length ≤ 10000; omega)).mono ?_
    rintro en w3 ⟨A, c, rfl, hf3, hrow⟩
    have h3 := H2.out.fr0 hf3
    have hb3 := hf3.blk HB2.out (fun hh => hh)
    have f0 : w3.cell? ⟨R.t, 0, none⟩ = some (.slice R.Al t.st.lf.length R.cl) := h3.blk.cell 0
    have f4 : w3.cell? ⟨R.t, 4, none⟩ = some (.int .i64 t.left) := h3.blk.cell 4
    have z4 := h3.blk.free 4
    have hl3 := h3.blk.lt
    have g1 : w3.cell? ⟨w.heap.size, 1, none⟩ = some (.int .i64 e.life) := hb3.cell 1
    have g2 : w3.cell? ⟨w.heap.size, 2, none⟩ = some (.int .i64 e.words) := hb3.cell 2
    have hbl3 := hb3.lt
    have HF3 : Hid (Fr R.foot w w3) := (HF2.out.wider fun _ _ h => .inl h).then hf3 fun _ _ h => h.elim
    have hil : t.st.inf.length ≤ 10000 := by
      have : t.st.inf.length ≤ t.st.op.length := List.length_filter_le _ _
      omega
    have hq0 := HOK.out.left0
    have hq1 := HOK.out.left1
    have H3 := Lib.hid h3
    have HROW := Lib.hid hrow
    clear h3 hb3 hf3 hrow e0 e1 e2 e3
    have hl0 : 0 < t.left := of_decide_eq_true q1
    have k0 : (t.left == 0) = false := by simp; omega
    rw [q1] at HA
    obtain ⟨p, hp⟩ : ∃ p : Nat, (t.st.inf.length : Int) - t.left = (p : Int) := ⟨t.st.inf.length - t.left.toNat, by omega⟩
    have hpl : p < t.st.inf.length := by omega
    have hpi : t.st.inf[p]? = some t.due := by
      unfold Tr.due
      rw [show t.st.inf.length - t.left.toNat = p by omega, List.getD_eq_getElem?_getD, List.getElem?_eq_getElem hpl]
      rfl
    obtain ⟨g, hAg, hcg, -⟩ := row_cell HROW.out p (num t.due) (by rw [List.getElem?_map]; show (t.st.inf[p]?).map num = _; rw [hpi]; rfl)
    subst hAg
    have hcg' : w3.cell? ⟨g, p, none⟩ = some (.int .i64 ((t.due : Int) + 1)) := hcg
    have hgl := World.block_lt_of_cell? w3 _ hcg
    have hdue : t.due ∈ t.st.op := (List.mem_filter.1 (List.mem_of_getElem? hpi)).1
    have hdl : t.due < t.st.lf.length := HOK.out.bd.opens _ hdue
    have hx : t.st.lf[t.due]? = some (t.life t.due) := by unfold Tr.life; rw [List.getD_eq_getElem?_getD, List.getElem?_eq_getElem hdl]; rfl
    have HX := Lib.hid hx
    have hxs := HOK.out.bd.lives _ (List.mem_of_getElem? hx)
    obtain ⟨gl, hAl, hcl, hzl, hgll⟩ := row_flat H3.out.rowl hx
    have HAl := Lib.hid hAl
    rw [hAl] at f0
    have q8 : w3.cell? ⟨gl, t.due * 9 + 8, none⟩ = some (.int .i64 (t.life t.due).fin) := hcl 8 _ (by omega) rfl
    have y8 : w3.frozen? ⟨gl, t.due * 9 + 8, none⟩ = false := hzl 8 (by omega)
    have hnel : R.t ≠ gl := fun hh => H3.out.ne_l H3.out.blk (by decide) (by rw [hAl, ← hh]; rfl)
    have hgood := H3.out.good _ (List.mem_of_getElem? hx)
    have HGD := Lib.hid hgood
    generalize hd : t.due = d at *
    generalize hxx : t.life d = x at *
    have k2 : (0 : Int) ≤ (d : Int) := by omega
    have k3 : (d : Int) < (t.st.lf.length : Int) := by omega
    have k4 : (0 : Int) ≤ (p : Int) := by omega
    have k5 : (p : Int) < (t.st.inf.length : Int) := by omega
    clear hpi hcg hdue hx hAl hcl hzl q1 hgood hd hxx hl0
    by_cases hlife : e.life = (d : Int) + 1
    · have k6 : ((d : Int) + 1 == e.life) = true := by simp [hlife]
      have k7 : ((d : Int) + 1 != e.life) = false := by simp [hlife]
      rw [k6] at HA
      rw [hlife] at g1 k7
      by_cases hw0 : 0 ≤ e.words
      · have k8 : decide (0 ≤ e.words) = true := by simpa using hw0
        have k9 : decide (e.words < 0) = false := by simp; omega
        rw [k8] at HA
        by_cases hw1 : e.words ≤ x.fin
        · have k10 : decide (e.words ≤ x.fin) = true := by simpa using hw1
          have k11 : decide (x.fin < e.words) = false := by simp; omega
          rw [k10] at HA
          have HFIN : Hid (∀ n0 n1 : Nat, TrAt B ((((w3.drewN n0).setCell ⟨R.t, 4, none⟩ (.int .i64 (t.left - 1))).drewN n1).setCell ⟨gl, d * 9 + 8, none⟩ (.int .i64 e.words)) R { t with step := e.step, left := t.left - 1, st := { t.st with lf := t.st.lf.set d { x with fin := e.words } } }) := fun n0 n1 =>
            (((H3.out.fr0 (Fr.quiet n0)).head 4 (t.left - 1) { t with step := e.step, left := t.left - 1 } rfl rfl).fr0 (Fr.quiet n1)).setLine HX.out HAl.out (Nat.lt_succ_self 8) rfl HGD.out
          have HFF : Hid (∀ n0 n1 : Nat, Fr R.foot w ((((w3.drewN n0).setCell ⟨R.t, 4, none⟩ (.int .i64 (t.left - 1))).drewN n1).setCell ⟨gl, d * 9 + 8, none⟩ (.int .i64 e.words))) := fun n0 n1 =>
            Fr.setCell (a := ⟨gl, d * 9 + 8, none⟩) ((Fr.setCell (a := ⟨R.t, 4, none⟩) (HF3.out.drewN n0) (.inl (.inl rfl)) _).drewN n1) (.inl (.inr (.inl (by rw [HAl.out]; rfl)))) _
          clear k6 k8 k10 hw0 hw1
          go_wp2_with fail
          go_quiet (fail)
          go_wp2_with fail
          go_quiet (fail)
          go_wp2_with fail
          go_quiet (fail)
          go_wp2_with fail
          go_ret
          unfold AddPost
          rw [HA.out]
          exact ⟨HFF.out _ _, rfl, R, rfl, HFIN.out _ _, fun k hk => .inl hk⟩
        · have k10 : decide (e.words ≤ x.fin) = false := by simpa using hw1
          have k11 : decide (x.fin < e.words) = true := by simp; omega
          rw [k10] at HA
          clear k6 k8 k10 hw0 hw1
          go_wp2_with fail
          go_quiet (fail)
          go_wp2_with fail
          go_quiet (fail)
          go_wp2_with fail
          go_quiet (fail)
          go_wp2_with fail
          go_ret
          unfold AddPost
          rw [HA.out]
          exact ⟨((Fr.setCell (a := ⟨R.t, 4, none⟩) (HF3.out.drewN _) (.inl (.inl rfl)) _).drewN _).drewN _, rfl⟩
      · have k8 : decide (0 ≤ e.words) = false := by simpa using hw0
        have k9 : decide (e.words < 0) = true := by simp; omega
        rw [k8] at HA
        clear k6 k8 hw0
        go_wp2_with fail
        go_quiet (fail)
        go_wp2_with fail
        go_quiet (fail)
        go_wp2_with fail
        go_quiet (fail)
        go_wp2_with fail
        go_ret
        unfold AddPost
        rw [HA.out]
        exact ⟨((Fr.setCell (a := ⟨R.t, 4, none⟩) (HF3.out.drewN _) (.inl (.inl rfl)) _).drewN _).drewN _, rfl⟩
    · have k6 : ((d : Int) + 1 == e.life) = false := by simp; omega
      have k7 : ((d : Int) + 1 != e.life) = true := by simp; omega
      rw [k6] at HA
      clear k6 hlife
      go_wp2_with fail
      go_quiet (fail)
      go_wp2_with fail
      go_ret
      unfold AddPost
      rw [HA.out]
      exact ⟨HF3.out.drewN _, rfl⟩
end Go.Proofs.YtnloffjjlhhanaaDoor
