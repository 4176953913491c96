/- The reference's add: other. -/
import Derived.Test.YtnloffjjlhhanaaDoorAddClose
set_option linter.unusedVariables false
set_option linter.unusedSimpArgs false
namespace Go.Proofs.YtnloffjjlhhanaaDoor
open Go.RowKit
open Go.Proofs

set_option maxRecDepth 100000 in
set_option maxHeartbeats 4000000 in
theorem add_other (B : Nat) (w : World) (R : Loc) (t : Tr) (e : Ev) (m : Nat) (h : TrAt B w R t) (hok : TrOk m t) (hm : m ≤ 4000) (hB : B ≤ w.heap.size) (hp : (t.early e || t.late e) = false) (ha_open : isOpen e = false) (ha_collect : isCollect e = false) (ha_left : isLeft e = false) (ha_store : isStore e = false) (ha_close : isClose e = false) (ha_reset : isReset e = false) (j i : Nat) (x : Lf) (hj : t.place e.life = (j : Int)) (hji : t.st.op[j]? = some i) (hx : t.st.lf[i]? = some x) (hlife : e.life = (i : Int) + 1) :
    Calls Tryd.prog 38 #[.pointer (some ⟨R.t, 0, none⟩), e.val] w (AddPost B R w (t.add e)) := by
  have c2 : w.cell? ⟨R.t, 2, none⟩ = some (.int .i64 t.hole) := h.blk.cell 2
  have c4 : w.cell? ⟨R.t, 4, none⟩ = some (.int .i64 t.left) := h.blk.cell 4
  have c5 : w.cell? ⟨R.t, 5, none⟩ = some (.int .i64 t.step) := h.blk.cell 5
  have hl := h.blk.lt
  have H := Lib.hid h
  have hlf := hok.bd.lf
  have hop := hok.bd.op
  have HOK := Lib.hid hok
  have HP := Lib.hid hp
  have hp1 : ((e.step < t.step → False) ∧ (20000 < e.step → False)) := by
    unfold Tr.early at hp
    constructor
    · intro hh; simp [hh] at hp
    · intro hh; simp [hh] at hp
  have p1 : decide (e.step < t.step) = false := by simpa using hp1.1
  have p2 : decide (20000 < e.step) = false := by simpa using hp1.2
  have aopen : (e.act.toList == [111, 112, 101, 110]) = false := ha_open
  have acollect : (e.act.toList == [99, 111, 108, 108, 101, 99, 116]) = false := ha_collect
  have aleft : (e.act.toList == [108, 101, 102, 116]) = false := ha_left
  have astore : (e.act.toList == [115, 116, 111, 114, 101]) = false := ha_store
  have aclose : (e.act.toList == [99, 108, 111, 115, 101]) = false := ha_close
  have areset : (e.act.toList == [114, 101, 115, 101, 116]) = false := ha_reset
  have q1 : decide (0 < t.left) = false := by
    cases hb : decide (0 < t.left)
    · rfl
    · unfold Tr.early isLeft at hp; simp [hb, aleft] at hp
  have q2 : decide (0 < t.hole) = false := by
    cases hb : decide (0 < t.hole)
    · rfl
    · unfold Tr.early isOpen at hp; simp [hb, aopen] at hp
  have HJ := Lib.hid hj
  have HJI := Lib.hid hji
  have HXX := Lib.hid hx
  have HLIFE := Lib.hid hlife
  clear hj hji hx hlife
  unfold Ev.val
  have z5 := h.blk.free 5
  clear h hok hp hp1
  iterate 1
    go_enter Tryd.func38, Tryd.ntmps38
    go_wp2_with fail
    go_quiet (fail)
    obtain ⟨n1, rfl⟩ : ∃ n1 : Nat, n1 = nq := ⟨_, rfl⟩
    go_wp2_with fail
    go_quiet (fail)
    go_upto_region 6 with fail
    generalize hw2 : World.setCell (World.drewN (World.alloc w (.cells #[.int .i64 e.step, .int .i64 e.life, .int .i64 e.words, .string e.act] 52)) (n1 + nq)) ⟨R.t, 5, none⟩ (.int .i64 e.step) = w2
    have hne : w.heap.size ≠ R.t := by omega
    have HF2 : Hid (Fr (fun j => j = R.t) w w2) := hw2 ▸ Fr.put (((Fr.refl _ _).alloc _).drewN _) 5 _
    have h2 : TrAt B w2 R { t with step := e.step } := hw2 ▸ (H.out.fr0 (((Fr.refl No w).alloc _).drewN _)).head 5 e.step { t with step := e.step } rfl rfl
    have hbox : Blk w2 w.heap.size #[.int .i64 e.step, .int .i64 e.life, .int .i64 e.words, .string e.act] 52 := hw2 ▸ ((Blk.new _ _ _).drewN _).far hne _
    have hsz2 := HF2.out.size
    have e0 : w2.cell? ⟨w.heap.size, 0, none⟩ = some (.int .i64 e.step) := hbox.cell 0
    have e1 : w2.cell? ⟨w.heap.size, 1, none⟩ = some (.int .i64 e.life) := hbox.cell 1
    have e2 : w2.cell? ⟨w.heap.size, 2, none⟩ = some (.int .i64 e.words) := hbox.cell 2
    have e3 : w2.cell? ⟨w.heap.size, 3, none⟩ = some (.string e.act) := hbox.cell 3
    have hbl2 := hbox.lt
    have hl2 := h2.blk.lt
    have H2 := Lib.hid h2
    have HB2 := Lib.hid hbox
    clear hw2 h2 hbox c2 c4 c5 z5 H
    have hj := HJ.out
    have hji := HJI.out
    have hx := HXX.out
    have hlife := HLIFE.out
    have HA : Hid (t.add e = none) := by
      have ei : t.st.op.getD (t.place e.life).toNat 0 = i := by rw [hj, Int.toNat_natCast, List.getD_eq_getElem?_getD, hji]; rfl
      have ex : t.life i = x := by unfold Tr.life; rw [List.getD_eq_getElem?_getD, hx]; rfl
      unfold Hid Tr.add
      rw [HP.out]
      simp only [ha_open, ha_collect, ha_left, Bool.false_eq_true, if_false, ei, ex]
      rw [if_neg (by rw [hj]; omega)]
      simp only [ha_store, ha_close, ha_reset, Bool.false_eq_true, if_false]
    have hpc : Calls Tryd.prog 50 #[.pointer (some ⟨R.t, 0, none⟩), .int .i64 e.life] w2 fun en w' => en = .returned (.int .i64 (j : Int)) ∧ w2 = w' := hj ▸ trPlace B w2 R { t with step := e.step } e.life H2.out (by show t.st.op.length ≤ 10000; omega) (by show t.st.lf.length ≤ 10000; omega)
    have HPC := Lib.hid hpc
    have hjl : j < t.st.op.length := (List.getElem?_eq_some_iff.1 hji).1
    have hil : i < t.st.lf.length := (List.getElem?_eq_some_iff.1 hx).1
    have hxs := HOK.out.bd.lives _ (List.mem_of_getElem? hx)
    obtain ⟨gl, hAl, hcl, hzl, hgl⟩ := row_flat H2.out.rowl hx
    have f0 : w2.cell? ⟨R.t, 0, none⟩ = some (.slice R.Al t.st.lf.length R.cl) := H2.out.blk.cell 0
    rw [hAl] at f0
    have HAL := Lib.hid hAl
    have hnel : R.t ≠ gl := fun hh => H2.out.ne_l H2.out.blk (by decide) (by rw [hAl, ← hh]; rfl)
    have hneb : w.heap.size ≠ gl := fun hh => H2.out.ne_l HB2.out (by decide) (by rw [hAl, ← hh]; rfl)
    have HGD := Lib.hid (H2.out.good _ (List.mem_of_getElem? hx))
    have HX := Lib.hid hx
    rw [hlife] at e1
    rw [hlife] at HPC
    have k0 : decide ((j : Int) < 0) = false := by simp
    have k1 : (0 : Int) ≤ (i : Int) := by omega
    have k2 : (i : Int) < (t.st.lf.length : Int) := by omega
    have q3 : w2.cell? ⟨gl, i * 9 + 3, none⟩ = some (.int .i64 x.objs) := hcl 3 _ (by omega) rfl
    have q4 : w2.cell? ⟨gl, i * 9 + 4, none⟩ = some (.int .i64 x.wds) := hcl 4 _ (by omega) rfl
    have q5 : w2.cell? ⟨gl, i * 9 + 5, none⟩ = some (.int .i64 x.pages) := hcl 5 _ (by omega) rfl
    have q6 : w2.cell? ⟨gl, i * 9 + 6, none⟩ = some (.bool x.bounded) := hcl 6 _ (by omega) rfl
    have q7 : w2.cell? ⟨gl, i * 9 + 7, none⟩ = some (.int .i64 x.words) := hcl 7 _ (by omega) rfl
    have q8 : w2.cell? ⟨gl, i * 9 + 8, none⟩ = some (.int .i64 x.fin) := hcl 8 _ (by omega) rfl
    have HCL := Lib.hid hcl
    have HZL := Lib.hid hzl
    clear hpc hj hji hx hlife hAl hcl hzl
    go_wp2_with fail
    refine HPC.out.mono ?_
    rintro en w3 ⟨rfl, rfl⟩
    go_wp2_with fail
    go_quiet (fail)
    go_wp2_with fail
    go_ret
    unfold AddPost
    rw [HA.out]
    exact ⟨(HF2.out.wider fun _ _ h => .inl h).drewN _, rfl⟩
end Go.Proofs.YtnloffjjlhhanaaDoor
