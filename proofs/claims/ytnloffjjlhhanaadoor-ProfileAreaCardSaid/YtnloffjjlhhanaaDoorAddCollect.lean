/- The reference's add: collect. -/
import Derived.Test.YtnloffjjlhhanaaDoorAddOpen
set_option linter.unusedVariables false
set_option linter.unusedSimpArgs false
namespace Go.Proofs.YtnloffjjlhhanaaDoor
open Go.RowKit
open Go.Proofs

set_option maxRecDepth 100000 in
set_option maxHeartbeats 4000000 in
theorem add_collect (B : Nat) (w : World) (R : Loc) (t : Tr) (e : Ev) (m : Nat) (h : TrAt B w R t) (hok : TrOk m t) (hm : m ≤ 4000) (hB : B ≤ w.heap.size) (hp : (t.early e || t.late e) = false) (ha_open : isOpen e = false) (ha_left : isLeft e = false) (ha_collect : isCollect e = true) :
    Calls Tryd.prog 38 #[.pointer (some ⟨R.t, 0, none⟩), e.val] w (AddPost B R w (t.add e)) := by
  have c2 : w.cell? ⟨R.t, 2, none⟩ = some (.int .i64 t.hole) := h.blk.cell 2
  have c4 : w.cell? ⟨R.t, 4, none⟩ = some (.int .i64 t.left) := h.blk.cell 4
  have c5 : w.cell? ⟨R.t, 5, none⟩ = some (.int .i64 t.step) := h.blk.cell 5
  have hl := h.blk.lt
  have H := Lib.hid h
  have hlf := hok.bd.lf
  have hop := hok.bd.op
  have HOK := Lib.hid hok
  have HP := Lib.hid hp
  have hp1 : ((e.step < t.step → False) ∧ (20000 < e.step → False)) := by
    unfold Tr.early at hp
    constructor
    · intro hh; simp [hh] at hp
    · intro hh; simp [hh] at hp
  have p1 : decide (e.step < t.step) = false := by simpa using hp1.1
  have p2 : decide (20000 < e.step) = false := by simpa using hp1.2
  have aopen : (e.act.toList == [111, 112, 101, 110]) = false := ha_open
  have aleft : (e.act.toList == [108, 101, 102, 116]) = false := ha_left
  have acollect : (e.act.toList == [99, 111, 108, 108, 101, 99, 116]) = true := ha_collect
  have q1 : decide (0 < t.left) = false := by
    cases hb : decide (0 < t.left)
    · rfl
    · unfold Tr.early isLeft at hp; simp [hb, aleft] at hp
  have q2 : decide (0 < t.hole) = false := by
    cases hb : decide (0 < t.hole)
    · rfl
    · unfold Tr.early isOpen at hp; simp [hb, aopen] at hp
  unfold Ev.val
  have z5 := h.blk.free 5
  clear h hok hp hp1
  iterate 1
    go_enter Tryd.func38, Tryd.ntmps38
    go_wp2_with fail
    go_quiet (fail)
    obtain ⟨n1, rfl⟩ : ∃ n1 : Nat, n1 = nq := ⟨_, rfl⟩
    go_wp2_with fail
    go_quiet (fail)
    go_upto_region 6 with fail
    generalize hw2 : World.setCell (World.drewN (World.alloc w (.cells #[.int .i64 e.step, .int .i64 e.life, .int .i64 e.words, .string e.act] 52)) (n1 + nq)) ⟨R.t, 5, none⟩ (.int .i64 e.step) = w2
    have hne : w.heap.size ≠ R.t := by omega
    have HF2 : Hid (Fr (fun j => j = R.t) w w2) := hw2 ▸ Fr.put (((Fr.refl _ _).alloc _).drewN _) 5 _
    have h2 : TrAt B w2 R { t with step := e.step } := hw2 ▸ (H.out.fr0 (((Fr.refl No w).alloc _).drewN _)).head 5 e.step { t with step := e.step } rfl rfl
    have hbox : Blk w2 w.heap.size #[.int .i64 e.step, .int .i64 e.life, .int .i64 e.words, .string e.act] 52 := hw2 ▸ ((Blk.new _ _ _).drewN _).far hne _
    have hsz2 := HF2.out.size
    have e0 : w2.cell? ⟨w.heap.size, 0, none⟩ = some (.int .i64 e.step) := hbox.cell 0
    have e1 : w2.cell? ⟨w.heap.size, 1, none⟩ = some (.int .i64 e.life) := hbox.cell 1
    have e2 : w2.cell? ⟨w.heap.size, 2, none⟩ = some (.int .i64 e.words) := hbox.cell 2
    have e3 : w2.cell? ⟨w.heap.size, 3, none⟩ = some (.string e.act) := hbox.cell 3
    have hbl2 := hbox.lt
    have hl2 := h2.blk.lt
    have H2 := Lib.hid h2
    have HB2 := Lib.hid hbox
    clear hw2 h2 hbox c2 c4 c5 z5 H
    have HA : Hid (t.add e = if e.life == 0 && e.words == 0 && decide (0 < t.st.op.length) then some { t with step := e.step, left := t.st.inf.length } else none) := by
      unfold Hid Tr.add
      rw [HP.out, ha_open, ha_collect]
      rfl
    go_wp2_with fail
    refine (trInf B w2 R { t with step := e.step } H2.out (by show t.st.op.length ≤ 10000; omega) (by show t.st.lf.length ≤ 10000; omega)).mono ?_
    rintro en w3 ⟨A, c, rfl, hf3, -⟩
    have h3 := H2.out.fr0 hf3
    have hb3 := hf3.blk HB2.out (fun hh => hh)
    have f4 : w3.cell? ⟨R.t, 4, none⟩ = some (.int .i64 t.left) := h3.blk.cell 4
    have f1 : w3.cell? ⟨R.t, 1, none⟩ = some (.slice R.Ao t.st.op.length R.co) := h3.blk.cell 1
    have z4 := h3.blk.free 4
    have hl3 := h3.blk.lt
    have g1 : w3.cell? ⟨w.heap.size, 1, none⟩ = some (.int .i64 e.life) := hb3.cell 1
    have g2 : w3.cell? ⟨w.heap.size, 2, none⟩ = some (.int .i64 e.words) := hb3.cell 2
    have hbl3 := hb3.lt
    have HF3 : Hid (Fr R.foot w w3) := (HF2.out.wider fun _ _ h => .inl h).then hf3 fun _ _ h => h.elim
    have HFIN : Hid (TrAt B (w3.setCell ⟨R.t, 4, none⟩ (.int .i64 t.st.inf.length)) R { t with step := e.step, left := t.st.inf.length }) := h3.head 4 t.st.inf.length { t with step := e.step, left := t.st.inf.length } rfl rfl
    have hil : t.st.inf.length ≤ 10000 := by
      have : t.st.inf.length ≤ t.st.op.length := List.length_filter_le _ _
      omega
    clear h3 hb3 hf3 e0 e1 e2 e3
    cases b1 : (e.life == 0)
    · rw [b1] at HA
      go_wp2_with fail
      go_ret
      unfold AddPost
      rw [HA.out]
      exact ⟨Fr.setCell (a := ⟨R.t, 4, none⟩) HF3.out (.inl (.inl rfl)) _, rfl⟩
    · cases b2 : (e.words == 0)
      · rw [b1, b2] at HA
        go_wp2_with fail
        go_ret
        unfold AddPost
        rw [HA.out]
        exact ⟨Fr.setCell (a := ⟨R.t, 4, none⟩) HF3.out (.inl (.inl rfl)) _, rfl⟩
      · by_cases b3 : 0 < t.st.op.length
        · have b3' : decide (0 < t.st.op.length) = true := by simpa using b3
          rw [b1, b2, b3'] at HA
          go_wp2_with fail
          go_ret
          unfold AddPost
          rw [HA.out]
          exact ⟨Fr.setCell (a := ⟨R.t, 4, none⟩) HF3.out (.inl (.inl rfl)) _, rfl, R, rfl, HFIN.out, fun k hk => .inl hk⟩
        · have b3' : decide (0 < t.st.op.length) = false := by simpa using b3
          rw [b1, b2, b3'] at HA
          go_wp2_with fail
          go_ret
          unfold AddPost
          rw [HA.out]
          exact ⟨Fr.setCell (a := ⟨R.t, 4, none⟩) HF3.out (.inl (.inl rfl)) _, rfl⟩
end Go.Proofs.YtnloffjjlhhanaaDoor
