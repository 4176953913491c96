/- The reference's opened. -/
import Derived.Test.YtnloffjjlhhanaaDoorMid
set_option linter.unusedVariables false
set_option linter.unusedSimpArgs false
namespace Go.Proofs.YtnloffjjlhhanaaDoor
open Go.RowKit
open Go.Proofs

theorem info_line : (Tryd.prog.info? 31).map (fun i => (i.zero, i.size, i.bytes)) = some (some (.agg #[.int .i64 0, .int .i64 0, .int .i64 0, .int .i64 0, .int .i64 0, .int .i64 0, .bool false, .int .i64 0, .int .i64 0]), 9, 72) := by kernel_rfl

def Tr.mayOpen (t : Tr) (e : Ev) : Bool := e.life == (t.st.lf.length : Int) + 1 && decide (0 ≤ e.words) && decide (e.words ≤ 31) && !(t.st.lf.length == 0 && e.words != 0) && !(decide (0 < t.hole) && e.words != t.room)
def Tr.opened (t : Tr) (e : Ev) : Tr :=
  if 0 < t.hole then { t with st := { lf := t.st.lf ++ [newLf e], op := t.st.op.set (t.hole - 1).toNat t.st.lf.length }, hole := 0 }
  else { t with st := { lf := t.st.lf ++ [newLf e], op := t.st.op ++ [t.st.lf.length] } }

set_option maxRecDepth 100000 in
set_option maxHeartbeats 2000000 in
theorem opened_no (B : Nat) (w : World) (R : Loc) (t : Tr) (e : Ev) (h : TrAt B w R t) (hlf : t.st.lf.length ≤ 10000) (hno : t.mayOpen e = false) :
    Calls Tryd.prog 48 #[.pointer (some ⟨R.t, 0, none⟩), e.val] w fun en w' => en = .returned (.bool false) ∧ Fr No w w' := by
  have c0 : w.cell? ⟨R.t, 0, none⟩ = some (.slice R.Al t.st.lf.length R.cl) := h.blk.cell 0
  have c2 : w.cell? ⟨R.t, 2, none⟩ = some (.int .i64 t.hole) := h.blk.cell 2
  have c3 : w.cell? ⟨R.t, 3, none⟩ = some (.int .i64 t.room) := h.blk.cell 3
  have hl := h.blk.lt
  clear h
  unfold Ev.val
  have hways : (e.life != (t.st.lf.length : Int) + 1) = true ∨ ((e.life != (t.st.lf.length : Int) + 1) = false ∧ (decide (e.words < 0) = true ∨ (decide (e.words < 0) = false ∧ (decide (31 < e.words) = true ∨ (decide (31 < e.words) = false ∧
      ((((t.st.lf.length : Int) == 0) = true ∧ (e.words != 0) = true) ∨ (((((t.st.lf.length : Int) == 0) = true ∧ (e.words != 0) = false) ∨ ((t.st.lf.length : Int) == 0) = false) ∧ decide (0 < t.hole) = true ∧ (e.words != t.room) = true))))))) := by
    unfold Tr.mayOpen at hno
    by_cases g1 : e.life = (t.st.lf.length : Int) + 1
    · by_cases g2 : e.words < 0
      · exact .inr ⟨by simpa using g1, .inl (by simpa using g2)⟩
      · by_cases g3 : 31 < e.words
        · exact .inr ⟨by simpa using g1, .inr ⟨by simpa using g2, .inl (by simpa using g3)⟩⟩
        · refine .inr ⟨by simpa using g1, .inr ⟨by simpa using g2, .inr ⟨by simpa using g3, ?_⟩⟩⟩
          have g2' : decide (0 ≤ e.words) = true := by simp; omega
          have g3' : decide (e.words ≤ 31) = true := by simp; omega
          have g1' : (e.life == (t.st.lf.length : Int) + 1) = true := by simpa using g1
          rw [g1', g2', g3'] at hno
          have g40 : (t.st.lf.length == 0) = ((t.st.lf.length : Int) == 0) := Bool.eq_iff_iff.2 (by rw [beq_iff_eq, beq_iff_eq]; omega)
          rw [g40] at hno
          cases g4 : ((t.st.lf.length : Int) == 0) <;> cases g5 : (e.words != 0) <;> cases g6 : decide (0 < t.hole) <;> cases g7 : (e.words != t.room) <;> simp_all
    · exact .inl (by simpa using g1)
  clear hno
  go_enter Tryd.func48, Tryd.ntmps48
  rcases hways with g1 | ⟨g1, g2 | ⟨g2, g3 | ⟨g3, ⟨g4, g5⟩ | ⟨⟨g4, g5⟩ | g4, g6, g7⟩⟩⟩⟩
  all_goals
    go_wp2_with fail
    go_quiet (fail)
    go_wp2_with fail
    go_ret
    exact ⟨rfl, ((Fr.refl _ _).alloc _).drewN _⟩

/-- A box of three numbers and a cell, as a condition on worlds. -/
def BoxS (b r j : Nat) (x0 x1 x2 : Int) (v : Value) (W : World) : Prop := W.cell? ⟨b, 0, none⟩ = some (.int .i64 x0) ∧ W.cell? ⟨b, 1, none⟩ = some (.int .i64 x1) ∧ W.cell? ⟨b, 2, none⟩ = some (.int .i64 x2) ∧ W.cell? ⟨r, j, none⟩ = some v
theorem BoxS.same {b r j : Nat} {x0 x1 x2 : Int} {v : Value} {W W' : World} (h : BoxS b r j x0 x1 x2 v W) (hb : W'.heap[b]? = W.heap[b]?) (hr : W'.heap[r]? = W.heap[r]?) : BoxS b r j x0 x1 x2 v W' :=
  ⟨(World.cell?_of_block hb).trans h.1, (World.cell?_of_block hb).trans h.2.1, (World.cell?_of_block hb).trans h.2.2.1, (World.cell?_of_block hr).trans h.2.2.2⟩
end Go.Proofs.YtnloffjjlhhanaaDoor
