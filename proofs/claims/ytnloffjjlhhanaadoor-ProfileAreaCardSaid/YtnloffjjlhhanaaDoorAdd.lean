/- The reference's add: what it does, and the events that it refuses at once. -/
import Derived.Test.YtnloffjjlhhanaaDoorOpenedY
set_option linter.unusedVariables false
set_option linter.unusedSimpArgs false
namespace Go.Proofs.YtnloffjjlhhanaaDoor
open Go.RowKit
open Go.Proofs

def Tr.early (t : Tr) (e : Ev) : Bool := decide (e.step < t.step) || decide (20000 < e.step) || (decide (0 < t.left) && !isLeft e) || (decide (0 < t.hole) && !isOpen e)
def Tr.late (t : Tr) (e : Ev) : Bool := (decide (0 < t.left) || decide (0 < t.hole)) && e.step != t.step
def Tr.life (t : Tr) (i : Nat) : Lf := t.st.lf.getD i default
/-- Which life is to come next behind collect. -/
def Tr.due (t : Tr) : Nat := t.st.inf.getD (t.st.inf.length - t.left.toNat) 0
def Tr.add (t : Tr) (e : Ev) : Option Tr :=
  if t.early e || t.late e then none
  else if isOpen e then (if t.mayOpen e then some ({ t with step := e.step }.opened e) else none)
  else if isCollect e then (if e.life == 0 && e.words == 0 && decide (0 < t.st.op.length) then some { t with step := e.step, left := t.st.inf.length } else none)
  else if isLeft e then
    (if decide (0 < t.left) && ((t.due : Int) + 1 == e.life) && decide (0 ≤ e.words) && decide (e.words ≤ (t.life t.due).fin) then
      some { t with step := e.step, left := t.left - 1, st := { t.st with lf := t.st.lf.set t.due { t.life t.due with fin := e.words } } } else none)
  else if t.place e.life < 0 then none
  else
    let i := t.st.op.getD (t.place e.life).toNat 0
    if isStore e then (if decide (2 ≤ e.words) && decide (e.words ≤ 32) && (t.life i).may e.words then some { t with step := e.step, st := { t.st with lf := t.st.lf.set i ((t.life i).put e.words) } } else none)
    else if isClose e then
      (if e.words == 0 && decide (t.place e.life = (t.st.op.length : Int) - 1) && decide (1 < t.st.op.length) then
        some { t with step := e.step, st := { lf := t.st.lf.set i { t.life i with ended := e.step }, op := t.st.op.take (t.st.op.length - 1) } } else none)
    else if isReset e then
      (if e.words == 0 then some { t with step := e.step, st := { t.st with lf := t.st.lf.set i { t.life i with ended := e.step } }, hole := t.place e.life + 1, room := (t.life i).words } else none)
    else none
/-- What a trace's numbers keep. -/
structure TrOk (m : Nat) (t : Tr) : Prop where
  bd : Bd m t.st
  hole0 : 0 ≤ t.hole
  hole1 : t.hole ≤ t.st.op.length
  left0 : 0 ≤ t.left
  left1 : t.left ≤ t.st.inf.length
def AddPost (B : Nat) (R : Loc) (w : World) (o : Option Tr) (en : Ending) (w' : World) : Prop :=
  Fr R.foot w w' ∧ match o with
  | none => en = .returned (.bool false)
  | some t' => en = .returned (.bool true) ∧ ∃ R', R'.t = R.t ∧ TrAt B w' R' t' ∧ ∀ k, R'.foot k → R.foot k ∨ w.heap.size ≤ k

set_option maxRecDepth 100000 in
set_option maxHeartbeats 4000000 in
theorem add_early (B : Nat) (w : World) (R : Loc) (t : Tr) (e : Ev) (h : TrAt B w R t) (hno : (t.early e || t.late e) = true) :
    Calls Tryd.prog 38 #[.pointer (some ⟨R.t, 0, none⟩), e.val] w fun en w' => en = .returned (.bool false) ∧ Fr No w w' := by
  have c2 : w.cell? ⟨R.t, 2, none⟩ = some (.int .i64 t.hole) := h.blk.cell 2
  have c4 : w.cell? ⟨R.t, 4, none⟩ = some (.int .i64 t.left) := h.blk.cell 4
  have c5 : w.cell? ⟨R.t, 5, none⟩ = some (.int .i64 t.step) := h.blk.cell 5
  have hl := h.blk.lt
  clear h
  unfold Ev.val
  have hways : decide (e.step < t.step) = true ∨ (decide (e.step < t.step) = false ∧ (decide (20000 < e.step) = true ∨ (decide (20000 < e.step) = false ∧
      ((decide (0 < t.left) = true ∧ (e.act.toList == [108, 101, 102, 116]) = false) ∨ (decide (0 < t.left) = false ∧ decide (0 < t.hole) = true ∧ (e.act.toList == [111, 112, 101, 110]) = false) ∨
       (decide (0 < t.left) = true ∧ (e.act.toList == [108, 101, 102, 116]) = true ∧ decide (0 < t.hole) = true ∧ (e.act.toList == [111, 112, 101, 110]) = false) ∨
       (decide (0 < t.left) = false ∧ decide (0 < t.hole) = true ∧ (e.act.toList == [111, 112, 101, 110]) = true ∧ (e.step != t.step) = true) ∨
       (decide (0 < t.left) = true ∧ (e.act.toList == [108, 101, 102, 116]) = true ∧ decide (0 < t.hole) = false ∧ (e.step != t.step) = true))))) := by
    unfold Tr.early Tr.late isLeft isOpen at hno
    cases a1 : decide (e.step < t.step)
    · refine .inr ⟨rfl, ?_⟩
      cases a2 : decide (20000 < e.step)
      · refine .inr ⟨rfl, ?_⟩
        rw [a1, a2] at hno
        cases a3 : decide (0 < t.left) <;> cases a4 : decide (0 < t.hole) <;> cases a5 : (e.act.toList == [108, 101, 102, 116]) <;> cases a6 : (e.act.toList == [111, 112, 101, 110]) <;> cases a7 : (e.step != t.step) <;> simp_all
      · exact .inl rfl
    · exact .inl rfl
  clear hno
  go_enter Tryd.func38, Tryd.ntmps38
  rcases hways with g1 | ⟨g1, g2 | ⟨g2, ⟨g3, g4⟩ | ⟨g3, g4, g5⟩ | ⟨g3, g4, g5, g6⟩ | ⟨g3, g4, g5, g6⟩ | ⟨g3, g4, g5, g6⟩⟩⟩
  all_goals
    go_wp2_with fail
    go_quiet (fail)
    go_wp2_with fail
    first
    | (go_ret
       exact ⟨rfl, ((Fr.refl _ _).alloc _).drewN _⟩)
    | (go_quiet (fail)
       go_wp2_with fail
       go_ret
       exact ⟨rfl, (((Fr.refl _ _).alloc _).drewN _).drewN _⟩)
end Go.Proofs.YtnloffjjlhhanaaDoor
