/- The program's bySteps: what it returns. -/
import Derived.Test.YtnloffjjlhhanaaDoorPlayB
set_option linter.unusedVariables false
set_option linter.unusedSimpArgs false
namespace Go.Proofs.YtnloffjjlhhanaaDoor
open Go.RowKit
open Go.Proofs

/-- The pages behind each step. -/
def outP (l : List Ev) (tr : List (St × Int)) : List Int := if l.length = 0 then (byTr tr).1 else (byTr tr).1 ++ [(byTr tr).2]
def StepsPost (w : World) (l : List Ev) (en : Ending) (w' : World) : Prop :=
  Fr No w w' ∧ match playP l with
  | none => ∃ A n c, en = .returned (.tuple #[.slice A n c, .bool false])
  | some tr => ∃ A c, en = .returned (.tuple #[.slice A (outP l tr).length c, .bool true]) ∧ w'.ownsRow w.heap.size 3 1 (.slice A (outP l tr).length c) (outP l tr).length ((outP l tr).map numI) ∧ (outP l tr).length ≤ 20002 ∧ ∀ x ∈ outP l tr, 0 ≤ x ∧ x ≤ 360000000

set_option maxRecDepth 100000 in
set_option maxHeartbeats 2000000 in
theorem steps_any (w : World) (A : Option Addr) (cap : Nat) (l : List Ev) (hev : Evs w.heap.size w A l) (hl : l.length ≤ 2000) (hcap : l.length ≤ cap) :
    Calls Tryd.prog 27 #[.slice A l.length cap] w (StepsPost w l) := by
  obtain ⟨i0, hi, hz0, hz1, hz2⟩ := info_parts info_int
  have hal : Fr No w ((w.alloc (.cells #[.slice none 0 0] 37)).alloc (.cells #[.int .i64 0] 3)) := ((Fr.refl _ _).alloc _).alloc _
  have hI0 : StepsI w.heap.size w.heap.size (w.heap.size + 1) ((w.alloc (.cells #[.slice none 0 0] 37)).alloc (.cells #[.int .i64 0] 3)) (fun k => k = w.heap.size ∨ k = w.heap.size + 1 ∨ (Value.slice none 0 0).ownBlock = some k) [] :=
    ⟨none, 0, ⟨fun k => Iff.rfl, Nat.le_refl _, by omega, by omega, (Blk.new _ _ _).alloc _, Blk.new' _ _ _ _ (by simp), World.ownsRow_nil _ _ _ _, by simp [Value.ownBlock], by simp [byTr]⟩, by simp [byTr], fun x hx => by simp [byTr] at hx⟩
  have HP := Lib.hid (play_any2 w.heap.size _ A cap l _ (StepsI w.heap.size w.heap.size (w.heap.size + 1)) _ (steps_sees _ _ _) (hev.fr0 hal) hl hcap (by simp; omega) hI0)
  have HAL := Lib.hid hal
  clear hev hal hI0
  have HPO : Hid (∀ en w', (Fr No w w' ∧ match playP l with
  | none => ∃ A n c, en = .returned (.tuple #[.slice A n c, .bool false])
  | some tr => ∃ A c, en = .returned (.tuple #[.slice A (outP l tr).length c, .bool true]) ∧ w'.ownsRow w.heap.size 3 1 (.slice A (outP l tr).length c) (outP l tr).length ((outP l tr).map numI) ∧ (outP l tr).length ≤ 20002 ∧ ∀ x ∈ outP l tr, 0 ≤ x ∧ x ≤ 360000000) → StepsPost w l en w') := fun en w' h => h
  go_enter Tryd.func27, Tryd.ntmps27
  go_wp2_with fail
  refine HP.out.mono ?_
  intro en w1 hp
  unfold PlayPost2 at hp
  have hfr : Fr No w w1 := HAL.out.then hp.1 fun i hi hh => by
    rcases hh with rfl | rfl | hh
    · omega
    · omega
    · simp [Value.ownBlock] at hh
  have HFR := Lib.hid hfr
  clear hfr
  cases hpl : playP l with
  | none =>
    rw [hpl] at hp HPO
    obtain ⟨-, rfl, J, tr, A1, c1, hS, -, -⟩ := hp
    have x1 : w1.cell? ⟨w.heap.size, 0, none⟩ = some (.slice A1 (byTr tr).1.length c1) := hS.blk1.cell 0
    have hb1 := hS.blk1.lt
    clear hpl hS
    go_wp2_with fail
    go_ret2
    exact HPO.out _ _ ⟨HFR.out, _, _, _, rfl⟩
  | some tr =>
    rw [hpl] at hp HPO
    obtain ⟨-, F, J, rfl, -, -, ⟨A1, c1, hS, hn, ho⟩, -⟩ := hp
    have x1 : w1.cell? ⟨w.heap.size, 0, none⟩ = some (.slice A1 (byTr tr).1.length c1) := hS.blk1.cell 0
    have x2 : w1.cell? ⟨w.heap.size + 1, 0, none⟩ = some (.int .i64 (byTr tr).2) := hS.blk2.cell 0
    have z1 := hS.blk1.free 0
    have hb1 := hS.blk1.lt
    have hb2 := hS.blk2.lt
    have hol := hS.len
    have HS := Lib.hid hS
    have hbase := HFR.out.size
    clear hpl hS
    by_cases h0 : l.length = 0
    · have HOUT : Hid (outP l tr = (byTr tr).1) := by unfold Hid outP; rw [if_pos h0]
      have h0' : decide (0 < l.length) = false := decide_eq_false (by omega)
      have HPOST : Hid (StepsPost w l (.returned (.tuple #[.slice A1 (byTr tr).1.length c1, .bool true])) w1) := HPO.out _ _ (by
        try simp only
        rw [HOUT.out]
        exact ⟨HFR.out, A1, c1, rfl, HS.out.row, by omega, ho⟩)
      go_wp2_with fail
      go_ret2
      exact HPOST.out
    · have HOUT : Hid (outP l tr = (byTr tr).1 ++ [(byTr tr).2]) := by unfold Hid outP; rw [if_neg h0]
      have h0' : decide (0 < l.length) = true := decide_eq_true (by omega)
      have HNO := Lib.hid (And.intro hn ho)
      generalize hgn : (byTr tr).2 = n at *
      generalize hgo : (byTr tr).1 = o at *
      clear hn ho hgn hgo
      go_wp2_with (at_builtin; go_must (refine wpList_append_own_at _ rfl (.tmp 20) (.tmp 22) 37 rfl w.heap.size 3 i0 (.int .i64 0) 1 8 Tryd.underlying37 hi hz0 hz1 hz2 rfl (by decide) (.slice A1 o.length c1) o.length (o.map numI) rfl ?hown ⟨w1.heap.size, 0, none⟩ 1 1 [numI n] rfl rfl ?c1 ?c2 ?c3 ?c4 ?c5 ?_))
      case hown => exact World.ownsRow.alloc HS.out.row _
      case c1 => first | exact cell_one_at _ _ _ _ rfl | exact fun j u h => h
      case c2 => simp [Value.oneCell', numI]
      case c3 => unfold maxLen; omega
      case c4 => omega
      case c5 => first | omega | (simp; omega)
      intro v' w2 hown hgrow _ hwhere
      obtain ⟨A2, c2, rfl, -⟩ := row_slice hown
      have hf2 : Fr (fun j => (Value.slice A1 0 0).ownBlock = some j) w1 w2 := Fr.grown ((Fr.refl _ _).alloc _) hgrow (fun k hk => .inl (own_eq.1 hk))
      have hs2 := HS.out
      have hne : ¬ (Value.slice A1 0 0).ownBlock = some w.heap.size := fun e => row_ne hs2.row hs2.blk1 (by decide) (own_eq.2 e)
      have hb : Blk w2 w.heap.size _ _ := hf2.blk hs2.blk1 hne
      have y1 := hb.cell 0
      have y2 := hb.free 0
      have y3 := hb.lt
      have hf3 : Fr No w (w2.setCell ⟨w.heap.size, 0, none⟩ (.slice A2 (o.length + 1) c2)) := Fr.setCell (HFR.out.then hf2 fun i hi hh => by have := (hs2.row.lt i (own_eq.2 hh)).1; omega) (.inr (Nat.le_refl _)) _
      have hrow3 : (w2.setCell ⟨w.heap.size, 0, none⟩ (.slice A2 (o.length + 1) c2)).ownsRow w.heap.size 3 1 (.slice A2 (o.length + 1) c2) (o.length + 1) (o.map numI ++ [numI n]) := ownsRow_setCell_other hown (row_ne hown hb (by decide)) _
      have hb3 := (hb.set 0 (.slice A2 (o.length + 1) c2))
      have y4 : (w2.setCell ⟨w.heap.size, 0, none⟩ (.slice A2 (o.length + 1) c2)).cell? ⟨w.heap.size, 0, none⟩ = some (.slice A2 (o.length + 1) c2) := by have := hb3.cell 0; exact this
      have y5 := hb3.lt
      have HPOST : Hid (StepsPost w l (.returned (.tuple #[.slice A2 (o.length + 1) c2, .bool true])) (w2.setCell ⟨w.heap.size, 0, none⟩ (.slice A2 (o.length + 1) c2))) := HPO.out _ _ (by
        try simp only
        rw [HOUT.out]
        refine ⟨hf3, A2, c2, by simp, ?_, by simp; omega, fun x hx => ?_⟩
        · rw [List.length_append, List.map_append]; exact hrow3
        · rcases List.mem_append.1 hx with hx | hx
          · exact HNO.out.2 x hx
          · simp at hx; subst hx; exact HNO.out.1)
      clear hown hgrow hwhere hf2 hs2 hb hf3 hrow3 hb3
      go_wp2_with fail
      generalize hw3 : World.setCell w2 ⟨w.heap.size, 0, none⟩ (.slice A2 (o.length + 1) c2) = w3 at *
      go_wp2_with fail
      go_ret2
      exact HPOST.out
end Go.Proofs.YtnloffjjlhhanaaDoor
