/- The lifeline that was longest, and the text of all: the walk of ProfileTexts. -/
import Derived.Test.YtnloffjjlhhanaaDoorRow
import Derived.Test.YtnloffjjlhhanaaDoorTextR
set_option linter.unusedVariables false
set_option linter.unusedSimpArgs false
namespace Go.Proofs.YtnloffjjlhhanaaDoor
open Go.ChangeShapes Go.WideShapes Go.ChangeAt Go.RowKit

set_option maxRecDepth 100000 in
set_option maxHeartbeats 2000000 in
theorem texts_walk (A : Option Addr) (cap : Nat) (l : List Ev) (w : World) (hcap : l.length ≤ cap) (hl : l.length ≤ 9223372036854775807) (hev : Evs w.heap.size w A l) (htab : Tab w) :
    Calls Tryd.prog 3 #[.slice A l.length cap] w fun e w' => e = .returned (.bool true) ∧ Fr No w w' := by
  have HE := Lib.hid hev
  have HT := Lib.hid htab
  clear hev htab
  by_cases hlong : 2000 < l.length
  · have hd : decide (2000 < l.length) = true := by simpa using hlong
    go_enter Tryd.func3, Tryd.ntmps3
    go_wp2_with fail
    refine (long_any w A l.length cap hl).mono ?_
    rintro e w1 ⟨rfl, rfl⟩
    rw [hd]
    go_wp2_with fail
    refine (awake_any w).mono ?_
    rintro e w2 ⟨rfl, hf⟩
    have HF := Lib.hid hf
    clear hf
    go_wp2_with fail
    go_ret
    exact ⟨rfl, HF.out⟩
  · have hd : decide (2000 < l.length) = false := by simpa using hlong
    have hle : l.length ≤ 2000 := by omega
    have b1 : (longE l == longE l) = true := by simp
    have b2 : (txtErr l == txtErr l) = true := by simp
    have b3 : ((txtOf l).toArray.toList == (txtOf l).toArray.toList) = true := by simp
    go_enter Tryd.func3, Tryd.ntmps3
    go_wp2_with fail
    refine (long_any w A l.length cap hl).mono ?_
    rintro en w1 ⟨rfl, rfl⟩
    rw [hd]
    go_wp2_with fail
    refine (progLongest w A cap l HE.out hle hcap).mono ?_
    rintro en w1 ⟨hf1, rfl⟩
    have hfa := hf1.alloc (.cells (lineCells (longL l)) 26)
    have HE1 := Lib.hid (HE.out.rebase hfa)
    have HF1 := Lib.hid hfa
    have hbx : Blk (w1.alloc (.cells (lineCells (longL l)) 26)) w1.heap.size _ _ := Blk.new _ _ _
    have HB1 := Lib.hid hbx
    have hs1 := hf1.size
    clear hf1 hfa hbx
    go_wp2_with fail
    refine (refLongest _ A cap l HE1.out hle hcap).mono ?_
    rintro en w2 ⟨hf2, rfl⟩
    have hb12 := hf2.blk HB1.out (fun e => e.elim)
    have hfb := (HF1.out.trans hf2).alloc (.cells (rowCells (longL l)) 31)
    have hE2 : Evs (w2.alloc (.cells (rowCells (longL l)) 31)).heap.size (w2.alloc (.cells (rowCells (longL l)) 31)) A l := HE1.out.rebase (hf2.alloc _)
    have HE2 := Lib.hid hE2
    have HF2 := Lib.hid hfb
    have HB2 := Lib.hid (hb12.alloc (.cells (rowCells (longL l)) 31))
    have hby : Blk (w2.alloc (.cells (rowCells (longL l)) 31)) w2.heap.size _ _ := Blk.new _ _ _
    have HC2 := Lib.hid hby
    have hs2 := hf2.size
    clear hf2 hb12 hfb hE2 hby
    go_wp2_with fail
    refine (progText _ A cap l HE2.out hle hcap (HT.out.fr HF2.out)).mono ?_
    rintro en w3 ⟨hf3, rfl⟩
    have HE3 := Lib.hid (HE2.out.rebase hf3)
    have HF3 := Lib.hid (HF2.out.trans hf3)
    have HB3 := Lib.hid (hf3.blk HB2.out (fun e => e.elim))
    have HC3 := Lib.hid (hf3.blk HC2.out (fun e => e.elim))
    have hs3 := hf3.size
    clear hf3
    go_wp2_with fail
    refine (refText _ A cap l HE3.out hle hcap (HT.out.fr HF3.out)).mono ?_
    rintro en w4 ⟨hf4, rfl⟩
    have HF4 := Lib.hid (HF3.out.trans hf4)
    have hb4 := hf4.blk HB3.out (fun e => e.elim)
    have hc4 := hf4.blk HC3.out (fun e => e.elim)
    have e0 := hb4.cell 0
    have e1 := hb4.cell 1
    have e2 := hb4.cell 2
    have e3 := hb4.cell 3
    have e4 := hb4.cell 4
    have e5 := hb4.cell 5
    have e6 := hb4.cell 6
    have f0 := hc4.cell 0
    have f1 := hc4.cell 1
    have f2 := hc4.cell 2
    have f3 := hc4.cell 3
    have f4 := hc4.cell 4
    have f5 := hc4.cell 5
    have f6 := hc4.cell 6
    have f7 := hc4.cell 7
    have f8 := hc4.cell 8
    have hb4l := hb4.lt
    have hc4l := hc4.lt
    unfold lineCells at e0 e1 e2 e3 e4 e5 e6
    unfold rowCells at f0 f1 f2 f3 f4 f5 f6 f7 f8
    simp only [List.getElem?_toArray, List.getElem?_cons_zero, List.getElem?_cons_succ] at e0 e1 e2 e3 e4 e5 e6 f0 f1 f2 f3 f4 f5 f6 f7 f8
    clear hf4 hb4 hc4
    go_wp2_with fail
    refine (same_line (longL l) _).mono ?_
    rintro en w5 ⟨rfl, hf5⟩
    have HF5 := Lib.hid (HF4.out.trans hf5)
    clear hf5
    go_wp2_with fail
    refine (awake_any _).mono ?_
    rintro en w6 ⟨rfl, hf6⟩
    have HF6 := Lib.hid (HF5.out.trans hf6)
    clear hf6
    go_wp2_with fail
    go_ret
    exact ⟨rfl, HF6.out⟩
end Go.Proofs.YtnloffjjlhhanaaDoor
