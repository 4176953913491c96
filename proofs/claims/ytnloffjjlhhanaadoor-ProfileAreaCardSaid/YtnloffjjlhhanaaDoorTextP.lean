/- The program's Text. -/
import Derived.Test.YtnloffjjlhhanaaDoorText
set_option linter.unusedVariables false
set_option linter.unusedSimpArgs false
namespace Go.Proofs.YtnloffjjlhhanaaDoor
open Go.RowKit
open Go.Proofs

def txtOf (l : List Ev) : List UInt8 := match playP l with | none => [] | some tr => textTo (finalOf tr).lf (finalOf tr).lf.length
def txtErr (l : List Ev) : Int := match playP l with | none => 100 | some _ => 0
/-- What holds while a line is made. -/
def LineW (b bx : Nat) (bs : List Value) (w1 : World) (x : Lf) (W : World) : Prop :=
  W.cell? ⟨bx, 0, none⟩ = some (.int .i64 x.life) ∧ W.cell? ⟨bx, 1, none⟩ = some (.int .i64 x.opened) ∧ W.cell? ⟨bx, 3, none⟩ = some (.int .i64 x.objs) ∧ W.cell? ⟨bx, 4, none⟩ = some (.int .i64 x.wds) ∧ W.cell? ⟨bx, 5, none⟩ = some (.int .i64 x.pages) ∧ bx < W.heap.size ∧
  Hid (Lib.IsBuilderF 62 5 b b bs W ∧ Below b w1 W)
theorem LineW.fr {b bx : Nat} {bs : List Value} {w1 : World} {x : Lf} {W W' : World} (h : LineW b bx bs w1 x W) (hf : Fr No W W') (hb : b ≤ W.heap.size) : LineW b bx bs w1 x W' := by
  obtain ⟨a0, a1, a3, a4, a5, hl, h6⟩ := h
  have f1 := fun j => hf.cell (j := j) hl (fun e => e.elim)
  exact ⟨by rw [f1]; exact a0, by rw [f1]; exact a1, by rw [f1]; exact a3, by rw [f1]; exact a4, by rw [f1]; exact a5, Nat.lt_of_lt_of_le hl hf.size, builder_fr h6.out.1 hf, h6.out.2.trans (hf.to_below hb)⟩

theorem LineW.size {b bx : Nat} {bs : List Value} {w1 : World} {x : Lf} {W : World} (h : LineW b bx bs w1 x W) : w1.heap.size ≤ W.heap.size := h.2.2.2.2.2.2.out.2.size
theorem LineW.fr' {bx : Nat} {bs : List Value} {w1 : World} {x : Lf} {W W' : World} (h : LineW w1.heap.size bx bs w1 x W) (hf : Fr No W W') : LineW w1.heap.size bx bs w1 x W' := h.fr hf h.size
theorem line_str (x : Lf) (s : ByteArray) (hs : s.data.toList = Lib.join [Lib.itoa x.life, Lib.itoa x.opened, endText x, Lib.itoa x.objs, Lib.itoa x.wds, Lib.itoa x.pages] [32] ++ [10]) : Lib.strCells s = Lib.byteCells (lineText x) ∧ s.size = (lineText x).length := by
  rw [join_line] at hs
  refine ⟨?_, ?_⟩
  · unfold Lib.strCells Lib.byteCells
    rw [hs]
  · rw [← hs]; show s.data.size = _; simp
theorem cells_strs (W : World) (xs : List ByteArray) (t : TypeId) : ∀ (j : Nat) x, xs[j]? = some x → (W.alloc (.cells (xs.map Value.string).toArray t)).cell? ⟨W.heap.size, 0 + j, none⟩ = some (.string x) := fun j x hj => by
  rw [(Blk.new W _ t).cell]
  simp [hj]

set_option maxRecDepth 100000 in
set_option maxHeartbeats 1000000 in
theorem progText (w : World) (A : Option Addr) (cap : Nat) (l : List Ev) (hev : Evs w.heap.size w A l) (hl : l.length ≤ 2000) (hcap : l.length ≤ cap) (htab : Tab w) :
    Calls Tryd.prog 9 #[.slice A l.length cap] w fun e w' => Fr No w w' ∧ e = .returned (.tuple #[.string ⟨(txtOf l).toArray⟩, .int .i64 (txtErr l)]) := by
  have HLN := Lib.hid (lines_any w A cap l hev hl hcap)
  have HL := Lib.hid hl
  have HT := Lib.hid htab
  clear hev htab
  go_enter Tryd.func9, Tryd.ntmps9
  go_wp2_with fail
  refine HLN.out.mono ?_
  intro en w1 hp
  unfold LinesPost at hp
  have HF1 := Lib.hid hp.1
  cases hpl : playP l with
  | none =>
    have HV : Hid (txtOf l = [] ∧ txtErr l = 100) := by unfold Hid txtOf txtErr; rw [hpl]; exact ⟨rfl, rfl⟩
    rw [hpl] at hp
    obtain ⟨-, rfl⟩ := hp
    clear hpl
    go_wp2_with fail
    go_ret2
    exact ⟨HF1.out, by rw [HV.out.1, HV.out.2]; rfl⟩
  | some tr =>
    have HV : Hid (txtOf l = textTo (finalOf tr).lf (finalOf tr).lf.length ∧ txtErr l = 0) := by unfold Hid txtOf txtErr; rw [hpl]; exact ⟨rfl, rfl⟩
    have htb := final_tbd HL.out hpl (final_life HL.out hpl)
    have hlen := (final_bdD HL.out hpl).lf
    rw [hpl] at hp
    obtain ⟨-, A1, c1, B1, hB1, rfl, hrow⟩ := hp
    generalize hs : (finalOf tr).lf = lf at *
    have HTB := Lib.hid htb
    have HROW := Lib.hid hrow
    have HT1 := Lib.hid (HT.out.fr HF1.out)
    clear hpl htb hrow hs
    go_wp2_with fail
    go_loopw [20, 8, 9, 27, 28, 29] (fun iv _ _ _ _ _ wr => ∃ k : Nat, iv = .int .i64 k ∧ k ≤ lf.length ∧ Hid (Lib.IsBuilderF 62 5 w1.heap.size w1.heap.size (Lib.byteCells (textTo lf k)) wr ∧ Below w1.heap.size w1 wr)) (fun iv _ _ _ _ _ _ => lf.length - (intOf iv).toNat)
    case atStart => exact ⟨0, rfl, by omega, Lib.hid ⟨Lib.IsBuilderF.of (Lib.fresh_isBuilder _ _ _), ((Fr.refl No w1).alloc _).to_below (Nat.le_refl _)⟩⟩
    case round =>
      obtain ⟨k, rfl, hk, R1⟩ := hrel
      by_cases hlt : k < lf.length
      · have hx : lf[k]? = some (lf[k]'hlt) := List.getElem?_eq_getElem _
        generalize (lf[k]'hlt) = x at hx
        have hxb := HTB.out x (List.mem_of_getElem? hx)
        have q1 := row_stays HROW.out fun j hj => R1.out.2.block j (HROW.out.lt j hj).2
        obtain ⟨g1, hA1, hc1, hg1⟩ := row_gflat line_len (by omega) q1 hx
        subst hA1
        have a0 := hc1 0 _ (by omega) rfl
        have a1 := hc1 1 _ (by omega) rfl
        have a2 := hc1 2 _ (by omega) rfl
        have a3 := hc1 3 _ (by omega) rfl
        have a4 := hc1 4 _ (by omega) rfl
        have a5 := hc1 5 _ (by omega) rfl
        have a6 := hc1 6 _ (by omega) rfl
        simp only [Nat.add_zero] at a0
        have hsz := R1.out.2.size
        have HSU := Lib.hid (textTo_succ hx)
        have htl := textTo_len HTB.out k
        have hll := line_len_le hxb
        have hal : Fr No wr (wr.alloc (.cells #[.int .i64 x.life, .int .i64 x.opened, .int .i64 x.ended, .int .i64 x.objs, .int .i64 x.wds, .int .i64 x.pages, .bool x.bounded] 26)) := (Fr.refl _ _).alloc _
        have hbx : Blk (wr.alloc (.cells #[.int .i64 x.life, .int .i64 x.opened, .int .i64 x.ended, .int .i64 x.objs, .int .i64 x.wds, .int .i64 x.pages, .bool x.bounded] 26)) wr.heap.size _ _ := Blk.new _ _ _
        have hLW : LineW w1.heap.size wr.heap.size (Lib.byteCells (textTo lf k)) w1 x (wr.alloc (.cells #[.int .i64 x.life, .int .i64 x.opened, .int .i64 x.ended, .int .i64 x.objs, .int .i64 x.wds, .int .i64 x.pages, .bool x.bounded] 26)) :=
          ⟨hbx.cell 0, hbx.cell 1, hbx.cell 3, hbx.cell 4, hbx.cell 5, hbx.lt, builder_fr R1.out.1 hal, R1.out.2.trans (hal.to_below hsz)⟩
        have HLW := Lib.hid hLW
        clear hx hc1 q1 hal hLW
        have HTW := Lib.hid ((HT1.out.fr (Fr.of_below R1.out.2)).fr ((Fr.refl No wr).alloc (.cells #[.int .i64 x.life, .int .i64 x.opened, .int .i64 x.ended, .int .i64 x.objs, .int .i64 x.wds, .int .i64 x.pages, .bool x.bounded] 26)))
        have hbd : (textTo lf k).length ≤ 1000000 := by omega
        have HXB := Lib.hid hxb
        have HLE := Lib.hid hll
        have HBD := Lib.hid hbd
        clear htl hll hbd
        by_cases he : x.ended < 0
        all_goals
          first
          | (have hen : (⟨#[45]⟩ : ByteArray) = ⟨(endText x).toArray⟩ := by unfold endText; rw [if_pos he]
             have he' : decide (0 ≤ x.ended) = false := decide_eq_false (by omega)
             have HEN := Lib.hid hen
             clear hen
             go_wp2_with fail
             rw [HEN.out]
             generalize hWc : World.alloc wr (.cells #[.int .i64 x.life, .int .i64 x.opened, .int .i64 x.ended, .int .i64 x.objs, .int .i64 x.wds, .int .i64 x.pages, .bool x.bounded] 26) = Wc at *
             clear hWc HEN)
          | (have hen : Lib.itoa x.ended = endText x := by unfold endText; rw [if_neg he]
             have he' : decide (0 ≤ x.ended) = true := decide_eq_true (by omega)
             have HEN := Lib.hid hen
             clear hen
             go_wp2_with fail
             refine (itoa_any x.ended (by have := HXB.out; omega) (by have := HXB.out; omega) _ HTW.out).mono ?_
             rintro e Wc ⟨rfl, hfc⟩
             rw [HEN.out]
             replace HLW := Lib.hid (HLW.out.fr' hfc)
             replace HTW := Lib.hid (HTW.out.fr hfc)
             clear hfc HEN
             go_wp2_with fail)
          refine region_reads (LineW w1.heap.size wr.heap.size (Lib.byteCells (textTo lf k)) w1 x) [0, 1, 3, 4, 6, 7, 8, 10, 11, 13, 14] [2, 5, 9, 12, 15, 16, 17, 18, 19] 19 (by kernel_rfl) (by kernel_rfl) (HLW.out.fr' ((Fr.refl No Wc).drew)) ?_
          replace HLW := Lib.hid (HLW.out.fr' ((Fr.refl No Wc).drew))
          replace HTW := Lib.hid (HTW.out.fr ((Fr.refl No Wc).drew))
          simp only [picks, picksN, List.filterMap_cons, List.getElem?_cons_zero, List.getElem?_cons_succ, List.filterMap_nil, Option.map_some]
          repeat
            refine wpHeld_want ?_ (by rfl) (fun W hW => ?_) ?_
            rotate_left
            · unfold LineW at hW
              go_simp
              try with_reducible rfl
            simp only [Act.put, List.setIfInBounds_toArray, List.set_cons_zero, List.set_cons_succ]
          refine wpHeld_nil ?_
          refine wpKeepL_step rfl (fun K hK => ?_)
          go_simp
          refine (itoa_any x.life (by have := HXB.out; omega) (by have := HXB.out; omega) _ HTW.out).mono ?_
          rintro e W2 ⟨rfl, hf2⟩
          replace HLW := Lib.hid (HLW.out.fr' hf2)
          replace HTW := Lib.hid (HTW.out.fr hf2)
          refine hK _ _ (fun _ => HLW.out) ?_
          clear hK K hf2
          refine wpKeepL_step rfl (fun K hK => ?_)
          go_simp
          refine (itoa_any x.opened (by have := HXB.out; omega) (by have := HXB.out; omega) _ HTW.out).mono ?_
          rintro e W2 ⟨rfl, hf2⟩
          replace HLW := Lib.hid (HLW.out.fr' hf2)
          replace HTW := Lib.hid (HTW.out.fr hf2)
          refine hK _ _ (fun _ => HLW.out) ?_
          clear hK K hf2
          refine wpKeepL_step rfl (fun K hK => ?_)
          go_simp
          refine (itoa_any x.objs (by have := HXB.out; omega) (by have := HXB.out; omega) _ HTW.out).mono ?_
          rintro e W2 ⟨rfl, hf2⟩
          replace HLW := Lib.hid (HLW.out.fr' hf2)
          replace HTW := Lib.hid (HTW.out.fr hf2)
          refine hK _ _ (fun _ => HLW.out) ?_
          clear hK K hf2
          refine wpKeepL_step rfl (fun K hK => ?_)
          go_simp
          refine (itoa_any x.wds (by have := HXB.out; omega) (by have := HXB.out; omega) _ HTW.out).mono ?_
          rintro e W2 ⟨rfl, hf2⟩
          replace HLW := Lib.hid (HLW.out.fr' hf2)
          replace HTW := Lib.hid (HTW.out.fr hf2)
          refine hK _ _ (fun _ => HLW.out) ?_
          clear hK K hf2
          refine wpKeepL_step rfl (fun K hK => ?_)
          go_simp
          refine (itoa_any x.pages (by have := HXB.out; omega) (by have := HXB.out; omega) _ HTW.out).mono ?_
          rintro e W2 ⟨rfl, hf2⟩
          replace HLW := Lib.hid (HLW.out.fr' hf2)
          replace HTW := Lib.hid (HTW.out.fr hf2)
          refine hK _ _ (fun _ => HLW.out) ?_
          clear hK K hf2
          refine wpKeepL_step rfl (fun K hK => ?_)
          go_simp
          refine hK _ _ (fun _ => HLW.out.fr' ((Fr.refl No _).alloc _)) ?_
          clear hK K
          refine wpKeepL_step rfl (fun K hK => ?_)
          go_simp
          have hjl : (Lib.join [Lib.itoa x.life, Lib.itoa x.opened, endText x, Lib.itoa x.objs, Lib.itoa x.wds, Lib.itoa x.pages] [32]).length ≤ 200 := by
            have h1 := HLE.out
            rw [← join_line, List.length_append] at h1
            simp at h1
            omega
          refine (Tryd.strings_Join W2.heap.size 0 6 [⟨(Lib.itoa x.life).toArray⟩, ⟨(Lib.itoa x.opened).toArray⟩, ⟨(endText x).toArray⟩, ⟨(Lib.itoa x.objs).toArray⟩, ⟨(Lib.itoa x.wds).toArray⟩, ⟨(Lib.itoa x.pages).toArray⟩] ⟨#[32]⟩ _ (cells_strs W2 _ 9) (by simp) (by simp) (by simp) (by simp only [List.map_cons, List.map_nil]; omega)).mono ?_
          rintro e W3 ⟨rfl, hb3⟩
          have hf3 : Fr No W2 W3 := ((Fr.refl No W2).alloc _).trans (Fr.of_below hb3)
          replace HLW := Lib.hid (HLW.out.fr' hf3)
          refine hK _ _ (fun _ => HLW.out) ?_
          clear hK K hb3 hf3
          simp only [List.map_cons, List.map_nil]
          refine wpKeepL_step rfl (fun K hK => ?_)
          go_simp
          rw [if_neg (by omega)]
          go_simp
          refine hK _ _ (fun _ => HLW.out) ?_
          clear hK K
          obtain ⟨s, hs⟩ : ∃ s : ByteArray, s = (⟨(Lib.join [Lib.itoa x.life, Lib.itoa x.opened, endText x, Lib.itoa x.objs, Lib.itoa x.wds, Lib.itoa x.pages] [32]).toArray⟩ : ByteArray) ++ ⟨#[10]⟩ := ⟨_, rfl⟩
          have hsd : s.data.toList = Lib.join [Lib.itoa x.life, Lib.itoa x.opened, endText x, Lib.itoa x.objs, Lib.itoa x.wds, Lib.itoa x.pages] [32] ++ [10] := by rw [hs]; simp
          obtain ⟨hsc, hss⟩ := line_str x s hsd
          rw [← hs]
          have HSC := Lib.hid hsc
          clear hs hsd hsc hjl
          refine wpKeepL_step rfl (fun K hK => ?_)
          go_simp
          obtain ⟨-, -, -, -, -, -, hbw⟩ := HLW.out
          have hlast : (Lib.byteCells (textTo lf k)).length + s.size ≤ 140737488355328 := by
            have h1 := HLE.out
            have h2 := HBD.out
            rw [Lib.byteCells_length, hss]
            omega
          refine (Tryd.Builder_WriteString_k w1.heap.size w1.heap.size _ s W3 hbw.out.1 hlast hbw.out.2.size).mono ?_
          rintro e W4 ⟨rfl, hb4, hbl4, -⟩
          have hnew : Lib.IsBuilderF 62 5 w1.heap.size w1.heap.size (Lib.byteCells (textTo lf (k + 1))) W4 ∧ Below w1.heap.size w1 W4 := by
            refine ⟨.inr ?_, hbw.out.2.trans hbl4⟩
            rw [HSU.out, Lib.byteCells_append, ← HSC.out]
            exact hb4
          have HNEW := Lib.hid hnew
          refine hK _ _ (fun h => absurd h (by omega)) ?_
          clear hK K hb4 hbl4 hnew hlast hss
          refine wpKeepL_nil ?_
          refine NoPanic.normal ?_
          go_wp2_with fail
          go_roundw
          case rel => exact ⟨k + 1, by go_num, by omega, HNEW⟩
          case measure => simp [intOf]; omega
      · have hk2 : k = lf.length := by omega
        have HK2 := Lib.hid hk2
        clear hk2
        have hR := R1.out
        rw [HK2.out] at hR
        go_wp2_with fail
        refine (Tryd.Builder_String_any_k w1.heap.size w1.heap.size (textTo lf lf.length) wr hR.1 hR.2.size).mono ?_
        rintro e W2 ⟨rfl, -, hb2, -⟩
        have HF2 := Lib.hid (HF1.out.trans (Fr.of_below (hR.2.trans hb2)))
        clear hR hb2
        go_wp2_with fail
        go_ret2
        exact ⟨HF2.out, by rw [HV.out.1, HV.out.2]; rfl⟩
end Go.Proofs.YtnloffjjlhhanaaDoor
