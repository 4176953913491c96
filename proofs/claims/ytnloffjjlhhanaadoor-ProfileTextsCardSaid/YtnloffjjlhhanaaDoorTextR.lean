/- The reference's Text. -/
import Derived.Test.YtnloffjjlhhanaaDoorTextP
import Derived.Test.YtnloffjjlhhanaaDoorMix
import Derived.Test.YtnloffjjlhhanaaDoorLongestR
set_option linter.unusedVariables false
set_option linter.unusedSimpArgs false
namespace Go.Proofs.YtnloffjjlhhanaaDoor
open Go.RowKit
open Go.Proofs

/-- What holds while a line is made. -/
def LineR (bx : Nat) (w1 : World) (x : Lf) (W : World) : Prop :=
  W.cell? ⟨bx, 0, none⟩ = some (.int .i64 x.life) ∧ W.cell? ⟨bx, 1, none⟩ = some (.int .i64 x.opened) ∧ W.cell? ⟨bx, 2, none⟩ = some (.int .i64 x.ended) ∧ W.cell? ⟨bx, 3, none⟩ = some (.int .i64 x.objs) ∧ W.cell? ⟨bx, 4, none⟩ = some (.int .i64 x.wds) ∧ W.cell? ⟨bx, 5, none⟩ = some (.int .i64 x.pages) ∧ bx < W.heap.size ∧ Hid (Fr No w1 W)
theorem LineR.fr {bx : Nat} {w1 : World} {x : Lf} {W W' : World} (h : LineR bx w1 x W) (hf : Fr No W W') : LineR bx w1 x W' := by
  obtain ⟨a0, a1, a2, a3, a4, a5, hl, h6⟩ := h
  have f1 := fun j => hf.cell (j := j) hl (fun e => e.elim)
  exact ⟨by rw [f1]; exact a0, by rw [f1]; exact a1, by rw [f1]; exact a2, by rw [f1]; exact a3, by rw [f1]; exact a4, by rw [f1]; exact a5, Nat.lt_of_lt_of_le hl hf.size, h6.out.trans hf⟩
theorem bytes_eq {s : ByteArray} {l : List UInt8} (h : s.data.toList = l) : s = ⟨l.toArray⟩ := by
  obtain ⟨d⟩ := s
  simp only at h
  subst h
  simp

set_option maxRecDepth 100000 in
set_option maxHeartbeats 1000000 in
theorem refText (w : World) (A : Option Addr) (cap : Nat) (l : List Ev) (hev : Evs w.heap.size w A l) (hl : l.length ≤ 2000) (hcap : l.length ≤ cap) (htab : Tab w) :
    Calls Tryd.prog 10 #[.slice A l.length cap] w fun e w' => Fr No w w' ∧ e = .returned (.tuple #[.string ⟨(txtOf l).toArray⟩, .int .i64 (txtErr l)]) := by
  have HLN := Lib.hid (goneAll w A cap l hev hl hcap)
  have HL := Lib.hid hl
  have HT := Lib.hid htab
  clear hev htab
  go_enter Tryd.func10, Tryd.ntmps10
  go_wp2_with fail
  refine HLN.out.mono ?_
  intro en w1 hp
  unfold GoneAll at hp
  have HF1 := Lib.hid hp.1
  cases hpl : playP l with
  | none =>
    have HV : Hid (txtOf l = [] ∧ txtErr l = 100) := by unfold Hid txtOf txtErr; rw [hpl]; exact ⟨rfl, rfl⟩
    rw [hpl] at hp
    obtain ⟨-, v, rfl⟩ := hp
    clear hpl
    go_wp2_with fail
    go_ret2
    exact ⟨HF1.out, by rw [HV.out.1, HV.out.2]; rfl⟩
  | some tr =>
    have HV : Hid (txtOf l = textTo (finalOf tr).lf (finalOf tr).lf.length ∧ txtErr l = 0) := by unfold Hid txtOf txtErr; rw [hpl]; exact ⟨rfl, rfl⟩
    have htb := final_tbd HL.out hpl (final_life HL.out hpl)
    have hlen := (final_bdD HL.out hpl).lf
    rw [hpl] at hp
    obtain ⟨-, rt, A1, c1, B1, rfl, ht0, htl, hrow⟩ := hp
    generalize hs : (finalOf tr).lf = lf at *
    have HTB := Lib.hid htb
    have HROW := Lib.hid hrow
    have HT1 := Lib.hid (HT.out.fr HF1.out)
    clear hpl htb hrow hs
    go_wp2_with fail
    go_loopw [22, 6, 8, 9] (fun iv ov _ _ wr => ∃ k : Nat, iv = .int .i64 k ∧ k ≤ lf.length ∧ ov = .string ⟨(textTo lf k).toArray⟩ ∧ Hid (Fr No w1 wr)) (fun iv _ _ _ _ => lf.length - (intOf iv).toNat)
    case atStart => exact ⟨0, rfl, by omega, rfl, Fr.refl _ _⟩
    case round =>
      obtain ⟨k, rfl, hk, rfl, R1⟩ := hrel
      by_cases hlt : k < lf.length
      · have hx : lf[k]? = some (lf[k]'hlt) := List.getElem?_eq_getElem _
        generalize (lf[k]'hlt) = x at hx
        have hxb := HTB.out x (List.mem_of_getElem? hx)
        have q1 := row_stays HROW.out fun j hj => R1.out.block j (HROW.out.lt j hj).2 (fun e => e.elim)
        obtain ⟨g1, hA1, hc1, hg1⟩ := row_gflat row_len (by omega) q1 hx
        subst hA1
        have a0 := hc1 0 _ (by omega) rfl
        have a1 := hc1 1 _ (by omega) rfl
        have a2 := hc1 2 _ (by omega) rfl
        have a3 := hc1 3 _ (by omega) rfl
        have a4 := hc1 4 _ (by omega) rfl
        have a5 := hc1 5 _ (by omega) rfl
        have a6 := hc1 6 _ (by omega) rfl
        have a7 := hc1 7 _ (by omega) rfl
        have a8 := hc1 8 _ (by omega) rfl
        simp only [Nat.add_zero] at a0
        have HSU := Lib.hid (textTo_succ hx)
        have htl2 := textTo_len HTB.out k
        have hll := line_len_le hxb
        have hal : Fr No wr (wr.alloc (.cells #[.int .i64 x.life, .int .i64 x.opened, .int .i64 x.ended, .int .i64 x.objs, .int .i64 x.wds, .int .i64 x.pages, .bool x.bounded, .int .i64 x.words, .int .i64 x.fin] 31)) := (Fr.refl _ _).alloc _
        have hbx : Blk (wr.alloc (.cells #[.int .i64 x.life, .int .i64 x.opened, .int .i64 x.ended, .int .i64 x.objs, .int .i64 x.wds, .int .i64 x.pages, .bool x.bounded, .int .i64 x.words, .int .i64 x.fin] 31)) wr.heap.size _ _ := Blk.new _ _ _
        have hlw : LineR wr.heap.size w1 x (wr.alloc (.cells #[.int .i64 x.life, .int .i64 x.opened, .int .i64 x.ended, .int .i64 x.objs, .int .i64 x.wds, .int .i64 x.pages, .bool x.bounded, .int .i64 x.words, .int .i64 x.fin] 31)) := ⟨hbx.cell 0, hbx.cell 1, hbx.cell 2, hbx.cell 3, hbx.cell 4, hbx.cell 5, hbx.lt, R1.out.trans hal⟩
        have HLW := Lib.hid hlw
        clear hlw
        have HTW := Lib.hid ((HT1.out.fr R1.out).fr hal)
        have hbd : (textTo lf k).length ≤ 1000000 := by omega
        have HXB := Lib.hid hxb
        have l1 := Lib.itoa_length_le x.life (by omega) (by omega)
        have l2 := Lib.itoa_length_le x.opened (by omega) (by omega)
        have l4 := Lib.itoa_length_le x.objs (by omega) (by omega)
        have l5 := Lib.itoa_length_le x.wds (by omega) (by omega)
        have l6 := Lib.itoa_length_le x.pages (by omega) (by omega)
        have l3 : (endText x).length ≤ 21 := by
          unfold endText
          split
          · simp
          · exact Lib.itoa_length_le x.ended (by omega) (by omega)
        clear htl2 hll hal hbx hx hc1 q1
        go_wp2_with fail
        refine (itoa_any x.ended (by have := HXB.out; omega) (by have := HXB.out; omega) _ HTW.out).mono ?_
        rintro e Wc ⟨rfl, hfc⟩
        replace HLW := Lib.hid (HLW.out.fr hfc)
        replace HTW := Lib.hid (HTW.out.fr hfc)
        obtain ⟨s0, s1, s2, s3, s4, s5, s6, -⟩ := HLW.out
        clear hfc a0 a1 a2 a3 a4 a5 a6 a7 a8
        by_cases he : x.ended < 0
        all_goals
          first
          | (have hen : (⟨#[45]⟩ : ByteArray) = ⟨(endText x).toArray⟩ := by unfold endText; rw [if_pos he]
             have he' : decide (x.ended < 0) = true := decide_eq_true he
             have HEN := Lib.hid hen
             clear hen
             go_wp2_with fail
             rw [HEN.out]
             clear HEN s0 s1 s2 s3 s4 s5)
          | (have hen : Lib.itoa x.ended = endText x := by unfold endText; rw [if_neg he]
             have he' : decide (x.ended < 0) = false := decide_eq_false he
             rw [hen]
             clear hen
             go_wp2_with fail
             clear s0 s1 s2 s3 s4 s5)
          refine region_mix (LineR wr.heap.size w1 x) [(0, true), (1, true), (2, true), (5, true), (6, true), (10, true), (3, false), (4, true), (7, false), (8, true), (9, true), (11, true), (12, true), (13, false)] 13 (by kernel_rfl) (by kernel_rfl) (HLW.out.fr ((Fr.refl No Wc).drew)) ?_
          replace HLW := Lib.hid (HLW.out.fr ((Fr.refl No Wc).drew))
          replace HTW := Lib.hid (HTW.out.fr ((Fr.refl No Wc).drew))
          simp only [pickM, List.filterMap_cons, List.getElem?_cons_zero, List.getElem?_cons_succ, List.filterMap_nil, Option.map_some]
          refine wpMix_read _ (by rfl) (fun W hW => by unfold LineR at hW; go_simp; try with_reducible rfl) ?_
          simp only [Act.put, List.setIfInBounds_toArray, List.set_cons_zero, List.set_cons_succ]
          refine wpMix_read _ (by rfl) (fun W hW => by unfold LineR at hW; go_simp; try with_reducible rfl) ?_
          simp only [Act.put, List.setIfInBounds_toArray, List.set_cons_zero, List.set_cons_succ]
          refine wpMix_read _ (by rfl) (fun W hW => by unfold LineR at hW; go_simp; try with_reducible rfl) ?_
          simp only [Act.put, List.setIfInBounds_toArray, List.set_cons_zero, List.set_cons_succ]
          refine wpMix_read _ (by rfl) (fun W hW => by unfold LineR at hW; go_simp; try with_reducible rfl) ?_
          simp only [Act.put, List.setIfInBounds_toArray, List.set_cons_zero, List.set_cons_succ]
          refine wpMix_read _ (by rfl) (fun W hW => by unfold LineR at hW; go_simp; try with_reducible rfl) ?_
          simp only [Act.put, List.setIfInBounds_toArray, List.set_cons_zero, List.set_cons_succ]
          refine wpMix_read _ (by rfl) (fun W hW => by unfold LineR at hW; go_simp; try with_reducible rfl) ?_
          simp only [Act.put, List.setIfInBounds_toArray, List.set_cons_zero, List.set_cons_succ]
          refine wpMix_step rfl (fun K hK => ?_)
          go_simp
          refine (itoa_any x.life (by have := HXB.out; omega) (by have := HXB.out; omega) _ HTW.out).mono ?_
          rintro e W2 ⟨rfl, hf2⟩
          replace HLW := Lib.hid (HLW.out.fr hf2)
          replace HTW := Lib.hid (HTW.out.fr hf2)
          refine hK _ _ (fun _ => HLW.out) ?_
          clear hK K hf2
          refine wpMix_read _ (by rfl) (fun W hW => by go_simp; rw [if_neg (by omega)]) ?_
          simp only [Act.put, List.setIfInBounds_toArray, List.set_cons_zero, List.set_cons_succ]
          refine wpMix_step rfl (fun K hK => ?_)
          go_simp
          refine (itoa_any x.opened (by have := HXB.out; omega) (by have := HXB.out; omega) _ HTW.out).mono ?_
          rintro e W2 ⟨rfl, hf2⟩
          replace HLW := Lib.hid (HLW.out.fr hf2)
          replace HTW := Lib.hid (HTW.out.fr hf2)
          refine hK _ _ (fun _ => HLW.out) ?_
          clear hK K hf2
          refine wpMix_read _ (by rfl) (fun W hW => by go_simp; rw [if_neg (by omega)]) ?_
          simp only [Act.put, List.setIfInBounds_toArray, List.set_cons_zero, List.set_cons_succ]
          refine wpMix_read _ (by rfl) (fun W hW => by go_simp; rw [if_neg (by omega)]) ?_
          simp only [Act.put, List.setIfInBounds_toArray, List.set_cons_zero, List.set_cons_succ]
          refine wpMix_read _ (by rfl) (fun W hW => by go_simp; rw [if_neg (by omega)]) ?_
          simp only [Act.put, List.setIfInBounds_toArray, List.set_cons_zero, List.set_cons_succ]
          refine wpMix_read _ (by rfl) (fun W hW => by go_simp; rw [if_neg (by omega)]) ?_
          simp only [Act.put, List.setIfInBounds_toArray, List.set_cons_zero, List.set_cons_succ]
          refine wpMix_step rfl (fun K hK => ?_)
          go_simp
          refine hK _ _ (fun h => absurd h (by omega)) ?_
          clear hK K
          refine wpMix_nil ?_
          refine NoPanic.normal ?_
          obtain ⟨s1, hs1⟩ : ∃ s : ByteArray, s = (⟨(textTo lf k).toArray⟩ : ByteArray) ++ (((((⟨(Lib.itoa x.life).toArray⟩ : ByteArray) ++ ⟨#[32]⟩) ++ ⟨(Lib.itoa x.opened).toArray⟩) ++ ⟨#[32]⟩) ++ ⟨(endText x).toArray⟩) := ⟨_, rfl⟩
          have hs1d : s1.data.toList = textTo lf k ++ (Lib.itoa x.life ++ ([32] ++ (Lib.itoa x.opened ++ ([32] ++ endText x)))) := by rw [hs1]; simp
          have hs1l : s1.size ≤ 1001000 := by
            have h1 : s1.size = s1.data.toList.length := by show s1.data.size = _; simp
            rw [h1, hs1d]
            simp only [List.length_append, List.length_cons, List.length_nil]
            omega
          rw [← hs1]
          have HS1 := Lib.hid hs1d
          clear hs1 hs1d
          go_wp2_with fail
          refine region_mix (LineR wr.heap.size w1 x) [(0, true), (1, true), (2, true), (6, true), (7, true), (11, true), (12, true), (3, false), (4, true), (5, true), (8, false), (9, true), (10, true), (13, false), (14, true), (15, true), (16, true), (17, false)] 17 (by kernel_rfl) (by kernel_rfl) (HLW.out.fr ((Fr.refl No W2).drew)) ?_
          replace HLW := Lib.hid (HLW.out.fr ((Fr.refl No W2).drew))
          replace HTW := Lib.hid (HTW.out.fr ((Fr.refl No W2).drew))
          simp only [pickM, List.filterMap_cons, List.getElem?_cons_zero, List.getElem?_cons_succ, List.filterMap_nil, Option.map_some]
          refine wpMix_read _ (by rfl) (fun W hW => by unfold LineR at hW; go_simp; try with_reducible rfl) ?_
          simp only [Act.put, List.setIfInBounds_toArray, List.set_cons_zero, List.set_cons_succ]
          refine wpMix_read _ (by rfl) (fun W hW => by unfold LineR at hW; go_simp; try with_reducible rfl) ?_
          simp only [Act.put, List.setIfInBounds_toArray, List.set_cons_zero, List.set_cons_succ]
          refine wpMix_read _ (by rfl) (fun W hW => by unfold LineR at hW; go_simp; try with_reducible rfl) ?_
          simp only [Act.put, List.setIfInBounds_toArray, List.set_cons_zero, List.set_cons_succ]
          refine wpMix_read _ (by rfl) (fun W hW => by unfold LineR at hW; go_simp; try with_reducible rfl) ?_
          simp only [Act.put, List.setIfInBounds_toArray, List.set_cons_zero, List.set_cons_succ]
          refine wpMix_read _ (by rfl) (fun W hW => by unfold LineR at hW; go_simp; try with_reducible rfl) ?_
          simp only [Act.put, List.setIfInBounds_toArray, List.set_cons_zero, List.set_cons_succ]
          refine wpMix_read _ (by rfl) (fun W hW => by unfold LineR at hW; go_simp; try with_reducible rfl) ?_
          simp only [Act.put, List.setIfInBounds_toArray, List.set_cons_zero, List.set_cons_succ]
          refine wpMix_read _ (by rfl) (fun W hW => by unfold LineR at hW; go_simp; try with_reducible rfl) ?_
          simp only [Act.put, List.setIfInBounds_toArray, List.set_cons_zero, List.set_cons_succ]
          refine wpMix_step rfl (fun K hK => ?_)
          go_simp
          refine (itoa_any x.objs (by have := HXB.out; omega) (by have := HXB.out; omega) _ HTW.out).mono ?_
          rintro e W2 ⟨rfl, hf2⟩
          replace HLW := Lib.hid (HLW.out.fr hf2)
          replace HTW := Lib.hid (HTW.out.fr hf2)
          refine hK _ _ (fun _ => HLW.out) ?_
          clear hK K hf2
          refine wpMix_read _ (by rfl) (fun W hW => by go_simp; rw [if_neg (by omega)]) ?_
          simp only [Act.put, List.setIfInBounds_toArray, List.set_cons_zero, List.set_cons_succ]
          refine wpMix_read _ (by rfl) (fun W hW => by go_simp; rw [if_neg (by omega)]) ?_
          simp only [Act.put, List.setIfInBounds_toArray, List.set_cons_zero, List.set_cons_succ]
          refine wpMix_step rfl (fun K hK => ?_)
          go_simp
          refine (itoa_any x.wds (by have := HXB.out; omega) (by have := HXB.out; omega) _ HTW.out).mono ?_
          rintro e W2 ⟨rfl, hf2⟩
          replace HLW := Lib.hid (HLW.out.fr hf2)
          replace HTW := Lib.hid (HTW.out.fr hf2)
          refine hK _ _ (fun _ => HLW.out) ?_
          clear hK K hf2
          refine wpMix_read _ (by rfl) (fun W hW => by go_simp; rw [if_neg (by omega)]) ?_
          simp only [Act.put, List.setIfInBounds_toArray, List.set_cons_zero, List.set_cons_succ]
          refine wpMix_read _ (by rfl) (fun W hW => by go_simp; rw [if_neg (by omega)]) ?_
          simp only [Act.put, List.setIfInBounds_toArray, List.set_cons_zero, List.set_cons_succ]
          refine wpMix_step rfl (fun K hK => ?_)
          go_simp
          refine (itoa_any x.pages (by have := HXB.out; omega) (by have := HXB.out; omega) _ HTW.out).mono ?_
          rintro e W2 ⟨rfl, hf2⟩
          replace HLW := Lib.hid (HLW.out.fr hf2)
          replace HTW := Lib.hid (HTW.out.fr hf2)
          refine hK _ _ (fun _ => HLW.out) ?_
          clear hK K hf2
          refine wpMix_read _ (by rfl) (fun W hW => by go_simp; rw [if_neg (by omega)]) ?_
          simp only [Act.put, List.setIfInBounds_toArray, List.set_cons_zero, List.set_cons_succ]
          refine wpMix_read _ (by rfl) (fun W hW => by go_simp; rw [if_neg (by omega)]) ?_
          simp only [Act.put, List.setIfInBounds_toArray, List.set_cons_zero, List.set_cons_succ]
          refine wpMix_read _ (by rfl) (fun W hW => by go_simp; rw [if_neg (by omega)]) ?_
          simp only [Act.put, List.setIfInBounds_toArray, List.set_cons_zero, List.set_cons_succ]
          refine wpMix_step rfl (fun K hK => ?_)
          go_simp
          refine hK _ _ (fun h => absurd h (by omega)) ?_
          clear hK K
          refine wpMix_nil ?_
          refine NoPanic.normal ?_
          obtain ⟨s2, hs2⟩ : ∃ s : ByteArray, s = s1 ++ (((((((⟨#[32]⟩ : ByteArray) ++ ⟨(Lib.itoa x.objs).toArray⟩) ++ ⟨#[32]⟩) ++ ⟨(Lib.itoa x.wds).toArray⟩) ++ ⟨#[32]⟩) ++ ⟨(Lib.itoa x.pages).toArray⟩) ++ ⟨#[10]⟩) := ⟨_, rfl⟩
          have hs2e : s2 = ⟨(textTo lf (k + 1)).toArray⟩ := bytes_eq (by
            rw [hs2, HSU.out]
            unfold lineText
            simp [HS1.out])
          rw [← hs2]
          have HS2 := Lib.hid hs2e
          clear hs2 hs2e
          go_wp2_with fail
          go_roundw
          case rel => exact ⟨k + 1, by go_num, by omega, by rw [HS2.out], HLW.out.2.2.2.2.2.2.2.out⟩
          case measure => simp [intOf]; omega
      · have hk2 : k = lf.length := by omega
        have HK2 := Lib.hid hk2
        clear hk2
        go_wp2_with fail
        go_ret2
        exact ⟨HF1.out.trans R1.out, by rw [HV.out.1, HV.out.2, HK2.out]; rfl⟩
end Go.Proofs.YtnloffjjlhhanaaDoor
