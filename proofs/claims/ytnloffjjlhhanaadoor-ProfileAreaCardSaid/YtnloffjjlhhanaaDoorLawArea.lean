/- The area is the sum of the graph of each step, and the text has a line for each life: the walk of ProfileArea. -/
import Derived.Test.YtnloffjjlhhanaaDoorRow
import Derived.Test.YtnloffjjlhhanaaDoorTextP
import Derived.Test.YtnloffjjlhhanaaDoorSplit
import Derived.Test.YtnloffjjlhhanaaDoorGraphs
set_option linter.unusedVariables false
set_option linter.unusedSimpArgs false
namespace Go.Proofs.YtnloffjjlhhanaaDoor
open Go.ChangeShapes Go.WideShapes Go.ChangeAt Go.RowKit

set_option maxRecDepth 100000 in
set_option maxHeartbeats 2000000 in
theorem area_walk (A : Option Addr) (cap : Nat) (l : List Ev) (w : World) (mx : Int) (hcap : l.length ≤ cap) (hl : l.length ≤ 9223372036854775807) (hev : Evs w.heap.size w A l) (htab : Tab w) (hmx : w.cell? ⟨0, 0, none⟩ = some (.int .i64 mx)) :
    Calls Tryd.prog 4 #[.slice A l.length cap] w fun e w' => e = .returned (.bool true) ∧ Fr No w w' := by
  have HE := Lib.hid hev
  have HT := Lib.hid htab
  have HM := Lib.hid hmx
  clear hev htab hmx
  by_cases hlong : 2000 < l.length
  · have hd : decide (2000 < l.length) = true := by simpa using hlong
    go_enter Tryd.func4, Tryd.ntmps4
    go_wp2_with fail
    refine (long_any w A l.length cap hl).mono ?_
    rintro e w1 ⟨rfl, rfl⟩
    rw [hd]
    go_wp2_with fail
    refine (awake_any w).mono ?_
    rintro e w2 ⟨rfl, hf⟩
    have HF := Lib.hid hf
    clear hf
    go_wp2_with fail
    go_ret
    exact ⟨rfl, HF.out⟩
  · have hd : decide (2000 < l.length) = false := by simpa using hlong
    have hle : l.length ≤ 2000 := by omega
    go_enter Tryd.func4, Tryd.ntmps4
    go_wp2_with fail
    refine (long_any w A l.length cap hl).mono ?_
    rintro en w1 ⟨rfl, rfl⟩
    rw [hd]
    go_wp2_with fail
    refine (right_any w A cap l HE.out hle hcap).mono ?_
    rintro en w1 ⟨hf1, rfl⟩
    have HE1 := Lib.hid (HE.out.rebase hf1)
    have HF1 := Lib.hid hf1
    clear hf1
    cases hpl : playP l with
    | none =>
      simp only [Option.isSome_none]
      clear hpl
      go_wp2_with fail
      refine (awake_any w1).mono ?_
      rintro en w2 ⟨rfl, hf⟩
      have HF := Lib.hid (HF1.out.trans hf)
      clear hf
      go_wp2_with fail
      go_ret
      exact ⟨rfl, HF.out⟩
    | some tr =>
      simp only [Option.isSome_some]
      have HPL := Lib.hid hpl
      clear hpl
      have hg1 : gOf l 1 = graphOf l 1 := by unfold gOf; rw [HPL.out]; rfl
      have hg2 : gErr l 1 = 0 := by unfold gErr; rw [HPL.out]; rfl
      have ha1 : areaVal l = .tuple #[.int .i64 (graphOf l 1).sum, .int .i64 0] := by unfold areaVal; rw [HPL.out]
      have hx1 : txtOf l = textTo (finalOf tr).lf (finalOf tr).lf.length ∧ txtErr l = 0 := by unfold txtOf txtErr; rw [HPL.out]; exact ⟨rfl, rfl⟩
      have hgb := graph_bd hle HPL.out 1
      have htb := final_tbd hle HPL.out (final_life hle HPL.out)
      have hlb := (final_bdD hle HPL.out).lf
      have HG1 := Lib.hid hg1
      have HG2 := Lib.hid hg2
      have HA1 := Lib.hid ha1
      have HX1 := Lib.hid hx1
      have HGB := Lib.hid hgb
      have HTB := Lib.hid htb
      clear hg1 hg2 ha1 hx1 hgb htb
      go_wp2_with fail
      refine (progGraph w1 A cap l 1 HE1.out hle hcap).mono ?_
      rintro en w2 ⟨hf2, A2, c2, B2, rfl, hr2, hgl⟩
      rw [HG1.out] at hr2 hgl
      rw [HG1.out, HG2.out]
      have HE2 := Lib.hid (HE1.out.rebase hf2)
      have HF2 := Lib.hid (HF1.out.trans hf2)
      have HR2 := Lib.hid hr2
      clear hf2 hr2 HE1 HF1 HG1 HG2
      go_wp2_with fail
      refine (progArea w2 A cap l HE2.out hle hcap).mono ?_
      rintro en w3 ⟨hf3, rfl⟩
      rw [HA1.out]
      have HE3 := Lib.hid (HE2.out.rebase hf3)
      have HF3 := Lib.hid (HF2.out.trans hf3)
      have HR3 := Lib.hid (row_stays HR2.out fun q hq => hf3.block q (HR2.out.lt q hq).2 (fun e => e.elim))
      clear hf3 HE2 HF2 HR2
      go_wp2_with fail
      refine (lines_any w3 A cap l HE3.out hle hcap).mono ?_
      intro en w4 hp
      unfold LinesPost at hp
      rw [HPL.out] at hp
      obtain ⟨hf4, A4, c4, B4, -, rfl, hrow⟩ := hp
      have HE4 := Lib.hid (HE3.out.rebase hf4)
      have HF4 := Lib.hid (HF3.out.trans hf4)
      have HR4 := Lib.hid (row_stays HR3.out fun q hq => hf4.block q (HR3.out.lt q hq).2 (fun e => e.elim))
      have HL4 := Lib.hid hrow
      clear hf4 HE3 HF3 HR3 hrow
      go_wp2_with fail
      refine (progText w4 A cap l HE4.out hle hcap (HT.out.fr HF4.out)).mono ?_
      rintro en w5 ⟨hf5, rfl⟩
      rw [HX1.out.1, HX1.out.2]
      have HF5 := Lib.hid (HF4.out.trans hf5)
      have HR5 := Lib.hid (row_stays HR4.out fun q hq => hf5.block q (HR4.out.lt q hq).2 (fun e => e.elim))
      have HL5 := Lib.hid (row_stays HL4.out fun q hq => hf5.block q (HL4.out.lt q hq).2 (fun e => e.elim))
      clear hf5 HE4 HF4 HR4 HL4 HX1
      generalize (finalOf tr).lf = lf at *
      generalize hxs : graphOf l 1 = xs at *
      clear hxs
      have hsb := sumTo_bd HGB.out xs.length
      have hsa : sumTo xs xs.length = xs.sum := by unfold sumTo; rw [List.take_length]
      rw [hsa] at hsb
      have HSA := Lib.hid hsa
      clear hsa
      go_wp2_with fail
      go_loopw [5, 12, 59] (fun av _ iv wr => ∃ k : Nat, av = .int .i64 (xs.sum - sumTo xs k) ∧ iv = .int .i64 k ∧ k ≤ xs.length ∧ wr = w5) (fun _ _ iv _ => xs.length - (intOf iv).toNat)
      case atStart => exact ⟨0, by simp [sumTo], rfl, by omega, rfl⟩
      case round =>
        obtain ⟨k, rfl, rfl, hk, rfl⟩ := hrel
        have hsk := sumTo_bd HGB.out k
        by_cases hlt : k < xs.length
        · have hx : xs[k]? = some (xs[k]'hlt) := List.getElem?_eq_getElem _
          generalize (xs[k]'hlt) = x at hx
          have hxb := HGB.out x (List.mem_of_getElem? hx)
          obtain ⟨g, hA, hc, -⟩ := row_cell HR5.out k (numI x) (by simp [hx])
          subst hA
          unfold numI at hc
          have hglk := World.block_lt_of_cell? _ _ hc
          have HSU := Lib.hid (sumTo_succ hx)
          clear hx
          go_wp2_with fail
          go_roundw
          case rel => exact ⟨k + 1, by rw [HSU.out]; congr 1; omega, by go_num, by omega, trivial⟩
          case measure => simp [intOf]; omega
        · have hk2 : k = xs.length := by omega
          have hz : xs.sum - sumTo xs k = 0 := by rw [hk2, HSA.out]; omega
          rw [hz]
          subst hk2
          clear hz hsk hlt hk
          have hsz := (textTo_len HTB.out lf.length)
          have HSZ := Lib.hid hsz
          have hss : (⟨(textTo lf lf.length).toArray⟩ : ByteArray).size = (textTo lf lf.length).length := by show (textTo lf lf.length).toArray.size = _; simp
          clear hsz
          go_wp2_with fail
          refine (Tryd.strings_TrimSuffix _ _ _ (by rw [hss]; have := HSZ.out; omega)).mono ?_
          rintro en w6 ⟨rfl, rfl⟩
          go_wp2_with fail
          have hst := split_text lf ⟨(Lib.trimSuffix (textTo lf lf.length) [10]).toArray⟩ (by simp)
          have htl : (Lib.trimSuffix (textTo lf lf.length) [10]).length ≤ (textTo lf lf.length).length := by
            unfold Lib.trimSuffix
            split
            · simp
            · exact Nat.le_refl _
          have hms : (⟨(Lib.trimSuffix (textTo lf lf.length) [10]).toArray⟩ : ByteArray).size = (Lib.trimSuffix (textTo lf lf.length) [10]).length := by show (Lib.trimSuffix (textTo lf lf.length) [10]).toArray.size = _; simp
          have hm6 : w6.cell? ⟨0, 0, none⟩ = some (.int .i64 mx) := by rw [HF5.out.cell (World.block_lt_of_cell? _ _ HM.out) (fun e => e.elim)]; exact HM.out
          refine (Tryd.strings_Split _ ⟨#[10]⟩ mx w6 (by rw [hms]; have := HSZ.out; omega) hm6 (by decide)).mono ?_
          rintro en w7 ⟨rfl, hw7⟩
          rw [hst.2]
          have hpl : (Lib.splitB ⟨#[10]⟩ 0 (Lib.countB ⟨(Lib.trimSuffix (textTo lf lf.length) [10]).toArray⟩ ⟨#[10]⟩) ⟨(Lib.trimSuffix (textTo lf lf.length) [10]).toArray⟩).map (·.data.toList) = pieces lf := hst.1
          generalize Lib.splitB ⟨#[10]⟩ 0 (Lib.countB ⟨(Lib.trimSuffix (textTo lf lf.length) [10]).toArray⟩ ⟨#[10]⟩) ⟨(Lib.trimSuffix (textTo lf lf.length) [10]).toArray⟩ = pcs at *
          have hal : Fr No w6 w7 := by rw [hw7]; exact (Fr.refl _ _).alloc _
          have hbp : Blk w7 w6.heap.size (pcs.map Value.string).toArray 9 := by rw [hw7]; exact Blk.new _ _ _
          have hnl : (pieces lf).length ≤ 4001 := by
            unfold pieces
            cases lf with
            | nil => simp
            | cons x r => simp only [List.length_map]; omega
          have HPC := Lib.hid hpl
          have HBP := Lib.hid hbp
          have HF7 := Lib.hid (HF5.out.trans hal)
          have HL7 := Lib.hid (row_stays HL5.out fun q hq => hal.block q (HL5.out.lt q hq).2 (fun e => e.elim))
          have hw67 : w6.heap.size < w7.heap.size := hbp.lt
          clear hst htl hms hm6 hw7 hpl hal hbp
          go_wp2_with fail
          go_loopw [71, 13, 14, 80, 81, 82, 83, 84, 85, 86, 87, 88, 89, 90, 91, 92, 93, 94, 95] (fun iv _ _ _ _ _ _ _ _ _ _ _ _ _ _ _ _ _ _ wr => ∃ k : Nat, iv = .int .i64 k ∧ k ≤ (pieces lf).length ∧ Hid (Fr No w7 wr)) (fun iv _ _ _ _ _ _ _ _ _ _ _ _ _ _ _ _ _ _ _ => (pieces lf).length - (intOf iv).toNat)
          case atStart => exact ⟨0, rfl, by omega, Fr.refl _ _⟩
          case round =>
            obtain ⟨k, rfl, hk, R1⟩ := hrel
            by_cases hlt : k < (pieces lf).length
            · have hpk : ∃ p, pcs[k]? = some p ∧ (pieces lf)[k]? = some p.data.toList := by
                have hlen : k < pcs.length := by rw [← HPC.out] at hlt; simpa using hlt
                refine ⟨pcs[k], List.getElem?_eq_getElem hlen, ?_⟩
                rw [← HPC.out, List.getElem?_map, List.getElem?_eq_getElem hlen]
                rfl
              obtain ⟨p, hp1, hp2⟩ := hpk
              have hbw := R1.out.blk HBP.out (fun e => e.elim)
              have hcp : wr.cell? ⟨w6.heap.size, k, none⟩ = some (.string p) := by rw [hbw.cell]; simp [hp1]
              have hbl := hbw.lt
              have HP2 := Lib.hid hp2
              clear hp1 hp2 hbw
              by_cases hz : lf.length = 0
              · have hz1 : decide (0 < lf.length) = false := decide_eq_false (by omega)
                go_wp2_with fail
                go_roundw
                case rel => exact ⟨k + 1, by go_num, by omega, R1⟩
                case measure => simp [intOf]; omega
              · have hpm : pieces lf = lf.map bodyText := by
                  unfold pieces
                  cases lf with
                  | nil => exact absurd rfl hz
                  | cons x r => rfl
                have hkl : k < lf.length := by rw [hpm, List.length_map] at hlt; exact hlt
                have hx : lf[k]? = some (lf[k]'hkl) := List.getElem?_eq_getElem _
                generalize (lf[k]'hkl) = x at hx
                have hpx : p.data.toList = bodyText x := by
                  have := HP2.out
                  rw [hpm, List.getElem?_map, hx] at this
                  simpa using this.symm
                have hxb := HTB.out x (List.mem_of_getElem? hx)
                have q1 := row_stays HL7.out fun j hj => R1.out.block j (HL7.out.lt j hj).2 (fun e => e.elim)
                obtain ⟨g1, hA1, hc1, hg1⟩ := row_gflat line_len (by omega) q1 hx
                subst hA1
                have a0 := hc1 0 _ (by omega) rfl
                simp only [Nat.add_zero] at a0
                have hz1 : decide (0 < lf.length) = true := decide_eq_true (by omega)
                have hge : decide (lf.length ≤ k) = false := decide_eq_false (by omega)
                have HPX := Lib.hid hpx
                have HXB := Lib.hid hxb
                have htw := Lib.hid ((HT.out.fr HF7.out).fr R1.out)
                have hil := Lib.itoa_length_le x.life (by omega) (by omega)
                have hsum : (⟨(Lib.itoa x.life).toArray⟩ : ByteArray).size = (Lib.itoa x.life).length := by show (Lib.itoa x.life).toArray.size = _; simp
                have hpf : Lib.hasPrefix p.data.toList ((⟨(Lib.itoa x.life).toArray⟩ : ByteArray) ++ ⟨#[32]⟩).data.toList = true := by
                  rw [hpx]
                  have e1 : ((⟨(Lib.itoa x.life).toArray⟩ : ByteArray) ++ ⟨#[32]⟩).data.toList = Lib.itoa x.life ++ [32] := by simp
                  rw [e1]
                  exact body_prefix x
                have HPF := Lib.hid hpf
                clear hx hc1 q1 hpx hxb hpm hpf
                go_wp2_with fail
                refine (itoa_any x.life (by have := HXB.out; omega) (by have := HXB.out; omega) _ htw.out).mono ?_
                rintro en w8 ⟨rfl, hf8⟩
                have HF8 := Lib.hid (R1.out.trans hf8)
                clear hf8
                go_wp2_with fail
                refine (Tryd.strings_HasPrefix p _ w8).mono ?_
                rintro en w9 ⟨rfl, rfl⟩
                rw [HPF.out]
                go_wp2_with fail
                go_roundw
                case rel => exact ⟨k + 1, by go_num, by omega, HF8⟩
                case measure => simp [intOf]; omega
            · have hk2 : k = (pieces lf).length := by omega
              subst hk2
              have hcnt : Lib.countByte (⟨(textTo lf lf.length).toArray⟩ : ByteArray).data.toList 10 = lf.length := by
                have e1 : (⟨(textTo lf lf.length).toArray⟩ : ByteArray).data.toList = textTo lf lf.length := by simp
                rw [e1]
                exact count_text lf
              have HCN := Lib.hid hcnt
              have HFr := Lib.hid (HF7.out.trans R1.out)
              clear hcnt hlt hk
              have hb0 : ((lf.length : Int) == (lf.length : Int)) = true := by simp
              go_wp2_with fail
              refine (Tryd.strings_Count_one ⟨(textTo lf lf.length).toArray⟩ 10 wr).mono ?_
              rintro en w8 ⟨rfl, rfl⟩
              rw [HCN.out]
              go_wp2_with fail
              refine (awake_any w8).mono ?_
              rintro en w9 ⟨rfl, hf9⟩
              have HF9 := Lib.hid (HFr.out.trans hf9)
              clear hf9
              go_wp2_with fail
              go_ret
              exact ⟨rfl, HF9.out⟩
end Go.Proofs.YtnloffjjlhhanaaDoor
