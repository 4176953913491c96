/- Graph, of the program and of the reference, and whether lists of ints are the same. -/
import Derived.Test.YtnloffjjlhhanaaAreas
set_option linter.unusedVariables false
set_option linter.unusedSimpArgs false
namespace Go.Proofs.Ytnloffjjlhhanaa
open Go.RowKit
open Go.Proofs

set_option maxRecDepth 100000 in
set_option maxHeartbeats 1000000 in
theorem same_ints (B1 B2 : Nat) (w : World) (A1 A2 : Option Addr) (c1 c2 : Nat) (xs : List Int) (hlen : xs.length ≤ 1000000) (h1 : w.ownsRow B1 3 1 (.slice A1 xs.length c1) xs.length (xs.map numI)) (h2 : w.ownsRow B2 3 1 (.slice A2 xs.length c2) xs.length (xs.map numI)) :
    Calls Try.prog 23 #[.slice A1 xs.length c1, .slice A2 xs.length c2] w fun e w' => e = .returned (.bool true) ∧ Fr No w w' := by
  have H1 := Lib.hid h1
  have H2 := Lib.hid h2
  clear h1 h2
  go_enter Try.func23, Try.ntmps23
  go_wp2_with fail
  go_loopw [13, 5] (fun iv _ wr => ∃ k : Nat, iv = .int .i64 k ∧ k ≤ xs.length ∧ Hid (∃ q, wr = w.drewN q)) (fun iv _ _ => xs.length - (intOf iv).toNat)
  case atStart => exact ⟨0, rfl, by omega, Lib.hid ⟨0, rfl⟩⟩
  case round =>
    obtain ⟨k, rfl, hk, R1⟩ := hrel
    obtain ⟨q, rfl⟩ := R1.out
    by_cases hlt : k < xs.length
    · have hx : xs[k]? = some (xs[k]'hlt) := List.getElem?_eq_getElem _
      generalize (xs[k]'hlt) = x at hx
      obtain ⟨g1, hA1, x1, -⟩ := row_cell H1.out k (numI x) (by simp [hx])
      obtain ⟨g2, hA2, x2, -⟩ := row_cell H2.out k (numI x) (by simp [hx])
      subst hA1 hA2
      unfold numI at x1 x2
      have l1 := World.block_lt_of_cell? _ _ x1
      have l2 := World.block_lt_of_cell? _ _ x2
      have bx : (x != x) = false := by simp
      clear hx
      go_wp2_with fail
      go_quiet (fail)
      go_wp2_with fail
      go_roundw
      case rel => exact ⟨k + 1, by go_num, by omega, Lib.hid ⟨_, rfl⟩⟩
      case measure => simp [intOf]; omega
    · have hk2 : k = xs.length := by omega
      go_wp2_with fail
      go_ret
      exact ⟨rfl, Fr.quiet _⟩

/-- Which graph is asked for, and how it is refused. -/
def gOf (l : List Ev) (s : Int) : List Int := match playP l with | none => [] | some _ => if 1 ≤ s ∧ s ≤ 20000 then graphOf l s.toNat else []
def gErr (l : List Ev) (s : Int) : Int := match playP l with | none => 100 | some _ => if 1 ≤ s ∧ s ≤ 20000 then 0 else 2
def GraphPost (w : World) (l : List Ev) (s : Int) (en : Ending) (w' : World) : Prop :=
  Fr No w w' ∧ ∃ A c B, en = .returned (.tuple #[.slice A (gOf l s).length c, .int .i64 (gErr l s)]) ∧ w'.ownsRow B 3 1 (.slice A (gOf l s).length c) (gOf l s).length ((gOf l s).map numI) ∧ (gOf l s).length ≤ 40002

set_option maxRecDepth 100000 in
set_option maxHeartbeats 2000000 in
theorem refGraph (w : World) (A : Option Addr) (cap : Nat) (l : List Ev) (s : Int) (hev : Evs w.heap.size w A l) (hl : l.length ≤ 2000) (hcap : l.length ≤ cap) :
    Calls Try.prog 22 #[.slice A l.length cap, .int .i64 s] w (GraphPost w l s) := by
  have HR := Lib.hid (refRight w A cap l hev hl hcap)
  have HE := Lib.hid hev
  have HL := Lib.hid hl
  clear hev
  go_enter Try.func22, Try.ntmps22
  go_wp2_with fail
  refine HR.out.mono ?_
  rintro en w1 ⟨hf1, rfl⟩
  have HF1 := Lib.hid hf1
  have HE1 := Lib.hid (HE.out.rebase hf1)
  clear hf1
  cases hpl : playP l with
  | none =>
    have HV : Hid (∀ en w', Fr No w w' → en = .returned (.tuple #[.slice none 0 0, .int .i64 100]) → GraphPost w l s en w') := by
      intro en w' hf he
      unfold GraphPost gOf gErr
      rw [hpl]
      exact ⟨hf, none, 0, 0, he, World.ownsRow_nil _ _ _ _, by simp⟩
    clear hpl
    simp only [Option.isSome_none]
    go_wp2_with fail
    go_ret2
    exact HV.out _ _ HF1.out rfl
  | some tr =>
    simp only [Option.isSome_some]
    by_cases hs : 1 ≤ s ∧ s ≤ 20000
    · obtain ⟨k, rfl⟩ : ∃ k : Nat, s = k := ⟨s.toNat, by omega⟩
      have HV : Hid (∀ en w', Fr No w w' → (∃ A c B, en = .returned (.tuple #[.slice A (graphOf l k).length c, .int .i64 0]) ∧ w'.ownsRow B 3 1 (.slice A (graphOf l k).length c) (graphOf l k).length ((graphOf l k).map numI) ∧ (graphOf l k).length ≤ 40002) → GraphPost w l k en w') := by
        intro en w' hf he
        unfold GraphPost gOf gErr
        rw [hpl]
        simp only [if_pos hs, Int.toNat_natCast]
        exact ⟨hf, he⟩
      have HG := Lib.hid (refgraph w1 A cap l k tr HE1.out HL.out hcap hpl (by omega) (by omega))
      clear hpl
      have g1 : decide ((k : Int) < 1) = false := decide_eq_false (by omega)
      have g2 : decide ((20000 : Int) < (k : Int)) = false := decide_eq_false (by omega)
      go_wp2_with fail
      refine HG.out.mono ?_
      rintro en w2 ⟨hf2, A1, c1, rfl, hrow, hlen⟩
      have HF2 := Lib.hid hf2
      have HROW := Lib.hid hrow
      clear hrow hf2
      go_wp2_with fail
      go_ret2
      exact HV.out _ _ (HF1.out.trans HF2.out) ⟨A1, c1, _, rfl, HROW.out, hlen⟩
    · have HV : Hid (∀ en w', Fr No w w' → en = .returned (.tuple #[.slice none 0 0, .int .i64 2]) → GraphPost w l s en w') := by
        intro en w' hf he
        unfold GraphPost gOf gErr
        rw [hpl]
        simp only [if_neg hs]
        exact ⟨hf, none, 0, 0, he, World.ownsRow_nil _ _ _ _, by simp⟩
      clear hpl
      by_cases hs1 : s < 1
      · have g1 : decide (s < 1) = true := decide_eq_true hs1
        go_wp2_with fail
        go_ret2
        exact HV.out _ _ HF1.out rfl
      · have g1 : decide (s < 1) = false := decide_eq_false hs1
        have g2 : decide (20000 < s) = true := decide_eq_true (by omega)
        go_wp2_with fail
        go_ret2
        exact HV.out _ _ HF1.out rfl

/-- What the program's Graph takes out. -/
theorem all_at {l : List Ev} {e : Ev} (hs : stepsFrom 0 l = true) (hg : l.getLast? = some e) (h0 : 0 ≤ e.step) (k : Nat) : (graphOf l 1)[min k ((graphOf l 1).length - 1)]? = some (pgAt l k) := by
  have h1 : graphOf l 1 = pts l 1 (e.step.toNat + 1) := by unfold graphOf; rw [hg]; simp only; rw [stepsN_one]
  rw [h1, pts_len]
  unfold pts
  rw [List.getElem?_map, List.getElem?_range (by omega)]
  simp only [Option.map_some, Option.some.injEq, Nat.mul_one, Nat.add_sub_cancel]
  by_cases hk : k ≤ e.step.toNat
  · rw [Nat.min_eq_left hk]
  · rw [Nat.min_eq_right (by omega), pgAt_end hs hg h0 (x := (k : Int)) (by omega)]
    congr 1
    omega

set_option maxRecDepth 100000 in
set_option maxHeartbeats 2000000 in
theorem progGraph (w : World) (A : Option Addr) (cap : Nat) (l : List Ev) (s : Int) (hev : Evs w.heap.size w A l) (hl : l.length ≤ 2000) (hcap : l.length ≤ cap) :
    Calls Try.prog 21 #[.slice A l.length cap, .int .i64 s] w (GraphPost w l s) := by
  obtain ⟨i0, hi, hz0, hz1, hz2⟩ := info_parts info_int
  have HS := Lib.hid (steps_any w A cap l hev hl hcap)
  have HL := Lib.hid hl
  clear hev
  go_enter Try.func21, Try.ntmps21
  go_wp2_with fail
  refine HS.out.mono ?_
  intro en w1 hp
  unfold StepsPost at hp
  have HF1 := Lib.hid hp.1
  cases hpl : playP l with
  | none =>
    have HV : Hid (∀ en w', Fr No w w' → en = .returned (.tuple #[.slice none 0 0, .int .i64 100]) → GraphPost w l s en w') := by
      intro en w' hf he
      unfold GraphPost gOf gErr
      rw [hpl]
      exact ⟨hf, none, 0, 0, he, World.ownsRow_nil _ _ _ _, by simp⟩
    rw [hpl] at hp
    obtain ⟨-, A1, n1, c1, rfl⟩ := hp
    clear hpl
    go_wp2_with fail
    go_ret2
    exact HV.out _ _ HF1.out rfl
  | some tr =>
    rw [hpl] at hp
    obtain ⟨-, A1, c1, rfl, hrow, hlen, hbd⟩ := hp
    rw [out_graph HL.out hpl] at hrow hlen hbd
    rw [out_graph HL.out hpl]
    by_cases hs : 1 ≤ s ∧ s ≤ 20000
    · obtain ⟨k, rfl⟩ : ∃ k : Nat, s = k := ⟨s.toNat, by omega⟩
      have HV : Hid (∀ en w', Fr No w w' → (∃ A c B, en = .returned (.tuple #[.slice A (graphOf l k).length c, .int .i64 0]) ∧ w'.ownsRow B 3 1 (.slice A (graphOf l k).length c) (graphOf l k).length ((graphOf l k).map numI) ∧ (graphOf l k).length ≤ 40002) → GraphPost w l k en w') := by
        intro en w' hf he
        unfold GraphPost gOf gErr
        rw [hpl]
        simp only [if_pos hs, Int.toNat_natCast]
        exact ⟨hf, he⟩
      have HBT : Hid ((decide ((1 : Int) ≤ (k : Int)) && decide ((k : Int) ≤ 20000)) = true) := by unfold Hid; simp; omega
      have hk0 : 0 < k := by omega
      have hk1 : k ≤ 20000 := by omega
      cases hg : l.getLast? with
      | none =>
        have hgr : ∀ s, graphOf l s = [] := fun s => by unfold graphOf; rw [hg]
        have HGR := Lib.hid hgr
        rw [hgr]
        clear hpl hrow hbd hlen hg hgr
        simp only [List.length_nil]
        go_wp2_with fail
        refine (between_is 1 k 20000 _ HBT.out w1).mono ?_
        rintro en w2 ⟨rfl, rfl⟩
        go_wp2_with fail
        go_loopw [8, 9] (fun ov _ wr => ov = .slice none 0 0 ∧ wr = w1) (fun _ _ _ => 0)
        case atStart => exact ⟨rfl, rfl⟩
        case round =>
          obtain ⟨rfl, rfl⟩ := hrel
          go_wp2_with fail
          go_ret2
          exact HV.out _ _ HF1.out ⟨none, 0, 0, by rw [HGR.out]; rfl, by rw [HGR.out]; exact World.ownsRow_nil _ _ _ _, by rw [HGR.out]; simp⟩
      | some e =>
        obtain ⟨hd0, hd1, -, -⟩ := outP_at HL.out hpl hg
        obtain ⟨D, hD⟩ : ∃ D : Nat, e.step = D := ⟨e.step.toNat, by omega⟩
        have hD2 : D ≤ 20000 := by omega
        have hg1 : (graphOf l 1).length = D + 1 := by unfold graphOf; rw [hg]; simp only; rw [pts_len, stepsN_one, hD, Int.toNat_natCast]
        have HGK : Hid (graphOf l k = pts l k (stepsN D k)) := by unfold Hid graphOf; rw [hg]; simp only; rw [hD, Int.toNat_natCast]
        have hall := fun S => all_at (play_sorted hpl) hg hd0 S
        rw [hg1] at hall hrow ⊢
        have HALL := Lib.hid hall
        have HROW := Lib.hid hrow
        generalize graphOf l 1 = xs at *
        clear hpl hrow hbd hlen hg hg1 hall hd0 hd1 hD
        go_wp2_with fail
        refine (between_is 1 k 20000 _ HBT.out w1).mono ?_
        rintro en w2 ⟨rfl, rfl⟩
        go_wp2_with fail
        go_loopw [8, 9] (fun ov av wr => ∃ (j S : Nat) (A' : Option Addr) (c : Nat), ov = .slice A' j c ∧ av = .int .i64 S ∧ S ≤ 40000 ∧ j ≤ S ∧ (j = 0 ∨ S < D + k) ∧ Hid (S = j * k) ∧ Hid (wr.ownsRow w1.heap.size 3 1 (.slice A' j c) j ((pts l k j).map numI)) ∧ Hid (Fr No w1 wr)) (fun _ av _ => D + 1 - (intOf av).toNat)
        case atStart => exact ⟨0, 0, none, 0, rfl, rfl, by omega, by omega, .inl rfl, Lib.hid (by simp), World.ownsRow_nil _ _ _ _, Fr.refl _ _⟩
        case round =>
          obtain ⟨j, S, A', c, rfl, rfl, hS, hjS, hjD, HSJ, R1, R2⟩ := hrel
          have hrow := row_stays HROW.out fun q hq => R2.out.block q (HROW.out.lt q hq).2 (fun e => e.elim)
          obtain ⟨g, hA, x1, -⟩ := row_cell hrow (min S D) (numI (pgAt l S)) (by rw [List.getElem?_map, show D = D + 1 - 1 by omega, HALL.out S]; rfl)
          subst hA
          unfold numI at x1
          have hgl := World.block_lt_of_cell? _ _ x1
          have hbase := R2.out.size
          clear hrow
          by_cases hSD : S < D
          · have hm : min S D = S := Nat.min_eq_left (by omega)
            rw [hm] at x1
            clear hm
            go_wp2_with (at_builtin; go_must (refine wpList_append_own_at _ rfl (.tmp 28) (.tmp 37) 42 rfl w1.heap.size 3 i0 (.int .i64 0) 1 8 Try.underlying42 hi hz0 hz1 hz2 rfl (by decide) (.slice A' j c) j ((pts l k j).map numI) rfl ?hown ⟨wr.heap.size, 0, none⟩ 1 1 [numI (pgAt l S)] rfl rfl ?c1 ?c2 ?c3 ?c4 ?c5 ?_))
            case hown => exact World.ownsRow.alloc R1.out _
            case c1 => first | exact cell_one_at _ _ _ _ rfl | exact fun j u h => h
            case c2 => simp [Value.oneCell', numI]
            case c3 => unfold maxLen; omega
            case c4 => omega
            case c5 => first | omega | (simp; omega)
            intro v' w2 hown hgrow _ hwhere
            obtain ⟨A2, c2, rfl, -⟩ := row_slice hown
            have hf2 : Fr No w1 w2 := by
              have hf := nums_grown hbase (m := w1.heap.size) (fun k hk => (R1.out.lt k hk).1) hbase hgrow
              exact R2.out.then hf fun i hi hi2 => absurd hi2 (by omega)
            have hrow2 : w2.ownsRow w1.heap.size 3 1 (.slice A2 (j + 1) c2) (j + 1) ((pts l k (j + 1)).map numI) := by
              rw [pts_succ, ← HSJ.out, List.map_append]; exact hown
            have HF2 := Lib.hid hf2
            have HROW2 := Lib.hid hrow2
            clear hown hgrow hwhere hf2 hrow2 x1
            have HSJ2 : Hid (S + k = (j + 1) * k) := by unfold Hid; rw [Nat.succ_mul, HSJ.out]
            have hend' : decide ((D : Int) ≤ (S : Int)) = false := decide_eq_false (by omega)
            go_wp2_with fail
            go_roundw
            case rel => exact ⟨j + 1, S + k, A2, c2, rfl, by first | rfl | go_num, by omega, by omega, .inr (by omega), HSJ2, HROW2, HF2⟩
            case measure => simp [intOf]; omega
          · rcases (by omega : S = D ∨ D < S) with hSD | hSD
            · obtain rfl : D = S := hSD.symm
              rw [Nat.min_self] at x1
              go_wp2_with (at_builtin; go_must (refine wpList_append_own_at _ rfl (.tmp 28) (.tmp 37) 42 rfl w1.heap.size 3 i0 (.int .i64 0) 1 8 Try.underlying42 hi hz0 hz1 hz2 rfl (by decide) (.slice A' j c) j ((pts l k j).map numI) rfl ?hown ⟨wr.heap.size, 0, none⟩ 1 1 [numI (pgAt l D)] rfl rfl ?c1 ?c2 ?c3 ?c4 ?c5 ?_))
              case hown => exact World.ownsRow.alloc R1.out _
              case c1 => first | exact cell_one_at _ _ _ _ rfl | exact fun j u h => h
              case c2 => simp [Value.oneCell', numI]
              case c3 => unfold maxLen; omega
              case c4 => omega
              case c5 => first | omega | (simp; omega)
              intro v' w2 hown hgrow _ hwhere
              obtain ⟨A2, c2, rfl, -⟩ := row_slice hown
              have hf2 : Fr No w1 w2 := by
                have hf := nums_grown hbase (m := w1.heap.size) (fun k hk => (R1.out.lt k hk).1) hbase hgrow
                exact R2.out.then hf fun i hi hi2 => absurd hi2 (by omega)
              have hrow2 : w2.ownsRow w1.heap.size 3 1 (.slice A2 (j + 1) c2) (j + 1) ((pts l k (j + 1)).map numI) := by
                rw [pts_succ, ← HSJ.out, List.map_append]; exact hown
              have HF2 := Lib.hid hf2
              have HROW2 := Lib.hid hrow2
              clear hown hgrow hwhere hf2 hrow2 x1
              have hj1 : stepsN D k = j + 1 := by
                refine stepsN_is hk0 (by rw [← HSJ.out]; omega) ?_
                rw [← HSJ.out]
                exact hjD
              have hgl : graphOf l k = pts l k (j + 1) := by rw [HGK.out, hj1]
              have HGL := Lib.hid hgl
              clear hj1 hgl
              have hend' : decide ((D : Int) ≤ (D : Int)) = true := decide_eq_true (by omega)
              go_wp2_with fail
              go_ret2
              exact HV.out _ _ (HF1.out.trans HF2.out) ⟨A2, c2, w1.heap.size, by rw [HGL.out, pts_len]; rfl, by rw [HGL.out, pts_len]; exact HROW2.out, by rw [HGL.out, pts_len]; omega⟩
            · have hm : min S D = D := Nat.min_eq_right (by omega)
              rw [hm] at x1
              clear hm
              go_wp2_with (at_builtin; go_must (refine wpList_append_own_at _ rfl (.tmp 28) (.tmp 37) 42 rfl w1.heap.size 3 i0 (.int .i64 0) 1 8 Try.underlying42 hi hz0 hz1 hz2 rfl (by decide) (.slice A' j c) j ((pts l k j).map numI) rfl ?hown ⟨wr.heap.size, 0, none⟩ 1 1 [numI (pgAt l S)] rfl rfl ?c1 ?c2 ?c3 ?c4 ?c5 ?_))
              case hown => exact World.ownsRow.alloc R1.out _
              case c1 => first | exact cell_one_at _ _ _ _ rfl | exact fun j u h => h
              case c2 => simp [Value.oneCell', numI]
              case c3 => unfold maxLen; omega
              case c4 => omega
              case c5 => first | omega | (simp; omega)
              intro v' w2 hown hgrow _ hwhere
              obtain ⟨A2, c2, rfl, -⟩ := row_slice hown
              have hf2 : Fr No w1 w2 := by
                have hf := nums_grown hbase (m := w1.heap.size) (fun k hk => (R1.out.lt k hk).1) hbase hgrow
                exact R2.out.then hf fun i hi hi2 => absurd hi2 (by omega)
              have hrow2 : w2.ownsRow w1.heap.size 3 1 (.slice A2 (j + 1) c2) (j + 1) ((pts l k (j + 1)).map numI) := by
                rw [pts_succ, ← HSJ.out, List.map_append]; exact hown
              have HF2 := Lib.hid hf2
              have HROW2 := Lib.hid hrow2
              clear hown hgrow hwhere hf2 hrow2 x1
              have hj1 : stepsN D k = j + 1 := by
                refine stepsN_is hk0 (by rw [← HSJ.out]; omega) ?_
                rw [← HSJ.out]
                exact hjD
              have hgl : graphOf l k = pts l k (j + 1) := by rw [HGK.out, hj1]
              have HGL := Lib.hid hgl
              clear hj1 hgl
              have hend' : decide ((D : Int) ≤ (S : Int)) = true := decide_eq_true (by omega)
              go_wp2_with fail
              go_ret2
              exact HV.out _ _ (HF1.out.trans HF2.out) ⟨A2, c2, w1.heap.size, by rw [HGL.out, pts_len]; rfl, by rw [HGL.out, pts_len]; exact HROW2.out, by rw [HGL.out, pts_len]; omega⟩
    · have HV : Hid (∀ en w', Fr No w w' → en = .returned (.tuple #[.slice none 0 0, .int .i64 2]) → GraphPost w l s en w') := by
        intro en w' hf he
        unfold GraphPost gOf gErr
        rw [hpl]
        simp only [if_neg hs]
        exact ⟨hf, none, 0, 0, he, World.ownsRow_nil _ _ _ _, by simp⟩
      have HBT : Hid ((decide ((1 : Int) ≤ s) && decide (s ≤ 20000)) = false) := by unfold Hid; rw [Bool.and_eq_false_iff, decide_eq_false_iff_not, decide_eq_false_iff_not]; omega
      clear hpl hrow hbd
      go_wp2_with fail
      refine (between_is 1 s 20000 _ HBT.out w1).mono ?_
      rintro en w2 ⟨rfl, rfl⟩
      go_wp2_with fail
      go_ret2
      exact HV.out _ _ HF1.out rfl
end Go.Proofs.Ytnloffjjlhhanaa
