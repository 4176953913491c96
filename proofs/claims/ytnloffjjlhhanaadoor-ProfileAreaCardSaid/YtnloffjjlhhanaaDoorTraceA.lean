/- The reference's small functions over a trace. -/
import Derived.Test.YtnloffjjlhhanaaDoorTrace
set_option linter.unusedVariables false
set_option linter.unusedSimpArgs false
namespace Go.Proofs.YtnloffjjlhhanaaDoor
open Go.RowKit
open Go.Proofs

theorem info_int : (Tryd.prog.info? 3).map (fun i => (i.zero, i.size, i.bytes)) = some (some (.int .i64 0), 1, 8) := by kernel_rfl

theorem lineNow (x : Lf) (w : World) (hg : x.bounded = decide (x.words > 0)) (h0 : 0 ≤ x.fin) (h1 : x.fin ≤ 1000000) :
    Calls Tryd.prog 52 #[.agg #[.int .i64 x.life, .int .i64 x.opened, .int .i64 x.ended, .int .i64 x.objs, .int .i64 x.wds, .int .i64 x.pages, .bool x.bounded, .int .i64 x.words, .int .i64 x.fin]] w fun e w' => e = .returned (.int .i64 x.now) ∧ Fr No w w' := by
  have hf : Fr No w (w.alloc (.cells #[.int .i64 x.life, .int .i64 x.opened, .int .i64 x.ended, .int .i64 x.objs, .int .i64 x.wds, .int .i64 x.pages, .bool x.bounded, .int .i64 x.words, .int .i64 x.fin] 31)) := (Fr.refl _ _).alloc _
  cases hb : x.bounded
  · rw [hb] at hg hf
    have hw : ¬ x.words > 0 := by simpa using hg.symm
    have hn : x.now = (x.fin + 31) / 32 := by unfold Lf.now; rw [if_neg hw]
    rw [hn]
    clear hg hw hb hn
    go_enter Tryd.func52, Tryd.ntmps52
    go_wp2_with fail
    go_ret
    refine ⟨?_, hf⟩
    first | rfl | (show Ending.returned (.int .i64 _) = _; congr 2; omega)
  · rw [hb] at hg hf
    have hw : x.words > 0 := by simpa using hg.symm
    have hn : x.now = 0 := by unfold Lf.now; rw [if_pos hw]
    rw [hn]
    clear hg hw hb hn
    go_enter Tryd.func52, Tryd.ntmps52
    go_wp2_with fail
    go_ret
    exact ⟨rfl, hf⟩

theorem storedR (a b : Int) (w : World) (h0 : 0 ≤ a) (h1 : a ≤ 1000000) (h2 : 0 ≤ b) (h3 : b ≤ 100) :
    Calls Tryd.prog 51 #[.int .i64 a, .int .i64 b] w fun e w' => e = .returned (.int .i64 ((if a % 32 > 0 ∧ a % 32 + b > 32 then a + (32 - a % 32) else a) + b)) ∧ w = w' := by
  have hr : (a % 32 ≤ 0) ∨ (0 < a % 32 ∧ a % 32 + b ≤ 32) ∨ (0 < a % 32 ∧ 32 < a % 32 + b) := by omega
  have hr0 : 0 ≤ a % 32 ∧ a % 32 < 32 := by omega
  rcases hr with hr | ⟨hr, hr1⟩ | ⟨hr, hr1⟩
  · have e1 : decide (0 < a % 32) = false := by simp; omega
    rw [if_neg (by omega)]
    go_enter Tryd.func51, Tryd.ntmps51
    go_wp2_with fail
    go_ret
    exact ⟨rfl, rfl⟩
  · have e1 : decide (0 < a % 32) = true := by simpa using hr
    have e2 : decide (32 < a % 32 + b) = false := by simp; omega
    rw [if_neg (by omega)]
    go_enter Tryd.func51, Tryd.ntmps51
    go_wp2_with fail
    go_ret
    exact ⟨rfl, rfl⟩
  · have e1 : decide (0 < a % 32) = true := by simpa using hr
    have e2 : decide (32 < a % 32 + b) = true := by simpa using hr1
    rw [if_pos ⟨hr, hr1⟩]
    go_enter Tryd.func51, Tryd.ntmps51
    go_wp2_with fail
    go_ret
    exact ⟨rfl, rfl⟩

/-- At which place a life is open. -/
def Tr.place (t : Tr) (n : Int) : Int := fidx (t.st.op.zipIdx.map fun p => ((p.1 : Int) + 1 == n) && (t.hole != (p.2 : Int) + 1))
theorem zip_at {op : List Nat} {k i : Nat} (h : op[k]? = some i) : op.zipIdx[k]? = some (i, k) := by
  rw [List.getElem?_zipIdx, h]; simp

set_option maxRecDepth 100000 in
set_option maxHeartbeats 1000000 in
theorem trPlace (B : Nat) (w : World) (R : Loc) (t : Tr) (n : Int) (h : TrAt B w R t) (hop : t.st.op.length ≤ 10000) (hlf : t.st.lf.length ≤ 10000) :
    Calls Tryd.prog 50 #[.pointer (some ⟨R.t, 0, none⟩), .int .i64 n] w fun e w' => e = .returned (.int .i64 (t.place n)) ∧ w = w' := by
  have c1 : w.cell? ⟨R.t, 1, none⟩ = some (.slice R.Ao t.st.op.length R.co) := h.blk.cell 1
  have c2 : w.cell? ⟨R.t, 2, none⟩ = some (.int .i64 t.hole) := h.blk.cell 2
  have hl := h.blk.lt
  have H := Lib.hid h
  clear h
  obtain ⟨rt, Al, cl, Ao, co⟩ := R
  simp only at c1 c2 hl
  have hpl : Hid ((t.st.op.zipIdx.map fun p => ((p.1 : Int) + 1 == n) && (t.hole != (p.2 : Int) + 1)).length = t.st.op.length) := by unfold Hid; simp
  go_enter Tryd.func50, Tryd.ntmps50
  go_wp2_with fail
  go_loop [12, 5, 6, 14, 15, 16, 17, 18, 19, 20, 21, 22, 23, 24, 25, 26, 27, 28] (fun i _ _ _ _ _ _ _ _ _ _ _ _ _ _ _ _ _ => ∃ k : Nat, k ≤ t.st.op.length ∧ i = .int .i64 k ∧ Hid (∀ j, j < k → (t.st.op.zipIdx.map fun p => ((p.1 : Int) + 1 == n) && (t.hole != (p.2 : Int) + 1))[j]? = some false)) (fun i _ _ _ _ _ _ _ _ _ _ _ _ _ _ _ _ _ => t.st.op.length - (intOf i).toNat)
  case atStart => exact ⟨0, by omega, rfl, Lib.hid (fun j hj => by omega)⟩
  case round =>
    obtain ⟨k, hk, rfl, H0⟩ := hrel
    by_cases hlt : k < t.st.op.length
    · have hj : t.st.op[k]? = some (t.st.op[k]'hlt) := List.getElem?_eq_getElem _
      generalize (t.st.op[k]'hlt) = i at hj
      have hil := H.out.opens i (List.mem_of_getElem? hj)
      obtain ⟨g, x, hA, hc, -, -, hgl⟩ := H.out.open_at hj
      have hc' : w.cell? ⟨g, k, none⟩ = some (.int .i64 ((i : Int) + 1)) := hc
      have HP : Hid ((t.st.op.zipIdx.map fun p => ((p.1 : Int) + 1 == n) && (t.hole != (p.2 : Int) + 1))[k]? = some (((i : Int) + 1 == n) && (t.hole != (k : Int) + 1))) := by unfold Hid; rw [List.getElem?_map, zip_at hj]; rfl
      simp only at hA
      subst hA
      clear hj hc
      cases b1 : ((i : Int) + 1 == n)
      · rw [b1] at HP
        go_wp2_with fail
        go_round
        case rel => exact ⟨k + 1, by omega, by go_num, Lib.hid (fun j hj => by rcases Nat.lt_succ_iff_lt_or_eq.1 hj with h | rfl; exact H0.out j h; exact HP.out)⟩
        case measure => simp [intOf]; omega
      · cases b2 : (t.hole != (k : Int) + 1)
        · rw [b1, b2] at HP
          go_wp2_with fail
          go_round
          case rel => exact ⟨k + 1, by omega, by go_num, Lib.hid (fun j hj => by rcases Nat.lt_succ_iff_lt_or_eq.1 hj with h | rfl; exact H0.out j h; exact HP.out)⟩
          case measure => simp [intOf]; omega
        · rw [b1, b2] at HP
          go_wp2_with fail
          go_ret
          exact ⟨by unfold Tr.place; rw [fidx_found _ k H0.out HP.out]; rfl, rfl⟩
    · go_wp2_with fail
      go_ret
      exact ⟨by unfold Tr.place; rw [fidx_none _ (fun i hi => H0.out i (by rw [hpl.out] at hi; omega))]; rfl, rfl⟩
end Go.Proofs.YtnloffjjlhhanaaDoor
