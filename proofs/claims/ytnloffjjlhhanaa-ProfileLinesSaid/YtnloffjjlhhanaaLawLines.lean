/- The lifelines of events: the statement ProfileLines, for every list of events, without any condition. -/
import Derived.Test.YtnloffjjlhhanaaRow
import Derived.Test.YtnloffjjlhhanaaLines
set_option linter.unusedVariables false
set_option linter.unusedSimpArgs false
namespace Go.Proofs.Ytnloffjjlhhanaa
open Go.ChangeShapes Go.WideShapes Go.ChangeAt Go.RowKit

def lfOf (l : List Ev) : List Lf := match playP l with | none => [] | some tr => (finalOf tr).lf
def errOf (l : List Ev) : Int := match playP l with | none => 100 | some _ => 0
theorem final_bd {l : List Ev} {tr : List (St × Int)} (hl : l.length ≤ 2000) (h : playP l = some tr) : Bd l.length (finalOf tr) := by
  obtain ⟨r, s, hfin⟩ := (play_good hl h).fin
  have h2 := adds_ok l 0 Tr.init _ Tr.init_ok hfin
  rw [lastSt_final, Nat.zero_add] at h2
  exact h2.bd
theorem lfOf_len {l : List Ev} (hl : l.length ≤ 2000) : (lfOf l).length ≤ 4000 := by
  unfold lfOf
  cases hp : playP l with
  | none => simp
  | some tr => have := (final_bd hl hp).lf; simp only; omega
def LineS (g1 g2 k : Nat) (x : Lf) (W : World) : Prop :=
  W.cell? ⟨g1, k * 7, none⟩ = some (.int .i64 x.life) ∧ W.cell? ⟨g1, k * 7 + 1, none⟩ = some (.int .i64 x.opened) ∧ W.cell? ⟨g1, k * 7 + 2, none⟩ = some (.int .i64 x.ended) ∧ W.cell? ⟨g1, k * 7 + 3, none⟩ = some (.int .i64 x.objs) ∧ W.cell? ⟨g1, k * 7 + 4, none⟩ = some (.int .i64 x.wds) ∧ W.cell? ⟨g1, k * 7 + 5, none⟩ = some (.int .i64 x.pages) ∧ W.cell? ⟨g1, k * 7 + 6, none⟩ = some (.bool x.bounded) ∧
  W.cell? ⟨g2, k * 9, none⟩ = some (.int .i64 x.life) ∧ W.cell? ⟨g2, k * 9 + 1, none⟩ = some (.int .i64 x.opened) ∧ W.cell? ⟨g2, k * 9 + 2, none⟩ = some (.int .i64 x.ended) ∧ W.cell? ⟨g2, k * 9 + 3, none⟩ = some (.int .i64 x.objs) ∧ W.cell? ⟨g2, k * 9 + 4, none⟩ = some (.int .i64 x.wds) ∧ W.cell? ⟨g2, k * 9 + 5, none⟩ = some (.int .i64 x.pages) ∧ W.cell? ⟨g2, k * 9 + 6, none⟩ = some (.bool x.bounded) ∧ W.cell? ⟨g2, k * 9 + 7, none⟩ = some (.int .i64 x.words) ∧ W.cell? ⟨g2, k * 9 + 8, none⟩ = some (.int .i64 x.fin)
theorem LineS.fr {g1 g2 k : Nat} {x : Lf} {W W' : World} (h : LineS g1 g2 k x W) (hf : Fr No W W') (h1 : g1 < W.heap.size) (h2 : g2 < W.heap.size) : LineS g1 g2 k x W' := by
  obtain ⟨a0, a1, a2, a3, a4, a5, a6, d0, d1, d2, d3, d4, d5, d6, d7, d8⟩ := h
  have f1 := fun j => hf.cell (j := j) h1 (fun e => e.elim)
  have f2 := fun j => hf.cell (j := j) h2 (fun e => e.elim)
  unfold LineS
  simp only [f1, f2]
  exact ⟨a0, a1, a2, a3, a4, a5, a6, d0, d1, d2, d3, d4, d5, d6, d7, d8⟩
theorem lines_uni (w : World) (A : Option Addr) (cap : Nat) (l : List Ev) (hev : Evs w.heap.size w A l) (hl : l.length ≤ 2000) (hcap : l.length ≤ cap) :
    Calls Try.prog 14 #[.slice A l.length cap] w fun en w' => Fr No w w' ∧ ∃ A' c B, w.heap.size ≤ B ∧ en = .returned (.tuple #[.slice A' (lfOf l).length c, .int .i64 (errOf l)]) ∧ w'.ownsRow B 37 7 (.slice A' (lfOf l).length c) (lfOf l).length ((lfOf l).flatMap Lf.line) := by
  refine (lines_any w A cap l hev hl hcap).mono ?_
  intro en w' h
  unfold LinesPost at h
  refine ⟨h.1, ?_⟩
  unfold lfOf errOf
  cases hp : playP l with
  | none => rw [hp] at h; exact ⟨none, 0, w.heap.size, Nat.le_refl _, h.2, World.ownsRow_nil _ _ _ _⟩
  | some tr => rw [hp] at h; exact h.2
theorem reflines_uni (w : World) (A : Option Addr) (cap : Nat) (l : List Ev) (hev : Evs w.heap.size w A l) (hl : l.length ≤ 2000) (hcap : l.length ≤ cap) :
    Calls Try.prog 15 #[.slice A l.length cap] w fun en w' => Fr No w w' ∧ ∃ A' c B, w.heap.size ≤ B ∧ en = .returned (.tuple #[.slice A' (lfOf l).length c, .int .i64 (errOf l)]) ∧ w'.ownsRow B 39 9 (.slice A' (lfOf l).length c) (lfOf l).length ((lfOf l).flatMap Lf.row) := by
  refine (refLines w A cap l hev hl hcap).mono ?_
  intro en w' h
  unfold LinesPostR at h
  refine ⟨h.1, ?_⟩
  unfold lfOf errOf
  cases hp : playP l with
  | none => rw [hp] at h; exact ⟨none, 0, w.heap.size, Nat.le_refl _, h.2, World.ownsRow_nil _ _ _ _⟩
  | some tr =>
    rw [hp] at h
    obtain ⟨A', c, h1, h2⟩ := h.2
    exact ⟨A', c, w.heap.size, Nat.le_refl _, h1, h2⟩

set_option maxRecDepth 100000 in
set_option maxHeartbeats 4000000 in
theorem lines_walk (A : Option Addr) (cap : Nat) (l : List Ev) (w : World) (hcap : l.length ≤ cap) (hl : l.length ≤ 9223372036854775807) (hev : Evs w.heap.size w A l) :
    Calls Try.prog 5 #[.slice A l.length cap] w fun e w' => e = .returned (.bool true) ∧ Fr No w w' := by
  have HE := Lib.hid hev
  clear hev
  by_cases hlong : 2000 < l.length
  · have hd : decide (2000 < l.length) = true := by simpa using hlong
    go_enter Try.func5, Try.ntmps5
    go_wp2_with fail
    refine (long_any w A l.length cap hl).mono ?_
    rintro e w1 ⟨rfl, rfl⟩
    rw [hd]
    go_wp2_with fail
    refine (awake_any w).mono ?_
    rintro e w2 ⟨rfl, hf⟩
    have HF := Lib.hid hf
    clear hf
    go_wp2_with fail
    go_ret
    exact ⟨rfl, HF.out⟩
  · have hd : decide (2000 < l.length) = false := by simpa using hlong
    have hle : l.length ≤ 2000 := by omega
    go_enter Try.func5, Try.ntmps5
    go_wp2_with fail
    refine (long_any w A l.length cap hl).mono ?_
    rintro e w1 ⟨rfl, rfl⟩
    rw [hd]
    go_wp2_with fail
    refine (lines_uni w A cap l HE.out hle hcap).mono ?_
    rintro e w1 ⟨hf1, A1, c1, B1, hB1, rfl, hr1⟩
    have HE1 := Lib.hid (HE.out.rebase hf1)
    have HF1 := Lib.hid hf1
    have HR1 := Lib.hid hr1
    clear hf1 hr1
    go_wp2_with fail
    refine (reflines_uni w1 A cap l HE1.out hle hcap).mono ?_
    rintro e w2 ⟨hf2, A2, c2, B2, hB2, rfl, hr2⟩
    have hr1 := row_stays HR1.out fun j hj => hf2.block j (HR1.out.lt j hj).2 (fun e => e.elim)
    have HROW1 := Lib.hid hr1
    have HROW2 := Lib.hid hr2
    have HF2 := Lib.hid hf2
    clear HR1 hr1 hr2 hf2
    have hlfs : (lfOf l).length ≤ 4000 := lfOf_len hle
    have he1 : (errOf l != errOf l) = false := by simp
    generalize errOf l = er at *
    generalize lfOf l = s at *
    go_wp2_with fail
    go_loopw [33, 7] (fun iv _ wr => ∃ k : Nat, iv = .int .i64 k ∧ k ≤ s.length ∧ Hid (Fr No w2 wr)) (fun iv _ _ => s.length - (intOf iv).toNat)
    case atStart => exact ⟨0, rfl, by omega, Fr.refl _ _⟩
    case round =>
      obtain ⟨k, rfl, hk, R1⟩ := hrel
      by_cases hlt : k < s.length
      · have hx : s[k]? = some (s[k]'hlt) := List.getElem?_eq_getElem _
        generalize (s[k]'hlt) = x at hx
        have q1 := row_stays HROW1.out fun j hj => R1.out.block j (HROW1.out.lt j hj).2 (fun e => e.elim)
        have q2 := row_stays HROW2.out fun j hj => R1.out.block j (HROW2.out.lt j hj).2 (fun e => e.elim)
        obtain ⟨g1, hA1, hc1, hg1⟩ := row_gflat line_len (by omega) q1 hx
        obtain ⟨g2, hA2, hc2, hg2⟩ := row_gflat row_len (by omega) q2 hx
        subst hA1 hA2
        have a0 := hc1 0 _ (by omega) rfl
        have a1 := hc1 1 _ (by omega) rfl
        have a2 := hc1 2 _ (by omega) rfl
        have a3 := hc1 3 _ (by omega) rfl
        have a4 := hc1 4 _ (by omega) rfl
        have a5 := hc1 5 _ (by omega) rfl
        have a6 := hc1 6 _ (by omega) rfl
        have d0 := hc2 0 _ (by omega) rfl
        have d1 := hc2 1 _ (by omega) rfl
        have d2 := hc2 2 _ (by omega) rfl
        have d3 := hc2 3 _ (by omega) rfl
        have d4 := hc2 4 _ (by omega) rfl
        have d5 := hc2 5 _ (by omega) rfl
        have d6 := hc2 6 _ (by omega) rfl
        have d7 := hc2 7 _ (by omega) rfl
        have d8 := hc2 8 _ (by omega) rfl
        simp only [Nat.add_zero] at a0 d0
        have HC := Lib.hid (same_line x)
        have hS : LineS g1 g2 k x wr.drew := ⟨a0, a1, a2, a3, a4, a5, a6, d0, d1, d2, d3, d4, d5, d6, d7, d8⟩
        clear hx hc1 hc2 q1 q2 a0 a1 a2 a3 a4 a5 a6 d0 d1 d2 d3 d4 d5 d6 d7 d8
        go_wp2_with fail
        refine region_mid (LineS g1 g2 k x) 8 10 (by kernel_rfl) (by kernel_rfl) hS ?_
        simp only [List.take_succ_cons, List.take_zero, List.drop_succ_cons, List.drop_zero]
        have HS := Lib.hid hS
        clear hS
        repeat
          refine wpHeld_want ?_ (by rfl) (fun W hW => ?_) ?_
          rotate_left
          · unfold LineS at hW
            go_simp
            try with_reducible rfl
          simp only [Act.put, List.setIfInBounds_toArray, List.set_cons_zero, List.set_cons_succ]
        refine wpHeld_nil ?_
        refine wpKeep_step rfl (fun K hK => ?_)
        go_simp
        refine (HC.out wr.drew).mono ?_
        rintro e w3 ⟨rfl, hf3⟩
        have hf3' : Fr No wr w3 := ((Fr.refl No wr).drew).trans hf3
        have hS3 := HS.out.fr hf3 hg1 hg2
        have HF3 := Lib.hid hf3'
        clear hf3 hf3'
        refine hK _ _ hS3 ?_
        clear hK K
        refine wpKeep_step rfl (fun K hK => ?_)
        go_simp
        refine hK _ _ hS3 ?_
        clear hK K hS3
        refine wpKeep_rest _ _ _ _ (by omega) ?_
        go_wp2_with fail
        refine NoPanic.normal ?_
        go_wp2_with fail
        go_roundw
        case rel => exact ⟨k + 1, by go_num, by omega, R1.out.trans HF3.out⟩
        case measure => simp [intOf]; omega
      · have hk2 : k = s.length := by omega
        go_wp2_with fail
        refine (awake_any wr).mono ?_
        rintro e w3 ⟨rfl, hf3⟩
        have HF3 := Lib.hid hf3
        clear hf3
        go_wp2_with fail
        go_ret
        exact ⟨rfl, ((HF1.out.trans HF2.out).trans R1.out).trans HF3.out⟩
namespace LinesRow
set_option maxRecDepth 100000 in
theorem lifted (os : Os) (started : os.Started) (H : Type) (enc : TypeId × Value → H) :
    ReturnsInHanded {} Try.checked os 5 .any (Rows.profileLinesSpec.pre6 enc Try.prog Try.f5 Rows.profileLinesRow.domain false) (Rows.profileLinesSpec.post enc Try.prog Try.f5 false true false false) := by
  refine returnsInHanded_of_change (C := Try.checked) own started (by kernel_rfl) Try.func5
    (ChangeSpec.witness6 (enc := enc) (C := Try.checked) false ⟨#[], #[.slice none 0 0], []⟩ 8 (by kernel_rfl) (by kernel_rfl) (by kernel_rfl) (by kernel_rfl)) ?_
  intro W base args ds gs before hval0 hW hcnd _
  have hval : ∀ (j : Nat) t v, Try.f5.params[j]? = some t → args[j]? = some v → Value.okWide Try.prog W .any base t v := hval0
  have hW' := hW
  obtain ⟨p, q, hA0, hV, rfl, hfz, hnd⟩ := hW
  have hA : DataW.TrodAll enc Try.prog W 0 (fun _ => true) true Try.f5.params.toList args.toList ds p := hA0
  rw [Try.params5] at hA hval
  obtain ⟨v0, vs0, d0, ds0, p0, q0, hargs, rfl, rfl, h0, r0⟩ := trodAll_cons hA
  obtain ⟨rfl, rfl, rfl⟩ := trodAll_nil r0
  obtain rfl : args = #[v0] := by cases args; simp_all
  obtain ⟨rfl, rfl⟩ := trodVars_none hV
  obtain ⟨a0, len0, cap0, rfl⟩ := okWide_slice Try.underlying22 (hval 0 22 v0 rfl rfl)
  have k0 := h0
  have lt0 : ∀ x ∈ p0, x.block < W.heap.size := by obtain ⟨m, hm⟩ := k0; exact DataW.trod_lt m _ _ _ hm
  obtain ⟨l, hl, hcap, hmax, hev⟩ : ∃ l : List Ev, len0 = l.length ∧ l.length ≤ cap0 ∧ len0 ≤ 9223372036854775807 ∧ Evs W.heap.size W a0 l := by
    obtain ⟨fuel, hf⟩ := h0
    exact open_evs hf
  subst hl
  clear hA0 hval0
  refine (lines_walk a0 cap0 l W hcap hmax hev).mono fun e W' ⟨he, hfr⟩ => ?_
  have bel : Below W.heap.size W W' := hfr.below (Nat.le_refl _) (fun _ h => h.elim)
  subst he
  exact ⟨_, rfl, _, _, _, [], _, [], hW', trodAll_mk1 (shut_bool Try.underlying4 _), (trodAll_cons_mk (Below.trod laidOut (by kernel_rfl) (of_decide_eq_true (by kernel_rfl)) k0 bel lt0) trodAll_mk0), rfl, bel.frame _, fun h => by cases h⟩

theorem over : Rows.profileLinesRow.holds Try.pinned (OpenSpec.ofChange Rows.profileLinesSpec) :=
  OpenClaim.holds_of_wide 5 Try.f5 rfl rfl rfl rfl rfl rfl rfl ⟨rfl, rfl, rfl, rfl, rfl⟩ rfl rfl rfl rfl rfl (by kernel_rfl) Try.func5 (by kernel_rfl)
    (of_decide_eq_true (by kernel_rfl)) (by unfold Func.isWrapper; first | (rw [if_pos (by decide +kernel)]; kernel_rfl) | (rw [if_neg (by decide +kernel)]; exact ⟨rfl, rfl⟩))
    (fun os started H enc _ => lifted os started H enc)
end LinesRow
theorem lines_holds : Rows.ProfileLinesSaid := LinesRow.over
#print axioms lines_holds
end Go.Proofs.Ytnloffjjlhhanaa
