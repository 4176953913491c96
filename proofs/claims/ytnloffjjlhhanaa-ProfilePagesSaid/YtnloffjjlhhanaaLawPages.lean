/- How many pages are in use behind a step, and which lives are open: the statement ProfilePages, for every list of events and every number, without any condition. -/
import Derived.Test.YtnloffjjlhhanaaRow
import Derived.Test.YtnloffjjlhhanaaPagesR
set_option linter.unusedVariables false
set_option linter.unusedSimpArgs false
namespace Go.Proofs.Ytnloffjjlhhanaa
open Go.ChangeShapes Go.WideShapes Go.ChangeAt Go.RowKit

set_option maxRecDepth 100000 in
set_option maxHeartbeats 4000000 in
theorem pages_walk (A : Option Addr) (cap : Nat) (l : List Ev) (s : Int) (w : World) (hcap : l.length ≤ cap) (hl : l.length ≤ 9223372036854775807) (hev : Evs w.heap.size w A l) :
    Calls Try.prog 8 #[.slice A l.length cap, .int .i64 s] w fun e w' => e = .returned (.bool true) ∧ Fr No w w' := by
  have HE := Lib.hid hev
  clear hev
  by_cases hlong : 2000 < l.length
  · have hd : decide (2000 < l.length) = true := by simpa using hlong
    go_enter Try.func8, Try.ntmps8
    go_wp2_with fail
    refine (long_any w A l.length cap hl).mono ?_
    rintro e w1 ⟨rfl, rfl⟩
    rw [hd]
    go_wp2_with fail
    refine (awake_any w).mono ?_
    rintro e w2 ⟨rfl, hf⟩
    have HF := Lib.hid hf
    clear hf
    go_wp2_with fail
    go_ret
    exact ⟨rfl, HF.out⟩
  · have hd : decide (2000 < l.length) = false := by simpa using hlong
    have hle : l.length ≤ 2000 := by omega
    have b1 : (pgsE l s == pgsE l s) = true := by simp
    have b2 : (pgsN l s == pgsN l s) = true := by simp
    go_enter Try.func8, Try.ntmps8
    go_wp2_with fail
    refine (long_any w A l.length cap hl).mono ?_
    rintro en w1 ⟨rfl, rfl⟩
    rw [hd]
    go_wp2_with fail
    refine (progPages w A cap l s HE.out hle hcap).mono ?_
    rintro en w1 ⟨hf1, rfl⟩
    have HE1 := Lib.hid (HE.out.rebase hf1)
    have HF1 := Lib.hid hf1
    clear hf1
    go_wp2_with fail
    refine (refPages w1 A cap l s HE1.out hle hcap).mono ?_
    rintro en w2 ⟨hf2, rfl⟩
    have HE2 := Lib.hid (HE1.out.rebase hf2)
    have HF2 := Lib.hid (HF1.out.trans hf2)
    clear hf2 HF1 HE1
    go_wp2_with fail
    refine (progOpen w2 A cap l s HE2.out hle hcap).mono ?_
    rintro en w3 ⟨hf3, A1, c1, B1, rfl, hr1, hlen⟩
    have HE3 := Lib.hid (HE2.out.rebase hf3)
    have HF3 := Lib.hid (HF2.out.trans hf3)
    have HR1 := Lib.hid hr1
    clear hf3 hr1 HF2 HE2
    go_wp2_with fail
    refine (refOpen w3 A cap l s HE3.out hle hcap).mono ?_
    rintro en w4 ⟨hf4, A2, c2, B2, rfl, hr2, -⟩
    have hr1 := row_stays HR1.out fun q hq => hf4.block q (HR1.out.lt q hq).2 (fun e => e.elim)
    have HF4 := Lib.hid (HF3.out.trans hf4)
    have HS := Lib.hid (same_ints B1 B2 w4 A1 A2 c1 c2 (opnN l s) (by omega) hr1 hr2)
    clear hf4 HF3 hr1 hr2 HR1 HE3
    go_wp2_with fail
    refine HS.out.mono ?_
    rintro en w5 ⟨rfl, hf5⟩
    have HF5 := Lib.hid (HF4.out.trans hf5)
    clear hf5 HF4
    go_wp2_with fail
    refine (awake_any w5).mono ?_
    rintro en w6 ⟨rfl, hf6⟩
    have HF6 := Lib.hid (HF5.out.trans hf6)
    clear hf6 HF5
    go_wp2_with fail
    go_ret
    exact ⟨rfl, HF6.out⟩

namespace PagesRow
set_option maxRecDepth 100000 in
theorem lifted (os : Os) (started : os.Started) (H : Type) (enc : TypeId × Value → H) :
    ReturnsInHanded {} Try.checked os 8 .any (Rows.profilePagesSpec.pre6 enc Try.prog Try.f8 Rows.profilePagesRow.domain false) (Rows.profilePagesSpec.post enc Try.prog Try.f8 false true false false) := by
  refine returnsInHanded_of_change (C := Try.checked) own started (by kernel_rfl) Try.func8
    (ChangeSpec.witness6 (enc := enc) (C := Try.checked) false ⟨#[], #[.slice none 0 0, .int .i64 0], []⟩ 8 (by kernel_rfl) (by kernel_rfl) (by kernel_rfl) (by kernel_rfl)) ?_
  intro W base args ds gs before hval0 hW hcnd _
  have hval : ∀ (j : Nat) t v, Try.f8.params[j]? = some t → args[j]? = some v → Value.okWide Try.prog W .any base t v := hval0
  have hW' := hW
  obtain ⟨p, q, hA0, hV, rfl, hfz, hnd⟩ := hW
  have hA : DataW.TrodAll enc Try.prog W 0 (fun _ => true) true Try.f8.params.toList args.toList ds p := hA0
  rw [Try.params8] at hA hval
  obtain ⟨v0, vs0, d0, ds0, p0, q0, hargs, rfl, rfl, h0, r0⟩ := trodAll_cons hA
  obtain ⟨v1, vs1, d1, ds1, p1, q1, rfl, rfl, rfl, h1, r1⟩ := trodAll_cons r0
  obtain ⟨rfl, rfl, rfl⟩ := trodAll_nil r1
  obtain rfl : args = #[v0, v1] := by cases args; simp_all
  obtain ⟨rfl, rfl⟩ := trodVars_none hV
  obtain ⟨a0, len0, cap0, rfl⟩ := okWide_slice Try.underlying22 (hval 0 22 v0 rfl rfl)
  have k0 := h0
  have lt0 : ∀ x ∈ p0, x.block < W.heap.size := by obtain ⟨m, hm⟩ := k0; exact DataW.trod_lt m _ _ _ hm
  obtain ⟨l, hl, hcap, hmax, hev⟩ : ∃ l : List Ev, len0 = l.length ∧ l.length ≤ cap0 ∧ len0 ≤ 9223372036854775807 ∧ Evs W.heap.size W a0 l := by
    obtain ⟨fuel, hf⟩ := h0
    exact open_evs hf
  subst hl
  obtain ⟨a1, rfl, rfl, rfl, w1⟩ := open_int Try.underlying3 (hval 1 3 v1 rfl rfl) h1
  clear hA0 hval0
  refine (pages_walk a0 cap0 l a1 W hcap hmax hev).mono fun e W' ⟨he, hfr⟩ => ?_
  have bel : Below W.heap.size W W' := hfr.below (Nat.le_refl _) (fun _ h => h.elim)
  subst he
  exact ⟨_, rfl, _, _, _, [], _, [], hW', trodAll_mk1 (shut_bool Try.underlying4 _), (trodAll_cons_mk (Below.trod laidOut (by kernel_rfl) (of_decide_eq_true (by kernel_rfl)) k0 bel lt0) (trodAll_cons_mk (shut_int Try.underlying3 w1) trodAll_mk0)), rfl, bel.frame _, fun h => by cases h⟩

theorem over : Rows.profilePagesRow.holds Try.pinned (OpenSpec.ofChange Rows.profilePagesSpec) :=
  OpenClaim.holds_of_wide 8 Try.f8 rfl rfl rfl rfl rfl rfl rfl ⟨rfl, rfl, rfl, rfl, rfl⟩ rfl rfl rfl rfl rfl (by kernel_rfl) Try.func8 (by kernel_rfl)
    (of_decide_eq_true (by kernel_rfl)) (by unfold Func.isWrapper; first | (rw [if_pos (by decide +kernel)]; kernel_rfl) | (rw [if_neg (by decide +kernel)]; exact ⟨rfl, rfl⟩))
    (fun os started H enc _ => lifted os started H enc)
end PagesRow
theorem pages_holds : Rows.ProfilePagesSaid := PagesRow.over
#print axioms pages_holds
end Go.Proofs.Ytnloffjjlhhanaa
