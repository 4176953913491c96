/- The greatest number of pages, and the area: the statement ProfileMost, for every list of events, without any condition. -/
import Derived.Test.YtnloffjjlhhanaaRow
import Derived.Test.YtnloffjjlhhanaaAreas
set_option linter.unusedVariables false
set_option linter.unusedSimpArgs false
namespace Go.Proofs.Ytnloffjjlhhanaa
open Go.ChangeShapes Go.WideShapes Go.ChangeAt Go.RowKit

set_option maxRecDepth 100000 in
set_option maxHeartbeats 4000000 in
theorem most_walk (A : Option Addr) (cap : Nat) (l : List Ev) (w : World) (hcap : l.length ≤ cap) (hl : l.length ≤ 9223372036854775807) (hev : Evs w.heap.size w A l) :
    Calls Try.prog 6 #[.slice A l.length cap] w fun e w' => e = .returned (.bool true) ∧ Fr No w w' := by
  have HE := Lib.hid hev
  clear hev
  by_cases hlong : 2000 < l.length
  · have hd : decide (2000 < l.length) = true := by simpa using hlong
    go_enter Try.func6, Try.ntmps6
    go_wp2_with fail
    refine (long_any w A l.length cap hl).mono ?_
    rintro e w1 ⟨rfl, rfl⟩
    rw [hd]
    go_wp2_with fail
    refine (awake_any w).mono ?_
    rintro e w2 ⟨rfl, hf⟩
    have HF := Lib.hid hf
    clear hf
    go_wp2_with fail
    go_ret
    exact ⟨rfl, HF.out⟩
  · have hd : decide (2000 < l.length) = false := by simpa using hlong
    have hle : l.length ≤ 2000 := by omega
    obtain ⟨n, e, hmv⟩ : ∃ n e : Int, mostVal (playP l) = .tuple #[.int .i64 n, .int .i64 e] := by
      cases playP l with
      | none => exact ⟨_, _, rfl⟩
      | some tr => exact ⟨_, _, rfl⟩
    obtain ⟨n2, e2, hav⟩ : ∃ n e : Int, areaVal l = .tuple #[.int .i64 n, .int .i64 e] := by
      unfold areaVal
      cases playP l with
      | none => exact ⟨_, _, rfl⟩
      | some tr => exact ⟨_, _, rfl⟩
    have HMV := Lib.hid hmv
    have HAV := Lib.hid hav
    have b1 : (n == n) = true := by simp
    have b2 : (e == e) = true := by simp
    have b3 : (n2 == n2) = true := by simp
    have b4 : (e2 == e2) = true := by simp
    clear hmv hav
    go_enter Try.func6, Try.ntmps6
    go_wp2_with fail
    refine (long_any w A l.length cap hl).mono ?_
    rintro en w1 ⟨rfl, rfl⟩
    rw [hd]
    go_wp2_with fail
    refine (most_any w A cap l HE.out hle hcap).mono ?_
    rintro en w1 ⟨hf1, rfl⟩
    have HE1 := Lib.hid (HE.out.rebase hf1)
    have HF1 := Lib.hid hf1
    clear hf1
    rw [HMV.out]
    go_wp2_with fail
    refine (refMost w1 A cap l HE1.out hle hcap).mono ?_
    rintro en w2 ⟨hf2, rfl⟩
    have HE2 := Lib.hid (HE1.out.rebase hf2)
    have HF2 := Lib.hid (HF1.out.trans hf2)
    clear hf2 HF1
    rw [HMV.out]
    go_wp2_with fail
    refine (progArea w2 A cap l HE2.out hle hcap).mono ?_
    rintro en w3 ⟨hf3, rfl⟩
    have HE3 := Lib.hid (HE2.out.rebase hf3)
    have HF3 := Lib.hid (HF2.out.trans hf3)
    clear hf3 HF2
    rw [HAV.out]
    go_wp2_with fail
    refine (refArea w3 A cap l HE3.out hle hcap).mono ?_
    rintro en w4 ⟨hf4, rfl⟩
    have HF4 := Lib.hid (HF3.out.trans hf4)
    clear hf4 HF3
    rw [HAV.out]
    go_wp2_with fail
    refine (awake_any w4).mono ?_
    rintro en w5 ⟨rfl, hf5⟩
    have HF5 := Lib.hid (HF4.out.trans hf5)
    clear hf5 HF4
    go_wp2_with fail
    go_ret
    exact ⟨rfl, HF5.out⟩

namespace MostRow
set_option maxRecDepth 100000 in
theorem lifted (os : Os) (started : os.Started) (H : Type) (enc : TypeId × Value → H) :
    ReturnsInHanded {} Try.checked os 6 .any (Rows.profileMostSpec.pre6 enc Try.prog Try.f6 Rows.profileMostRow.domain false) (Rows.profileMostSpec.post enc Try.prog Try.f6 false true false false) := by
  refine returnsInHanded_of_change (C := Try.checked) own started (by kernel_rfl) Try.func6
    (ChangeSpec.witness6 (enc := enc) (C := Try.checked) false ⟨#[], #[.slice none 0 0], []⟩ 8 (by kernel_rfl) (by kernel_rfl) (by kernel_rfl) (by kernel_rfl)) ?_
  intro W base args ds gs before hval0 hW hcnd _
  have hval : ∀ (j : Nat) t v, Try.f6.params[j]? = some t → args[j]? = some v → Value.okWide Try.prog W .any base t v := hval0
  have hW' := hW
  obtain ⟨p, q, hA0, hV, rfl, hfz, hnd⟩ := hW
  have hA : DataW.TrodAll enc Try.prog W 0 (fun _ => true) true Try.f6.params.toList args.toList ds p := hA0
  rw [Try.params6] at hA hval
  obtain ⟨v0, vs0, d0, ds0, p0, q0, hargs, rfl, rfl, h0, r0⟩ := trodAll_cons hA
  obtain ⟨rfl, rfl, rfl⟩ := trodAll_nil r0
  obtain rfl : args = #[v0] := by cases args; simp_all
  obtain ⟨rfl, rfl⟩ := trodVars_none hV
  obtain ⟨a0, len0, cap0, rfl⟩ := okWide_slice Try.underlying22 (hval 0 22 v0 rfl rfl)
  have k0 := h0
  have lt0 : ∀ x ∈ p0, x.block < W.heap.size := by obtain ⟨m, hm⟩ := k0; exact DataW.trod_lt m _ _ _ hm
  obtain ⟨l, hl, hcap, hmax, hev⟩ : ∃ l : List Ev, len0 = l.length ∧ l.length ≤ cap0 ∧ len0 ≤ 9223372036854775807 ∧ Evs W.heap.size W a0 l := by
    obtain ⟨fuel, hf⟩ := h0
    exact open_evs hf
  subst hl
  clear hA0 hval0
  refine (most_walk a0 cap0 l W hcap hmax hev).mono fun e W' ⟨he, hfr⟩ => ?_
  have bel : Below W.heap.size W W' := hfr.below (Nat.le_refl _) (fun _ h => h.elim)
  subst he
  exact ⟨_, rfl, _, _, _, [], _, [], hW', trodAll_mk1 (shut_bool Try.underlying4 _), (trodAll_cons_mk (Below.trod laidOut (by kernel_rfl) (of_decide_eq_true (by kernel_rfl)) k0 bel lt0) trodAll_mk0), rfl, bel.frame _, fun h => by cases h⟩

theorem over : Rows.profileMostRow.holds Try.pinned (OpenSpec.ofChange Rows.profileMostSpec) :=
  OpenClaim.holds_of_wide 6 Try.f6 rfl rfl rfl rfl rfl rfl rfl ⟨rfl, rfl, rfl, rfl, rfl⟩ rfl rfl rfl rfl rfl (by kernel_rfl) Try.func6 (by kernel_rfl)
    (of_decide_eq_true (by kernel_rfl)) (by unfold Func.isWrapper; first | (rw [if_pos (by decide +kernel)]; kernel_rfl) | (rw [if_neg (by decide +kernel)]; exact ⟨rfl, rfl⟩))
    (fun os started H enc _ => lifted os started H enc)
end MostRow
theorem most_holds : Rows.ProfileMostSaid := MostRow.over
#print axioms most_holds
end Go.Proofs.Ytnloffjjlhhanaa
