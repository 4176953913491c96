/- Each beginning of right events that ends nowhere within is right: the statement ProfileBegins, for every list of events and every number, without any condition. -/
import Derived.Test.YtnloffjjlhhanaaRow
import Derived.Test.YtnloffjjlhhanaaBeginsP
namespace Go.Proofs.Ytnloffjjlhhanaa
open Go.ChangeShapes Go.WideShapes Go.ChangeAt Go.RowKit

theorem Evs.take {B : Nat} {w : World} {A : Option Addr} {l : List Ev} (h : Evs B w A l) (n : Nat) : Evs B w A (l.take n) := fun i e he => by
  rw [List.getElem?_take] at he
  split at he
  · exact h i e he
  · cases he
theorem Evs.at_base {B : Nat} {w w' : World} {A : Option Addr} {l : List Ev} (h : Evs B w A l) (hf : Fr No w w') : Evs w'.heap.size w' A l := fun i e he => by
  obtain ⟨b, off, hA, -, hbl, h4⟩ := h.fr0 hf i e he
  exact ⟨b, off, hA, hbl, hbl, h4⟩

set_option maxRecDepth 100000 in
set_option maxHeartbeats 4000000 in
theorem begins_walk (A : Option Addr) (cap : Nat) (l : List Ev) (n : Int) (w : World) (hcap : l.length ≤ cap) (hl : l.length ≤ 9223372036854775807) (hev : Evs w.heap.size w A l) :
    Calls Try.prog 4 #[.slice A l.length cap, .int .i64 n] w fun e w' => e = .returned (.bool true) ∧ Fr No w w' := by
  have HE := Lib.hid hev
  clear hev
  by_cases hlong : 2000 < l.length
  · have hd : decide (2000 < l.length) = true := by simpa using hlong
    go_enter Try.func4, Try.ntmps4
    go_wp2_with fail
    refine (long_any w A l.length cap hl).mono ?_
    rintro e w1 ⟨rfl, rfl⟩
    rw [hd]
    go_wp2_with fail
    refine (awake_any w).mono ?_
    rintro e w2 ⟨rfl, hf⟩
    have HF := Lib.hid hf
    clear hf
    go_wp2_with fail
    go_ret
    exact ⟨rfl, HF.out⟩
  · have hd : decide (2000 < l.length) = false := by simpa using hlong
    have hle : l.length ≤ 2000 := by omega
    go_enter Try.func4, Try.ntmps4
    go_wp2_with fail
    refine (long_any w A l.length cap hl).mono ?_
    rintro e w1 ⟨rfl, rfl⟩
    rw [hd]
    go_wp2_with fail
    refine (right_any w A cap l HE.out hle hcap).mono ?_
    rintro e w1 ⟨hf1, rfl⟩
    have HF1 := Lib.hid hf1
    clear hf1
    cases hpl : (playP l).isSome with
    | false =>
      clear hpl
      go_wp2_with fail
      refine (awake_any w1).mono ?_
      rintro e w2 ⟨rfl, hf⟩
      have HF := Lib.hid hf
      clear hf
      go_wp2_with fail
      go_ret
      exact ⟨rfl, HF1.out.trans HF.out⟩
    | true =>
      have HPL := Lib.hid hpl
      clear hpl
      by_cases h0 : n < 0
      · go_wp2_with fail
        refine (awake_any w1).mono ?_
        rintro e w2 ⟨rfl, hf⟩
        have HF := Lib.hid hf
        clear hf
        go_wp2_with fail
        go_ret
        exact ⟨rfl, HF1.out.trans HF.out⟩
      · by_cases h1 : (l.length : Int) < n
        · go_wp2_with fail
          refine (awake_any w1).mono ?_
          rintro e w2 ⟨rfl, hf⟩
          have HF := Lib.hid hf
          clear hf
          go_wp2_with fail
          go_ret
          exact ⟨rfl, HF1.out.trans HF.out⟩
        · obtain ⟨k, rfl⟩ : ∃ k : Nat, n = k := ⟨n.toNat, by omega⟩
          have hkl : k ≤ l.length := by omega
          have hE1 := HE.out.at_base HF1.out
          have HE1 := Lib.hid hE1
          clear hE1 h0 h1
          have right2 : withinP l k = false → Calls Try.prog 11 #[.slice A k cap] w1 fun e w' => Fr No w1 w' ∧ e = .returned (.bool true) := by
            intro hw
            have hlk : (l.take k).length = k := by simp; omega
            have := right_any w1 A cap (l.take k) (HE1.out.take k) (by omega) (by omega)
            rw [hlk, playP_take l k HPL.out hkl hw] at this
            exact this
          have HR := Lib.hid right2
          clear right2
          by_cases hk : k < l.length
          · have hx : l[k]? = some (l[k]'hk) := List.getElem?_eq_getElem _
            generalize (l[k]'hk) = e at hx
            obtain ⟨b, off, rfl, -, hbl, -, -, -, x3⟩ := HE1.out k e hx
            cases ha : (e.act.toList == [108, 101, 102, 116]) with
            | true =>
              have HA := Lib.hid ha
              go_wp2_with fail
              refine (awake_any w1).mono ?_
              rintro e w2 ⟨rfl, hf⟩
              have HF := Lib.hid hf
              clear hf
              go_wp2_with fail
              go_ret
              exact ⟨rfl, HF1.out.trans HF.out⟩
            | false =>
              cases k with
              | zero =>
                have HW : Hid (withinP l 0 = false) := by
                  have : isLeft e = false := ha
                  unfold Hid withinP; rw [hx]; simp [this]
                clear hx
                simp only [Nat.zero_mul, Nat.add_zero] at x3
                go_wp2_with fail
                refine (HR.out HW.out).mono ?_
                rintro e w2 ⟨hf2, rfl⟩
                have HF2 := Lib.hid hf2
                clear hf2
                go_wp2_with fail
                refine (awake_any w2).mono ?_
                rintro e w3 ⟨rfl, hf⟩
                have HF := Lib.hid hf
                clear hf
                go_wp2_with fail
                go_ret
                exact ⟨rfl, (HF1.out.trans HF2.out).trans HF.out⟩
              | succ k =>
                have hy : l[k]? = some (l[k]'(by omega)) := List.getElem?_eq_getElem _
                generalize (l[k]'(by omega)) = p at hy
                obtain ⟨b', off', hbb, -, -, -, -, -, y3⟩ := HE1.out k p hy
                simp only [Option.some.injEq, Addr.mk.injEq, and_true] at hbb
                obtain ⟨rfl, rfl⟩ := hbb
                cases hr : (p.act.toList == [114, 101, 115, 101, 116]) with
                | true =>
                  clear hx hy
                  go_wp2_with fail
                  refine (awake_any w1).mono ?_
                  rintro e w2 ⟨rfl, hf⟩
                  have HF := Lib.hid hf
                  clear hf
                  go_wp2_with fail
                  go_ret
                  exact ⟨rfl, HF1.out.trans HF.out⟩
                | false =>
                  have HW : Hid (withinP l (k + 1) = false) := by
                    have h1 : isLeft e = false := ha
                    have h2 : isReset p = false := hr
                    unfold Hid withinP; rw [hx]; simp [h1, h2, hy]
                  clear hx hy
                  go_wp2_with fail
                  refine (HR.out HW.out).mono ?_
                  rintro e w2 ⟨hf2, rfl⟩
                  have HF2 := Lib.hid hf2
                  clear hf2
                  go_wp2_with fail
                  refine (awake_any w2).mono ?_
                  rintro e w3 ⟨rfl, hf⟩
                  have HF := Lib.hid hf
                  clear hf
                  go_wp2_with fail
                  go_ret
                  exact ⟨rfl, (HF1.out.trans HF2.out).trans HF.out⟩
          · have HW : Hid (withinP l k = false) := by
              unfold Hid withinP; rw [List.getElem?_eq_none (by omega)]
            go_wp2_with fail
            refine (HR.out HW.out).mono ?_
            rintro e w2 ⟨hf2, rfl⟩
            have HF2 := Lib.hid hf2
            clear hf2
            go_wp2_with fail
            refine (awake_any w2).mono ?_
            rintro e w3 ⟨rfl, hf⟩
            have HF := Lib.hid hf
            clear hf
            go_wp2_with fail
            go_ret
            exact ⟨rfl, (HF1.out.trans HF2.out).trans HF.out⟩

namespace BeginsRow
set_option maxRecDepth 100000 in
theorem lifted (os : Os) (started : os.Started) (H : Type) (enc : TypeId × Value → H) :
    ReturnsInHanded {} Try.checked os 4 .any (Rows.profileBeginsSpec.pre6 enc Try.prog Try.f4 Rows.profileBeginsRow.domain false) (Rows.profileBeginsSpec.post enc Try.prog Try.f4 false true false false) := by
  refine returnsInHanded_of_change (C := Try.checked) own started (by kernel_rfl) Try.func4
    (ChangeSpec.witness6 (enc := enc) (C := Try.checked) false ⟨#[], #[.slice none 0 0, .int .i64 0], []⟩ 8 (by kernel_rfl) (by kernel_rfl) (by kernel_rfl) (by kernel_rfl)) ?_
  intro W base args ds gs before hval0 hW hcnd _
  have hval : ∀ (j : Nat) t v, Try.f4.params[j]? = some t → args[j]? = some v → Value.okWide Try.prog W .any base t v := hval0
  have hW' := hW
  obtain ⟨p, q, hA0, hV, rfl, hfz, hnd⟩ := hW
  have hA : DataW.TrodAll enc Try.prog W 0 (fun _ => true) true Try.f4.params.toList args.toList ds p := hA0
  rw [Try.params4] at hA hval
  obtain ⟨v0, vs0, d0, ds0, p0, q0, hargs, rfl, rfl, h0, r0⟩ := trodAll_cons hA
  obtain ⟨v1, vs1, d1, ds1, p1, q1, rfl, rfl, rfl, h1, r1⟩ := trodAll_cons r0
  obtain ⟨rfl, rfl, rfl⟩ := trodAll_nil r1
  obtain rfl : args = #[v0, v1] := by cases args; simp_all
  obtain ⟨rfl, rfl⟩ := trodVars_none hV
  obtain ⟨a0, len0, cap0, rfl⟩ := okWide_slice Try.underlying22 (hval 0 22 v0 rfl rfl)
  have k0 := h0
  have lt0 : ∀ x ∈ p0, x.block < W.heap.size := by obtain ⟨m, hm⟩ := k0; exact DataW.trod_lt m _ _ _ hm
  obtain ⟨l, hl, hcap, hmax, hev⟩ : ∃ l : List Ev, len0 = l.length ∧ l.length ≤ cap0 ∧ len0 ≤ 9223372036854775807 ∧ Evs W.heap.size W a0 l := by
    obtain ⟨fuel, hf⟩ := h0
    exact open_evs hf
  subst hl
  obtain ⟨a1, rfl, rfl, rfl, w1⟩ := open_int Try.underlying3 (hval 1 3 v1 rfl rfl) h1
  clear hA0 hval0
  refine (begins_walk a0 cap0 l a1 W hcap hmax hev).mono fun e W' ⟨he, hfr⟩ => ?_
  have bel : Below W.heap.size W W' := hfr.below (Nat.le_refl _) (fun _ h => h.elim)
  subst he
  exact ⟨_, rfl, _, _, _, [], _, [], hW', trodAll_mk1 (shut_bool Try.underlying4 _), (trodAll_cons_mk (Below.trod laidOut (by kernel_rfl) (of_decide_eq_true (by kernel_rfl)) k0 bel lt0) (trodAll_cons_mk (shut_int Try.underlying3 w1) trodAll_mk0)), rfl, bel.frame _, fun h => by cases h⟩

theorem over : Rows.profileBeginsRow.holds Try.pinned (OpenSpec.ofChange Rows.profileBeginsSpec) :=
  OpenClaim.holds_of_wide 4 Try.f4 rfl rfl rfl rfl rfl rfl rfl ⟨rfl, rfl, rfl, rfl, rfl⟩ rfl rfl rfl rfl rfl (by kernel_rfl) Try.func4 (by kernel_rfl)
    (of_decide_eq_true (by kernel_rfl)) (by unfold Func.isWrapper; first | (rw [if_pos (by decide +kernel)]; kernel_rfl) | (rw [if_neg (by decide +kernel)]; exact ⟨rfl, rfl⟩))
    (fun os started H enc _ => lifted os started H enc)
end BeginsRow
theorem begins_holds : Rows.ProfileBeginsSaid := BeginsRow.over
#print axioms begins_holds
end Go.Proofs.Ytnloffjjlhhanaa
