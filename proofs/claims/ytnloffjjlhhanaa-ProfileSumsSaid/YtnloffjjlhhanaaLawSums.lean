/- The words of all lifelines are those of all stores, and pages are those of the lives that are open: the statement ProfileSums, for every list of events, without any condition. -/
import Derived.Test.YtnloffjjlhhanaaRow
import Derived.Test.YtnloffjjlhhanaaSums
set_option linter.unusedVariables false
set_option linter.unusedSimpArgs false
namespace Go.Proofs.Ytnloffjjlhhanaa
open Go.ChangeShapes Go.WideShapes Go.ChangeAt Go.RowKit

theorem final_bd2 {l : List Ev} {tr : List (St × Int)} (hl : l.length ≤ 2000) (h : playP l = some tr) : Bd l.length (finalOf tr) := by
  obtain ⟨r, s, hfin⟩ := (play_good hl h).fin
  have h2 := adds_ok l 0 Tr.init _ Tr.init_ok hfin
  rw [lastSt_final, Nat.zero_add] at h2
  exact h2.bd

set_option maxRecDepth 100000 in
set_option maxHeartbeats 4000000 in
theorem sums_walk (A : Option Addr) (cap : Nat) (l : List Ev) (w : World) (hcap : l.length ≤ cap) (hl : l.length ≤ 9223372036854775807) (hev : Evs w.heap.size w A l) :
    Calls Try.prog 9 #[.slice A l.length cap] w fun e w' => e = .returned (.bool true) ∧ Fr No w w' := by
  have HE := Lib.hid hev
  clear hev
  by_cases hlong : 2000 < l.length
  · have hd : decide (2000 < l.length) = true := by simpa using hlong
    go_enter Try.func9, Try.ntmps9
    go_wp2_with fail
    refine (long_any w A l.length cap hl).mono ?_
    rintro e w1 ⟨rfl, rfl⟩
    rw [hd]
    go_wp2_with fail
    refine (awake_any w).mono ?_
    rintro e w2 ⟨rfl, hf⟩
    have HF := Lib.hid hf
    clear hf
    go_wp2_with fail
    go_ret
    exact ⟨rfl, HF.out⟩
  · have hd : decide (2000 < l.length) = false := by simpa using hlong
    have hle : l.length ≤ 2000 := by omega
    go_enter Try.func9, Try.ntmps9
    go_wp2_with fail
    refine (long_any w A l.length cap hl).mono ?_
    rintro en w1 ⟨rfl, rfl⟩
    rw [hd]
    go_wp2_with fail
    refine (right_any w A cap l HE.out hle hcap).mono ?_
    rintro en w1 ⟨hf1, rfl⟩
    have HE1 := Lib.hid (HE.out.rebase hf1)
    have HF1 := Lib.hid hf1
    clear hf1
    cases hpl : playP l with
    | none =>
      simp only [Option.isSome_none]
      clear hpl
      go_wp2_with fail
      refine (awake_any w1).mono ?_
      rintro en w2 ⟨rfl, hf⟩
      have HF := Lib.hid (HF1.out.trans hf)
      clear hf
      go_wp2_with fail
      go_ret
      exact ⟨rfl, HF.out⟩
    | some tr =>
      simp only [Option.isSome_some]
      have HPL := Lib.hid hpl
      clear hpl
      have hbd := final_bd2 hle HPL.out
      have hsum := sums_same hle HPL.out
      have HNM := Lib.hid (now_most hle HPL.out 20000)
      have HSW := Lib.hid (fun e he => store_words hle HPL.out (e := e) he)
      go_wp2_with fail
      refine (lines_any w1 A cap l HE1.out hle hcap).mono ?_
      intro en w2 hp
      unfold LinesPost at hp
      rw [HPL.out] at hp
      obtain ⟨hf2, A1, c1, B1, -, rfl, hrow⟩ := hp
      have HE2 := Lib.hid (HE1.out.rebase hf2)
      have HF2 := Lib.hid (HF1.out.trans hf2)
      have HROW := Lib.hid hrow
      unfold tot at hsum
      have HSUM := Lib.hid hsum
      have HB := Lib.hid hbd.lives
      have hlf := hbd.lf
      have HBW : Hid (∀ x ∈ (finalOf tr).lf, 0 ≤ x.wds ∧ x.wds ≤ (100000 : Nat)) := fun x hx => by have := HB.out x hx; omega
      have HBO : Hid (∀ x ∈ (finalOf tr).lf, 0 ≤ x.objs ∧ x.objs ≤ (100000 : Nat)) := fun x hx => by have := HB.out x hx; omega
      generalize (finalOf tr).lf = lf at *
      clear hf2 hrow hsum hbd HB
      go_wp2_with fail
      go_loopw [5, 6, 31, 8] (fun wv ov iv _ wr => ∃ k : Nat, wv = .int .i64 (0 - sumT Lf.wds lf k) ∧ ov = .int .i64 (0 - sumT Lf.objs lf k) ∧ iv = .int .i64 k ∧ k ≤ lf.length ∧ Hid (Fr No w2 wr)) (fun _ _ iv _ _ => lf.length - (intOf iv).toNat)
      case atStart => exact ⟨0, by simp [sumT], by simp [sumT], rfl, by omega, Fr.refl _ _⟩
      case round =>
        obtain ⟨k, rfl, rfl, rfl, hk, R1⟩ := hrel
        have b1 := sumT_bd HBW.out k
        have b2 := sumT_bd HBO.out k
        by_cases hlt : k < lf.length
        · have hx : lf[k]? = some (lf[k]'hlt) := List.getElem?_eq_getElem _
          generalize (lf[k]'hlt) = x at hx
          have q1 := row_stays HROW.out fun j hj => R1.out.block j (HROW.out.lt j hj).2 (fun e => e.elim)
          obtain ⟨g1, hA1, hc1, hg1⟩ := row_gflat line_len (by omega) q1 hx
          subst hA1
          have a0 := hc1 0 _ (by omega) rfl
          have a1 := hc1 1 _ (by omega) rfl
          have a2 := hc1 2 _ (by omega) rfl
          have a3 := hc1 3 _ (by omega) rfl
          have a4 := hc1 4 _ (by omega) rfl
          have a5 := hc1 5 _ (by omega) rfl
          have a6 := hc1 6 _ (by omega) rfl
          simp only [Nat.add_zero] at a0
          have HS1 := Lib.hid (sumT_succ (f := Lf.wds) hx)
          have HS2 := Lib.hid (sumT_succ (f := Lf.objs) hx)
          have c1 := HBW.out x (List.mem_of_getElem? hx)
          have c2 := HBO.out x (List.mem_of_getElem? hx)
          clear hx hc1 q1
          go_wp2_with fail
          go_roundw
          case rel => exact ⟨k + 1, by rw [HS1.out]; congr 1; omega, by rw [HS2.out]; congr 1; omega, by go_num, by omega, R1.out.alloc _⟩
          case measure => simp [intOf]; omega
        · have hk2 : k = lf.length := by omega
          rw [hk2] at b1 b2
          have hWT : sumT Lf.wds lf lf.length = (l.map stW).sum := by rw [sumT_all]; exact HSUM.out.1
          have hOT : sumT Lf.objs lf lf.length = (l.map stO).sum := by rw [sumT_all]; exact HSUM.out.2
          have HR : Hid (Fr No w wr) := HF2.out.trans R1.out
          have HEr := Lib.hid (HE2.out.rebase R1.out)
          rw [hk2, hWT, hOT]
          rw [hWT] at b1
          rw [hOT] at b2
          generalize hTW : (l.map stW).sum = TW at *
          generalize hTO : (l.map stO).sum = TO at *
          have HTW := Lib.hid hTW
          have HTO := Lib.hid hTO
          clear hk2 hWT hOT hTW hTO hlt hk
          go_wp2_with fail
          go_loopw [5, 6, 46, 10, 53, 54, 55, 56, 57, 58] (fun wv ov iv _ _ _ _ _ _ _ wx => ∃ k : Nat, wv = .int .i64 (sumT stW l k - TW) ∧ ov = .int .i64 (sumT stO l k - TO) ∧ iv = .int .i64 k ∧ k ≤ l.length ∧ Hid (Fr No wr wx)) (fun _ _ iv _ _ _ _ _ _ _ _ => l.length - (intOf iv).toNat)
          case atStart => exact ⟨0, by simp [sumT], by simp [sumT], rfl, by omega, Fr.refl _ _⟩
          case round =>
            obtain ⟨k, rfl, rfl, rfl, hk, R2⟩ := hrel
            have d1 := sumT_bd (f := stW) (xs := l) (c := 32) (fun e he => HSW.out e he) k
            have d2 := sumT_bd (f := stO) (xs := l) (c := 1) (fun e he => by unfold stO; split <;> omega) k
            by_cases hlt : k < l.length
            · have hx : l[k]? = some (l[k]'hlt) := List.getElem?_eq_getElem _
              generalize (l[k]'hlt) = e at hx
              obtain ⟨b, off, rfl, hbB, hbl, e0, e1, e2, e3⟩ := (HEr.out.fr0 R2.out) k e hx
              have HS1 := Lib.hid (sumT_succ (f := stW) hx)
              have HS2 := Lib.hid (sumT_succ (f := stO) hx)
              have c1 := HSW.out e (List.mem_of_getElem? hx)
              cases hs : (e.act.toList == [115, 116, 111, 114, 101])
              · have hw1 : Hid (stW e = 0) := by unfold Hid stW isStore; rw [hs]; rfl
                have hw2 : Hid (stO e = 0) := by unfold Hid stO isStore; rw [hs]; rfl
                clear hx
                go_wp2_with fail
                go_roundw
                case rel => exact ⟨k + 1, by rw [HS1.out, hw1.out]; congr 1; omega, by rw [HS2.out, hw2.out]; congr 1; omega, by go_num, by omega, R2.out.alloc _⟩
                case measure => simp [intOf]; omega
              · have hw1' : stW e = e.words := by unfold stW isStore; rw [hs]; rfl
                have hw1 := Lib.hid hw1'
                have hw2 : Hid (stO e = 1) := by unfold Hid stO isStore; rw [hs]; rfl
                rw [hw1'] at c1
                clear hx hw1'
                go_wp2_with fail
                go_roundw
                case rel => exact ⟨k + 1, by rw [HS1.out, hw1.out]; congr 1; omega, by rw [HS2.out, hw2.out]; congr 1; omega, by go_num, by omega, R2.out.alloc _⟩
                case measure => simp [intOf]; omega
            · have hk2 : k = l.length := by omega
              have hz1 : sumT stW l k - TW = 0 := by rw [hk2, sumT_all, HTW.out]; omega
              have hz2 : sumT stO l k - TO = 0 := by rw [hk2, sumT_all, HTO.out]; omega
              have HEx := Lib.hid (HEr.out.rebase R2.out)
              have HFx := Lib.hid (HR.out.trans R2.out)
              rw [hz1, hz2]
              clear hz1 hz2 d1 d2
              go_wp2_with fail
              refine (most_any _ A cap l HEx.out hle hcap).mono ?_
              rintro en w4 ⟨hf4, rfl⟩
              have HE4 := Lib.hid (HEx.out.rebase hf4)
              have HF4 := Lib.hid (HFx.out.trans hf4)
              have hmv : mostVal (playP l) = .tuple #[.int .i64 (mostOf tr), .int .i64 0] := by rw [HPL.out]; rfl
              rw [hmv]
              clear hf4 hmv
              go_wp2_with fail
              refine (progPages _ A cap l 20000 HE4.out hle hcap).mono ?_
              rintro en w5 ⟨hf5, rfl⟩
              have HF5 := Lib.hid (HF4.out.trans hf5)
              have hp1 : pgsN l 20000 = (nowOf 20000 tr).pages := by unfold pgsN; rw [HPL.out]; rfl
              have hp2 : pgsE l 20000 = 0 := by unfold pgsE; rw [HPL.out]; rfl
              rw [hp1, hp2]
              have hle2 : decide ((nowOf 20000 tr).pages ≤ mostOf tr) = true := decide_eq_true HNM.out
              clear hf5 hp1 hp2
              go_wp2_with fail
              refine (awake_any w5).mono ?_
              rintro en w6 ⟨rfl, hf6⟩
              have HF6 := Lib.hid (HF5.out.trans hf6)
              clear hf6
              go_wp2_with fail
              go_ret
              exact ⟨rfl, HF6.out⟩
namespace SumsRow
set_option maxRecDepth 100000 in
theorem lifted (os : Os) (started : os.Started) (H : Type) (enc : TypeId × Value → H) :
    ReturnsInHanded {} Try.checked os 9 .any (Rows.profileSumsSpec.pre6 enc Try.prog Try.f9 Rows.profileSumsRow.domain false) (Rows.profileSumsSpec.post enc Try.prog Try.f9 false true false false) := by
  refine returnsInHanded_of_change (C := Try.checked) own started (by kernel_rfl) Try.func9
    (ChangeSpec.witness6 (enc := enc) (C := Try.checked) false ⟨#[], #[.slice none 0 0], []⟩ 8 (by kernel_rfl) (by kernel_rfl) (by kernel_rfl) (by kernel_rfl)) ?_
  intro W base args ds gs before hval0 hW hcnd _
  have hval : ∀ (j : Nat) t v, Try.f9.params[j]? = some t → args[j]? = some v → Value.okWide Try.prog W .any base t v := hval0
  have hW' := hW
  obtain ⟨p, q, hA0, hV, rfl, hfz, hnd⟩ := hW
  have hA : DataW.TrodAll enc Try.prog W 0 (fun _ => true) true Try.f9.params.toList args.toList ds p := hA0
  rw [Try.params9] at hA hval
  obtain ⟨v0, vs0, d0, ds0, p0, q0, hargs, rfl, rfl, h0, r0⟩ := trodAll_cons hA
  obtain ⟨rfl, rfl, rfl⟩ := trodAll_nil r0
  obtain rfl : args = #[v0] := by cases args; simp_all
  obtain ⟨rfl, rfl⟩ := trodVars_none hV
  obtain ⟨a0, len0, cap0, rfl⟩ := okWide_slice Try.underlying22 (hval 0 22 v0 rfl rfl)
  have k0 := h0
  have lt0 : ∀ x ∈ p0, x.block < W.heap.size := by obtain ⟨m, hm⟩ := k0; exact DataW.trod_lt m _ _ _ hm
  obtain ⟨l, hl, hcap, hmax, hev⟩ : ∃ l : List Ev, len0 = l.length ∧ l.length ≤ cap0 ∧ len0 ≤ 9223372036854775807 ∧ Evs W.heap.size W a0 l := by
    obtain ⟨fuel, hf⟩ := h0
    exact open_evs hf
  subst hl
  clear hA0 hval0
  refine (sums_walk a0 cap0 l W hcap hmax hev).mono fun e W' ⟨he, hfr⟩ => ?_
  have bel : Below W.heap.size W W' := hfr.below (Nat.le_refl _) (fun _ h => h.elim)
  subst he
  exact ⟨_, rfl, _, _, _, [], _, [], hW', trodAll_mk1 (shut_bool Try.underlying4 _), (trodAll_cons_mk (Below.trod laidOut (by kernel_rfl) (of_decide_eq_true (by kernel_rfl)) k0 bel lt0) trodAll_mk0), rfl, bel.frame _, fun h => by cases h⟩

theorem over : Rows.profileSumsRow.holds Try.pinned (OpenSpec.ofChange Rows.profileSumsSpec) :=
  OpenClaim.holds_of_wide 9 Try.f9 rfl rfl rfl rfl rfl rfl rfl ⟨rfl, rfl, rfl, rfl, rfl⟩ rfl rfl rfl rfl rfl (by kernel_rfl) Try.func9 (by kernel_rfl)
    (of_decide_eq_true (by kernel_rfl)) (by unfold Func.isWrapper; first | (rw [if_pos (by decide +kernel)]; kernel_rfl) | (rw [if_neg (by decide +kernel)]; exact ⟨rfl, rfl⟩))
    (fun os started H enc _ => lifted os started H enc)
end SumsRow
theorem sums_holds : Rows.ProfileSumsSaid := SumsRow.over
#print axioms sums_holds
end Go.Proofs.Ytnloffjjlhhanaa
