/- The reference's Right and Lines. -/
import Derived.Test.YtnloffjjlhhanaaPure
set_option linter.unusedVariables false
set_option linter.unusedSimpArgs false
namespace Go.Proofs.Ytnloffjjlhhanaa
open Go.RowKit
open Go.Proofs

theorem Evs.rebase {B : Nat} {w w' : World} {A : Option Addr} {l : List Ev} (h : Evs B w A l) (hf : Fr No w w') : Evs w'.heap.size w' A l := fun i e he => by
  obtain ⟨b, off, hA, -, hbl, h4⟩ := h.fr0 hf i e he
  exact ⟨b, off, hA, hbl, hbl, h4⟩

set_option maxRecDepth 100000 in
theorem refRight (w : World) (A : Option Addr) (cap : Nat) (l : List Ev) (hev : Evs w.heap.size w A l) (hl : l.length ≤ 2000) (hcap : l.length ≤ cap) :
    Calls Try.prog 12 #[.slice A l.length cap] w fun e w' => Fr No w w' ∧ e = .returned (.bool (playP l).isSome) := by
  have HR := Lib.hid (right_same hl)
  have HG := Lib.hid (gone_any w A cap l (-1) hev hl hcap)
  clear hev
  go_enter Try.func12, Try.ntmps12
  go_wp2_with fail
  refine HG.out.mono ?_
  intro en w1 hp
  unfold GonePost at hp
  have HFR := Lib.hid hp.1
  unfold rightR at HR
  cases ha : Tr.init.adds l with
  | none =>
    rw [ha] at hp HR
    obtain ⟨-, rfl⟩ := hp
    go_wp2_with fail
    go_ret
    exact ⟨HFR.out, ret_bool HR.out⟩
  | some t =>
    rw [ha] at hp HR
    obtain ⟨-, R, tb, -, rfl, -⟩ := hp
    go_wp2_with fail
    go_ret
    exact ⟨HFR.out, ret_bool HR.out⟩

/-- What Lines of the reference leaves. -/
def LinesPostR (w : World) (l : List Ev) (en : Ending) (w' : World) : Prop :=
  Fr No w w' ∧ match playP l with
  | none => en = .returned (.tuple #[.slice none 0 0, .int .i64 100])
  | some tr => ∃ A c, en = .returned (.tuple #[.slice A (finalOf tr).lf.length c, .int .i64 0]) ∧ w'.ownsRow w.heap.size 39 9 (.slice A (finalOf tr).lf.length c) (finalOf tr).lf.length ((finalOf tr).lf.flatMap Lf.row)
set_option maxRecDepth 100000 in
theorem refLines (w : World) (A : Option Addr) (cap : Nat) (l : List Ev) (hev : Evs w.heap.size w A l) (hl : l.length ≤ 2000) (hcap : l.length ≤ cap) :
    Calls Try.prog 15 #[.slice A l.length cap] w (LinesPostR w l) := by
  have HG := Lib.hid (gone_any w A cap l (-1) hev hl hcap)
  have HL := Lib.hid hl
  clear hev
  go_enter Try.func15, Try.ntmps15
  go_wp2_with fail
  refine HG.out.mono ?_
  intro en w1 hp
  unfold GonePost at hp
  have HFR := Lib.hid hp.1
  cases hpl : playP l with
  | none =>
    have HP : Hid (∀ en w', Fr No w1 w' → en = .returned (.tuple #[.slice none 0 0, .int .i64 100]) → LinesPostR w l en w') := by
      intro en w' hf he
      unfold LinesPostR
      rw [hpl]
      exact ⟨HFR.out.trans hf, he⟩
    have hr := right_same HL.out
    rw [hpl] at hr
    unfold rightR at hr
    clear hpl
    cases ha : Tr.init.adds l with
    | none =>
      rw [ha] at hp
      obtain ⟨-, rfl⟩ := hp
      clear hr ha
      go_wp2_with fail
      go_ret2
      exact HP.out _ _ (Fr.refl _ _) rfl
    | some t =>
      rw [ha] at hp hr
      obtain ⟨-, R, tb, -, rfl, -⟩ := hp
      simp only [Option.isSome_none] at hr
      rw [hr]
      clear hr ha
      go_wp2_with fail
      go_ret2
      exact HP.out _ _ (Fr.refl _ _) rfl
  | some tr =>
    obtain ⟨r, s, hfin⟩ := (play_good HL.out hpl).fin
    have hfin' : Tr.init.adds l = some (Tr.of (lastSt St.init tr) r s) := hfin
    rw [hfin'] at hp
    obtain ⟨-, R, tb, htb, rfl, hT, hok⟩ := hp
    rw [upto_neg l (by omega), hfin', lastSt_final] at htb
    simp only [Option.some.injEq] at htb
    subst htb
    have hbt : ((Tr.of (lastSt St.init tr) r s).hole == 0 && (Tr.of (lastSt St.init tr) r s).left == 0) = true := rfl
    rw [hbt]
    clear hbt
    have c0 : w1.cell? ⟨R.t, 0, none⟩ = some (.slice R.Al (finalOf tr).lf.length R.cl) := hT.blk.cell 0
    have hlt := hT.blk.lt
    have HP : Hid (LinesPostR w l (.returned (.tuple #[.slice R.Al (finalOf tr).lf.length R.cl, .int .i64 0])) w1) := by
      unfold Hid LinesPostR
      rw [hpl]
      exact ⟨HFR.out, R.Al, R.cl, rfl, hT.rowl⟩
    clear hpl hfin hfin' hT hok
    obtain ⟨rt, Al, cl, Ao, co⟩ := R
    simp only at c0 hlt HP
    go_wp2_with fail
    go_ret2
    exact HP.out
end Go.Proofs.Ytnloffjjlhhanaa
