/- Pages and Open of the reference. -/
import Derived.Test.YtnloffjjlhhanaaPages
set_option linter.unusedVariables false
set_option linter.unusedSimpArgs false
namespace Go.Proofs.Ytnloffjjlhhanaa
open Go.RowKit
open Go.Proofs

/-- What gone leaves, up to a step that is asked for. -/
def GoneIs (w : World) (l : List Ev) (st : Int) (en : Ending) (w' : World) : Prop :=
  Fr No w w' ∧ match playP l with
  | none => ∃ v, en = .returned (.tuple #[.pointer v, .bool false])
  | some tr => ∃ R tb, en = .returned (.tuple #[.pointer (some ⟨R.t, 0, none⟩), .bool true]) ∧ TrAt w.heap.size w' R tb ∧ Bd 2000 tb.st ∧ tb.pages = (nowOf st tr).pages ∧ tb.lives = (nowOf st tr).op
theorem gone_is (w : World) (A : Option Addr) (cap : Nat) (l : List Ev) (st : Int) (hev : Evs w.heap.size w A l) (hl : l.length ≤ 2000) (hcap : l.length ≤ cap) (hst : 0 ≤ st) :
    Calls Try.prog 29 #[.slice A l.length cap, .int .i64 st] w (GoneIs w l st) := by
  refine (gone_any w A cap l st hev hl hcap).mono ?_
  intro en w' h
  unfold GonePost at h
  refine ⟨h.1, ?_⟩
  cases hp : playP l with
  | none =>
    have hr := right_same hl
    rw [hp] at hr
    unfold rightR at hr
    cases ha : Tr.init.adds l with
    | none => rw [ha] at h; exact ⟨_, h.2⟩
    | some t =>
      rw [ha] at h hr
      obtain ⟨-, R, tb, -, h2, -⟩ := h
      simp only [Option.isSome_none] at hr
      rw [hr] at h2
      exact ⟨_, h2⟩
  | some tr =>
    obtain ⟨r, s, hfin⟩ := (play_good hl hp).fin
    have hfin' : Tr.init.adds l = some (Tr.of (lastSt St.init tr) r s) := hfin
    obtain ⟨r2, s2, hup⟩ := nowOf_adds hl hp hst
    rw [hfin'] at h
    obtain ⟨-, R, tb, h1, h2, h3, h4⟩ := h
    rw [hup] at h1
    simp only [Option.some.injEq] at h1
    subst h1
    exact ⟨R, _, h2, h3, Bd.mono h4.bd hl, pages_calm rfl, lives_calm rfl⟩

set_option maxRecDepth 100000 in
set_option maxHeartbeats 2000000 in
theorem refPages (w : World) (A : Option Addr) (cap : Nat) (l : List Ev) (st : Int) (hev : Evs w.heap.size w A l) (hl : l.length ≤ 2000) (hcap : l.length ≤ cap) :
    Calls Try.prog 25 #[.slice A l.length cap, .int .i64 st] w fun e w' => Fr No w w' ∧ e = .returned (.tuple #[.int .i64 (pgsN l st), .int .i64 (pgsE l st)]) := by
  by_cases hst : st < 0
  · have HG := Lib.hid (gone_is w A cap l 0 hev hl hcap (by omega))
    clear hev
    have hst' : decide (st < 0) = true := decide_eq_true hst
    go_enter Try.func25, Try.ntmps25
    go_wp2_with fail
    refine HG.out.mono ?_
    intro en w1 hp
    unfold GoneIs at hp
    have HF1 := Lib.hid hp.1
    cases hpl : playP l with
    | none =>
      have HV : Hid (pgsN l st = 0 ∧ pgsE l st = 100) := by unfold Hid pgsN pgsE; rw [hpl]; exact ⟨rfl, rfl⟩
      rw [hpl] at hp
      obtain ⟨-, v, rfl⟩ := hp
      clear hpl
      go_wp2_with fail
      go_ret2
      exact ⟨HF1.out, by rw [HV.out.1, HV.out.2]; rfl⟩
    | some tr =>
      have HV : Hid (pgsN l st = 0 ∧ pgsE l st = 2) := by unfold Hid pgsN pgsE; rw [hpl]; simp only [if_pos hst]; exact ⟨trivial, trivial⟩
      rw [hpl] at hp
      obtain ⟨-, R, tb, rfl, -⟩ := hp
      clear hpl
      go_wp2_with fail
      go_ret2
      exact ⟨HF1.out, by rw [HV.out.1, HV.out.2]; rfl⟩
  · have HG := Lib.hid (gone_is w A cap l st hev hl hcap (by omega))
    clear hev
    have hst' : decide (st < 0) = false := decide_eq_false hst
    have hmx : max st 0 = st := Int.max_eq_left (by omega)
    go_enter Try.func25, Try.ntmps25
    go_wp2_with fail
    refine HG.out.mono ?_
    intro en w1 hp
    unfold GoneIs at hp
    have HF1 := Lib.hid hp.1
    cases hpl : playP l with
    | none =>
      have HV : Hid (pgsN l st = 0 ∧ pgsE l st = 100) := by unfold Hid pgsN pgsE; rw [hpl]; exact ⟨rfl, rfl⟩
      rw [hpl] at hp
      obtain ⟨-, v, rfl⟩ := hp
      clear hpl
      go_wp2_with fail
      go_ret2
      exact ⟨HF1.out, by rw [HV.out.1, HV.out.2]; rfl⟩
    | some tr =>
      have HV : Hid (pgsN l st = (nowOf st tr).pages ∧ pgsE l st = 0) := by unfold Hid pgsN pgsE; rw [hpl]; simp only [if_neg (show ¬ st < 0 by omega)]; exact ⟨trivial, trivial⟩
      rw [hpl] at hp
      obtain ⟨-, R, tb, rfl, hT, hb, hpg, -⟩ := hp
      have HP := Lib.hid (trPages w.heap.size w1 R tb 2000 hT hb (by omega))
      rw [hpg] at HP
      clear hpl hT hb hpg
      go_wp2_with fail
      refine HP.out.mono ?_
      rintro en w2 ⟨rfl, hf2⟩
      have HF2 := Lib.hid (HF1.out.trans hf2)
      clear hf2
      go_wp2_with fail
      go_ret2
      exact ⟨HF2.out, by rw [HV.out.1, HV.out.2]; rfl⟩

set_option maxRecDepth 100000 in
set_option maxHeartbeats 2000000 in
theorem refOpen (w : World) (A : Option Addr) (cap : Nat) (l : List Ev) (st : Int) (hev : Evs w.heap.size w A l) (hl : l.length ≤ 2000) (hcap : l.length ≤ cap) :
    Calls Try.prog 27 #[.slice A l.length cap, .int .i64 st] w (OpenPost w l st) := by
  have HE0 : ∀ e : Int, playP l = none → e = 100 → Hid (∀ en w', Fr No w w' → en = .returned (.tuple #[.slice none 0 0, .int .i64 e]) → OpenPost w l st en w') := by
    intro e hpl he en w' hf hen
    unfold OpenPost opnN pgsE
    rw [hpl]
    subst he
    exact ⟨hf, none, 0, 0, hen, World.ownsRow_nil _ _ _ _, by simp⟩
  by_cases hst : st < 0
  · have HG := Lib.hid (gone_is w A cap l 0 hev hl hcap (by omega))
    clear hev
    have hst' : decide (st < 0) = true := decide_eq_true hst
    have HE0' := Lib.hid HE0
    clear HE0
    go_enter Try.func27, Try.ntmps27
    go_wp2_with fail
    refine HG.out.mono ?_
    intro en w1 hp
    unfold GoneIs at hp
    have HF1 := Lib.hid hp.1
    cases hpl : playP l with
    | none =>
      have HV := HE0'.out 100 hpl rfl
      rw [hpl] at hp
      obtain ⟨-, v, rfl⟩ := hp
      clear hpl
      go_wp2_with fail
      go_ret2
      exact HV.out _ _ HF1.out rfl
    | some tr =>
      have HV : Hid (∀ en w', Fr No w w' → en = .returned (.tuple #[.slice none 0 0, .int .i64 2]) → OpenPost w l st en w') := by
        intro en w' hf he
        unfold OpenPost opnN pgsE
        rw [hpl]
        simp only [if_pos hst]
        exact ⟨hf, none, 0, 0, he, World.ownsRow_nil _ _ _ _, by simp⟩
      rw [hpl] at hp
      obtain ⟨-, R, tb, rfl, -⟩ := hp
      clear hpl
      go_wp2_with fail
      go_ret2
      exact HV.out _ _ HF1.out rfl
  · have HG := Lib.hid (gone_is w A cap l st hev hl hcap (by omega))
    clear hev
    have hst' : decide (st < 0) = false := decide_eq_false hst
    have hmx : max st 0 = st := Int.max_eq_left (by omega)
    have HE0' := Lib.hid HE0
    clear HE0
    go_enter Try.func27, Try.ntmps27
    go_wp2_with fail
    refine HG.out.mono ?_
    intro en w1 hp
    unfold GoneIs at hp
    have HF1 := Lib.hid hp.1
    cases hpl : playP l with
    | none =>
      have HV := HE0'.out 100 hpl rfl
      rw [hpl] at hp
      obtain ⟨-, v, rfl⟩ := hp
      clear hpl
      go_wp2_with fail
      go_ret2
      exact HV.out _ _ HF1.out rfl
    | some tr =>
      rw [hpl] at hp
      obtain ⟨-, R, tb, rfl, hT, hb, -, hlv⟩ := hp
      have hlen : (nums (nowOf st tr)).length = tb.lives.length := by rw [hlv]; simp [nums]
      have hlen4 : tb.lives.length ≤ 4000 := by
        have := livesTo_len tb tb.st.op.length
        have h2 := hb.op
        unfold Tr.lives
        omega
      have HV : Hid (∀ en w', Fr No w w' → (∃ A c B, en = .returned (.tuple #[.slice A tb.lives.length c, .int .i64 0]) ∧ w'.ownsRow B 3 1 (.slice A tb.lives.length c) tb.lives.length (tb.lives.map num)) → OpenPost w l st en w') := by
        intro en w' hf he
        unfold OpenPost opnN pgsE
        rw [hpl]
        simp only [if_neg (show ¬ st < 0 by omega)]
        rw [hlen, nums_num, ← hlv]
        obtain ⟨A, c, B, h1, h2⟩ := he
        exact ⟨hf, A, c, B, h1, h2, hlen4⟩
      have HP := Lib.hid (trLives w.heap.size w1 R tb hT (by have := hb.op; omega))
      clear hpl hT hb hlv hlen
      go_wp2_with fail
      refine HP.out.mono ?_
      rintro en w2 ⟨A1, c1, rfl, hf2, hrow⟩
      have HF2 := Lib.hid (HF1.out.trans hf2)
      have HROW := Lib.hid hrow
      clear hf2 hrow
      go_wp2_with fail
      go_ret2
      exact HV.out _ _ HF2.out ⟨A1, c1, _, rfl, HROW.out⟩
end Go.Proofs.Ytnloffjjlhhanaa
