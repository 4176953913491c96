/- The program's asked. -/
import Derived.Test.YtnloffjjlhhanaaAskedB
set_option linter.unusedVariables false
set_option linter.unusedSimpArgs false
namespace Go.Proofs.Ytnloffjjlhhanaa
open Go.RowKit
open Go.Proofs

theorem snap_skip (b3 b6 f : Nat) (st at' : Int) (w : World) (hb3 : Blk w b3 #[.int .i64 st] 3) (hle : ¬ at' ≤ st) :
    Calls Try.prog 47 #[.pointer (some ⟨f, 0, none⟩), .int .i64 at', .pointer (some ⟨b3, 0, none⟩), .pointer (some ⟨b6, 0, none⟩)] w fun e w' => e = .returned (.tuple #[]) ∧ w' = w := by
  have x3 : w.cell? ⟨b3, 0, none⟩ = some (.int .i64 st) := hb3.cell 0
  have hl := hb3.lt
  have hle' : decide (at' ≤ st) = false := decide_eq_false hle
  clear hb3
  go_enter Try.func47, Try.ntmps47
  go_wp2_with fail
  go_end0
  exact ⟨rfl, rfl⟩

def snapAll (s : St) : List Lf := snapOf s s.op.length
def SnapI (B b3 b6 fb : Nat) (st : Int) (w : World) (J : Nat → Prop) (tr : List (St × Int)) : Prop :=
  ∃ A c bl, SnapAt B b3 b6 fb st w A c bl (snapAll (nowOf st tr)) ∧ (∀ k, J k ↔ SnapJ b3 b6 fb A bl k)
theorem snap_sees (B b3 b6 fb : Nat) (st : Int) : Sees B (.func (.func 47) #[] #[.pointer (some ⟨b3, 0, none⟩), .pointer (some ⟨b6, 0, none⟩)]) (SnapI B b3 b6 fb st) := by
  refine ⟨fun w J tr h k hk => ?_, fun w w' J tr h hs hk => ?_, .inr ⟨_, _, rfl, enters_of Try.func47 (by kernel_rfl) rfl, ?_⟩⟩
  · obtain ⟨A, c, bl, h1, h2⟩ := h
    exact h1.lt ((h2 k).1 hk)
  · obtain ⟨A, c, bl, h1, h2⟩ := h
    exact ⟨A, c, bl, h1.fr fun k hk2 => hk k ((h2 k).2 hk2), h2⟩
  · intro w F s m at' J tr hF hb hm htr hB h0 h1 hI hJ
    obtain ⟨A, c, bl, hS, hJ2⟩ := hI
    by_cases hle : at' ≤ st
    · refine (snap_closure B b3 b6 fb st at' w F s m A c bl _ hF hb hm hB hS (fun k hk => hJ k ((hJ2 k).2 hk)) hle).mono ?_
      rintro en w' ⟨rfl, hf, A', c', bl', hS', hJ'⟩
      refine ⟨rfl, hf.wider fun i _ hi => (hJ2 i).2 hi, SnapJ b3 b6 fb A' bl', ⟨A', c', bl', ?_, fun k => Iff.rfl⟩, fun k hk => ?_⟩
      · rw [nowOf_snoc]; simp only [if_pos hle]; exact hS'
      · rcases hJ' k hk with h | h
        · exact .inl ((hJ2 k).2 h)
        · exact .inr h
    · refine (snap_skip b3 b6 F.f st at' w hS.blk3 hle).mono ?_
      rintro en w' ⟨rfl, rfl⟩
      refine ⟨rfl, Fr.refl _ _, J, ⟨A, c, bl, ?_, hJ2⟩, fun k hk => .inl hk⟩
      rw [nowOf_snoc]; simp only [if_neg hle]; exact hS

/-- What asked leaves. -/
def AskedPost (w : World) (l : List Ev) (st : Int) (en : Ending) (w' : World) : Prop :=
  Fr No w w' ∧ match playP l with
  | none => en = .returned (.tuple #[.pointer none, .int .i64 100])
  | some tr => if st < 0 then en = .returned (.tuple #[.pointer none, .int .i64 2]) else
    ∃ b3 b6 fb A c bl, en = .returned (.tuple #[.pointer (some ⟨fb, 0, none⟩), .int .i64 0]) ∧ SnapAt w.heap.size b3 b6 fb st w' A c bl (snapAll (nowOf st tr))

set_option maxRecDepth 100000 in
set_option maxHeartbeats 2000000 in
theorem asked_any (w : World) (A : Option Addr) (cap : Nat) (l : List Ev) (st : Int) (hev : Evs w.heap.size w A l) (hl : l.length ≤ 2000) (hcap : l.length ≤ cap) :
    Calls Try.prog 37 #[.slice A l.length cap, .int .i64 st] w (AskedPost w l st) := by
  have hal : Fr No w (w.alloc (.cells #[.int .i64 st] 3)) := (Fr.refl _ _).alloc _
  have HE := Lib.hid hev
  have HL := Lib.hid hl
  have HR := Lib.hid (right_any (w.alloc (.cells #[.int .i64 st] 3)) A cap l (hev.rebase hal) hl hcap)
  have HAL := Lib.hid hal
  clear hev hal
  go_enter Try.func37, Try.ntmps37
  go_wp2_with fail
  refine HR.out.mono ?_
  rintro en w1 ⟨hf1, rfl⟩
  have hbx : Blk w1 w.heap.size #[.int .i64 st] 3 := hf1.blk (Blk.new _ _ _) (fun e => e.elim)
  have x3 : w1.cell? ⟨w.heap.size, 0, none⟩ = some (.int .i64 st) := hbx.cell 0
  have hbl := hbx.lt
  have HBX := Lib.hid hbx
  have HF1 := Lib.hid (HAL.out.trans hf1)
  clear hf1 hbx
  cases hpl : playP l with
  | none =>
    have HV : Hid (∀ en w', Fr No w w' → en = .returned (.tuple #[.pointer none, .int .i64 100]) → AskedPost w l st en w') := by
      intro en w' hf he
      unfold AskedPost
      rw [hpl]
      exact ⟨hf, he⟩
    clear hpl
    simp only [Option.isSome_none]
    go_wp2_with fail
    go_ret2
    exact HV.out _ _ HF1.out rfl
  | some tr =>
    simp only [Option.isSome_some]
    by_cases hst : st < 0
    · have HV : Hid (∀ en w', Fr No w w' → en = .returned (.tuple #[.pointer none, .int .i64 2]) → AskedPost w l st en w') := by
        intro en w' hf he
        unfold AskedPost
        rw [hpl]
        simp only [if_pos hst]
        exact ⟨hf, he⟩
      clear hpl
      go_wp2_with fail
      go_ret2
      exact HV.out _ _ HF1.out rfl
    · have HV : Hid (∀ en w', Fr No w w' → (∃ b3 b6 fb A c bl, en = .returned (.tuple #[.pointer (some ⟨fb, 0, none⟩), .int .i64 0]) ∧ SnapAt w.heap.size b3 b6 fb st w' A c bl (snapAll (nowOf st tr))) → AskedPost w l st en w') := by
        intro en w' hf he
        unfold AskedPost
        rw [hpl]
        simp only [if_neg hst]
        exact ⟨hf, he⟩
      have HPL := Lib.hid hpl
      clear hpl
      have hal2 : Fr No w1 ((w1.alloc (.cells #[.slice none 0 0, .slice none 0 0] 55)).alloc (.cells #[.pointer (some ⟨w1.heap.size, 0, none⟩)] 47)) := ((Fr.refl _ _).alloc _).alloc _
      have hsz1 := HF1.out.size
      have hI0 : SnapI w.heap.size w.heap.size (w1.heap.size + 1) w1.heap.size st ((w1.alloc (.cells #[.slice none 0 0, .slice none 0 0] 55)).alloc (.cells #[.pointer (some ⟨w1.heap.size, 0, none⟩)] 47)) (SnapJ w.heap.size (w1.heap.size + 1) w1.heap.size none []) [] :=
        ⟨none, 0, [], ⟨Nat.le_refl _, by omega, by omega, (HBX.out.alloc _).alloc _, Blk.new' _ _ _ _ (by simp), (Blk.new _ _ _).alloc _, World.ownsRow_nil _ _ _ _, rfl, fun i k x hi => by simp at hi⟩, fun k => Iff.rfl⟩
      have HP := Lib.hid (play_any w.heap.size _ A cap l _ (SnapI w.heap.size w.heap.size (w1.heap.size + 1) w1.heap.size st) _ (snap_sees _ _ _ _ _) ((HE.out.fr0 HF1.out).fr0 hal2) HL.out hcap (by simp; omega) hI0)
      have HAL2 := Lib.hid hal2
      clear hal2 hI0
      go_wp2_with fail
      refine HP.out.mono ?_
      intro en w2 hp
      unfold PlayPost at hp
      have hfr : Fr No w w2 := (HF1.out.trans HAL2.out).then hp.1 fun i hi hh => by
        rcases hh with rfl | rfl | rfl | hh | hh
        · omega
        · omega
        · omega
        · simp [Value.ownBlock] at hh
        · simp at hh
      rw [HPL.out] at hp
      obtain ⟨-, F, J, rfl, -, -, ⟨A1, c1, bl1, hS, -⟩, -⟩ := hp
      have x6 : w2.cell? ⟨w1.heap.size + 1, 0, none⟩ = some (.pointer (some ⟨w1.heap.size, 0, none⟩)) := hS.blk6.cell 0
      have hb6 := hS.blk6.lt
      have HFIN : Hid (AskedPost w l st (.returned (.tuple #[.pointer (some ⟨w1.heap.size, 0, none⟩), .int .i64 0])) w2) := HV.out _ _ hfr ⟨_, _, _, _, _, _, rfl, hS⟩
      clear hS hfr
      go_wp2_with fail
      go_ret2
      exact HFIN.out
end Go.Proofs.Ytnloffjjlhhanaa
