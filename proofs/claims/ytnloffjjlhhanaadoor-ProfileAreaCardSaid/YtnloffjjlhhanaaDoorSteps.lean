/- The program's bySteps. -/
import Derived.Test.YtnloffjjlhhanaaDoorLines
set_option linter.unusedVariables false
set_option linter.unusedSimpArgs false
namespace Go.Proofs.YtnloffjjlhhanaaDoor
open Go.RowKit
open Go.Proofs

def numI (i : Int) : Value := .int .i64 i
def byStep (p : List Int × Int) (x : St × Int) : List Int × Int := (p.1 ++ List.replicate (x.2.toNat - p.1.length) p.2, x.1.pages)
def byTr (tr : List (St × Int)) : List Int × Int := tr.foldl byStep ([], 0)
theorem byTr_snoc (tr : List (St × Int)) (x : St × Int) : byTr (tr ++ [x]) = byStep (byTr tr) x := by unfold byTr; rw [List.foldl_append]; rfl
/-- What the closure keeps: the pages behind each step so far (o), and those of now (n). -/
structure StepsAt (B b1 b2 : Nat) (w : World) (J : Nat → Prop) (A : Option Addr) (c : Nat) (o : List Int) (n : Int) : Prop where
  foot : ∀ k, J k ↔ (k = b1 ∨ k = b2 ∨ (Value.slice A 0 0).ownBlock = some k)
  lo1 : B ≤ b1
  lo2 : B ≤ b2
  ne : b1 ≠ b2
  blk1 : Blk w b1 #[.slice A o.length c] 37
  blk2 : Blk w b2 #[.int .i64 n] 3
  row : w.ownsRow B 3 1 (.slice A o.length c) o.length (o.map numI)
  far : (Value.slice A 0 0).ownBlock ≠ some b2
  len : o.length ≤ 20001
theorem StepsAt.fr {B b1 b2 : Nat} {w w' : World} {J S : Nat → Prop} {A : Option Addr} {c : Nat} {o : List Int} {n : Int} (h : StepsAt B b1 b2 w J A c o n) (hk : ∀ k, J k → w'.heap[k]? = w.heap[k]?) : StepsAt B b1 b2 w' J A c o n :=
  ⟨h.foot, h.lo1, h.lo2, h.ne, (hk b1 ((h.foot _).2 (.inl rfl))).trans h.blk1, (hk b2 ((h.foot _).2 (.inr (.inl rfl)))).trans h.blk2, row_stays h.row fun k hk2 => hk k ((h.foot _).2 (.inr (.inr (own_eq.1 hk2)))), h.far, h.len⟩
theorem StepsAt.lt {B b1 b2 : Nat} {w : World} {J : Nat → Prop} {A : Option Addr} {c : Nat} {o : List Int} {n : Int} (h : StepsAt B b1 b2 w J A c o n) {k : Nat} (hk : J k) : B ≤ k ∧ k < w.heap.size := by
  rcases (h.foot k).1 hk with rfl | rfl | hk
  · exact ⟨h.lo1, h.blk1.lt⟩
  · exact ⟨h.lo2, h.blk2.lt⟩
  · exact h.row.lt k (own_eq.2 hk)
theorem StepsAt.push {B b1 b2 : Nat} {w w2 : World} {J : Nat → Prop} {A A2 : Option Addr} {c c2 : Nat} {o : List Int} {n x : Int} (h : StepsAt B b1 b2 w J A c o n) (hf : Fr (fun j => (Value.slice A 0 0).ownBlock = some j) w w2)
    (hown : w2.ownsRow B 3 1 (.slice A2 (o.length + 1) c2) (o.length + 1) (o.map numI ++ [numI x])) (hw : (Value.slice A2 0 0).ownBlock = (Value.slice A 0 0).ownBlock ∨ ∃ g, (Value.slice A2 0 0).ownBlock = some g ∧ w.heap.size ≤ g) (hl : o.length + 1 ≤ 20001) :
    StepsAt B b1 b2 (w2.setCell ⟨b1, 0, none⟩ (.slice A2 (o.length + 1) c2)) (fun k => k = b1 ∨ k = b2 ∨ (Value.slice A2 0 0).ownBlock = some k) A2 c2 (o ++ [x]) n := by
  have hb1 : Blk w2 b1 _ _ := hf.blk h.blk1 (fun e => row_ne h.row h.blk1 (by decide) (own_eq.2 e))
  have hb2 : Blk w2 b2 _ _ := hf.blk h.blk2 h.far
  refine ⟨fun k => Iff.rfl, h.lo1, h.lo2, h.ne, ?_, hb2.far (Ne.symm h.ne) _, ?_, ?_, by simp; omega⟩
  · have := hb1.set 0 (.slice A2 (o.length + 1) c2)
    simpa using this
  · simp only [List.length_append, List.length_singleton, List.map_append, List.map_cons, List.map_nil]
    exact ownsRow_setCell_other hown (row_ne hown hb1 (by decide)) _
  · rcases hw with hw | ⟨g, hw, hg⟩
    · rw [hw]; exact h.far
    · rw [hw]
      intro e
      simp only [Option.some.injEq] at e
      have := h.blk2.lt
      omega
theorem StepsAt.now {B b1 b2 : Nat} {w : World} {J : Nat → Prop} {A : Option Addr} {c : Nat} {o : List Int} {n x : Int} (h : StepsAt B b1 b2 w J A c o n) : StepsAt B b1 b2 (w.setCell ⟨b2, 0, none⟩ (.int .i64 x)) J A c o x :=
  ⟨h.foot, h.lo1, h.lo2, h.ne, h.blk1.far h.ne _, Blk.cast (h.blk2.set 0 _) rfl, ownsRow_setCell_other h.row (fun e => h.far (own_eq.1 e)) _, h.far, h.len⟩
def StepsI (B b1 b2 : Nat) (w : World) (J : Nat → Prop) (tr : List (St × Int)) : Prop := ∃ A c, StepsAt B b1 b2 w J A c (byTr tr).1 (byTr tr).2 ∧ (0 ≤ (byTr tr).2 ∧ (byTr tr).2 ≤ 360000000) ∧ ∀ x ∈ (byTr tr).1, 0 ≤ x ∧ x ≤ 360000000

/-- What holds where the closure goes round. -/
def StepsRel (B b1 b2 : Nat) (w : World) (J0 : Nat → Prop) (o : List Int) (n : Int) (st : Nat) (wr : World) : Prop :=
  ∃ A c J k, (st - o.length) = (st - (o.length + k)) + k ∧ StepsAt B b1 b2 wr J A c (o ++ List.replicate k n) n ∧ Fr J0 w wr ∧ (∀ j, J j → J0 j ∨ w.heap.size ≤ j)
def cellLen (w : World) (a : Addr) : Nat := match w.cell? a with | some (.slice _ n _) => n | _ => 0

set_option maxRecDepth 100000 in
set_option maxHeartbeats 1000000 in
theorem steps_closure (B b1 b2 : Nat) (w : World) (F : Film) (s : St) (m st : Nat) (J : Nat → Prop) (A : Option Addr) (c : Nat) (o : List Int) (n : Int) (h : FilmAt B w F s) (hb : Bd m s) (hm : m ≤ 4000) (hB : B ≤ w.heap.size) (hst : st ≤ 20000) (hI : StepsAt B b1 b2 w J A c o n) (hJ : ∀ k, J k → ¬ F.foot k) :
    Calls Tryd.prog 42 #[.pointer (some ⟨F.f, 0, none⟩), .int .i64 st, .pointer (some ⟨b1, 0, none⟩), .pointer (some ⟨b2, 0, none⟩)] w fun e w' => e = .returned (.tuple #[]) ∧ Fr J w w' ∧ ∃ A' c' J', StepsAt B b1 b2 w' J' A' c' (o ++ List.replicate (st - o.length) n) s.pages ∧ ∀ k, J' k → J k ∨ w.heap.size ≤ k := by
  obtain ⟨i0, hi, hz0, hz1, hz2⟩ := info_parts info_int
  have HC := Lib.hid (fun W (hW : Fr J w W) => film_pages B W F s m (h.fr hW hJ) hb hm)
  have HI := Lib.hid hI
  have hn0 : B ≤ b1 := hI.lo1
  have hol := hI.len
  clear h hb hI
  go_enter Tryd.func42, Tryd.ntmps42
  go_wp2_with fail
  go_loopw [9] (fun _ wr => Hid (StepsRel B b1 b2 w J o n st wr)) (fun _ wr => st - cellLen wr ⟨b1, 0, none⟩)
  case atStart => exact Lib.hid ⟨A, c, J, 0, by omega, by simpa using HI.out, Fr.refl _ _, fun j hj => .inl hj⟩
  case round =>
    obtain ⟨A1, c1, J1, k, hk, hS, hf, hJ1⟩ := hrel.out
    have hlen : (o ++ List.replicate k n).length = o.length + k := by simp
    have x1 : wr.cell? ⟨b1, 0, none⟩ = some (.slice A1 (o.length + k : Nat) c1) := by rw [← hlen]; exact hS.blk1.cell 0
    have x2 : wr.cell? ⟨b2, 0, none⟩ = some (.int .i64 n) := hS.blk2.cell 0
    have z1 := hS.blk1.free 0
    have hb1 := hS.blk1.lt
    have hb2 := hS.blk2.lt
    have hle := hS.len
    rw [hlen] at hle
    have hmeas : cellLen wr ⟨b1, 0, none⟩ = o.length + k := by unfold cellLen; rw [x1]
    have HS := Lib.hid hS
    have HF := Lib.hid hf
    have HJ1 := Lib.hid hJ1
    clear hS hf hJ1
    obtain ⟨L, hL⟩ : ∃ L, L = o.length + k := ⟨_, rfl⟩
    rw [← hL] at x1 hle hmeas
    have HL := Lib.hid hL
    have HK := Lib.hid hk
    have HLEN := Lib.hid hlen
    have HM := Lib.hid hmeas
    have hbase := HF.out.size
    have hrow : wr.ownsRow B 3 1 (.slice A1 L c1) L ((o ++ List.replicate k n).map numI) := by have := HS.out.row; rw [hlen, ← hL] at this; exact this
    have HROW := Lib.hid hrow
    clear hL hk hlen hmeas hrow
    by_cases hlt : L < st
    · go_wp2_with (at_builtin; go_must (refine wpList_append_own_at _ rfl (.tmp 10) (.tmp 12) 37 rfl B 3 i0 (.int .i64 0) 1 8 Tryd.underlying37 hi hz0 hz1 hz2 rfl (by decide) (.slice A1 L c1) L ((o ++ List.replicate k n).map numI) rfl ?hown ⟨wr.heap.size, 0, none⟩ 1 1 [numI n] rfl rfl ?c1 ?c2 ?c3 ?c4 ?c5 ?_))
      case hown => exact World.ownsRow.alloc HROW.out _
      case c1 => first | exact cell_one_at _ _ _ _ rfl | exact fun j u h => h
      case c2 => simp [Value.oneCell', numI]
      case c3 => unfold maxLen; omega
      case c4 => omega
      case c5 => first | omega | (simp; omega)
      intro v' w2 hown hgrow _ hwhere
      obtain ⟨A2, c2, rfl, -⟩ := row_slice hown
      have hf2 : Fr (fun j => (Value.slice A1 0 0).ownBlock = some j) wr w2 := Fr.grown ((Fr.refl _ _).alloc _) hgrow (fun k hk => .inl (own_eq.1 hk))
      have hw : (Value.slice A2 0 0).ownBlock = (Value.slice A1 0 0).ownBlock ∨ ∃ g, (Value.slice A2 0 0).ownBlock = some g ∧ wr.heap.size ≤ g := by
        rcases hwhere with h1 | h1
        · exact .inl (by rw [own_is] at h1; rw [h1, own_is])
        · rw [own_is] at h1
          exact .inr ⟨_, h1, by simp⟩
      have hs2 := HS.out
      have hL2 := HL.out
      have hlen2 := HLEN.out
      have hpush := hs2.push (x := n) (A2 := A2) (c2 := c2) hf2 (by rw [hlen2, ← hL2, List.map_append, List.append_assoc, List.map_replicate]; exact hown) hw (by rw [hlen2, ← hL2]; omega)
      have hrelN : StepsRel B b1 b2 w J o n st (w2.setCell ⟨b1, 0, none⟩ (.slice A2 (L + 1) c2)) := by
        refine ⟨A2, c2, fun k => k = b1 ∨ k = b2 ∨ (Value.slice A2 0 0).ownBlock = some k, k + 1, by have := HK.out; omega, ?_, ?_, ?_⟩
        · rw [hlen2, ← hL2, List.append_assoc] at hpush
          rw [List.replicate_succ']
          exact hpush
        · refine Fr.setCell (HF.out.then hf2 fun i hi hh => ?_) ?_ _
          · rcases HJ1.out i ((hs2.foot i).2 (.inr (.inr hh))) with h1 | h1
            · exact h1
            · omega
          · exact HJ1.out b1 ((hs2.foot b1).2 (.inl rfl))
        · intro j hj
          rcases hj with rfl | rfl | hj
          · exact HJ1.out _ ((hs2.foot _).2 (.inl rfl))
          · exact HJ1.out _ ((hs2.foot _).2 (.inr (.inl rfl)))
          · rcases hw with h1 | ⟨g, h1, h2⟩
            · rw [h1] at hj
              exact HJ1.out j ((hs2.foot j).2 (.inr (.inr hj)))
            · rw [h1] at hj
              simp only [Option.some.injEq] at hj
              exact .inr (by omega)
      have hy1 : w2.cell? ⟨b1, 0, none⟩ = some (.slice A1 L c1) := by rw [hf2.cell hb1 (fun e => row_ne hs2.row hs2.blk1 (by decide) (own_eq.2 e))]; exact x1
      have hy2 : w2.frozen? ⟨b1, 0, none⟩ = false := (hf2.blk hs2.blk1 (fun e => row_ne hs2.row hs2.blk1 (by decide) (own_eq.2 e))).free 0
      have hy3 := hf2.size
      have HREL := Lib.hid hrelN
      have hmN : cellLen (w2.setCell ⟨b1, 0, none⟩ (.slice A2 (L + 1) c2)) ⟨b1, 0, none⟩ = L + 1 := by
        obtain ⟨A3, c3, J3, k3, -, h3, -, -⟩ := hrelN
        have hb : Blk w2 b1 _ _ := hf2.blk hs2.blk1 (fun e => row_ne hs2.row hs2.blk1 (by decide) (own_eq.2 e))
        have := (hb.set 0 (.slice A2 (L + 1) c2)).cell 0
        unfold cellLen
        rw [this]
        rfl
      have HMN := Lib.hid hmN
      clear hrelN hown hgrow hwhere hf2 hw hs2 hL2 hlen2 hpush hmN
      go_wp2_with fail
      go_roundw
      case rel => exact HREL
      case measure =>
        have h1 := HM.out
        have h2 := HMN.out
        rw [h1]
        refine Nat.lt_of_le_of_lt (Nat.le_of_eq ?_) (show st - (L + 1) < st - L by omega)
        exact congrArg (fun z => st - z) h2
    · go_wp2_with fail
      refine (HC.out wr HF.out).mono ?_
      rintro e w' ⟨rfl, rfl⟩
      have hs2 := HS.out
      have z2 := hs2.blk2.free 0
      have hst2 : k = st - o.length := by have := HK.out; have := HL.out; omega
      have hfin : Fr J w (World.setCell w' ⟨b2, 0, none⟩ (.int .i64 s.pages)) ∧ ∃ A' c' J', StepsAt B b1 b2 (World.setCell w' ⟨b2, 0, none⟩ (.int .i64 s.pages)) J' A' c' (o ++ List.replicate (st - o.length) n) s.pages ∧ ∀ k, J' k → J k ∨ w.heap.size ≤ k := by
        refine ⟨Fr.setCell HF.out (HJ1.out b2 ((hs2.foot b2).2 (.inr (.inl rfl)))) _, A1, c1, J1, ?_, HJ1.out⟩
        rw [← hst2]
        exact hs2.now
      have HFIN := Lib.hid hfin
      clear hfin hs2 hst2
      go_wp2_with fail
      go_end0
      exact ⟨rfl, HFIN.out⟩

theorem steps_sees (B b1 b2 : Nat) : Sees B (.func (.func 42) #[] #[.pointer (some ⟨b1, 0, none⟩), .pointer (some ⟨b2, 0, none⟩)]) (StepsI B b1 b2) := by
  refine ⟨fun w J tr h k hk => ?_, fun w w' J tr h hs hk => ?_, .inr ⟨_, _, rfl, enters_of Tryd.func42 (by kernel_rfl) rfl, ?_⟩⟩
  · obtain ⟨A, c, h1, -⟩ := h
    exact h1.lt hk
  · obtain ⟨A, c, h1, h2, h3⟩ := h
    exact ⟨A, c, h1.fr (S := J) hk, h2, h3⟩
  · intro w F s m st J tr hF hb hm htr hB h0 h1 hI hJ
    obtain ⟨A, c, hS, hn, ho⟩ := hI
    obtain ⟨st, rfl⟩ : ∃ n : Nat, st = n := ⟨st.toNat, by omega⟩
    refine (steps_closure B b1 b2 w F s m st J A c _ _ hF hb hm hB (by omega) hS hJ).mono ?_
    rintro en w' ⟨rfl, hf, A', c', J', hS', hJ'⟩
    have hp := pages_bd hb hm
    refine ⟨rfl, hf, J', ⟨A', c', ?_, ?_, ?_⟩, hJ'⟩
    · rw [byTr_snoc]
      simp only [byStep, Int.toNat_natCast]
      exact hS'
    · rw [byTr_snoc]; exact hp
    · rw [byTr_snoc]
      intro x hx
      simp only [byStep] at hx
      rcases List.mem_append.1 hx with hx | hx
      · exact ho x hx
      · rw [List.eq_of_mem_replicate hx]; exact hn
end Go.Proofs.YtnloffjjlhhanaaDoor
