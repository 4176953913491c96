/- The reference's gone. -/
import Derived.Test.YtnloffjjlhhanaaDoorAddAll
set_option linter.unusedVariables false
set_option linter.unusedSimpArgs false
namespace Go.Proofs.YtnloffjjlhhanaaDoor
open Go.RowKit
open Go.Proofs

def Tr.adds : Tr → List Ev → Option Tr
  | t, [] => some t
  | t, e :: r => (t.add e).bind fun t' => t'.adds r
theorem adds_append (t : Tr) (a b : List Ev) : t.adds (a ++ b) = (t.adds a).bind fun t' => t'.adds b := by
  induction a generalizing t with
  | nil => rfl
  | cons e a ih =>
    simp only [List.cons_append, Tr.adds]
    cases t.add e with
    | none => rfl
    | some t' => simp only [Option.bind_some]; exact ih t'
theorem adds_snoc (t : Tr) (a : List Ev) (e : Ev) : t.adds (a ++ [e]) = (t.adds a).bind fun t' => t'.add e := by
  rw [adds_append]
  congr 1
  funext t'
  simp only [Tr.adds]
  cases t'.add e <;> rfl
theorem adds_none {l : List Ev} {k : Nat} {e : Ev} {t : Tr} (he : l[k]? = some e) (ht : Tr.init.adds (l.take k) = some t) (hn : t.add e = none) : Tr.init.adds l = none := by
  have hk : k < l.length := (List.getElem?_eq_some_iff.1 he).1
  have h1 : l = l.take k ++ ([e] ++ l.drop (k + 1)) := by
    rw [List.singleton_append]
    have : e = l[k] := by rw [List.getElem?_eq_getElem hk] at he; simpa using he.symm
    rw [this, ← List.drop_eq_getElem_cons hk, List.take_append_drop]
  rw [h1, ← List.append_assoc, adds_append, adds_snoc, ht]
  simp [hn]
theorem adds_ok : ∀ (l : List Ev) (m : Nat) (t t' : Tr), TrOk m t → t.adds l = some t' → TrOk (m + l.length) t'
  | [], m, t, t', h, ha => by simp only [Tr.adds, Option.some.injEq] at ha; subst ha; exact h
  | e :: l, m, t, t', h, ha => by
    simp only [Tr.adds] at ha
    cases h1 : t.add e with
    | none => rw [h1] at ha; cases ha
    | some u =>
      rw [h1] at ha
      have := adds_ok l (m + 1) u t' (add_ok h h1) ha
      rw [List.length_cons, show m + (l.length + 1) = m + 1 + l.length by omega]
      exact this
theorem opened_step (u : Tr) (e : Ev) : (u.opened e).step = u.step := by unfold Tr.opened; split <;> rfl
theorem add_step {t t' : Tr} {e : Ev} (h : t.add e = some t') : t.step ≤ e.step ∧ e.step ≤ 20000 ∧ t'.step = e.step := by
  unfold Tr.add at h
  split at h
  · cases h
  rename_i hel
  have h1 : ¬ e.step < t.step ∧ ¬ 20000 < e.step := by
    unfold Tr.early at hel
    constructor
    · intro hh; simp [hh] at hel
    · intro hh; simp [hh] at hel
  refine ⟨by omega, by omega, ?_⟩
  split at h
  · split at h
    · simp only [Option.some.injEq] at h; subst h; exact opened_step _ _
    · cases h
  split at h
  · split at h
    · simp only [Option.some.injEq] at h; subst h; rfl
    · cases h
  split at h
  · split at h
    · simp only [Option.some.injEq] at h; subst h; rfl
    · cases h
  split at h
  · cases h
  simp only at h
  split at h
  · split at h
    · simp only [Option.some.injEq] at h; subst h; rfl
    · cases h
  split at h
  · split at h
    · simp only [Option.some.injEq] at h; subst h; rfl
    · cases h
  split at h
  · split at h
    · simp only [Option.some.injEq] at h; subst h; rfl
    · cases h
  · cases h

/-- The events up to a step (below 0: all). -/
def passes (s : Int) (e : Ev) : Bool := decide (s < 0) || decide (e.step ≤ s)
def upto (l : List Ev) (s : Int) : List Ev := l.takeWhile (passes s)
theorem upto_all : ∀ {a : List Ev} (b : List Ev) {s : Int}, upto a s = a → upto (a ++ b) s = a ++ upto b s
  | [], _, _, _ => rfl
  | x :: a, b, s, h => by
    unfold upto at h ⊢
    rw [List.takeWhile_cons] at h
    rw [List.cons_append, List.takeWhile_cons]
    cases hp : passes s x
    · rw [hp] at h; cases h
    · rw [hp] at h
      simp only [if_true, List.cons.injEq, true_and] at h
      simp only [if_true, List.cons_append]
      have := upto_all b (s := s) (a := a) h
      unfold upto at this
      rw [this]
theorem upto_neg (l : List Ev) {s : Int} (h : s < 0) : upto l s = l := by
  unfold upto
  induction l with
  | nil => rfl
  | cons x l ih => rw [List.takeWhile_cons, show passes s x = true by simp [passes, h]]; simp only [if_true, ih]

theorem TrAt.new {B k : Nat} {w : World} (hB : B ≤ k) (h : Blk w k #[.slice none 0 0, .slice none 0 0, .int .i64 0, .int .i64 0, .int .i64 0, .int .i64 0] 58) : TrAt B w ⟨k, none, 0, none, 0⟩ Tr.init :=
  ⟨hB, h, World.ownsRow_nil _ _ _ _, World.ownsRow_nil _ _ _ _, fun i hi => by simp [Tr.init, St.init] at hi, fun x hx => by simp [Tr.init, St.init] at hx⟩

/-- What gone leaves. -/
def GonePost (w : World) (l : List Ev) (s : Int) (en : Ending) (w' : World) : Prop :=
  Fr No w w' ∧ match Tr.init.adds l with
  | none => en = .returned (.tuple #[.pointer none, .bool false])
  | some ta => ∃ R tb, Tr.init.adds (upto l s) = some tb ∧ en = .returned (.tuple #[.pointer (some ⟨R.t, 0, none⟩), .bool (ta.hole == 0 && ta.left == 0)]) ∧ TrAt w.heap.size w' R tb ∧ TrOk l.length tb
/-- Two traces, from the same beginning: of all events (a), and of those up to a step (b). -/
def GonePre (a : List Ev) (s : Int) (ta tb : Tr) : Prop := (upto a s = a ∧ tb = ta) ∨ (0 ≤ s ∧ s < ta.step ∧ ∀ b, upto (a ++ b) s = upto a s)
/-- What holds where gone goes round. -/
def GoneRel (w : World) (l : List Ev) (s : Int) (r1 r2 k : Nat) (wr : World) : Prop :=
  ∃ (R1 R2 : Loc) (ta tb : Tr), R1.t = r1 ∧ R2.t = r2 ∧ Fr No w wr ∧ TrAt w.heap.size wr R1 ta ∧ TrAt w.heap.size wr R2 tb ∧ (∀ b, R1.foot b → ¬ R2.foot b) ∧
    Tr.init.adds (l.take k) = some ta ∧ Tr.init.adds (upto (l.take k) s) = some tb ∧ TrOk k ta ∧ TrOk k tb ∧ GonePre (l.take k) s ta tb
theorem take_snoc {l : List Ev} {k : Nat} {e : Ev} (he : l[k]? = some e) : l.take (k + 1) = l.take k ++ [e] := by rw [List.take_add_one, he]; rfl
/-- An event that is not let in. -/
theorem gone_skip {w wr w1 : World} {l : List Ev} {s : Int} {k : Nat} {R1 R2 : Loc} {ta ta' tb : Tr} {e : Ev} {o : Obj} (hfr : Fr No w wr) (h1 : TrAt w.heap.size wr R1 ta) (h2 : TrAt w.heap.size wr R2 tb) (hap : ∀ b, R1.foot b → ¬ R2.foot b)
    (ha : Tr.init.adds (l.take k) = some ta) (hb : Tr.init.adds (upto (l.take k) s) = some tb) (hoa : TrOk k ta) (hob : TrOk k tb) (hpre : GonePre (l.take k) s ta tb) (he : l[k]? = some e) (hadd : ta.add e = some ta')
    (hf : Fr R1.foot (wr.alloc o) w1) (hr : ∃ R', R'.t = R1.t ∧ TrAt w.heap.size w1 R' ta' ∧ ∀ k, R'.foot k → R1.foot k ∨ (wr.alloc o).heap.size ≤ k) (h0 : 0 ≤ s) (hs : s < e.step) : GoneRel w l s R1.t R2.t (k + 1) w1 := by
  obtain ⟨R', ht, hT, hft⟩ := hr
  have hst := add_step hadd
  have hp : passes s e = false := by unfold passes; simp; omega
  have hsz : (wr.alloc o).heap.size = wr.heap.size + 1 := by simp
  refine ⟨R', R2, ta', tb, ht, rfl, ?_, hT, ?_, ?_, ?_, ?_, add_ok hoa hadd, ?_, ?_⟩
  · exact (hfr.alloc o).then hf fun i hi hS => by have := (h1.foot_lt hS).1; omega
  · exact (h2.fr0 ((Fr.refl No wr).alloc o)).fr hf fun k hk => hap k hk
  · intro b hb1 hb2
    have := (h2.foot_lt hb2).2
    rcases hft b hb1 with hh | hh
    · exact hap b hh hb2
    · omega
  · rw [take_snoc he, adds_snoc, ha]; exact hadd
  · rw [take_snoc he]
    rcases hpre with ⟨hu, rfl⟩ | ⟨-, -, hu⟩
    · rw [upto_all _ hu]
      have : upto [e] s = [] := by unfold upto; rw [List.takeWhile_cons, hp]; rfl
      rw [this, List.append_nil]; exact ha
    · rw [hu]; exact hb
  · exact ⟨hob.bd.mono (by omega), hob.hole0, hob.hole1, hob.left0, hob.left1⟩
  · refine .inr ⟨h0, by omega, fun m => ?_⟩
    rw [take_snoc he]
    rcases hpre with ⟨hu, rfl⟩ | ⟨-, -, hu⟩
    · rw [List.append_assoc, upto_all _ hu, upto_all _ hu]
      congr 1
      unfold upto
      rw [List.cons_append, List.takeWhile_cons, List.takeWhile_cons, hp]; rfl
    · rw [List.append_assoc, hu, hu]
/-- An event that is let in. -/
theorem gone_let {w wr w1 w2 : World} {l : List Ev} {s : Int} {k : Nat} {R1 R2 : Loc} {ta ta' tb : Tr} {e : Ev} {o : Obj} (hfr : Fr No w wr) (h1 : TrAt w.heap.size wr R1 ta) (h2 : TrAt w.heap.size wr R2 tb) (hap : ∀ b, R1.foot b → ¬ R2.foot b)
    (ha : Tr.init.adds (l.take k) = some ta) (hoa : TrOk k ta) (hu : upto (l.take k) s = l.take k) (htb : tb = ta) (he : l[k]? = some e) (hadd : ta.add e = some ta') (hp : passes s e = true)
    (hf : Fr R1.foot (wr.alloc o) w1) (hr : ∃ R', R'.t = R1.t ∧ TrAt w.heap.size w1 R' ta' ∧ ∀ k, R'.foot k → R1.foot k ∨ (wr.alloc o).heap.size ≤ k)
    (hf2 : Fr R2.foot w1 w2) (hr2 : ∃ R', R'.t = R2.t ∧ TrAt w.heap.size w2 R' ta' ∧ ∀ k, R'.foot k → R2.foot k ∨ w1.heap.size ≤ k) : GoneRel w l s R1.t R2.t (k + 1) w2 := by
  obtain ⟨R', ht, hT, hft⟩ := hr
  obtain ⟨R'', ht2, hT2, hft2⟩ := hr2
  subst htb
  have hsz : (wr.alloc o).heap.size = wr.heap.size + 1 := by simp
  have hap2 : ∀ b, R2.foot b → ¬ R'.foot b := fun b hb1 hb2 => by
    have := (h2.foot_lt hb1).2
    rcases hft b hb2 with hh | hh
    · exact hap b hh hb1
    · omega
  have hu2 : upto (l.take (k + 1)) s = l.take (k + 1) := by
    rw [take_snoc he, upto_all _ hu]
    have : upto [e] s = [e] := by unfold upto; rw [List.takeWhile_cons, hp]; rfl
    rw [this]
  refine ⟨R', R'', ta', ta', ht, ht2, ?_, ?_, hT2, ?_, ?_, ?_, add_ok hoa hadd, add_ok hoa hadd, .inl ⟨hu2, rfl⟩⟩
  · exact ((hfr.alloc o).then hf fun i hi hS => by have := (h1.foot_lt hS).1; omega).then hf2 fun i hi hS => by have := (h2.foot_lt hS).1; omega
  · exact hT.fr hf2 hap2
  · intro b hb1 hb2
    have := (hT.foot_lt hb1).2
    rcases hft2 b hb2 with hh | hh
    · exact hap2 b hh hb1
    · omega
  · rw [take_snoc he, adds_snoc, ha]; exact hadd
  · rw [hu2, take_snoc he, adds_snoc, ha]; exact hadd

set_option maxRecDepth 100000 in
set_option maxHeartbeats 4000000 in
theorem gone_any (w : World) (A : Option Addr) (cap : Nat) (l : List Ev) (s : Int) (hev : Evs w.heap.size w A l) (hl : l.length ≤ 2000) (hcap : l.length ≤ cap) :
    Calls Tryd.prog 22 #[.slice A l.length cap, .int .i64 s] w (GonePost w l s) := by
  have HE := Lib.hid hev
  clear hev
  go_enter Tryd.func22, Tryd.ntmps22
  go_wp2_with fail
  go_loopw [16, 9, 26, 27, 28, 29, 30, 31, 32, 33, 34] (fun iv _ _ _ _ _ _ _ _ _ _ wr => ∃ k : Nat, iv = .int .i64 k ∧ k ≤ l.length ∧ Hid (GoneRel w l s w.heap.size (w.heap.size + 1) k wr)) (fun iv _ _ _ _ _ _ _ _ _ _ _ => l.length - (intOf iv).toNat)
  case atStart =>
    refine ⟨0, rfl, by omega, Lib.hid ⟨⟨w.heap.size, none, 0, none, 0⟩, ⟨w.heap.size + 1, none, 0, none, 0⟩, Tr.init, Tr.init, rfl, rfl, ((Fr.refl _ _).alloc _).alloc _, TrAt.new (Nat.le_refl _) ((Blk.new _ _ _).alloc _), TrAt.new (by omega) (Blk.new' _ _ _ _ (by simp)), fun b h1 h2 => ?_, rfl, rfl, Tr.init_ok, Tr.init_ok, .inl ⟨rfl, rfl⟩⟩⟩
    rcases h1 with h1 | h1 | h1
    · rcases h2 with h2 | h2 | h2
      · have h1' : b = w.heap.size := h1
        have h2' : b = w.heap.size + 1 := h2
        omega
      · simp [Value.ownBlock] at h2
      · simp [Value.ownBlock] at h2
    · simp [Value.ownBlock] at h1
    · simp [Value.ownBlock] at h1
  case round =>
    obtain ⟨k, rfl, hk, RR⟩ := hrel
    by_cases hlt : k < l.length
    · have hx : l[k]? = some (l[k]'hlt) := List.getElem?_eq_getElem _
      generalize (l[k]'hlt) = e at hx
      obtain ⟨R1, R2, ta, tb, ht1, ht2, hfr, hT1, hT2, hap, ha, hb, hoa, hob, hpre⟩ := RR.out
      obtain ⟨b, off, rfl, hbB, hbl, e0, e1, e2, e3⟩ := (HE.out.fr0 hfr) k e hx
      have hsz := hfr.size
      have hadd := trAdd w.heap.size (wr.alloc (.cells #[.int .i64 e.step, .int .i64 e.life, .int .i64 e.words, .string e.act] 52)) R1 ta e k (hT1.fr0 ((Fr.refl No wr).alloc _)) hoa (by omega) (by simp; omega)
      rw [ht1] at hadd
      unfold Ev.val AddPost at hadd
      cases ho : ta.add e with
      | none =>
        rw [ho] at hadd
        have HADD := Lib.hid hadd
        have HX := Lib.hid hx
        have HO := Lib.hid ho
        have HFR := Lib.hid hfr
        have HT1 := Lib.hid hT1
        have HA := Lib.hid ha
        clear hadd hx ho hfr hT1 hT2 hap ha hb hoa hob hpre hsz
        go_wp2_with fail
        refine HADD.out.mono ?_
        rintro en w1 ⟨hf1, rfl⟩
        have HF1 := Lib.hid hf1
        clear hf1
        go_wp2_with fail
        go_ret2
        unfold GonePost
        rw [adds_none HX.out HA.out HO.out]
        exact ⟨(HFR.out.alloc _).then HF1.out fun i hi hS => by have := (HT1.out.foot_lt hS).1; omega, rfl⟩
      | some ta' =>
        rw [ho] at hadd
        have HADD := Lib.hid hadd
        have HX := Lib.hid hx
        have HO := Lib.hid ho
        have HFR := Lib.hid hfr
        have HT1 := Lib.hid hT1
        have HT2 := Lib.hid hT2
        have HAP := Lib.hid hap
        have HA := Lib.hid ha
        have HB := Lib.hid hb
        have HOA := Lib.hid hoa
        have HOB := Lib.hid hob
        have HPRE := Lib.hid hpre
        have HR1 := Lib.hid ht1
        have HR2 := Lib.hid ht2
        have hlt1 : ∀ j, R1.foot j → j < wr.heap.size := fun j hj => (hT1.foot_lt hj).2
        clear hadd hx ho hfr hT1 hT2 hap ha hb hoa hob hpre ht1 ht2
        go_wp2_with fail
        refine HADD.out.mono ?_
        rintro en w1 ⟨hf1, rfl, hr⟩
        have hbx : Blk w1 wr.heap.size #[.int .i64 e.step, .int .i64 e.life, .int .i64 e.words, .string e.act] 52 := hf1.blk (Blk.new wr _ _) (fun hS => by have := hlt1 _ hS; omega)
        have b0 : w1.cell? ⟨wr.heap.size, 0, none⟩ = some (.int .i64 e.step) := hbx.cell 0
        have b1 : w1.cell? ⟨wr.heap.size, 1, none⟩ = some (.int .i64 e.life) := hbx.cell 1
        have b2 : w1.cell? ⟨wr.heap.size, 2, none⟩ = some (.int .i64 e.words) := hbx.cell 2
        have b3 : w1.cell? ⟨wr.heap.size, 3, none⟩ = some (.string e.act) := hbx.cell 3
        have hbl1 := hbx.lt
        have hsz1 := hf1.size
        rw [show (wr.alloc (.cells #[.int .i64 e.step, .int .i64 e.life, .int .i64 e.words, .string e.act] 52)).heap.size = wr.heap.size + 1 by simp] at hsz1
        have hlet : passes s e = true → Calls Tryd.prog 38 #[.pointer (some ⟨w.heap.size + 1, 0, none⟩), .agg #[.int .i64 e.step, .int .i64 e.life, .int .i64 e.words, .string e.act]] w1 fun en w2 => en = .returned (.bool true) ∧ GoneRel w l s w.heap.size (w.heap.size + 1) (k + 1) w2 := by
          intro hp
          have hpr : upto (l.take k) s = l.take k ∧ tb = ta := by
            rcases HPRE.out with h | ⟨h1, h2, -⟩
            · exact h
            · have := add_step HO.out
              unfold passes at hp
              simp only [Bool.or_eq_true, decide_eq_true_eq] at hp
              omega
          have h2 := trAdd w.heap.size w1 R2 ta e k (((hpr.2 ▸ HT2.out).fr0 ((Fr.refl No wr).alloc _)).fr hf1 fun j hj => HAP.out j hj) HOA.out (by omega) (by omega)
          rw [HR2.out, HO.out] at h2
          refine h2.mono ?_
          rintro en w2 ⟨hf2, rfl, hr2⟩
          refine ⟨rfl, ?_⟩
          have := gone_let HFR.out HT1.out HT2.out HAP.out HA.out HOA.out hpr.1 hpr.2 HX.out HO.out hp hf1 hr hf2 hr2
          rw [HR1.out, HR2.out] at this
          exact this
        have hskip : 0 ≤ s → s < e.step → GoneRel w l s w.heap.size (w.heap.size + 1) (k + 1) w1 := by
          intro h0 h1
          have := gone_skip HFR.out HT1.out HT2.out HAP.out HA.out HB.out HOA.out HOB.out HPRE.out HX.out HO.out hf1 hr h0 h1
          rw [HR1.out, HR2.out] at this
          exact this
        have HLET := Lib.hid hlet
        have HSKIP := Lib.hid hskip
        clear hlet hskip hf1 hr hbx
        rcases (by omega : s < 0 ∨ (0 ≤ s ∧ e.step ≤ s) ∨ (0 ≤ s ∧ s < e.step)) with g | ⟨g, g2⟩ | ⟨g, g2⟩
        · have hp : passes s e = true := by unfold passes; simp; omega
          have g1 : decide (s < 0) = true := by simpa using g
          have HP := Lib.hid hp
          clear hp
          go_wp2_with fail
          refine (HLET.out HP.out).mono ?_
          rintro en w2 ⟨rfl, hrel2⟩
          have HREL2 := Lib.hid hrel2
          clear hrel2
          go_wp2_with fail
          go_roundw
          case rel => exact ⟨k + 1, by go_num, by omega, HREL2⟩
          case measure => simp [intOf]; omega
        · have hp : passes s e = true := by unfold passes; simp; omega
          have g1 : decide (s < 0) = false := by simpa using g
          have g3 : decide (e.step ≤ s) = true := by simpa using g2
          have HP := Lib.hid hp
          clear hp
          go_wp2_with fail
          refine (HLET.out HP.out).mono ?_
          rintro en w2 ⟨rfl, hrel2⟩
          have HREL2 := Lib.hid hrel2
          clear hrel2
          go_wp2_with fail
          go_roundw
          case rel => exact ⟨k + 1, by go_num, by omega, HREL2⟩
          case measure => simp [intOf]; omega
        · have g1 : decide (s < 0) = false := by simpa using g
          have g3 : decide (e.step ≤ s) = false := by simp; omega
          have HREL2 := Lib.hid (HSKIP.out g g2)
          go_wp2_with fail
          go_roundw
          case rel => exact ⟨k + 1, by go_num, by omega, HREL2⟩
          case measure => simp [intOf]; omega
    · have hk2 : k = l.length := by omega
      have HK2 := Lib.hid hk2
      clear hk2
      obtain ⟨R1, R2, ta, tb, ht1, ht2, hfr, hT1, hT2, hap, ha, hb, hoa, hob, hpre⟩ := RR.out
      have c2 : wr.cell? ⟨w.heap.size, 2, none⟩ = some (.int .i64 ta.hole) := by rw [← ht1]; exact hT1.blk.cell 2
      have c4 : wr.cell? ⟨w.heap.size, 4, none⟩ = some (.int .i64 ta.left) := by rw [← ht1]; exact hT1.blk.cell 4
      have hlt1 : w.heap.size < wr.heap.size := by rw [← ht1]; exact hT1.blk.lt
      have hpost : ∀ en w', Fr No wr w' → en = .returned (.tuple #[.pointer (some ⟨w.heap.size + 1, 0, none⟩), .bool (ta.hole == 0 && ta.left == 0)]) → GonePost w l s en w' := by
        intro en w' hf he
        have hl : l.take k = l := by rw [HK2.out, List.take_length]
        rw [hl] at ha hb
        unfold GonePost
        rw [ha]
        refine ⟨hfr.trans hf, R2, tb, hb, by rw [he, ht2], hT2.fr0 hf, by rw [← HK2.out]; exact hob⟩
      have HPOST := Lib.hid hpost
      clear hpost hfr hT1 hT2 hap ha hb hoa hob hpre ht1 ht2
      have hw : ((ta.hole == 0) = true ∨ (ta.hole == 0) = false) := by cases (ta.hole == 0) <;> simp
      rcases hw with hw | hw
      · go_wp2_with fail
        go_quiet (fail)
        go_wp2_with fail
        go_ret2
        exact HPOST.out _ _ (Fr.quiet _) (by rw [hw]; simp)
      · go_wp2_with fail
        go_quiet (fail)
        go_wp2_with fail
        go_ret2
        exact HPOST.out _ _ (Fr.quiet _) (by rw [hw]; simp)
end Go.Proofs.YtnloffjjlhhanaaDoor
