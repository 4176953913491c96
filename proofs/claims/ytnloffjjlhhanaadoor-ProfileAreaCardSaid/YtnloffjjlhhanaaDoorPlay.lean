/- profile.play, for whatever is called behind each group of events. -/
import Derived.Test.YtnloffjjlhhanaaDoorRuns
set_option linter.unusedVariables false
set_option linter.unusedSimpArgs false
namespace Go.Proofs.YtnloffjjlhhanaaDoor
open Go.RowKit
open Go.Proofs

/-- What is handed to play: nothing, or a closure that keeps an account I of the states that it has seen; J: the blocks that are its own. -/
structure Sees (B : Nat) (sv : Value) (I : World → (Nat → Prop) → List (St × Int) → Prop) : Prop where
  lt : ∀ w J tr, I w J tr → ∀ k, J k → B ≤ k ∧ k < w.heap.size
  stays : ∀ w w' J tr, I w J tr → w.heap.size ≤ w'.heap.size → (∀ k, J k → w'.heap[k]? = w.heap[k]?) → I w' J tr
  call : (sv = .nilFunc ∧ ∀ w J tr x, I w J tr → I w J (tr ++ [x])) ∨ ∃ g caps, sv = .func (.func g) #[] caps ∧ Enters Tryd.prog g ∧
    ∀ (w : World) (F : Film) (s : St) (m : Nat) (st : Int) (J : Nat → Prop) (tr : List (St × Int)), FilmAt B w F s → Bd m s → m ≤ 4000 → tr.length ≤ 4000 → B ≤ w.heap.size → 0 ≤ st → st ≤ 20000 → I w J tr → (∀ k, J k → ¬ F.foot k) →
      Calls Tryd.prog g (#[.pointer (some ⟨F.f, 0, none⟩), .int .i64 st] ++ caps) w fun en w' => en = .returned (.tuple #[]) ∧ Fr J w w' ∧ ∃ J', I w' J' (tr ++ [(s, st)]) ∧ ∀ k, J' k → J k ∨ w.heap.size ≤ k

theorem stepsFrom_at : ∀ (l : List Ev) (p : Int), (∀ (i : Nat) (e : Ev), l[i]? = some e → 0 ≤ e.step ∧ e.step ≤ 20000 ∧ ∀ e', (if i = 0 then some p else (l[i - 1]?).map (·.step)) = some e' → e' ≤ e.step) → stepsFrom p l = true := by
  intro l
  induction l with
  | nil => intro p _; rfl
  | cons a l ih =>
    intro p h
    have h0 := h 0 a rfl
    have h1 := h0.2.2 p rfl
    simp only [stepsFrom, Bool.and_eq_true, decide_eq_true_eq]
    refine ⟨⟨⟨h1, h0.1⟩, h0.2.1⟩, ih a.step fun i e he => ?_⟩
    have h2 := h (i + 1) e (by simpa using he)
    refine ⟨h2.1, h2.2.1, fun e' he' => h2.2.2 e' ?_⟩
    cases i with
    | zero => simpa using he'
    | succ i => simpa using he'
theorem stepsFrom_no : ∀ (l : List Ev) (p : Int) (i : Nat) (e : Ev), l[i]? = some e → (¬ (0 ≤ e.step ∧ e.step ≤ 20000) ∨ ∃ e', (if i = 0 then some p else (l[i - 1]?).map (·.step)) = some e' ∧ e.step < e') → stepsFrom p l = false := by
  intro l
  induction l with
  | nil => intro p i e h; simp at h
  | cons a l ih =>
    intro p i e he h
    cases i with
    | zero =>
      simp only [List.getElem?_cons_zero, Option.some.injEq] at he
      subst he
      rcases h with h | ⟨e', h1, h2⟩
      · simp only [stepsFrom, Bool.and_eq_false_iff, decide_eq_false_iff_not]
        by_cases h0 : 0 ≤ a.step
        · exact .inl (.inr (fun h3 => h ⟨h0, h3⟩))
        · exact .inl (.inl (.inr h0))
      · simp only [if_true, Option.some.injEq] at h1
        subst h1
        simp only [stepsFrom, Bool.and_eq_false_iff, decide_eq_false_iff_not]
        exact .inl (.inl (.inl (by omega)))
    | succ i =>
      simp only [stepsFrom, Bool.and_eq_false_iff]
      refine .inr (ih a.step i e (by simpa using he) ?_)
      rcases h with h | ⟨e', h1, h2⟩
      · exact .inl h
      · refine .inr ⟨e', ?_, h2⟩
        cases i with
        | zero => simpa using h1
        | succ i => simpa using h1

theorem neq_nil (W : World) : (binOp .neq 85 .nilFunc .nilFunc).run Tryd.prog W = .ok (.bool false) W := by kernel_rfl
theorem neq_func (g : Nat) (caps : Array Value) (W : World) : (binOp .neq 85 (.func (.func g) #[] caps) .nilFunc).run Tryd.prog W = .ok (.bool true) W := by kernel_rfl
def lenOf : Value → Nat | .slice _ n _ => n | _ => 0
/-- What play leaves. -/
def PlayPost (B : Nat) (w : World) (J0 : Nat → Prop) (I : World → (Nat → Prop) → List (St × Int) → Prop) (o : Option (List (St × Int))) (en : Ending) (w' : World) : Prop :=
  Fr J0 w w' ∧ match o with
  | none => en = .returned (.tuple #[.pointer none, .bool false])
  | some tr => ∃ F J, en = .returned (.tuple #[.pointer (some ⟨F.f, 0, none⟩), .bool true]) ∧ FilmAt B w' F (finalOf tr) ∧ (∃ m, m ≤ 4000 ∧ Bd m (finalOf tr)) ∧ I w' J tr ∧ (∀ k, F.foot k → w.heap.size ≤ k) ∧ (∀ k, J k → J0 k ∨ w.heap.size ≤ k) ∧ (∀ k, J k → ¬ F.foot k) ∧ tr.length ≤ 4000

/-- What holds where play goes round. -/
def PlayRel (B : Nat) (w : World) (J0 : Nat → Prop) (I : World → (Nat → Prop) → List (St × Int) → Prop) (l : List Ev) (lv : Value) (wr : World) : Prop :=
  ∃ (s : St) (tr : List (St × Int)) (F : Film) (J : Nat → Prop) (m : Nat) (rest : List Ev) (A' : Option Addr) (cap' : Nat), lv = .slice A' rest.length cap' ∧ rest.length ≤ cap' ∧ m + rest.length = l.length ∧ F.f = w.heap.size ∧ tr.length ≤ m ∧ Hid (Fr J0 w wr) ∧ Hid (FilmAt B wr F s ∧ Bd m s ∧ s = finalOf tr) ∧ Hid (Evs B wr A' rest) ∧ Hid (I wr J tr) ∧ Hid ((∀ k, F.foot k → w.heap.size ≤ k) ∧ (∀ k, J k → J0 k ∨ w.heap.size ≤ k) ∧ (∀ k, J k → ¬ F.foot k)) ∧ Hid (playP l = (runs (rest.length + 1) s rest).map fun t => tr ++ t) ∧ Hid (∀ e ∈ rest, e ∈ l)
theorem Evs.drop {B : Nat} {w : World} {b off cap n : Nat} {l : List Ev} (h : Evs B w (some ⟨b, off, none⟩) l) (hc : l.length ≤ cap) : Evs B w (if cap = n then some ⟨b, off, none⟩ else some ⟨b, off + n * 4, none⟩) (l.drop n) := by
  intro i e he
  rw [List.getElem?_drop] at he
  have hlt := (List.getElem?_eq_some_iff.1 he).1
  obtain ⟨b', off', hA, hb, hbl, h0, h1, h2, h3⟩ := h (n + i) e he
  simp only [Option.some.injEq, Addr.mk.injEq, and_true] at hA
  obtain ⟨rfl, rfl⟩ := hA
  rw [if_neg (by omega)]
  have e4 : off + n * 4 + i * 4 = off + (n + i) * 4 := by omega
  exact ⟨b, _, rfl, hb, hbl, by rw [e4]; exact h0, by rw [e4]; exact h1, by rw [e4]; exact h2, by rw [e4]; exact h3⟩
theorem runs_more : ∀ (k : Nat) (s : St) (l : List Ev) (n m : Nat), l.length < n → l.length < m → Bd k s → runs n s l = runs m s l := by
  intro k s l
  induction hl : l.length using Nat.strongRecOn generalizing k s l with
  | _ len ih =>
    intro n m hn hm hb
    obtain ⟨n, rfl⟩ : ∃ q, n = q + 1 := ⟨n - 1, by omega⟩
    obtain ⟨m, rfl⟩ : ∃ q, m = q + 1 := ⟨m - 1, by omega⟩
    cases l with
    | nil => rfl
    | cons e r =>
      simp only [runs]
      split
      · rfl
      · cases hx : s.next (e :: r) with
        | none => rfl
        | some x =>
          obtain ⟨s', q⟩ := x
          have hq := next_bd hb hx
          have hd : ((e :: r).drop q).length < len := by rw [← hl]; simp; omega
          simp only
          simp only [List.length_cons] at hl
          rw [ih _ hd _ s' _ rfl n m (by omega) (by omega) hq.1]
set_option maxRecDepth 100000 in
set_option maxHeartbeats 4000000 in
theorem play_any (B : Nat) (w : World) (A : Option Addr) (cap : Nat) (l : List Ev) (sv : Value) (I : World → (Nat → Prop) → List (St × Int) → Prop) (J0 : Nat → Prop) (hS : Sees B sv I) (hev : Evs B w A l) (hl : l.length ≤ 2000) (hcap : l.length ≤ cap) (hB : B ≤ w.heap.size) (hI : I w J0 []) :
    Calls Tryd.prog 26 #[.slice A l.length cap, sv] w (PlayPost B w J0 I (playP l)) := by
  have HS := Lib.hid hS
  have HE := Lib.hid hev
  have HI := Lib.hid hI
  clear hS hev hI
  go_enter Tryd.func26, Tryd.ntmps26
  go_wp2_with fail
  go_loopw [14, 7, 8] (fun iv _ _ wr => ∃ k : Nat, iv = .int .i64 k ∧ k ≤ l.length ∧ Hid (Fr No (w.alloc (.cells #[.slice none 0 0, .slice none 0 0] 77)) wr) ∧ Hid (∀ (i : Nat) (e : Ev), i < k → l[i]? = some e → 0 ≤ e.step ∧ e.step ≤ 20000 ∧ ∀ e', (if i = 0 then some 0 else (l[i - 1]?).map (·.step)) = some e' → e' ≤ e.step)) (fun iv _ _ _ => l.length - (intOf iv).toNat)
  case atStart => exact ⟨0, rfl, by omega, Fr.refl _ _, Lib.hid fun i _ hi => by omega⟩
  case round =>
    obtain ⟨k, rfl, hk, R1, R2⟩ := hrel
    by_cases hlt : k < l.length
    · have hx : l[k]? = some (l[k]'hlt) := List.getElem?_eq_getElem _
      generalize (l[k]'hlt) = e at hx
      have hfr0 : Fr No w wr := ((Fr.refl No w).alloc _).trans R1.out
      have hev1 := HE.out.fr0 hfr0
      obtain ⟨b, off, rfl, hbB, hbl, e0, e1, e2, e3⟩ := hev1 k e hx
      have HX := Lib.hid hx
      have HFR := Lib.hid hfr0
      have HE1 := Lib.hid hev1
      clear hx hfr0 hev1
      cases hbt : (decide (0 ≤ e.step) && decide (e.step ≤ 20000)) with
      | false =>
        have HBT := Lib.hid hbt
        have HN : Hid (playP l = none) := by
          unfold Hid playP
          rw [stepsFrom_no l 0 k e HX.out (.inl (by intro hh; rw [decide_eq_true hh.1, decide_eq_true hh.2] at hbt; cases hbt))]
          rfl
        clear hbt
        go_wp2_with fail
        go_quiet ((go_at_call 28; exact between_q _ _ _ _ HBT.out _ _))
        go_wp2_with fail
        go_ret2
        rw [HN.out]
        exact ⟨((HFR.out.alloc _).drewN _).wider fun _ _ h => h.elim, rfl⟩
      | true =>
        have HBT := Lib.hid hbt
        have hb2 : 0 ≤ e.step ∧ e.step ≤ 20000 := by simpa using hbt
        clear hbt
        rcases Nat.eq_zero_or_pos k with rfl | hkp
        · have g1 : decide ((0 : Int) < ((0 : Nat) : Int)) = false := by simp
          simp only [Nat.zero_mul, Nat.add_zero] at e0 e1 e2 e3
          go_wp2_with fail
          go_quiet ((go_at_call 28; exact between_q _ _ _ _ HBT.out _ _))
          go_wp2_with fail
          go_roundw
          case rel =>
            refine ⟨1, by go_num, by omega, (R1.out.alloc _).drewN _, Lib.hid fun i e' hi h1 => ?_⟩
            have hi0 : i = 0 := by omega
            subst hi0
            rw [HX.out] at h1
            simp only [Option.some.injEq] at h1
            subst h1
            refine ⟨hb2.1, hb2.2, fun e'' h2 => ?_⟩
            simp only [if_true, Option.some.injEq] at h2
            omega
          case measure => simp [intOf]; omega
        · obtain ⟨k, rfl⟩ : ∃ q, k = q + 1 := ⟨k - 1, by omega⟩
          have hy : l[k]? = some (l[k]'(by omega)) := List.getElem?_eq_getElem _
          generalize (l[k]'(by omega)) = p at hy
          obtain ⟨b', off', hbb, -, -, p0, -, -, -⟩ := HE1.out k p hy
          simp only [Option.some.injEq, Addr.mk.injEq, and_true] at hbb
          obtain ⟨rfl, rfl⟩ := hbb
          have HY := Lib.hid hy
          have g1 : decide ((0 : Int) < (k : Int) + 1) = true := by simp
          clear hy
          cases hgt : decide (e.step < p.step) with
          | true =>
            have HN : Hid (playP l = none) := by
              unfold Hid playP
              rw [stepsFrom_no l 0 (k + 1) e HX.out (.inr ⟨p.step, by simp [HY.out], by simpa using hgt⟩)]
              rfl
            go_wp2_with fail
            go_quiet ((go_at_call 28; exact between_q _ _ _ _ HBT.out _ _))
            go_wp2_with fail
            go_ret2
            rw [HN.out]
            exact ⟨((HFR.out.alloc _).drewN _).wider fun _ _ h => h.elim, rfl⟩
          | false =>
            have hle : p.step ≤ e.step := by simpa using hgt
            have HLE := Lib.hid hle
            clear hle
            go_wp2_with fail
            go_quiet ((go_at_call 28; exact between_q _ _ _ _ HBT.out _ _))
            go_wp2_with fail
            go_roundw
            case rel =>
              refine ⟨k + 1 + 1, by go_num, by omega, (R1.out.alloc _).drewN _, Lib.hid fun i e' hi h1 => ?_⟩
              rcases Nat.lt_succ_iff_lt_or_eq.1 hi with hi | rfl
              · exact R2.out i e' hi h1
              · rw [HX.out] at h1
                simp only [Option.some.injEq] at h1
                subst h1
                refine ⟨hb2.1, hb2.2, fun e'' h2 => ?_⟩
                simp [HY.out] at h2
                have := HLE.out
                omega
            case measure => simp [intOf]; omega
    · have hst : Hid (stepsFrom 0 l = true) := by
        refine stepsFrom_at l 0 fun i e he => R2.out i e ?_ he
        have := (List.getElem?_eq_some_iff.1 he).1
        omega
      obtain ⟨wo, rfl⟩ : ∃ wo : World, wo = wr := ⟨_, rfl⟩
      have hfr0 : Fr No w wo := ((Fr.refl No w).alloc _).trans R1.out
      have HFR := Lib.hid hfr0
      have hfilm : FilmAt B wo ⟨w.heap.size, none, 0, none, 0, []⟩ St.init := by
        refine ⟨hB, R1.out.blk (Blk.new _ _ _) (fun h => h), World.ownsRow_nil _ _ _ _, World.ownsRow_nil _ _ _ _, rfl, List.nodup_nil, fun i k x hk => by simp at hk, fun k hk => by simp [Value.ownBlock] at hk, fun i hi => by simp [St.init] at hi⟩
      have HFILM := Lib.hid hfilm
      have HP0 : Hid (playP l = runs (l.length + 1) St.init l) := by unfold Hid playP; rw [if_pos hst.out]
      clear hfr0 hfilm
      go_wp2_with fail
      go_loopw [0, 9] (fun lv _ wr => PlayRel B w J0 I l lv wr) (fun lv _ _ => lenOf lv)
      case atStart =>
        refine ⟨St.init, [], ⟨w.heap.size, none, 0, none, 0, []⟩, J0, 0, l, A, cap, rfl, hcap, by omega, rfl, by simp, HFR.out.wider fun _ _ h => h.elim, ⟨HFILM.out, Bd.init, rfl⟩, HE.out.fr0 HFR.out, HS.out.stays w wo J0 [] HI.out HFR.out.size (fun k hk => HFR.out.block k (HS.out.lt w J0 [] HI.out k hk).2 (fun h => h)), ⟨?_, fun k hk => .inl hk, ?_⟩, ?_, fun e he => he⟩
        · intro k hk
          rcases hk with rfl | hk | hk | hk
          · exact Nat.le_refl _
          · simp [Value.ownBlock] at hk
          · simp [Value.ownBlock] at hk
          · simp at hk
        · intro k hk hf
          rcases hf with rfl | hf | hf | hf
          · have := (HS.out.lt w J0 [] HI.out _ hk).2; simp at this
          · simp [Value.ownBlock] at hf
          · simp [Value.ownBlock] at hf
          · simp at hf
        · unfold Hid; rw [HP0.out]; simp
      case round =>
        obtain ⟨s, tr, F, J, m, rest, A', cap', rfl, hcap', hml, hFf, htr, Q1, Q2, Q3, Q4, Q5, Q6, Q7⟩ := hrel
        cases rest with
        | nil =>
          have HN : Hid (playP l = some tr) := by unfold Hid; rw [Q6.out]; simp [runs]
          go_wp2_with fail
          go_ret2
          rw [HN.out]
          refine ⟨Q1.out, F, J, by rw [hFf]; rfl, by rw [← Q2.out.2.2]; exact Q2.out.1, ⟨m, by omega, by rw [← Q2.out.2.2]; exact Q2.out.2.1⟩, Q4.out, Q5.out.1, Q5.out.2.1, Q5.out.2.2, by omega⟩
        | cons e r =>
          have c1 : wr.cell? ⟨F.f, 1, none⟩ = some (.slice F.Aa s.lf.length F.ca) := Q2.out.1.blk.cell 1
          have hfl := Q2.out.1.blk.lt
          obtain ⟨b, off, rfl, hbB, hbl, e0, e1, e2, e3⟩ := Q3.out 0 e rfl
          simp only [Nat.zero_mul, Nat.add_zero] at e0 e1 e2 e3
          have hsl := Q2.out.2.1.lf
          rw [hFf] at c1 hfl
          have HFf := Lib.hid hFf
          have HML := Lib.hid hml
          have hrl : r.length ≤ 2000 := by simp at hml; omega
          have hml2 : m ≤ 2000 := by omega
          clear hFf hml
          rw [List.length_cons] at *
          by_cases hbad : s.lf.length = 0 ∧ ¬ (isOpen e = true ∧ e.words = 0)
          · have HN : Hid (playP l = none) := by unfold Hid; rw [Q6.out]; simp only [runs]; rw [if_pos hbad]; rfl
            have h0 : ((s.lf.length : Int) == 0) = true := by simp; exact List.eq_nil_of_length_eq_zero hbad.1
            by_cases ho : isOpen e = true
            · have ho' : (e.act.toList == [111, 112, 101, 110]) = true := ho
              have hw' : (e.words == 0) = false := by
                have := hbad.2
                simp [ho] at this
                simpa using this
              have hw'' : (e.words != 0) = true := by simpa using hw'
              clear hbad ho
              go_wp2_with fail
              go_ret2
              rw [HN.out]
              exact ⟨Q1.out, rfl⟩
            · have ho' : (e.act.toList == [111, 112, 101, 110]) = false := by simpa [isOpen] using ho
              clear hbad ho
              go_wp2_with fail
              go_ret2
              rw [HN.out]
              exact ⟨Q1.out, rfl⟩
          · have hnx := film_next B wr F s (some ⟨b, off, none⟩) cap' e r ⟨Q2.out.1, by have := Q2.out.2.1.op; omega, by omega, by have := Q1.out.size; omega, Q3.out, by omega, Q2.out.2.1.small (by omega)⟩
            rw [HFf.out] at hnx
            have HNX := Lib.hid hnx
            clear hnx
            have hR : Hid (playP l = (match s.next (e :: r) with | none => none | some (s', n) => (runs (r.length + 1) s' ((e :: r).drop n)).map fun t => (s', ((e :: r).getD (n - 1) default).step) :: t).map fun t => tr ++ t) := by
              unfold Hid; rw [Q6.out]; simp only [runs]; rw [if_neg hbad]; rfl
            have hcase : ((s.lf.length : Int) == 0) = false ∨ (((s.lf.length : Int) == 0) = true ∧ (e.act.toList == [111, 112, 101, 110]) = true ∧ (e.words != 0) = false) := by
              by_cases h0 : s.lf.length = 0
              · have : isOpen e = true ∧ e.words = 0 := by
                  by_cases hh : isOpen e = true ∧ e.words = 0
                  · exact hh
                  · exact absurd ⟨h0, hh⟩ hbad
                exact .inr ⟨by simp; exact List.eq_nil_of_length_eq_zero h0, this.1, by simp [this.2]⟩
              · exact .inl (by simp; intro hh; exact h0 (by simp [hh]))
            have after : ∀ (en : Ending) (w1 : World), NextPost B F wr (s.next (e :: r)) en w1 → (s.next (e :: r) = none ∧ en = .returned (.int .i64 0) ∧ Fr No wr w1) ∨ (∃ (s' : St) (q : Nat) (F' : Film), s.next (e :: r) = some (s', q + 1) ∧ en = .returned (.int .i64 ((q : Int) + 1)) ∧ q < r.length + 1 ∧ F'.f = w.heap.size ∧ Fr F.foot wr w1 ∧ FilmAt B w1 F' s' ∧ Bd (m + (q + 1)) s' ∧ (∀ k, F'.foot k → F.foot k ∨ wr.heap.size ≤ k)) := by
              intro en w1 hp
              cases hn : s.next (e :: r) with
              | none => rw [hn] at hp; exact .inl ⟨rfl, hp.1, hp.2⟩
              | some x =>
                obtain ⟨s', n⟩ := x
                rw [hn] at hp
                obtain ⟨he, F', hf', hfr, hfilm, hft⟩ := hp
                have hb := next_bd Q2.out.2.1 hn
                obtain ⟨q, rfl⟩ : ∃ q, n = q + 1 := ⟨n - 1, by omega⟩
                exact .inr ⟨s', q, F', rfl, by rw [he]; simp, by omega, by rw [hf', HFf.out], hfr, hfilm, hb.1, hft⟩
            have AFT := Lib.hid after
            clear after hbad
            rcases hcase with hz | ⟨hz, ho', hw'⟩
            all_goals
              go_wp2_with fail
              refine HNX.out.mono ?_
              intro en w1 hpost
              rcases AFT.out en w1 hpost with ⟨hn, rfl, hf1⟩ | ⟨s', q, F', hn, rfl, hq, hF', hfr, hfilm, hbd, hft⟩
              · have HN : Hid (playP l = none) := by unfold Hid; rw [hR.out, hn]; rfl
                have hfr1 : Hid (Fr J0 w w1) := Q1.out.trans (hf1.wider fun _ _ h => h.elim)
                clear hpost hn hf1
                go_wp2_with fail
                go_ret2
                rw [HN.out]
                exact ⟨hfr1.out, rfl⟩
              · clear hpost
                have hJ : ∀ k, J k → w1.heap[k]? = wr.heap[k]? := fun k hk => hfr.block k (HS.out.lt wr J tr Q4.out k hk).2 (Q5.out.2.2 k hk)
                have HI1 := Lib.hid (HS.out.stays wr w1 J tr Q4.out hfr.size hJ)
                have HEV1 := Lib.hid (Q3.out.fr hfr (fun k hk => by have := Q5.out.1 k hk; omega))
                obtain ⟨b', off', hbb, -, -, y0, -, -, -⟩ := HEV1.out q ((e :: r)[q]'(by simpa using hq)) (List.getElem?_eq_getElem _)
                simp only [Option.some.injEq, Addr.mk.injEq, and_true] at hbb
                obtain ⟨rfl, rfl⟩ := hbb
                have HFILM := Lib.hid hfilm
                have HFR := Lib.hid hfr
                have HBD := Lib.hid hbd
                have HFT := Lib.hid hft
                have HN := Lib.hid hn
                have HF' := Lib.hid hF'
                have hbl1 := World.block_lt_of_cell? w1 _ y0
                clear hJ hfilm hfr hbd hft hn hF' c1 hfl e0 e1 e2 e3
                have close : ∀ (w2 : World) (J2 : Nat → Prop), Fr J w1 w2 → I w2 J2 (tr ++ [(s', ((e :: r)[q]'(by simpa using hq)).step)]) → (∀ k, J2 k → J k ∨ w1.heap.size ≤ k) →
                    PlayRel B w J0 I l (.slice (if cap' = q + 1 then some ⟨b, off, none⟩ else some ⟨b, off + (q + 1) * 4, none⟩) (r.length - q) (cap' - (q + 1))) w2 := by
                  intro w2 J2 hf2 hI2 hJ2
                  have hs0 := Q1.out.size
                  have hs1 := HFR.out.size
                  have hs2 := hf2.size
                  have hJB : ∀ k, J k → B ≤ k ∧ k < wr.heap.size := HS.out.lt wr J tr Q4.out
                  have hJF' : ∀ k, J k → ¬ F'.foot k := fun k hk hh => by
                    rcases HFT.out k hh with h1 | h1
                    · exact Q5.out.2.2 k hk h1
                    · have := (hJB k hk).2; omega
                  have hfilm2 := HFILM.out.fr hf2 hJF'
                  have hlen : ((e :: r).drop (q + 1)).length = r.length - q := by simp
                  have hc0 : (e :: r).length ≤ cap' := by simpa using hcap'
                  have hstep : ((e :: r).getD (q + 1 - 1) default).step = ((e :: r)[q]'(by simpa using hq)).step := by
                    rw [Nat.add_sub_cancel, List.getD_eq_getElem?_getD, List.getElem?_eq_getElem (by simpa using hq)]; rfl
                  refine ⟨s', tr ++ [(s', ((e :: r)[q]'(by simpa using hq)).step)], F', J2, m + (q + 1), (e :: r).drop (q + 1), _, cap' - (q + 1), by rw [hlen], by rw [hlen]; omega, by rw [hlen]; have := HML.out; (try simp at this); omega, HF'.out, by rw [List.length_append, List.length_singleton]; omega, ?_, ⟨hfilm2, HBD.out, by rw [finalOf_snoc]⟩, ?_, hI2, ⟨?_, ?_, ?_⟩, ?_, fun x hx => Q7.out x (List.mem_of_mem_drop hx)⟩
                  · refine (Q1.out.then HFR.out fun i hi hh => by have := Q5.out.1 i hh; omega).then hf2 fun i hi hh => ?_
                    rcases Q5.out.2.1 i hh with h1 | h1
                    · exact h1
                    · omega
                  · exact (HEV1.out.fr hf2 (fun k hk => (hJB k hk).1)).drop hc0
                  · intro k hk
                    rcases HFT.out k hk with h1 | h1
                    · exact Q5.out.1 k h1
                    · omega
                  · intro k hk
                    rcases hJ2 k hk with h1 | h1
                    · exact Q5.out.2.1 k h1
                    · exact .inr (by omega)
                  · intro k hk hh
                    rcases hJ2 k hk with h1 | h1
                    · exact hJF' k h1 hh
                    · have := (HFILM.out.foot_lt hh).2; omega
                  · unfold Hid
                    rw [hR.out, HN.out]
                    simp only
                    rw [hstep, runs_more _ s' _ (r.length + 1) (((e :: r).drop (q + 1)).length + 1) (by rw [hlen]; omega) (by omega) HBD.out]
                    cases runs (((e :: r).drop (q + 1)).length + 1) s' ((e :: r).drop (q + 1)) with
                    | none => rfl
                    | some t => simp
                have HCL := Lib.hid close
                clear close
                rcases HS.out.call with ⟨rfl, hI2⟩ | ⟨g, caps, rfl, hg, hcall⟩
                · have HI2 := Lib.hid hI2
                  clear hI2
                  have hnn := neq_nil
                  go_wp2_with fail
                  go_roundw
                  case rel => exact HCL.out w1 J (Fr.refl _ _) (HI2.out _ _ _ _ HI1.out) (fun k hk => .inl hk)
                  case measure => simp [lenOf]; omega
                · have HC := Lib.hid hcall
                  have hg' := hg
                  unfold Enters at hg'
                  clear hcall hg
                  have hnn := neq_func g caps
                  have hmq : m + (q + 1) ≤ 2000 := by have := HML.out; (try simp at this); omega
                  have hst2 : 0 ≤ ((e :: r)[q]'(by simpa using hq)).step ∧ ((e :: r)[q]'(by simpa using hq)).step ≤ 20000 := by
                    obtain ⟨i, hi, he⟩ := List.mem_iff_getElem.1 (Q7.out _ (List.getElem_mem (l := e :: r) (by simpa using hq)))
                    have := R2.out i _ (by omega) (List.getElem?_eq_getElem hi)
                    rw [he] at this
                    exact ⟨this.1, this.2.1⟩
                  have HST := Lib.hid hst2
                  clear hst2
                  go_wp2_with fail
                  rw [← HF'.out]
                  refine (HC.out w1 F' s' (m + (q + 1)) _ J tr HFILM.out HBD.out (by omega) (by omega) (by have := Q1.out.size; have := HFR.out.size; omega) HST.out.1 HST.out.2 HI1.out ?_).mono ?_
                  · intro k hk hh
                    rcases HFT.out k hh with h1 | h1
                    · exact Q5.out.2.2 k hk h1
                    · have := (HS.out.lt wr J tr Q4.out k hk).2; omega
                  · rintro en w2 ⟨rfl, hf2, J2, hI2, hJ2⟩
                    rw [HF'.out]
                    have HF2 := Lib.hid hf2
                    have HI2 := Lib.hid hI2
                    have HJ2 := Lib.hid hJ2
                    clear hf2 hI2 hJ2
                    go_wp2_with fail
                    go_roundw
                    case rel => exact HCL.out w2 J2 HF2.out HI2.out HJ2.out
                    case measure => simp [lenOf]; omega
end Go.Proofs.YtnloffjjlhhanaaDoor
