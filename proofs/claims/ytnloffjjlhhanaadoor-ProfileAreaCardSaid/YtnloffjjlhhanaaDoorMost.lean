/- profile.Right, profile.Most, and the law's sanity check. -/
import Derived.Test.YtnloffjjlhhanaaDoorPlay
set_option linter.unusedVariables false
set_option linter.unusedSimpArgs false
namespace Go.Proofs.YtnloffjjlhhanaaDoor
open Go.RowKit
open Go.Proofs

/-- How many pages are in use. -/
def St.pagesTo (s : St) (n : Nat) : Int := ((s.op.take n).map fun i => (s.lf.getD i default).now).sum
def St.pages (s : St) : Int := (s.op.map fun i => (s.lf.getD i default).now).sum
theorem now_bd {x : Lf} (h0 : 0 ≤ x.fin) (h1 : x.fin ≤ 900000) : 0 ≤ x.now ∧ x.now ≤ 90000 := by unfold Lf.now; split <;> omega
theorem pagesTo_succ (s : St) (n : Nat) (i : Nat) (h : s.op[n]? = some i) : s.pagesTo (n + 1) = s.pagesTo n + (s.lf.getD i default).now := by
  unfold St.pagesTo; rw [List.take_add_one, h]; simp
theorem pagesTo_bd (s : St) (hs : ∀ i ∈ s.op, 0 ≤ (s.lf.getD i default).now ∧ (s.lf.getD i default).now ≤ 90000) (n : Nat) : 0 ≤ s.pagesTo n ∧ s.pagesTo n ≤ n * 90000 := by
  induction n with
  | zero => simp [St.pagesTo]
  | succ n ih =>
    cases e : s.op[n]? with
    | none =>
      have : s.pagesTo (n + 1) = s.pagesTo n := by unfold St.pagesTo; rw [List.take_add_one, e]; simp
      rw [this]; omega
    | some i =>
      rw [pagesTo_succ _ _ _ e]
      have := hs i (List.mem_of_getElem? e)
      omega
theorem Bd.nows {m : Nat} {s : St} (h : Bd m s) (hm : m ≤ 4000) : ∀ i ∈ s.op, 0 ≤ (s.lf.getD i default).now ∧ (s.lf.getD i default).now ≤ 90000 := fun i hi => by
  have := h.lives _ (getD_mem (h.opens i hi))
  exact now_bd this.2.2.1 (by omega)
theorem pages_bd {m : Nat} {s : St} (h : Bd m s) (hm : m ≤ 4000) : 0 ≤ s.pages ∧ s.pages ≤ 360000000 := by
  have h1 := pagesTo_bd s (h.nows hm) s.op.length
  have h2 : s.pagesTo s.op.length = s.pages := by unfold St.pagesTo St.pages; rw [List.take_length]
  have := h.op
  rw [h2] at h1
  omega

theorem lifeNow (b : Nat) (x : Lf) (w : World) (h0 : w.cell? ⟨b, 0, none⟩ = some (.int .i64 x.words)) (h1 : w.cell? ⟨b, 1, none⟩ = some (.int .i64 x.fin)) (he0 : 0 ≤ x.fin) (he1 : x.fin ≤ 1000000) :
    Calls Tryd.prog 47 #[.pointer (some ⟨b, 0, none⟩)] w fun e w' => e = .returned (.int .i64 x.now) ∧ w = w' := lifePages b x.words x.fin w h0 h1 he0 he1

set_option maxRecDepth 100000 in
set_option maxHeartbeats 1000000 in
theorem film_pages (B : Nat) (w : World) (F : Film) (s : St) (m : Nat) (h : FilmAt B w F s) (hb : Bd m s) (hm : m ≤ 4000) :
    Calls Tryd.prog 37 #[.pointer (some ⟨F.f, 0, none⟩)] w fun e w' => e = .returned (.int .i64 s.pages) ∧ w' = w := by
  have c0 : w.cell? ⟨F.f, 0, none⟩ = some (.slice F.Ao s.op.length F.co) := h.blk.cell 0
  have hfl := h.blk.lt
  have hop := hb.op
  have H := Lib.hid h
  have HB := Lib.hid hb
  clear h hb
  obtain ⟨f, Ao, co, Aa, ca, bl⟩ := F
  simp only at c0 hfl
  go_enter Tryd.func37, Tryd.ntmps37
  go_wp2_with fail
  go_loop [3, 11, 5] (fun sv i _ => ∃ k : Nat, k ≤ s.op.length ∧ i = .int .i64 k ∧ sv = .int .i64 (s.pagesTo k)) (fun _ i _ => s.op.length - (intOf i).toNat)
  case atStart => exact ⟨0, by omega, rfl, by simp [St.pagesTo]⟩
  case round =>
    obtain ⟨k, hk, rfl, rfl⟩ := hrel
    have hp := pagesTo_bd s (HB.out.nows hm) k
    by_cases hlt : k < s.op.length
    · have hj : s.op[k]? = some (s.op[k]'hlt) := List.getElem?_eq_getElem _
      generalize (s.op[k]'hlt) = j at hj
      obtain ⟨g, q, x, hA, hc, -, -, hx, hblk, hgl⟩ := H.out.open_at hj
      simp only at hA
      subst hA
      have ex : s.lf.getD j default = x := by rw [List.getD_eq_getElem?_getD, hx]; rfl
      have hxs := HB.out.lives x (List.mem_of_getElem? hx)
      have hs : Hid (s.pagesTo (k + 1) = s.pagesTo k + x.now) := by unfold Hid; rw [pagesTo_succ s k j hj, ex]
      have hnb := now_bd hxs.2.2.1 (by omega)
      have l0 : w.cell? ⟨q, 0, none⟩ = some (.int .i64 x.words) := hblk.cell 0
      have l1 : w.cell? ⟨q, 1, none⟩ = some (.int .i64 x.fin) := hblk.cell 1
      clear hj hx hblk ex
      go_wp2_with (go_at_call 47; refine (lifeNow q x _ l0 l1 (by omega) (by omega)).mono ?_; rintro e w' ⟨rfl, rfl⟩)
      go_round
      case rel => exact ⟨k + 1, by omega, by go_num, by rw [hs.out]⟩
      case measure => simp [intOf]; omega
    · have hk2 : k = s.op.length := by omega
      have HK2 := Lib.hid hk2
      clear hk2
      go_wp2_with fail
      go_ret
      exact ⟨by rw [HK2.out]; unfold St.pagesTo St.pages; rw [List.take_length]; rfl, rfl⟩

def mostOf (tr : List (St × Int)) : Int := tr.foldl (fun m x => max m x.1.pages) 0
set_option maxRecDepth 100000 in
theorem most_closure (B b : Nat) (w : World) (F : Film) (s : St) (m : Nat) (st n : Int) (h : FilmAt B w F s) (hb : Bd m s) (hm : m ≤ 4000) (hbl : Blk w b #[.int .i64 n] 3) (hn : 0 ≤ n ∧ n ≤ 360000000) :
    Calls Tryd.prog 36 #[.pointer (some ⟨F.f, 0, none⟩), .int .i64 st, .pointer (some ⟨b, 0, none⟩)] w fun e w' => e = .returned (.tuple #[]) ∧ Fr (fun k => k = b) w w' ∧ Blk w' b #[.int .i64 (max n s.pages)] 3 := by
  have c0 : w.cell? ⟨b, 0, none⟩ = some (.int .i64 n) := hbl.cell 0
  have z0 := hbl.free 0
  have hl := hbl.lt
  have hp := pages_bd hb hm
  have HBL := Lib.hid hbl
  have HC := Lib.hid (fun W (hW : Fr No w W) => film_pages B W F s m (h.fr0 hW) hb hm)
  clear hbl h hb
  go_enter Tryd.func36, Tryd.ntmps36
  go_wp2_with fail
  refine region_tail 4 (by kernel_rfl) (by kernel_rfl) ?_
  simp only [List.take_succ_cons, List.take_zero, List.drop_succ_cons, List.drop_zero]
  repeat still_step
  refine wpStill_step (fun K hK => ?_)
  go_simp
  refine ⟨_, HC.out w.drew (Fr.quiet 1), hK _ ?_⟩
  clear hK K
  repeat still_step
  refine wpStill_nil ?_
  go_wp2_with fail
  all_goals
    go_end0
    refine ⟨rfl, Fr.drew (Fr.put (Fr.refl _ _) 0 _), ?_⟩
    refine Blk.cast ((HBL.out.set 0 _).drewN 1) ?_
    simp
    omega

def MostI (B b : Nat) (w : World) (J : Nat → Prop) (tr : List (St × Int)) : Prop := B ≤ b ∧ (∀ k, J k ↔ k = b) ∧ Blk w b #[.int .i64 (mostOf tr)] 3 ∧ 0 ≤ mostOf tr ∧ mostOf tr ≤ 360000000
theorem most_sees (B : Nat) (b : Nat) : Sees B (.func (.func 36) #[] #[.pointer (some ⟨b, 0, none⟩)]) (MostI B b) := by
  refine ⟨fun w J tr h k hk => ?_, fun w w' J tr h hs hk => ?_, .inr ⟨_, _, rfl, enters_of Tryd.func36 (by kernel_rfl) rfl, ?_⟩⟩
  · rw [h.2.1 k] at hk
    subst hk
    exact ⟨h.1, h.2.2.1.lt⟩
  · exact ⟨h.1, h.2.1, (hk b ((h.2.1 b).2 rfl)).trans h.2.2.1, h.2.2.2⟩
  · intro w F s m st J tr hF hb hm htr hB h0 h1 hI hJ
    refine (most_closure B b w F s m st _ hF hb hm hI.2.2.1 hI.2.2.2).mono ?_
    rintro en w' ⟨rfl, hf, hbl⟩
    have hp := pages_bd hb hm
    have e1 : mostOf (tr ++ [(s, st)]) = max (mostOf tr) s.pages := by unfold mostOf; rw [List.foldl_append]; rfl
    have h3 := hI.2.2.2
    exact ⟨rfl, hf.wider fun i _ hi => (hI.2.1 i).2 hi, J, ⟨hI.1, hI.2.1, by rw [e1]; exact hbl, by rw [e1]; omega, by rw [e1]; omega⟩, fun k hk => .inl hk⟩

def mostVal : Option (List (St × Int)) → Value
  | none => .tuple #[.int .i64 0, .int .i64 100]
  | some tr => .tuple #[.int .i64 (mostOf tr), .int .i64 0]
set_option maxRecDepth 100000 in
set_option maxHeartbeats 1000000 in
/-- Most, over events that lie below the heap's end. -/
theorem most_any (w : World) (A : Option Addr) (cap : Nat) (l : List Ev) (hev : Evs w.heap.size w A l) (hl : l.length ≤ 2000) (hcap : l.length ≤ cap) :
    Calls Tryd.prog 21 #[.slice A l.length cap] w fun e w' => Fr No w w' ∧ e = .returned (mostVal (playP l)) := by
  have HE := Lib.hid hev
  clear hev
  go_enter Tryd.func21, Tryd.ntmps21
  go_wp2_with fail
  have hal : Fr No w (w.alloc (.cells #[.int .i64 0] 3)) := (Fr.refl _ _).alloc _
  refine (play_any w.heap.size _ A cap l _ (MostI w.heap.size w.heap.size) (fun k => k = w.heap.size) (most_sees _ _) (HE.out.fr0 hal) hl hcap (by simp) ⟨Nat.le_refl _, fun k => Iff.rfl, Blk.new _ _ _, by simp [mostOf], by simp [mostOf]⟩).mono ?_
  intro en w1 hp
  have hfr : Fr No w w1 := hal.then hp.1 fun i hi hh => by have : i = w.heap.size := hh; omega
  have HFR := Lib.hid hfr
  clear hfr
  cases hpl : playP l with
  | none =>
    rw [hpl] at hp
    obtain ⟨-, rfl⟩ := hp
    have HPL := Lib.hid hpl
    clear hpl
    go_wp2_with fail
    go_ret2
    exact ⟨HFR.out, by rw [HPL.out]; rfl⟩
  | some tr =>
    rw [hpl] at hp
    obtain ⟨-, F, J, rfl, -, -, hI, -⟩ := hp
    have c0 : w1.cell? ⟨w.heap.size, 0, none⟩ = some (.int .i64 (mostOf tr)) := hI.2.2.1.cell 0
    have HPL := Lib.hid hpl
    clear hpl hI
    go_wp2_with fail
    go_ret2
    exact ⟨HFR.out, by rw [HPL.out]; rfl⟩

def awakeEvs : List Ev := [⟨0, 1, 0, ⟨#[111, 112, 101, 110]⟩⟩, ⟨0, 2, 0, ⟨#[111, 112, 101, 110]⟩⟩, ⟨0, 2, 3, ⟨#[115, 116, 111, 114, 101]⟩⟩, ⟨0, 2, 0, ⟨#[99, 108, 111, 115, 101]⟩⟩]
theorem awake_play : (playP awakeEvs).map mostOf = some 1 := by decide +kernel

set_option maxRecDepth 100000 in
set_option maxHeartbeats 1000000 in
theorem awake_any (w : World) : Calls Tryd.prog 6 #[] w fun e w' => e = .returned (.bool true) ∧ Fr No w w' := by
  obtain ⟨tr, htr⟩ : ∃ tr, playP awakeEvs = some tr := by
    cases h : playP awakeEvs with
    | none => have := awake_play; rw [h] at this; cases this
    | some tr => exact ⟨tr, rfl⟩
  have hm : mostOf tr = 1 := by have := awake_play; rw [htr] at this; simpa using this
  have HT := Lib.hid htr
  have HM := Lib.hid hm
  clear htr hm
  go_enter Tryd.func6, Tryd.ntmps6
  go_wp2_with fail
  refine (most_any _ _ 4 awakeEvs ?_ (by decide) (by decide)).mono ?_
  · intro i e he
    match i, he with
    | 0, he => simp only [awakeEvs, List.getElem?_cons_zero, Option.some.injEq] at he; subst he; exact ⟨_, 0, rfl, by simp, by simp, by simp, by simp, by simp, by simp⟩
    | 1, he => simp only [awakeEvs, List.getElem?_cons_zero, List.getElem?_cons_succ, Option.some.injEq] at he; subst he; exact ⟨_, 0, rfl, by simp, by simp, by simp, by simp, by simp, by simp⟩
    | 2, he => simp only [awakeEvs, List.getElem?_cons_zero, List.getElem?_cons_succ, Option.some.injEq] at he; subst he; exact ⟨_, 0, rfl, by simp, by simp, by simp, by simp, by simp, by simp⟩
    | 3, he => simp only [awakeEvs, List.getElem?_cons_zero, List.getElem?_cons_succ, Option.some.injEq] at he; subst he; exact ⟨_, 0, rfl, by simp, by simp, by simp, by simp, by simp, by simp⟩
    | n + 4, he => simp [awakeEvs] at he
  · rintro e w' ⟨hf, rfl⟩
    have hv : mostVal (playP awakeEvs) = .tuple #[.int .i64 1, .int .i64 0] := by rw [HT.out, ← HM.out]; rfl
    rw [hv]
    clear hv
    have HF := Lib.hid hf
    clear hf
    go_wp2_with fail
    go_ret
    exact ⟨rfl, ((Fr.refl _ _).alloc _).trans HF.out⟩

theorem right_any (w : World) (A : Option Addr) (cap : Nat) (l : List Ev) (hev : Evs w.heap.size w A l) (hl : l.length ≤ 2000) (hcap : l.length ≤ cap) :
    Calls Tryd.prog 12 #[.slice A l.length cap] w fun e w' => Fr No w w' ∧ e = .returned (.bool (playP l).isSome) := by
  have HE := Lib.hid hev
  clear hev
  go_enter Tryd.func12, Tryd.ntmps12
  go_wp2_with fail
  refine (play_any w.heap.size w A cap l .nilFunc (fun _ J _ => ∀ k, ¬ J k) No ⟨fun w J tr h k hk => absurd hk (h k), fun w w' J tr h _ _ => h, .inl ⟨rfl, fun w J tr x h => h⟩⟩ HE.out hl hcap (Nat.le_refl _) (fun k hk => hk)).mono ?_
  intro en w1 hp
  have HFR := Lib.hid hp.1
  cases hpl : playP l with
  | none =>
    rw [hpl] at hp
    obtain ⟨-, rfl⟩ := hp
    have HPL := Lib.hid hpl
    clear hpl
    go_wp2_with fail
    go_ret
    exact ⟨HFR.out, by rw [HPL.out]; rfl⟩
  | some tr =>
    rw [hpl] at hp
    obtain ⟨-, F, J, rfl, -⟩ := hp
    have HPL := Lib.hid hpl
    clear hpl
    go_wp2_with fail
    go_ret
    exact ⟨HFR.out, by rw [HPL.out]; rfl⟩

theorem long_any (w : World) (A : Option Addr) (n cap : Nat) (hn : n ≤ 9223372036854775807) :
    Calls Tryd.prog 5 #[.slice A n cap] w fun e w' => e = .returned (.bool (decide (2000 < n))) ∧ w = w' := by
  go_enter Tryd.func5, Tryd.ntmps5
  go_wp2_with fail
  go_ret
  exact ⟨by first | rfl | (congr 2; simp; done) | (congr 2; simp; omega), rfl⟩
end Go.Proofs.YtnloffjjlhhanaaDoor
