/- film.begin. -/
import Derived.Test.YtnloffjjlhhanaaDoorFilm
set_option linter.unusedVariables false
set_option linter.unusedSimpArgs false
namespace Go.Proofs.YtnloffjjlhhanaaDoor
open Go.RowKit
open Go.Proofs

/-- An event. -/
structure Ev where
  step : Int
  life : Int
  words : Int
  act : ByteArray
  deriving Inhabited
def Ev.val (e : Ev) : Value := .agg #[.int .i64 e.step, .int .i64 e.life, .int .i64 e.words, .string e.act]
def isOpen (e : Ev) : Bool := e.act.toList == [111, 112, 101, 110]
def newLf (e : Ev) : Lf := ⟨e.words, 0, e.life, e.step, -1, 0, 0, 0, decide (e.words > 0)⟩
def canBegin (s : St) (e : Ev) : Bool := isOpen e && e.life == (s.lf.length : Int) + 1 && decide (0 ≤ e.words) && decide (e.words ≤ 31)

set_option maxHeartbeats 1000000 in
theorem begin_no (B : Nat) (w : World) (F : Film) (s : St) (e : Ev) (h : FilmAt B w F s) (hop : s.lf.length ≤ 10000) (hno : canBegin s e = false) :
    Calls Tryd.prog 55 #[.pointer (some ⟨F.f, 0, none⟩), e.val] w fun en w' => en = .returned (.tuple #[.pointer none, .bool false]) ∧ Fr No w w' := by
  have c1 : w.cell? ⟨F.f, 1, none⟩ = some (.slice F.Aa s.lf.length F.ca) := h.blk.cell 1
  have hl := h.blk.lt
  unfold Ev.val
  by_cases h1 : (e.act.toList == [111, 112, 101, 110]) = true
  · by_cases h2 : e.life = (s.lf.length : Int) + 1
    · have h2' : (e.life == (s.lf.length : Int) + 1) = true := by simpa using h2
      have h2'' : (e.life != (s.lf.length : Int) + 1) = false := by simpa using h2
      have h3 : (decide (0 ≤ e.words) && decide (e.words ≤ 31)) = false := by simpa [canBegin, isOpen, h1, h2'] using hno
      clear h2 hno
      go_enter Tryd.func55, Tryd.ntmps55
      go_wp2_with fail
      go_quiet ((go_at_call 28; exact between_q _ _ _ _ h3 _ _))
      go_wp2
      go_ret2
      exact ⟨rfl, (((Fr.refl _ _).alloc _).alloc _).drewN _⟩
    · have h2' : (e.life == (s.lf.length : Int) + 1) = false := by simpa using h2
      have h2'' : (e.life != (s.lf.length : Int) + 1) = true := by simpa using h2
      clear h2 hno
      go_enter Tryd.func55, Tryd.ntmps55
      go_wp2_with fail
      go_quiet (fail)
      go_wp2
      go_ret2
      exact ⟨rfl, (((Fr.refl _ _).alloc _).alloc _).drewN _⟩
  · have h1' : (e.act.toList == [111, 112, 101, 110]) = false := by simpa using h1
    clear h1 hno
    go_enter Tryd.func55, Tryd.ntmps55
    go_wp2_with fail
    go_quiet (fail)
    go_wp2
    go_ret2
    exact ⟨rfl, (((Fr.refl _ _).alloc _).alloc _).drewN _⟩

section
variable {B : Nat} {w w1 : World} {F : Film} {s : St}
/-- One life more, behind an append to all of them. -/
theorem FilmAt.begun (h : FilmAt B w F s) {k : Nat} {A : Option Addr} {ca n : Nat} {x : Lf} (hf : Fr (fun i => (Value.slice F.Aa 0 0).ownBlock = some i) w w1)
    (hk : w.heap.size ≤ k) (hBk : B ≤ k) (hb : Blk w1 k x.cells 80) (hn : n = s.lf.length + 1)
    (hrow : w1.ownsRow B 78 1 (.slice A n ca) n (F.bl.map ptr ++ [ptr k]))
    (hA : (Value.slice A 0 0).ownBlock = (Value.slice F.Aa 0 0).ownBlock ∨ ∃ g, (Value.slice A 0 0).ownBlock = some g ∧ w.heap.size ≤ g) :
    FilmAt B (w1.setCell ⟨F.f, 1, none⟩ (.slice A n ca)) { F with Aa := A, ca := ca, bl := F.bl ++ [k] } { s with lf := s.lf ++ [x] } := by
  have hno : ∀ i cs t, Blk w i cs t → t ≠ 78 → ¬ (Value.slice F.Aa 0 0).ownBlock = some i := fun i cs t hb ht e => row_ne h.rowa hb ht (own_eq.2 e)
  have hblk : Blk w1 F.f _ _ := hf.blk h.blk (hno _ _ _ h.blk (by decide))
  have hlife : ∀ (i k : Nat) (y : Lf), F.bl[i]? = some k → s.lf[i]? = some y → Blk w1 k y.cells 80 := fun i k y hk hy =>
    hf.blk (h.lives i k y hk hy).2 (hno _ _ _ (h.lives i k y hk hy).2 (by decide))
  have hopn : w1.ownsRow B 78 1 (.slice F.Ao s.op.length F.co) s.op.length (s.op.map fun i => ptr (F.bl.getD i 0)) :=
    row_stays h.rowo fun i hi => hf.block i (h.rowo.lt i hi).2 (h.apart i (own_eq.1 hi))
  have hlt : ∀ i j, F.bl[i]? = some j → j < w.heap.size := fun i j hij => by
    have hi : i < s.lf.length := by rw [← h.len]; exact (List.getElem?_eq_some_iff.1 hij).1
    exact (h.lives i j s.lf[i] hij (List.getElem?_eq_getElem hi)).2.lt
  subst hn
  refine ⟨h.base, ?_, ?_, ?_, ?_, ?_, ?_, ?_, ?_⟩
  · have := hblk.set 1 (.slice A (s.lf.length + 1) ca)
    simpa using this
  · have e : (s.op.map fun i => ptr ((F.bl ++ [k]).getD i 0)) = s.op.map fun i => ptr (F.bl.getD i 0) := by
      refine List.map_congr_left fun i hi => ?_
      have hil : i < F.bl.length := by rw [h.len]; exact h.opens i hi
      simp [List.getD_eq_getElem?_getD, List.getElem?_append_left hil]
    show World.ownsRow _ _ _ _ _ _ (s.op.map fun i => ptr ((F.bl ++ [k]).getD i 0))
    rw [e]
    exact ownsRow_setCell_other hopn (row_ne hopn hblk (by decide)) _
  · have e : (F.bl ++ [k]).map ptr = F.bl.map ptr ++ [ptr k] := by simp
    simp only [List.length_append, List.length_singleton]
    rw [e]
    exact ownsRow_setCell_other hrow (row_ne hrow hblk (by decide)) _
  · simp [h.len]
  · refine List.nodup_append.2 ⟨h.nodup, by simp, ?_⟩
    intro a ha b hb' e
    obtain ⟨i, hi, hia⟩ := List.mem_iff_getElem.1 ha
    have := hlt i a (by rw [List.getElem?_eq_getElem hi, hia])
    simp at hb'
    omega
  · intro i j y hj hy
    rcases Nat.lt_or_ge i F.bl.length with hi | hi
    · rw [List.getElem?_append_left hi] at hj
      rw [List.getElem?_append_left (by rw [← h.len]; exact hi)] at hy
      refine ⟨(h.lives i j y hj hy).1, (hlife i j y hj hy).far ?_ _⟩
      rintro rfl
      have h1 := hlife i _ y hj hy
      unfold Blk at h1 hblk
      rw [h1] at hblk
      simp at hblk
    · have hi2 : i = F.bl.length := by have := (List.getElem?_eq_some_iff.1 hj).1; simp at this; omega
      subst hi2
      rw [List.getElem?_append_right (Nat.le_refl _)] at hj
      rw [h.len, List.getElem?_append_right (Nat.le_refl _)] at hy
      simp at hj hy
      subst hj hy
      refine ⟨hBk, hb.far ?_ _⟩
      have := h.blk.lt
      show k ≠ F.f
      omega
  · intro i hi hi2
    rcases hA with hA | ⟨g, hA, hg⟩
    · exact h.apart i hi (by rw [← hA]; exact hi2)
    · have h1 := (h.rowo.lt i (own_eq.2 hi)).2
      have h2 : (Value.slice A 0 0).ownBlock = some i := hi2
      rw [hA] at h2
      simp at h2
      omega
  · intro i hi
    have := h.opens i hi
    simp
    omega
end

theorem info_life : (Tryd.prog.info? 78).map (fun i => (i.zero, i.size, i.bytes)) = some (some (.pointer none), 1, 8) := by kernel_rfl

set_option maxHeartbeats 1000000 in
theorem begin_yes (B : Nat) (w : World) (F : Film) (s : St) (e : Ev) (h : FilmAt B w F s) (hop : s.lf.length ≤ 10000) (hB : B ≤ w.heap.size) (hyes : canBegin s e = true) :
    Calls Tryd.prog 55 #[.pointer (some ⟨F.f, 0, none⟩), e.val] w fun en w' => ∃ k Aa ca, en = .returned (.tuple #[.pointer (some ⟨k, 0, none⟩), .bool true]) ∧ Fr F.foot w w' ∧ w.heap.size ≤ k ∧
      FilmAt B w' { F with Aa := Aa, ca := ca, bl := F.bl ++ [k] } { s with lf := s.lf ++ [newLf e] } ∧ ∀ i, (Value.slice Aa 0 0).ownBlock = some i → F.foot i ∨ w.heap.size ≤ i := by
  have c1 : w.cell? ⟨F.f, 1, none⟩ = some (.slice F.Aa s.lf.length F.ca) := h.blk.cell 1
  have fz : w.frozen? ⟨F.f, 1, none⟩ = false := h.blk.free 1
  have hl := h.blk.lt
  obtain ⟨i0, hi, hz0, hz1, hz2⟩ := info_parts info_life
  unfold Ev.val
  have hc : ((isOpen e = true ∧ (e.life == (s.lf.length : Int) + 1) = true) ∧ 0 ≤ e.words) ∧ e.words ≤ 31 := by simpa [canBegin] using hyes
  obtain ⟨⟨⟨h1, h2⟩, h30⟩, h31⟩ := hc
  have h1 : (e.act.toList == [111, 112, 101, 110]) = true := h1
  have h2'' : (e.life != (s.lf.length : Int) + 1) = false := by simpa using h2
  have h3 : (decide (0 ≤ e.words) && decide (e.words ≤ 31)) = true := by simp [h30, h31]
  clear hyes
  go_enter Tryd.func55, Tryd.ntmps55
  go_wp2_with fail
  go_quiet ((go_at_call 28; exact between_q _ _ _ _ h3 _ _))
  go_wp2_with (at_builtin; go_must (refine wpList_append_own_at _ rfl (.tmp 43) (.tmp 45) 75 rfl B 78 i0 (.pointer none) 1 8 Tryd.underlying75 hi hz0 hz1 hz2 rfl (by decide) (.slice F.Aa s.lf.length F.ca) s.lf.length (F.bl.map ptr) rfl ?hown ⟨w.heap.size + 1 + 1, 0, none⟩ 1 1 [.pointer (some ⟨w.heap.size + 1, 0, none⟩)] rfl rfl ?c1 ?c2 ?c3 ?c4 ?c5 ?_))
  case hown => exact World.ownsRow.alloc (row_drewN ((h.rowa.alloc _).alloc _) _) _
  case c1 => exact cell_one_at _ _ _ _ (by simp)
  case c2 => simp [Value.oneCell']
  case c3 => unfold maxLen; omega
  case c4 => omega
  case c5 => simp; omega
  intro v' w1 hown hgrow _ hwhere
  obtain ⟨A, ca, rfl, -⟩ := row_slice hown
  have hgr : Fr (fun i => (Value.slice F.Aa 0 0).ownBlock = some i) w w1 := Fr.grown ((((Fr.refl _ _).alloc _).alloc _).drewN _ |>.alloc _) hgrow (fun k hk => .inl (own_eq.1 hk))
  have hfoot : Fr F.foot w w1 := hgr.wider fun i _ hi => .inr (.inr (.inl hi))
  have hA : (Value.slice A 0 0).ownBlock = (Value.slice F.Aa 0 0).ownBlock ∨ ∃ g, (Value.slice A 0 0).ownBlock = some g ∧ w.heap.size ≤ g := by
    rcases hwhere with hw | hw
    · exact .inl (by rw [← own_is (n := s.lf.length + 1) (c := ca), hw, own_is])
    · rw [own_is] at hw
      refine .inr ⟨_, hw, ?_⟩
      first | omega | (simp; omega)
  have hb1 : Blk w1 (w.heap.size + 1) (newLf e).cells 80 := by
    refine (hgrow.block (w.heap.size + 1) ?_ ?_).trans ?_
    · simp
    · intro hh
      have := (h.rowa.lt _ hh.symm).2
      omega
    · exact ((Blk.new' (w.alloc _) (newLf e).cells 80 (w.heap.size + 1) (by simp)).drewN _).alloc _
  have hbf : Blk w1 F.f #[.slice F.Ao s.op.length F.co, .slice F.Aa s.lf.length F.ca] 77 := hgr.blk h.blk (fun hh => row_ne h.rowa h.blk (by decide) (own_eq.2 hh))
  have d1 := hbf.cell 1
  have f1 := hbf.free 1
  have hl1 := hbf.lt
  have HF := Lib.hid (h.begun hgr (by omega : w.heap.size ≤ w.heap.size + 1) (by omega) hb1 rfl hown hA)
  have HW := Lib.hid hfoot
  have HAA := Lib.hid hA
  clear hgrow hwhere hgr hfoot hA hb1 hbf hown c1 fz hl h
  go_wp2_with fail
  go_ret2
  refine ⟨_, A, ca, rfl, HW.out.setCell (.inl (.inl rfl)) _, by omega, HF.out, fun i hi => ?_⟩
  rcases HAA.out with h1 | ⟨g, h1, h2⟩
  · exact .inl (.inr (.inr (.inl (by rw [← h1]; exact hi))))
  · rw [h1] at hi
    simp only [Option.some.injEq] at hi
    exact .inr (by omega)
end Go.Proofs.YtnloffjjlhhanaaDoor
