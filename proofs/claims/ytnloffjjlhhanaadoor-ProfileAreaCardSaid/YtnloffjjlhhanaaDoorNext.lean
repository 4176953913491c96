/- film.next. -/
import Derived.Test.YtnloffjjlhhanaaDoorReset
set_option linter.unusedVariables false
set_option linter.unusedSimpArgs false
namespace Go.Proofs.YtnloffjjlhhanaaDoor
open Go.RowKit
open Go.Proofs

section
variable {w w1 : World} {B : Nat} {F : Film} {s : St}
theorem row_take {e : TypeId} {A : Option Addr} {n cap : Nat} {xs : List Value} (h : w.ownsRow B e 1 (.slice A n cap) n xs) (m : Nat) (hm : m ≤ n) (hn : 0 < n) : w.ownsRow B e 1 (.slice A m cap) m (xs.take m) := by
  refine ⟨by rw [List.length_take, h.1]; omega, ?_⟩
  rcases h.2 with ⟨h1, h2⟩ | ⟨g, cap', cur, hv, hg, hh, h1, h2, h3, h4⟩
  · omega
  · simp only [Value.slice.injEq] at hv
    obtain ⟨rfl, -, rfl⟩ := hv
    exact .inr ⟨g, cap, cur, rfl, hg, hh, by omega, h2, h3, by rw [← h4, List.take_take]; congr 1; omega⟩
/-- One open life more, behind an append. -/
theorem FilmAt.pushOpen (h : FilmAt B w F s) {i k n co : Nat} {A : Option Addr} (hf : Fr (fun j => (Value.slice F.Ao 0 0).ownBlock = some j) w w1) (hk : F.bl[i]? = some k) (hn : n = s.op.length + 1)
    (hrow : w1.ownsRow B 78 1 (.slice A n co) n ((s.op.map fun i => ptr (F.bl.getD i 0)) ++ [ptr k]))
    (hA : (Value.slice A 0 0).ownBlock = (Value.slice F.Ao 0 0).ownBlock ∨ ∃ g, (Value.slice A 0 0).ownBlock = some g ∧ w.heap.size ≤ g) :
    FilmAt B (w1.setCell ⟨F.f, 0, none⟩ (.slice A n co)) { F with Ao := A, co := co } { s with op := s.op ++ [i] } := by
  have hno : ∀ i cs t, Blk w i cs t → t ≠ 78 → ¬ (Value.slice F.Ao 0 0).ownBlock = some i := fun i cs t hb ht e => row_ne h.rowo hb ht (own_eq.2 e)
  have hblk : Blk w1 F.f _ _ := hf.blk h.blk (hno _ _ _ h.blk (by decide))
  have hrowa := row_stays h.rowa fun j hj => hf.block j (h.rowa.lt j hj).2 (fun e => h.apart j e (own_eq.1 hj))
  have ek : ptr k = ptr (F.bl.getD i 0) := by rw [List.getD_eq_getElem?_getD, hk]; rfl
  subst hn
  refine ⟨h.base, ?_, ?_, ?_, h.len, h.nodup, ?_, ?_, ?_⟩
  · have := hblk.set 0 (.slice A (s.op.length + 1) co)
    simpa using this
  · simp only [List.length_append, List.length_singleton, List.map_append, List.map_cons, List.map_nil]
    rw [← ek]
    exact ownsRow_setCell_other hrow (row_ne hrow hblk (by decide)) _
  · exact ownsRow_setCell_other hrowa (row_ne hrowa hblk (by decide)) _
  · intro m n x hm hx
    have hb := hf.blk (h.lives m n x hm hx).2 (hno _ _ _ (h.lives m n x hm hx).2 (by decide))
    refine ⟨(h.lives m n x hm hx).1, hb.far ?_ _⟩
    show n ≠ F.f
    rintro rfl
    unfold Blk at hb hblk
    rw [hb] at hblk
    simp at hblk
  · intro g hg hg2
    have hg' : (Value.slice A 0 0).ownBlock = some g := hg
    rcases hA with hA | ⟨g', hA, hg3⟩
    · exact h.apart g (by rw [← hA]; exact hg') hg2
    · rw [hA] at hg'
      simp only [Option.some.injEq] at hg'
      have := (h.rowa.lt g (own_eq.2 hg2)).2
      omega
  · intro m hm
    rcases List.mem_append.1 hm with hm | hm
    · exact h.opens m hm
    · simp at hm
      subst hm
      rw [← h.len]
      exact (List.getElem?_eq_some_iff.1 hk).1
/-- One less. -/
theorem FilmAt.popOpen (h : FilmAt B w F s) {n : Nat} (hn : n + 1 = s.op.length) : FilmAt B (w.setCell ⟨F.f, 0, none⟩ (.slice F.Ao n F.co)) F { s with op := s.op.take n } := by
  have hl : (s.op.take n).length = n := by simp; omega
  refine ⟨h.base, ?_, ?_, ?_, h.len, h.nodup, ?_, h.apart, ?_⟩
  · have := h.blk.set 0 (.slice F.Ao n F.co)
    simpa [hl] using this
  · have := row_take h.rowo n (by omega) (by omega)
    simp only [hl, List.map_take]
    exact ownsRow_setCell_other this (row_ne this h.blk (by decide)) _
  · exact ownsRow_setCell_other h.rowa (row_ne h.rowa h.blk (by decide)) _
  · intro m k x hm hx
    have hb := (h.lives m k x hm hx).2
    refine ⟨(h.lives m k x hm hx).1, hb.far ?_ _⟩
    show k ≠ F.f
    rintro rfl
    have h2 := h.blk
    unfold Blk at hb h2
    rw [hb] at h2
    simp at h2
  · intro m hm
    exact h.opens m (List.mem_of_mem_take hm)
end

def isClose (e : Ev) : Bool := e.act.toList == [99, 108, 111, 115, 101]
def isStore (e : Ev) : Bool := e.act.toList == [115, 116, 111, 114, 101]
def isReset (e : Ev) : Bool := e.act.toList == [114, 101, 115, 101, 116]
def isCollect (e : Ev) : Bool := e.act.toList == [99, 111, 108, 108, 101, 99, 116]
def St.last (s : St) : Nat := s.op.getD (s.op.length - 1) 0
def canClose (s : St) (e : Ev) : Bool := decide (1 < s.op.length) && (s.lf.getD s.last default).life == e.life && e.words == 0
def St.close (s : St) (e : Ev) : St := { lf := s.lf.set s.last { s.lf.getD s.last default with ended := e.step }, op := s.op.take (s.op.length - 1) }
def St.next (s : St) : List Ev → Option (St × Nat)
  | [] => none
  | e :: r =>
    if isOpen e then (if canBegin s e then some ({ lf := s.lf ++ [newLf e], op := s.op ++ [s.lf.length] }, 1) else none)
    else if isClose e then (if canClose s e then some (s.close e, 1) else none)
    else if isStore e then (s.store e).map fun t => (t, 1)
    else if isReset e then (s.reset e r).map fun t => (t, 2)
    else if isCollect e then (if canCollect s e r then some ({ s with lf := setFins s.lf r s.inf }, s.inf.length + 1) else none)
    else none

/-- What next leaves. -/
def NextPost (B : Nat) (F : Film) (w : World) (o : Option (St × Nat)) (en : Ending) (w' : World) : Prop :=
  match o with
  | none => en = .returned (.int .i64 0) ∧ Fr No w w'
  | some (s', n) => en = .returned (.int .i64 n) ∧ ∃ F', F'.f = F.f ∧ Fr F.foot w w' ∧ FilmAt B w' F' s' ∧ ∀ k, F'.foot k → F.foot k ∨ w.heap.size ≤ k

/-- What is known where next begins. -/
structure NextPre (B : Nat) (w : World) (F : Film) (s : St) (A : Option Addr) (e : Ev) (r : List Ev) : Prop where
  film : FilmAt B w F s
  op : s.op.length ≤ 10000
  lf : s.lf.length ≤ 10000
  base : B ≤ w.heap.size
  evs : Evs B w A (e :: r)
  len : r.length ≤ 10000
  small : ∀ x ∈ s.lf, x.small

set_option maxRecDepth 100000 in
set_option maxHeartbeats 4000000 in
theorem next_open (B : Nat) (w : World) (F : Film) (s : St) (A : Option Addr) (cap : Nat) (e : Ev) (r : List Ev) (h : NextPre B w F s A e r) (hk : isOpen e = true) :
    Calls Tryd.prog 41 #[.pointer (some ⟨F.f, 0, none⟩), .slice A (r.length + 1) cap] w (NextPost B F w (s.next (e :: r))) := by
  obtain ⟨b, off, rfl, hbB, hbl, e0, e1, e2, e3⟩ := h.evs 0 e rfl
  simp only [Nat.zero_mul, Nat.add_zero] at e0 e1 e2 e3
  have k1 : (e.act.toList == [111, 112, 101, 110]) = true := hk
  have HK := Lib.hid hk
  have HP := Lib.hid h
  clear hk h
  obtain ⟨i0, hi, hz0, hz1, hz2⟩ := info_parts info_life
  go_enter Tryd.func41, Tryd.ntmps41
  go_wp2_with fail
  cases hcb : canBegin s e with
  | false =>
    have HN : Hid (s.next (e :: r) = none) := by unfold Hid; simp [St.next, HK.out, hcb]
    have HCB := Lib.hid hcb
    clear hcb
    refine (begin_no B _ F s e (HP.out.film.fr0 ((Fr.refl _ _).alloc _)) HP.out.lf HCB.out).mono ?_
    rintro en w1 ⟨rfl, hf1⟩
    go_wp2_with fail
    go_ret
    rw [HN.out]
    exact ⟨rfl, ((Fr.refl _ _).alloc _).trans hf1⟩
  | true =>
    have HN : Hid (s.next (e :: r) = some ({ lf := s.lf ++ [newLf e], op := s.op ++ [s.lf.length] }, 1)) := by unfold Hid; simp [St.next, HK.out, hcb]
    have HCB := Lib.hid hcb
    clear hcb
    refine (begin_yes B _ F s e (HP.out.film.fr0 ((Fr.refl _ _).alloc _)) HP.out.lf (by have := HP.out.base; simp; omega) HCB.out).mono ?_
    rintro en w1 ⟨k, Aa, ca, rfl, hf1, hkn, h1, hAa⟩
    have c0 : w1.cell? ⟨F.f, 0, none⟩ = some (.slice F.Ao s.op.length F.co) := h1.blk.cell 0
    have z0 := h1.blk.free 0
    have hfl : F.f < w1.heap.size := h1.blk.lt
    have hrow := h1.rowo
    have hsz := hf1.size
    have H1 := Lib.hid h1
    have HF1 := Lib.hid hf1
    have HAA := Lib.hid hAa
    have HR := Lib.hid hrow
    have hop := HP.out.op
    have hbs := HP.out.base
    have hkn' : w.heap.size ≤ k := by simp at hkn; omega
    have hsz' : w.heap.size + 1 ≤ w1.heap.size := by simpa using hsz
    clear hrow h1 hf1 hAa hkn
    go_wp2_with (at_builtin; go_must (refine wpList_append_own_at _ rfl (.tmp 27) (.tmp 29) 75 rfl B 78 i0 (.pointer none) 1 8 Tryd.underlying75 hi hz0 hz1 hz2 rfl (by decide) (.slice F.Ao s.op.length F.co) s.op.length (s.op.map fun i => ptr ((F.bl ++ [k]).getD i 0)) rfl ?hown ⟨w1.heap.size, 0, none⟩ 1 1 [.pointer (some ⟨k, 0, none⟩)] rfl rfl ?c1 ?c2 ?c3 ?c4 ?c5 ?_))
    case hown => exact World.ownsRow.alloc HR.out _
    case c1 => exact cell_one_at _ _ _ _ rfl
    case c2 => simp [Value.oneCell']
    case c3 => unfold maxLen; omega
    case c4 => omega
    case c5 => simp; omega
    intro v' w2 hown hgrow _ hwhere
    obtain ⟨Ao, co, rfl, -⟩ := row_slice hown
    have hgr : Fr (fun i => (Value.slice F.Ao 0 0).ownBlock = some i) w1 w2 := Fr.grown ((Fr.refl _ _).alloc _) hgrow (fun k hk => .inl (own_eq.1 hk))
    have hA : (Value.slice Ao 0 0).ownBlock = (Value.slice F.Ao 0 0).ownBlock ∨ ∃ g, (Value.slice Ao 0 0).ownBlock = some g ∧ w1.heap.size ≤ g := by
      rcases hwhere with hw | hw
      · exact .inl (by rw [← own_is (n := s.op.length + 1) (c := co), hw, own_is])
      · rw [own_is] at hw
        exact .inr ⟨_, hw, by first | omega | (simp; done) | (simp; omega)⟩
    have hb2 : Blk w2 F.f _ _ := hgr.blk H1.out.blk (fun hh => row_ne H1.out.rowo H1.out.blk (by decide) (own_eq.2 hh))
    have d0 := hb2.cell 0
    have y0 := hb2.free 0
    have hl2 := hb2.lt
    have hbk : (F.bl ++ [k])[s.lf.length]? = some k := by rw [← HP.out.film.len, List.getElem?_append_right (Nat.le_refl _)]; simp
    have HF := Lib.hid (H1.out.pushOpen hgr hbk rfl hown hA)
    have HGR := Lib.hid hgr
    have HA := Lib.hid hA
    clear hgrow hwhere hgr hA hb2 hown c0 z0 hfl hbk
    go_wp2_with fail
    go_ret
    rw [HN.out]
    refine ⟨rfl, { F with Aa := Aa, ca := ca, bl := F.bl ++ [k], Ao := Ao, co := co }, rfl, ?_, HF.out, ?_⟩
    · have h3 : Fr F.foot w w1 := ((Fr.refl _ _).alloc _).then HF1.out fun _ _ h => h
      exact Fr.setCell (a := ⟨F.f, 0, none⟩) (h3.then HGR.out fun i _ hi => .inr (.inl hi)) (.inl (.inl rfl)) _
    · intro n hn
      rcases hn with hn | hn | hn | hn
      · exact .inl (.inl hn)
      · rcases HA.out with h3 | ⟨g, h3, h4⟩
        · exact .inl (.inr (.inl (by rw [← h3]; exact hn)))
        · have hn' : (Value.slice Ao 0 0).ownBlock = some n := hn
          rw [h3] at hn'
          simp only [Option.some.injEq] at hn'
          exact .inr (by omega)
      · rcases HAA.out n hn with h5 | h5
        · exact .inl h5
        · simp at h5
          exact .inr (by omega)
      · rcases List.mem_append.1 hn with hn | hn
        · exact .inl (.inr (.inr (.inr hn)))
        · simp at hn
          exact .inr (by omega)
end Go.Proofs.YtnloffjjlhhanaaDoor
