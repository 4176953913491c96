/- The film of profile: its memory, and what its methods do. -/
import Derived.Test.YtnloffjjlhhanaaDoorIdx
set_option linter.unusedVariables false
set_option linter.unusedSimpArgs false
namespace Go.Proofs.YtnloffjjlhhanaaDoor
open Go.RowKit
open Go.Proofs

/-- A life. -/
structure Lf where
  words : Int
  fin : Int
  life : Int
  opened : Int
  ended : Int
  objs : Int
  wds : Int
  pages : Int
  bounded : Bool
  deriving Inhabited
def Lf.cells (x : Lf) : Array Value := #[.int .i64 x.words, .int .i64 x.fin, .int .i64 x.life, .int .i64 x.opened, .int .i64 x.ended, .int .i64 x.objs, .int .i64 x.wds, .int .i64 x.pages, .bool x.bounded]
def Lf.now (x : Lf) : Int := if x.words > 0 then 0 else (x.fin + 31) / 32

/-- The lives behind events: all of them, and the indexes of those that are open. -/
structure St where
  lf : List Lf
  op : List Nat

/-- Where a film lies. -/
structure Film where
  f : Nat
  Ao : Option Addr
  co : Nat
  Aa : Option Addr
  ca : Nat
  bl : List Nat
def ptr (k : Nat) : Value := .pointer (some ⟨k, 0, none⟩)
def Film.foot (F : Film) (k : Nat) : Prop := k = F.f ∨ (Value.slice F.Ao 0 0).ownBlock = some k ∨ (Value.slice F.Aa 0 0).ownBlock = some k ∨ k ∈ F.bl
structure FilmAt (B : Nat) (w : World) (F : Film) (s : St) : Prop where
  base : B ≤ F.f
  blk : Blk w F.f #[.slice F.Ao s.op.length F.co, .slice F.Aa s.lf.length F.ca] 77
  rowo : w.ownsRow B 78 1 (.slice F.Ao s.op.length F.co) s.op.length (s.op.map fun i => ptr (F.bl.getD i 0))
  rowa : w.ownsRow B 78 1 (.slice F.Aa s.lf.length F.ca) s.lf.length (F.bl.map ptr)
  len : F.bl.length = s.lf.length
  nodup : F.bl.Nodup
  lives : ∀ (i k : Nat) (x : Lf), F.bl[i]? = some k → s.lf[i]? = some x → B ≤ k ∧ Blk w k x.cells 80
  apart : ∀ k, (Value.slice F.Ao 0 0).ownBlock = some k → (Value.slice F.Aa 0 0).ownBlock ≠ some k
  opens : ∀ i ∈ s.op, i < s.lf.length

theorem between_any (a b c : Int) (w : World) :
    Calls Tryd.prog 28 #[.int .i64 a, .int .i64 b, .int .i64 c] w fun e w' => e = .returned (.bool (decide (a ≤ b) && decide (b ≤ c))) ∧ w = w' := by
  by_cases h1 : a ≤ b <;> by_cases h2 : b ≤ c
  all_goals
    go_enter Tryd.func28, Tryd.ntmps28
    go_wp2
    go_ret
    simp [h1, h2]
/-- The same, where the answer is known. -/
theorem between_is (a b c : Int) (r : Bool) (hr : (decide (a ≤ b) && decide (b ≤ c)) = r) (w : World) :
    Calls Tryd.prog 28 #[.int .i64 a, .int .i64 b, .int .i64 c] w fun e w' => e = .returned (.bool r) ∧ w = w' := hr ▸ between_any a b c w
/-- In a region that draws its order. -/
theorem between_q (a b c : Int) (r : Bool) (hr : (decide (a ≤ b) && decide (b ≤ c)) = r) (w : World) (n : Nat) :
    Calls Tryd.prog 28 #[.int .i64 a, .int .i64 b, .int .i64 c] (w.drewN n) fun e w'' => e = .returned (.bool r) ∧ ∃ m, w'' = w.drewN m :=
  (between_is a b c r hr (w.drewN n)).mono fun _ _ ⟨h, k⟩ => ⟨h, n, k.symm⟩
set_option maxHeartbeats 400000 in
theorem atClosure (k b : Nat) (n : Int) (x : Lf) (w : World) (hx : Blk w k x.cells 80) (hb : w.cell? ⟨b, 0, none⟩ = some (.int .i64 n)) :
    Calls Tryd.prog 80 #[.pointer (some ⟨k, 0, none⟩), .pointer (some ⟨b, 0, none⟩)] w fun e w' => e = .returned (.bool (x.life == n)) ∧ ∃ q, w.drewN q = w' := by
  have c2 : w.cell? ⟨k, 2, none⟩ = some (.int .i64 x.life) := hx.cell 2
  clear hx
  go_enter Tryd.func80, Tryd.ntmps80
  go_wp2
  go_quiet (fail)
  go_wp2
  go_ret
  exact ⟨rfl, _, rfl⟩

section
variable {B : Nat} {w w' : World} {F : Film} {s : St}
theorem FilmAt.fr {S : Nat → Prop} (h : FilmAt B w F s) (hf : Fr S w w') (hs : ∀ k, S k → ¬ F.foot k) : FilmAt B w' F s := by
  have hne : ∀ k, F.foot k → ¬ S k := fun k hk hs' => hs k hs' hk
  refine ⟨h.base, hf.blk h.blk (hne _ (.inl rfl)), row_stays h.rowo fun k hk => ?_, row_stays h.rowa fun k hk => ?_, h.len, h.nodup, fun i k x hk hx => ⟨(h.lives i k x hk hx).1, hf.blk (h.lives i k x hk hx).2 (hne _ (.inr (.inr (.inr (List.mem_of_getElem? hk)))))⟩, h.apart, h.opens⟩
  · exact hf.block k (h.rowo.lt k hk).2 (hne _ (.inr (.inl (own_eq.1 hk))))
  · exact hf.block k (h.rowa.lt k hk).2 (hne _ (.inr (.inr (.inl (own_eq.1 hk)))))
theorem FilmAt.fr0 (h : FilmAt B w F s) (hf : Fr No w w') : FilmAt B w' F s := h.fr hf fun _ h => h.elim
/-- What stands at an index of the open ones. -/
theorem FilmAt.open_at (h : FilmAt B w F s) {j i : Nat} (hj : s.op[j]? = some i) : ∃ g k x, F.Ao = some ⟨g, 0, none⟩ ∧ w.cell? ⟨g, j, none⟩ = some (.pointer (some ⟨k, 0, none⟩)) ∧ w.frozen? ⟨g, j, none⟩ = false ∧ F.bl[i]? = some k ∧ s.lf[i]? = some x ∧ Blk w k x.cells 80 ∧ g < w.heap.size := by
  have hi := h.opens i (List.mem_of_getElem? hj)
  obtain ⟨g, hg, hc, hfz⟩ := row_cell h.rowo j (ptr (F.bl.getD i 0)) (by simp [hj])
  have hk : F.bl[i]? = some (F.bl.getD i 0) := by rw [List.getD_eq_getElem?_getD, List.getElem?_eq_getElem (by rw [h.len]; exact hi)]; rfl
  have hx : s.lf[i]? = some s.lf[i] := List.getElem?_eq_getElem hi
  exact ⟨g, _, _, hg, hc, hfz, hk, hx, (h.lives i _ _ hk hx).2, World.block_lt_of_cell? w _ hc⟩
theorem FilmAt.foot_lt (h : FilmAt B w F s) {k : Nat} (hk : F.foot k) : B ≤ k ∧ k < w.heap.size := by
  rcases hk with rfl | hk | hk | hk
  · exact ⟨h.base, h.blk.lt⟩
  · exact h.rowo.lt k (own_eq.2 hk)
  · exact h.rowa.lt k (own_eq.2 hk)
  · obtain ⟨i, hi, he⟩ := List.mem_iff_getElem.1 hk
    have hk' : F.bl[i]? = some k := by rw [List.getElem?_eq_getElem hi, he]
    have hx : s.lf[i]? = some (s.lf[i]'(by rw [← h.len]; exact hi)) := List.getElem?_eq_getElem _
    exact ⟨(h.lives i k _ hk' hx).1, (h.lives i k _ hk' hx).2.lt⟩
end

/-- At which index a life is open. -/
def St.at (s : St) (n : Int) : Int := fidx (s.op.map fun i => (s.lf.getD i default).life == n)

set_option maxHeartbeats 400000 in
theorem film_at (B : Nat) (w : World) (F : Film) (s : St) (n : Int) (h : FilmAt B w F s) (hop : s.op.length ≤ 10000) :
    Calls Tryd.prog 69 #[.pointer (some ⟨F.f, 0, none⟩), .int .i64 n] w fun e w' => e = .returned (.int .i64 (s.at n)) ∧ Fr No w w' := by
  have c0 : w.cell? ⟨F.f, 0, none⟩ = some (.slice F.Ao s.op.length F.co) := h.blk.cell 0
  have hl := h.blk.lt
  go_enter Tryd.func69, Tryd.ntmps69
  go_wp2_with fail
  refine (indexFunc F.Ao s.op.length F.co (s.op.map fun i => ptr (F.bl.getD i 0)) (s.op.map fun i => (s.lf.getD i default).life == n) 80 _ _ (by omega) (by simp) (enters_of Tryd.func80 (by kernel_rfl) rfl) ?_).mono ?_
  · intro i p hp
    rw [List.getElem?_map] at hp
    cases hi : s.op[i]? with
    | none => rw [hi] at hp; cases hp
    | some j =>
      rw [hi] at hp
      simp only [Option.map_some, Option.some.injEq] at hp
      subst hp
      obtain ⟨g, k, x, hg, hc, -, hk, hx, hb, hgl⟩ := h.open_at hi
      have e : s.lf.getD j default = x := by rw [List.getD_eq_getElem?_getD, hx]; rfl
      rw [e]
      refine ⟨g, _, hg, by rw [World.cell?_alloc_past _ _ _ hgl]; exact hc, fun q => ?_⟩
      show Calls _ _ #[.pointer (some ⟨k, 0, none⟩), .pointer (some ⟨w.heap.size, 0, none⟩)] _ _
      refine (atClosure k w.heap.size n x _ ((hb.alloc _).drewN q) ?_).mono ?_
      · simp
      · rintro e w' ⟨rfl, q', rfl⟩
        exact ⟨rfl, q + q', by simp⟩
  · rintro e w' ⟨rfl, q, rfl⟩
    go_wp2_with fail
    go_ret
    exact ⟨rfl, ((Fr.refl _ _).alloc _).drewN _⟩
end Go.Proofs.YtnloffjjlhhanaaDoor
