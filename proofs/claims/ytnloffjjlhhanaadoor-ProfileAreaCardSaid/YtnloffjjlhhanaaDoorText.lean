/- The texts of lifelines: what they are; builders that stay. -/
import Derived.Test.YtnloffjjlhhanaaDoorLongest
import Derived.Test.YtnloffjjlhhanaaDoorReads
import Derived.Test.YtnloffjjlhhanaaDoorShelf
import Derived.Lib.ItoaLen
set_option linter.unusedVariables false
set_option linter.unusedSimpArgs false
namespace Go.Proofs.YtnloffjjlhhanaaDoor
open Go.RowKit
open Go.Proofs

def endText (x : Lf) : List UInt8 := if x.ended < 0 then [45] else Lib.itoa x.ended
def lineText (x : Lf) : List UInt8 := Lib.itoa x.life ++ ([32] ++ (Lib.itoa x.opened ++ ([32] ++ (endText x ++ ([32] ++ (Lib.itoa x.objs ++ ([32] ++ (Lib.itoa x.wds ++ ([32] ++ (Lib.itoa x.pages ++ [10]))))))))))
def textTo (lf : List Lf) (k : Nat) : List UInt8 := (lf.take k).flatMap lineText
theorem textTo_succ {lf : List Lf} {k : Nat} {x : Lf} (h : lf[k]? = some x) : textTo lf (k + 1) = textTo lf k ++ lineText x := by
  unfold textTo; rw [List.take_add_one, h]; simp
theorem join_line (x : Lf) : Lib.join [Lib.itoa x.life, Lib.itoa x.opened, endText x, Lib.itoa x.objs, Lib.itoa x.wds, Lib.itoa x.pages] [32] ++ [10] = lineText x := by
  simp [Lib.join, List.intercalate, List.intersperse, lineText]
/-- What a lifeline's numbers are. -/
def Tbd (lf : List Lf) : Prop := ∀ x ∈ lf, (0 ≤ x.life ∧ x.life ≤ 100000) ∧ (0 ≤ x.opened ∧ x.opened ≤ 20000) ∧ (-1 ≤ x.ended ∧ x.ended ≤ 20000) ∧ (0 ≤ x.objs ∧ x.objs ≤ 1000000) ∧ (0 ≤ x.wds ∧ x.wds ≤ 1000000) ∧ (0 ≤ x.pages ∧ x.pages ≤ 1000000)
theorem line_len_le {x : Lf} (h : (0 ≤ x.life ∧ x.life ≤ 100000) ∧ (0 ≤ x.opened ∧ x.opened ≤ 20000) ∧ (-1 ≤ x.ended ∧ x.ended ≤ 20000) ∧ (0 ≤ x.objs ∧ x.objs ≤ 1000000) ∧ (0 ≤ x.wds ∧ x.wds ≤ 1000000) ∧ (0 ≤ x.pages ∧ x.pages ≤ 1000000)) : (lineText x).length ≤ 200 := by
  have a1 := Lib.itoa_length_le x.life (by omega) (by omega)
  have a2 := Lib.itoa_length_le x.opened (by omega) (by omega)
  have a3 : (endText x).length ≤ 21 := by
    unfold endText
    split
    · simp
    · exact Lib.itoa_length_le x.ended (by omega) (by omega)
  have a4 := Lib.itoa_length_le x.objs (by omega) (by omega)
  have a5 := Lib.itoa_length_le x.wds (by omega) (by omega)
  have a6 := Lib.itoa_length_le x.pages (by omega) (by omega)
  unfold lineText
  simp only [List.length_append, List.length_cons, List.length_nil]
  omega
theorem textTo_len {lf : List Lf} (h : Tbd lf) : ∀ k : Nat, (textTo lf k).length ≤ k * 200
  | 0 => by simp [textTo]
  | k + 1 => by
    have ih := textTo_len h k
    cases e : lf[k]? with
    | none =>
      have : textTo lf (k + 1) = textTo lf k := by unfold textTo; rw [List.take_add_one, e]; simp
      rw [this]; omega
    | some x =>
      rw [textTo_succ e, List.length_append]
      have := line_len_le (h x (List.mem_of_getElem? e))
      omega
theorem final_tbd {l : List Ev} {tr : List (St × Int)} (hl : l.length ≤ 2000) (h : playP l = some tr) (hlife : ∀ x ∈ (finalOf tr).lf, 0 ≤ x.life ∧ x.life ≤ 100000) : Tbd (finalOf tr).lf := fun x hx => by
  have h1 := (final_bdD hl h).lives x hx
  have h2 := final_obd hl h x hx
  have h3 := hlife x hx
  refine ⟨h3, ⟨h2.1, h2.2.1⟩, h2.2.2, ⟨?_, ?_⟩, ⟨?_, ?_⟩, ?_, ?_⟩ <;> omega
/-- The lives' numbers. -/
theorem runs_invD : ∀ (fuel : Nat) (s : St) (m : Nat) (l : List Ev) (tr : List (St × Int)), Inv s → Bd m s → runs fuel s l = some tr → Inv (lastSt s tr) := by
  intro fuel
  induction fuel with
  | zero => intro s m l tr hi hb hr; simp [runs] at hr
  | succ fuel ih =>
    intro s m l tr hi hb hr
    cases l with
    | nil => simp only [runs, Option.some.injEq] at hr; subst hr; exact hi
    | cons e r =>
      simp only [runs] at hr
      split at hr
      · cases hr
      split at hr
      · cases hr
      rename_i s' n hn
      cases hr2 : runs fuel s' ((e :: r).drop n) with
      | none => rw [hr2] at hr; cases hr
      | some tr' =>
        rw [hr2] at hr
        simp only [Option.map_some, Option.some.injEq] at hr
        subst hr
        exact ih s' (m + n) _ tr' (next_inv hi hb hn) (next_bd hb hn).1 hr2
theorem final_life {l : List Ev} {tr : List (St × Int)} (hl : l.length ≤ 2000) (h : playP l = some tr) : ∀ x ∈ (finalOf tr).lf, 0 ≤ x.life ∧ x.life ≤ 100000 := by
  have hi : Inv (finalOf tr) := by
    unfold playP at h
    split at h
    · rw [← lastSt_final]; exact runs_invD _ _ 0 l tr Inv.init Bd.init h
    · cases h
  have hb := (final_bdD hl h).lf
  intro x hx
  obtain ⟨i, hil, he⟩ := List.mem_iff_getElem.1 hx
  have h2 := hi.life i hil
  rw [List.getD_eq_getElem?_getD, List.getElem?_eq_getElem hil, he] at h2
  simp only [Option.getD_some] at h2
  omega
theorem Fr.of_below {w w' : World} (h : Below w.heap.size w w') : Fr No w w' := ⟨h.os, h.tape, h.output, h.size, fun k hk _ => h.block k hk⟩
theorem Fr.to_below {w w' : World} {B : Nat} (h : Fr No w w') (hB : B ≤ w.heap.size) : Below B w w' := h.below hB (fun _ e => e.elim)
theorem Fr.grow {w : World} (k : Nat) (os : Array Obj) : Fr No w (Sort.grow (w.drewN k) os) := Fr.of_below ⟨rfl, rfl, rfl, by show w.heap.size ≤ (w.heap ++ os).size; rw [Array.size_append]; omega, fun j hj => by
  show (w.heap ++ os)[j]? = w.heap[j]?
  rw [Array.getElem?_append_left hj]⟩
theorem builder_fr {T e : TypeId} {B b : Nat} {bs : List Value} {w w' : World} (h : Lib.IsBuilderF T e B b bs w) (hf : Fr No w w') : Lib.IsBuilderF T e B b bs w' := by
  have one : ∀ p, Lib.BuilderAtF T e B b p bs w → Lib.BuilderAtF T e B b p bs w' := by
    rintro p ⟨hB, v, hb, hown, hne⟩
    have hbl : b < w.heap.size := by
      rcases Nat.lt_or_ge b w.heap.size with hh | hh
      · exact hh
      · rw [Array.getElem?_eq_none hh] at hb; cases hb
    refine ⟨hB, v, by rw [hf.block b hbl (fun e => e.elim)]; exact hb, ⟨hown.1, ?_⟩, hne⟩
    rcases hown.2 with hn | ⟨g, cap, cur, fz, hv, hg, hgg, rest⟩
    · exact .inl hn
    · have hgl : g < w.heap.size := by
        rcases Nat.lt_or_ge g w.heap.size with hh | hh
        · exact hh
        · rw [Array.getElem?_eq_none hh] at hgg; cases hgg
      exact .inr ⟨g, cap, cur, fz, hv, hg, by rw [hf.block g hgl (fun e => e.elim)]; exact hgg, rest⟩
  rcases h with h | h
  · exact .inl (one _ h)
  · exact .inr (one _ h)
/-- The library's table. -/
def Tab (w : World) : Prop := Lib.TabIs Tryd.prog w "internal/strconv.uint64pow10" .u64 Lib.pow10Tab
theorem Tab.fr {w w' : World} (h : Tab w) (hf : Fr No w w') : Tab w' := by
  unfold Tab Lib.TabIs World.var? at *
  cases hg : Tryd.prog.globalNamed "internal/strconv.uint64pow10" with
  | none => rw [hg] at h; cases h
  | some g =>
    rw [hg] at h
    simp only [Option.bind_some] at h ⊢
    have hlt : g < w.heap.size := by
      rcases Nat.lt_or_ge g w.heap.size with hh | hh
      · exact hh
      · rw [Array.getElem?_eq_none hh] at h; cases h
    rw [hf.block g hlt (fun e => e.elim)]
    exact h
theorem itoa_any (n : Int) (h0 : -9223372036854775808 ≤ n) (h1 : n ≤ 9223372036854775807) (w : World) (h : Tab w) :
    Calls Tryd.prog 19 #[.int .i64 n] w fun e w' => e = .returned (.string ⟨(Lib.itoa n).toArray⟩) ∧ Fr No w w' := by
  refine (Tryd.strconv_Itoa n h0 h1 w h).mono ?_
  rintro e w' ⟨rfl, k, os, rfl⟩
  exact ⟨rfl, Fr.grow k os⟩
end Go.Proofs.YtnloffjjlhhanaaDoor
