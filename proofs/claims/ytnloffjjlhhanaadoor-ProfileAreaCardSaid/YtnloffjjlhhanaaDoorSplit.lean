/- The plain law: a text of lines, split at its line ends. -/
import Derived.Test.YtnloffjjlhhanaaDoorText
import Derived.Lib.SplitLaws
set_option linter.unusedVariables false
set_option linter.unusedSimpArgs false
namespace Go.Proofs.YtnloffjjlhhanaaDoor
open Go.RowKit
open Go.Proofs

theorem digits_no : ∀ u : Nat, (10 : UInt8) ∉ Lib.decDigits u := by
  intro u
  induction u using Nat.strongRecOn with
  | _ u ih =>
    by_cases h : u < 10
    · rw [Lib.decDigits_one h]
      have hall : ∀ i : Nat, i < 10 → (10 : UInt8) ∉ [UInt8.ofNat (48 + i)] := by decide
      exact hall u h
    · rw [Lib.decDigits, dif_neg h]
      intro hh
      rcases List.mem_append.1 hh with hh | hh
      · exact ih (u / 10) (by omega) hh
      · have hall : ∀ i : Nat, i < 10 → (10 : UInt8) ∉ [UInt8.ofNat (48 + i)] := by decide
        exact hall (u % 10) (by omega) hh
theorem itoa_no (n : Int) : (10 : UInt8) ∉ Lib.itoa n := by
  unfold Lib.itoa
  split
  · intro hh
    rcases List.mem_cons.1 hh with hh | hh
    · exact absurd hh (by decide)
    · exact digits_no _ hh
  · exact digits_no _
def bodyText (x : Lf) : List UInt8 := Lib.itoa x.life ++ ([32] ++ (Lib.itoa x.opened ++ ([32] ++ (endText x ++ ([32] ++ (Lib.itoa x.objs ++ ([32] ++ (Lib.itoa x.wds ++ ([32] ++ Lib.itoa x.pages)))))))))
theorem line_body (x : Lf) : lineText x = bodyText x ++ [10] := by simp [lineText, bodyText]
theorem end_no (x : Lf) : (10 : UInt8) ∉ endText x := by
  unfold endText
  split
  · decide
  · exact itoa_no _
theorem body_no (x : Lf) : (10 : UInt8) ∉ bodyText x := by
  have h32 : (10 : UInt8) ∉ [(32 : UInt8)] := by decide
  unfold bodyText
  simp only [List.mem_append, not_or]
  exact ⟨itoa_no _, h32, itoa_no _, h32, end_no _, h32, itoa_no _, h32, itoa_no _, h32, itoa_no _⟩
/-- Lines with their ends between them. -/
def joinB : List UInt8 → List (List UInt8) → List UInt8
  | b, [] => b
  | b, c :: r => b ++ 10 :: joinB c r
theorem text_join : ∀ (x : Lf) (r : List Lf), (x :: r).flatMap lineText = joinB (bodyText x) (r.map bodyText) ++ [10]
  | x, [] => by simp [joinB, line_body]
  | x, y :: r => by
    rw [List.flatMap_cons, text_join y r, line_body, List.map_cons]
    simp only [joinB]
    simp
theorem index_hit : ∀ (b r : List UInt8), (10 : UInt8) ∉ b → Lib.indexByte (b ++ 10 :: r) 10 = b.length
  | [], r, _ => by simp [Lib.indexByte]
  | c :: b, r, h => by
    have hc : ¬ (c == 10) = true := fun e => h (by rw [beq_iff_eq] at e; subst e; exact List.mem_cons_self)
    have ih := index_hit b r fun hh => h (List.mem_cons_of_mem _ hh)
    rw [List.cons_append]
    unfold Lib.indexByte
    rw [if_neg hc, ih, if_neg (by simp)]
    simp
theorem split_join : ∀ (b : List UInt8) (r : List (List UInt8)), (10 : UInt8) ∉ b → (∀ c ∈ r, (10 : UInt8) ∉ c) → Lib.splitK [10] 0 r.length (joinB b r) = b :: r
  | b, [], _, _ => rfl
  | b, c :: r, hb, hr => by
    have ih := split_join c r (hr c List.mem_cons_self) fun d hd => hr d (List.mem_cons_of_mem _ hd)
    have hi : Lib.index (b ++ 10 :: joinB c r) [10] = b.length := by rw [Lib.index_one]; exact index_hit b _ hb
    simp only [joinB, List.length_cons]
    unfold Lib.splitK
    rw [hi, if_neg (by simp)]
    have e1 : ((b.length : Int).toNat + 0) = b.length := by omega
    have e2 : ((b.length : Int).toNat + ([10] : List UInt8).length) = b.length + 1 := by simp
    rw [e1, e2]
    have t1 : (b ++ 10 :: joinB c r).take b.length = b := by simp
    have t2 : (b ++ 10 :: joinB c r).drop (b.length + 1) = joinB c r := by
      rw [List.drop_append]; simp
    rw [t1, t2, ih]
theorem count_no {b : List UInt8} (h : (10 : UInt8) ∉ b) : b.count 10 = 0 := List.count_eq_zero.2 h
theorem count_join : ∀ (b : List UInt8) (r : List (List UInt8)), (10 : UInt8) ∉ b → (∀ c ∈ r, (10 : UInt8) ∉ c) → (joinB b r).count 10 = r.length
  | b, [], hb, _ => count_no hb
  | b, c :: r, hb, hr => by
    have ih := count_join c r (hr c List.mem_cons_self) fun d hd => hr d (List.mem_cons_of_mem _ hd)
    simp only [joinB, List.count_append, List.count_cons, ih, count_no hb, List.length_cons]
    simp
theorem trim_end (l : List UInt8) : Lib.trimSuffix (l ++ [10]) [10] = l := by
  unfold Lib.trimSuffix Lib.hasSuffix
  have h : List.isSuffixOf [10] (l ++ [10]) = true := List.isSuffixOf_iff_suffix.2 (List.suffix_append _ _)
  rw [if_pos h]
  simp
theorem trim_nil : Lib.trimSuffix [] [10] = [] := by decide
theorem body_prefix (x : Lf) : Lib.hasPrefix (bodyText x) (Lib.itoa x.life ++ [32]) = true := by
  unfold Lib.hasPrefix bodyText
  exact List.isPrefixOf_iff_prefix.2 ⟨_, by rw [List.append_assoc]⟩
/-- The pieces of the text of a list of lines. -/
def pieces (lf : List Lf) : List (List UInt8) := match lf with | [] => [[]] | _ => lf.map bodyText
theorem text_all (lf : List Lf) : textTo lf lf.length = lf.flatMap lineText := by unfold textTo; rw [List.take_length]
theorem split_text (lf : List Lf) (s : ByteArray) (hs : s.data.toList = Lib.trimSuffix (textTo lf lf.length) [10]) :
    ((Lib.splitB ⟨#[10]⟩ 0 (Lib.countB s ⟨#[10]⟩) s).map (·.data.toList)) = pieces lf ∧ Lib.countB s ⟨#[10]⟩ + 1 = (pieces lf).length := by
  have hc : Lib.countB s ⟨#[10]⟩ = (s.data.toList).count 10 := Lib.count_one 10 s.data.toList
  rw [Lib.splitB_data]
  rw [text_all] at hs
  cases lf with
  | nil =>
    have h0 : s.data.toList = [] := by rw [hs]; exact trim_nil
    rw [hc, h0]
    exact ⟨rfl, rfl⟩
  | cons x r =>
    rw [text_join, trim_end] at hs
    have hr : ∀ c ∈ r.map bodyText, (10 : UInt8) ∉ c := fun c hcc => by
      obtain ⟨y, -, rfl⟩ := List.mem_map.1 hcc
      exact body_no y
    have hcj := count_join (bodyText x) (r.map bodyText) (body_no x) hr
    rw [hc, hs, hcj]
    refine ⟨?_, by simp [pieces]⟩
    rw [split_join _ _ (body_no x) hr]
    rfl
theorem count_text (lf : List Lf) : (textTo lf lf.length).count 10 = lf.length := by
  rw [text_all]
  cases lf with
  | nil => rfl
  | cons x r =>
    have hr : ∀ c ∈ r.map bodyText, (10 : UInt8) ∉ c := fun c hcc => by
      obtain ⟨y, -, rfl⟩ := List.mem_map.1 hcc
      exact body_no y
    rw [text_join, List.count_append, count_join _ _ (body_no x) hr]
    simp
end Go.Proofs.YtnloffjjlhhanaaDoor
