/- Area, of the program and of the reference. -/
import Derived.Test.YtnloffjjlhhanaaRefGraph
set_option linter.unusedVariables false
set_option linter.unusedSimpArgs false
namespace Go.Proofs.Ytnloffjjlhhanaa
open Go.RowKit
open Go.Proofs

theorem stepsN_one (d : Nat) : stepsN d 1 = d + 1 := by unfold stepsN; rw [Nat.div_one]; omega
theorem out_graph {l : List Ev} {tr : List (St × Int)} (hl : l.length ≤ 2000) (h : playP l = some tr) : outP l tr = graphOf l 1 := by
  cases hg : l.getLast? with
  | none =>
    have hn : l = [] := List.getLast?_eq_none_iff.1 hg
    have ht := (play_steps hl h).nil hn
    subst hn ht
    rfl
  | some e =>
    obtain ⟨h0, h1, h2, h3⟩ := outP_at hl h hg
    unfold graphOf
    rw [hg]
    simp only
    rw [stepsN_one]
    refine List.ext_getElem? fun j => ?_
    unfold pts
    rw [List.getElem?_map]
    by_cases hj : j ≤ e.step.toNat
    · rw [h3 j hj, List.getElem?_range (by omega)]
      simp
    · rw [List.getElem?_eq_none (by omega), List.getElem?_eq_none (by simp; omega)]
      rfl
theorem pgAt_bd {l : List Ev} {tr : List (St × Int)} (hl : l.length ≤ 2000) (h : playP l = some tr) (x : Int) : 0 ≤ pgAt l x ∧ pgAt l x ≤ 360000000 := by
  obtain ⟨r, s, hfin⟩ := (play_good hl h).fin
  have hfin' : Tr.init.adds l = _ := hfin
  unfold pgAt
  have hpre : ∃ k, upto l x = l.take k := ⟨(upto l x).length, by unfold upto; exact List.prefix_iff_eq_take.1 (List.takeWhile_prefix _)⟩
  obtain ⟨k, hk⟩ := hpre
  obtain ⟨y, hy⟩ := adds_prefix hfin' k
  rw [hk, hy]
  have h2 := adds_ok _ 0 _ _ Tr.init_ok hy
  exact trPages_bd h2.bd (by simp only [List.length_take]; omega)
theorem graph_bd {l : List Ev} {tr : List (St × Int)} (hl : l.length ≤ 2000) (h : playP l = some tr) (s : Nat) : ∀ x ∈ graphOf l s, 0 ≤ x ∧ x ≤ 360000000 := by
  intro x hx
  unfold graphOf at hx
  cases hg : l.getLast? with
  | none => rw [hg] at hx; cases hx
  | some e =>
    rw [hg] at hx
    simp only [pts, List.mem_map] at hx
    obtain ⟨i, -, rfl⟩ := hx
    exact pgAt_bd hl h _
def sumTo (xs : List Int) (k : Nat) : Int := (xs.take k).sum
theorem sumTo_succ {xs : List Int} {k : Nat} {x : Int} (h : xs[k]? = some x) : sumTo xs (k + 1) = sumTo xs k + x := by
  unfold sumTo; rw [List.take_add_one, h]; simp
theorem sumTo_bd {xs : List Int} (h : ∀ x ∈ xs, 0 ≤ x ∧ x ≤ 360000000) : ∀ k : Nat, 0 ≤ sumTo xs k ∧ sumTo xs k ≤ k * 360000000
  | 0 => by simp [sumTo]
  | k + 1 => by
    have ih := sumTo_bd h k
    cases e : xs[k]? with
    | none =>
      have : sumTo xs (k + 1) = sumTo xs k := by unfold sumTo; rw [List.take_add_one, e]; simp
      rw [this]; omega
    | some x =>
      rw [sumTo_succ e]
      have := h x (List.mem_of_getElem? e)
      omega
def areaVal (l : List Ev) : Value := match playP l with
  | none => .tuple #[.int .i64 0, .int .i64 100]
  | some tr => .tuple #[.int .i64 (graphOf l 1).sum, .int .i64 0]

set_option maxRecDepth 100000 in
set_option maxHeartbeats 2000000 in
theorem progArea (w : World) (A : Option Addr) (cap : Nat) (l : List Ev) (hev : Evs w.heap.size w A l) (hl : l.length ≤ 2000) (hcap : l.length ≤ cap) :
    Calls Try.prog 19 #[.slice A l.length cap] w fun e w' => Fr No w w' ∧ e = .returned (areaVal l) := by
  have HS := Lib.hid (steps_any w A cap l hev hl hcap)
  have HL := Lib.hid hl
  clear hev
  go_enter Try.func19, Try.ntmps19
  go_wp2_with fail
  refine HS.out.mono ?_
  intro en w1 hp
  unfold StepsPost at hp
  have HF1 := Lib.hid hp.1
  cases hpl : playP l with
  | none =>
    have HV : Hid (areaVal l = .tuple #[.int .i64 0, .int .i64 100]) := by unfold Hid areaVal; rw [hpl]
    rw [hpl] at hp
    obtain ⟨-, A1, n1, c1, rfl⟩ := hp
    clear hpl
    go_wp2_with fail
    go_ret2
    exact ⟨HF1.out, by rw [HV.out]; rfl⟩
  | some tr =>
    have HV : Hid (areaVal l = .tuple #[.int .i64 (graphOf l 1).sum, .int .i64 0]) := by unfold Hid areaVal; rw [hpl]
    rw [hpl] at hp
    obtain ⟨-, A1, c1, rfl, hrow, hlen, hbd⟩ := hp
    rw [out_graph HL.out hpl] at hrow hlen hbd
    rw [out_graph HL.out hpl]
    generalize hxs : graphOf l 1 = xs at *
    have HB := Lib.hid hbd
    have HROW := Lib.hid hrow
    clear hpl hrow hbd hxs
    go_wp2_with fail
    go_loopw [6, 8, 18] (fun sv _ iv wr => ∃ k : Nat, sv = .int .i64 (sumTo xs k) ∧ iv = .int .i64 k ∧ k ≤ xs.length ∧ wr = w1) (fun _ _ iv _ => xs.length - (intOf iv).toNat)
    case atStart => exact ⟨0, by simp [sumTo], rfl, by omega, rfl⟩
    case round =>
      obtain ⟨k, rfl, rfl, hk, rfl⟩ := hrel
      have hsb := sumTo_bd HB.out k
      by_cases hlt : k < xs.length
      · have hx : xs[k]? = some (xs[k]'hlt) := List.getElem?_eq_getElem _
        generalize (xs[k]'hlt) = x at hx
        have hxb := HB.out x (List.mem_of_getElem? hx)
        obtain ⟨g, hA, hc, -⟩ := row_cell HROW.out k (numI x) (by simp [hx])
        subst hA
        unfold numI at hc
        have hgl := World.block_lt_of_cell? _ _ hc
        have HSU := Lib.hid (sumTo_succ hx)
        clear hx
        go_wp2_with fail
        go_roundw
        case rel => exact ⟨k + 1, by rw [HSU.out], by go_num, by omega, trivial⟩
        case measure => simp [intOf]; omega
      · have hk2 : k = xs.length := by omega
        have HK2 := Lib.hid hk2
        clear hk2
        go_wp2_with fail
        go_ret2
        exact ⟨HF1.out, by rw [HV.out, HK2.out]; unfold sumTo; rw [List.take_length]; rfl⟩

set_option maxRecDepth 100000 in
set_option maxHeartbeats 2000000 in
theorem refArea (w : World) (A : Option Addr) (cap : Nat) (l : List Ev) (hev : Evs w.heap.size w A l) (hl : l.length ≤ 2000) (hcap : l.length ≤ cap) :
    Calls Try.prog 20 #[.slice A l.length cap] w fun e w' => Fr No w w' ∧ e = .returned (areaVal l) := by
  have HR := Lib.hid (refRight w A cap l hev hl hcap)
  have HE := Lib.hid hev
  have HL := Lib.hid hl
  clear hev
  go_enter Try.func20, Try.ntmps20
  go_wp2_with fail
  refine HR.out.mono ?_
  rintro en w1 ⟨hf1, rfl⟩
  have HF1 := Lib.hid hf1
  have HE1 := Lib.hid (HE.out.rebase hf1)
  clear hf1
  cases hpl : playP l with
  | none =>
    have HV : Hid (areaVal l = .tuple #[.int .i64 0, .int .i64 100]) := by unfold Hid areaVal; rw [hpl]
    clear hpl
    simp only [Option.isSome_none]
    go_wp2_with fail
    go_ret2
    exact ⟨HF1.out, by rw [HV.out]; rfl⟩
  | some tr =>
    have HV : Hid (areaVal l = .tuple #[.int .i64 (graphOf l 1).sum, .int .i64 0]) := by unfold Hid areaVal; rw [hpl]
    have HB := Lib.hid (graph_bd HL.out hpl 1)
    have HG := Lib.hid (refgraph w1 A cap l 1 tr HE1.out HL.out hcap hpl (by omega) (by omega))
    clear hpl
    simp only [Option.isSome_some]
    go_wp2_with fail
    refine HG.out.mono ?_
    rintro en w2 ⟨hf2, A1, c1, rfl, hrow, hlen⟩
    generalize hxs : graphOf l 1 = xs at *
    have HF2 := Lib.hid hf2
    have HROW := Lib.hid hrow
    clear hrow hxs hf2
    go_wp2_with fail
    go_loopw [4, 6, 13] (fun sv _ iv wr => ∃ k : Nat, sv = .int .i64 (sumTo xs k) ∧ iv = .int .i64 k ∧ k ≤ xs.length ∧ wr = w2) (fun _ _ iv _ => xs.length - (intOf iv).toNat)
    case atStart => exact ⟨0, by simp [sumTo], rfl, by omega, rfl⟩
    case round =>
      obtain ⟨k, rfl, rfl, hk, rfl⟩ := hrel
      have hsb := sumTo_bd HB.out k
      by_cases hlt : k < xs.length
      · have hx : xs[k]? = some (xs[k]'hlt) := List.getElem?_eq_getElem _
        generalize (xs[k]'hlt) = x at hx
        have hxb := HB.out x (List.mem_of_getElem? hx)
        obtain ⟨g, hA, hc, -⟩ := row_cell HROW.out k (numI x) (by simp [hx])
        subst hA
        unfold numI at hc
        have hgl := World.block_lt_of_cell? _ _ hc
        have HSU := Lib.hid (sumTo_succ hx)
        clear hx
        go_wp2_with fail
        go_roundw
        case rel => exact ⟨k + 1, by rw [HSU.out], by go_num, by omega, trivial⟩
        case measure => simp [intOf]; omega
      · have hk2 : k = xs.length := by omega
        have HK2 := Lib.hid hk2
        clear hk2
        go_wp2_with fail
        go_ret2
        exact ⟨HF1.out.trans HF2.out, by rw [HV.out, HK2.out]; unfold sumTo; rw [List.take_length]; rfl⟩
end Go.Proofs.Ytnloffjjlhhanaa
