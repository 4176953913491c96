/- The reference's Most. -/
import Derived.Test.YtnloffjjlhhanaaRight
set_option linter.unusedVariables false
set_option linter.unusedSimpArgs false
namespace Go.Proofs.Ytnloffjjlhhanaa
open Go.RowKit
open Go.Proofs

theorem adds_prefix {t x : Tr} {l : List Ev} (h : t.adds l = some x) (k : Nat) : ∃ y, t.adds (l.take k) = some y := by
  rw [← List.take_append_drop k l, adds_append] at h
  cases ha : t.adds (l.take k) with
  | none => rw [ha] at h; cases h
  | some y => exact ⟨y, rfl⟩
theorem adds_next {t x y : Tr} {l : List Ev} {k : Nat} {e : Ev} (h : t.adds l = some x) (hk : t.adds (l.take k) = some y) (he : l[k]? = some e) : ∃ z, y.add e = some z ∧ t.adds (l.take (k + 1)) = some z := by
  obtain ⟨z, hz⟩ := adds_prefix h (k + 1)
  have h2 := hz
  rw [take_snoc he, adds_snoc, hk] at h2
  exact ⟨z, h2, hz⟩
/-- The pages behind so many events. -/
def pgK (l : List Ev) (k : Nat) : Int := match Tr.init.adds (l.take k) with | none => 0 | some t => t.pages
def mostTo (l : List Ev) : Nat → Int
  | 0 => 0
  | k + 1 => max (mostTo l k) (pgK l (k + 1))
theorem pgK_some {l : List Ev} {k : Nat} {t : Tr} (h : Tr.init.adds (l.take k) = some t) : pgK l k = t.pages := by unfold pgK; rw [h]
theorem mostTo_le (l : List Ev) : ∀ k j, 0 < j → j ≤ k → pgK l j ≤ mostTo l k
  | 0, j, h0, h => by omega
  | k + 1, j, h0, h => by
    simp only [mostTo]
    by_cases hj : j ≤ k
    · have := mostTo_le l k j h0 hj; omega
    · obtain rfl : j = k + 1 := by omega
      omega
theorem mostTo_hit (l : List Ev) : ∀ k, mostTo l k = 0 ∨ ∃ j, 0 < j ∧ j ≤ k ∧ mostTo l k = pgK l j
  | 0 => .inl rfl
  | k + 1 => by
    simp only [mostTo]
    by_cases h : pgK l (k + 1) ≤ mostTo l k
    · rw [Int.max_eq_left h]
      rcases mostTo_hit l k with h1 | ⟨j, h0, h1, h2⟩
      · exact .inl h1
      · exact .inr ⟨j, h0, by omega, h2⟩
    · rw [Int.max_eq_right (by omega)]
      exact .inr ⟨k + 1, by omega, by omega, rfl⟩
theorem mostTo_nonneg (l : List Ev) : ∀ k, 0 ≤ mostTo l k
  | 0 => Int.le_refl _
  | k + 1 => by simp only [mostTo]; have := mostTo_nonneg l k; omega
theorem mostTo_bd {l : List Ev} {x : Tr} (hl : l.length ≤ 2000) (h : Tr.init.adds l = some x) : ∀ k, mostTo l k ≤ 360000000
  | 0 => by simp [mostTo]
  | k + 1 => by
    simp only [mostTo]
    have h1 := mostTo_bd hl h k
    obtain ⟨y, hy⟩ := adds_prefix h (k + 1)
    have h2 := adds_ok _ 0 _ _ Tr.init_ok hy
    have hlen : (l.take (k + 1)).length ≤ 2000 := by simp only [List.length_take]; omega
    have h3 := trPages_bd h2.bd (by omega)
    rw [pgK_some hy]
    omega
theorem mostOf_le : ∀ (tr : List (St × Int)) (m : Int), (∀ x ∈ tr, x.1.pages ≤ tr.foldl (fun m x => max m x.1.pages) m) ∧ m ≤ tr.foldl (fun m x => max m x.1.pages) m
  | [], m => ⟨fun x hx => (by cases hx), Int.le_refl _⟩
  | y :: tr, m => by
    obtain ⟨h1, h2⟩ := mostOf_le tr (max m y.1.pages)
    simp only [List.foldl_cons]
    refine ⟨fun x hx => ?_, by omega⟩
    rcases List.mem_cons.1 hx with rfl | hx
    · omega
    · exact h1 x hx
theorem mostOf_hit : ∀ (tr : List (St × Int)) (m : Int), tr.foldl (fun m x => max m x.1.pages) m = m ∨ ∃ x ∈ tr, tr.foldl (fun m x => max m x.1.pages) m = x.1.pages
  | [], m => .inl rfl
  | y :: tr, m => by
    simp only [List.foldl_cons]
    rcases mostOf_hit tr (max m y.1.pages) with h | ⟨x, hx, h⟩
    · rw [h]
      by_cases hc : y.1.pages ≤ m
      · rw [Int.max_eq_left hc]; exact .inl rfl
      · rw [Int.max_eq_right (by omega)]; exact .inr ⟨y, List.mem_cons_self, rfl⟩
    · exact .inr ⟨x, List.mem_cons_of_mem _ hx, h⟩
/-- Both answer the same. -/
theorem most_same {l : List Ev} {tr : List (St × Int)} (hl : l.length ≤ 2000) (h : playP l = some tr) : mostTo l l.length = mostOf tr := by
  have G := play_good hl h
  have hinit : St.init.pages = 0 := rfl
  obtain ⟨h1, h2⟩ := mostOf_le tr 0
  refine Int.le_antisymm ?_ ?_
  · rcases mostTo_hit l l.length with h3 | ⟨j, h0, h3, h4⟩
    · rw [h3]; exact h2
    · rw [h4]
      obtain ⟨tk, h5, h6⟩ := G.pg j h3
      have h5' : Tr.init.adds (l.take j) = some tk := h5
      rw [pgK_some h5']
      rcases h6 with h6 | ⟨x, hx, h6⟩
      · rw [hinit] at h6; exact Int.le_trans h6 h2
      · exact Int.le_trans h6 (h1 x hx)
  · rcases mostOf_hit tr 0 with h3 | ⟨x, hx, h3⟩
    · show mostOf tr ≤ _
      unfold mostOf
      rw [h3]; exact mostTo_nonneg l _
    · obtain ⟨k, tk, h0, h4, h5, h6⟩ := G.hit x hx
      have h5' : Tr.init.adds (l.take k) = some tk := h5
      show mostOf tr ≤ _
      unfold mostOf
      rw [h3, ← h6, ← pgK_some h5']
      exact mostTo_le l _ k h4 h0

/-- What holds where one trace is made, of the first k events. -/
def OneRel (w : World) (l : List Ev) (r k : Nat) (wr : World) : Prop :=
  ∃ (R : Loc) (t : Tr), R.t = r ∧ Fr No w wr ∧ TrAt w.heap.size wr R t ∧ Tr.init.adds (l.take k) = some t ∧ TrOk k t

set_option maxRecDepth 100000 in
set_option maxHeartbeats 2000000 in
theorem refMost (w : World) (A : Option Addr) (cap : Nat) (l : List Ev) (hev : Evs w.heap.size w A l) (hl : l.length ≤ 2000) (hcap : l.length ≤ cap) :
    Calls Try.prog 18 #[.slice A l.length cap] w fun e w' => Fr No w w' ∧ e = .returned (mostVal (playP l)) := by
  have HR := Lib.hid (refRight w A cap l hev hl hcap)
  have HE := Lib.hid hev
  have HL := Lib.hid hl
  clear hev
  go_enter Try.func18, Try.ntmps18
  go_wp2_with fail
  refine HR.out.mono ?_
  rintro en w1 ⟨hf1, rfl⟩
  have HF1 := Lib.hid hf1
  have HE1 := Lib.hid (HE.out.rebase hf1)
  clear hf1
  cases hpl : playP l with
  | none =>
    have HPL := Lib.hid hpl
    clear hpl
    simp only [Option.isSome_none]
    go_wp2_with fail
    go_ret2
    exact ⟨HF1.out, by rw [HPL.out]; rfl⟩
  | some tr =>
    have HPL := Lib.hid hpl
    simp only [Option.isSome_some]
    obtain ⟨rm, st, hfin⟩ := (play_good HL.out hpl).fin
    have hfin' : Tr.init.adds l = some (Tr.of (lastSt St.init tr) rm st) := hfin
    have hmost := most_same HL.out hpl
    have HMS := Lib.hid hmost
    have HFIN := Lib.hid hfin'
    clear hpl hfin hfin' hmost
    go_wp2_with fail
    go_loopw [4, 15, 7] (fun mv iv _ wr => ∃ k : Nat, mv = .int .i64 (mostTo l k) ∧ iv = .int .i64 k ∧ k ≤ l.length ∧ Hid (OneRel w1 l w1.heap.size k wr)) (fun _ iv _ _ => l.length - (intOf iv).toNat)
    case atStart => exact ⟨0, rfl, rfl, by omega, Lib.hid ⟨⟨w1.heap.size, none, 0, none, 0⟩, Tr.init, rfl, (Fr.refl _ _).alloc _, TrAt.new (Nat.le_refl _) (Blk.new _ _ _), rfl, Tr.init_ok⟩⟩
    case round =>
      obtain ⟨k, rfl, rfl, hk, RR⟩ := hrel
      by_cases hlt : k < l.length
      · have hx : l[k]? = some (l[k]'hlt) := List.getElem?_eq_getElem _
        generalize (l[k]'hlt) = e at hx
        obtain ⟨R, t, hrt, hfr, hT, ha, hok⟩ := RR.out
        obtain ⟨b, off, rfl, hbB, hbl, e0, e1, e2, e3⟩ := (HE1.out.fr0 hfr) k e hx
        have hsz := hfr.size
        obtain ⟨t', hadd', hadds'⟩ := adds_next HFIN.out ha hx
        have hadd := trAdd w1.heap.size (wr.alloc (.cells #[.int .i64 e.step, .int .i64 e.life, .int .i64 e.words, .string e.act] 26)) R t e k (hT.fr0 ((Fr.refl No wr).alloc _)) hok (by omega) (by simp; omega)
        rw [hrt] at hadd
        unfold Ev.val AddPost at hadd
        rw [hadd'] at hadd
        have HADD := Lib.hid hadd
        have hok' := add_ok hok hadd'
        have HOK' := Lib.hid hok'
        have HADDS := Lib.hid hadds'
        have HT := Lib.hid hT
        have HFR := Lib.hid hfr
        have HRT := Lib.hid hrt
        have hb1 := mostTo_bd HL.out HFIN.out k
        have hb2 := mostTo_nonneg l k
        have hpk := pgK_some hadds'
        have hpb := trPages_bd hok'.bd (by omega)
        have HSUC : Hid (mostTo l (k + 1) = max (mostTo l k) t'.pages) := by unfold Hid; simp only [mostTo]; rw [hpk]
        clear hadd hx hfr hT ha hok hadd' hadds' hok' hpk hrt
        go_wp2_with fail
        refine HADD.out.mono ?_
        rintro en w2 ⟨hf2, rfl, R', ht', hT', hft'⟩
        have hrel2 : OneRel w1 l w1.heap.size (k + 1) w2 := ⟨R', t', ht'.trans HRT.out, (HFR.out.alloc _).then hf2 fun i hi hS => by have := (HT.out.foot_lt hS).1; omega, hT', HADDS.out, HOK'.out⟩
        have hpages := trPages w1.heap.size w2 R' t' (k + 1) hT' HOK'.out.bd (by omega)
        rw [ht', HRT.out] at hpages
        have HREL2 := Lib.hid hrel2
        have HPAGES := Lib.hid hpages
        clear hf2 ht' hT' hft' hrel2 hpages
        go_wp2_with fail
        refine HPAGES.out.mono ?_
        rintro en w3 ⟨rfl, hf3⟩
        have hrel3 : OneRel w1 l w1.heap.size (k + 1) w3 := by
          obtain ⟨R2, t2, q1, q2, q3, q4, q5⟩ := HREL2.out
          exact ⟨R2, t2, q1, q2.trans hf3, q3.fr0 hf3, q4, q5⟩
        have HREL3 := Lib.hid hrel3
        clear hf3 hrel3
        by_cases hmx : mostTo l k ≤ t'.pages
        · have hm1 : max (mostTo l k) t'.pages = t'.pages := Int.max_eq_right hmx
          go_wp2_with fail
          go_roundw
          case rel => exact ⟨k + 1, by rw [HSUC.out]; first | rfl | (congr 1; omega), by go_num, by omega, HREL3⟩
          case measure => simp [intOf]; omega
        · have hm1 : max (mostTo l k) t'.pages = mostTo l k := Int.max_eq_left (by omega)
          go_wp2_with fail
          go_roundw
          case rel => exact ⟨k + 1, by rw [HSUC.out]; first | rfl | (congr 1; omega), by go_num, by omega, HREL3⟩
          case measure => simp [intOf]; omega
      · have hk2 : k = l.length := by omega
        have HK2 := Lib.hid hk2
        clear hk2
        go_wp2_with fail
        go_ret2
        obtain ⟨R, t, hrt, hfr, -⟩ := RR.out
        refine ⟨HF1.out.trans hfr, ?_⟩
        rw [HK2.out, HMS.out, HPL.out]
        rfl
end Go.Proofs.Ytnloffjjlhhanaa
