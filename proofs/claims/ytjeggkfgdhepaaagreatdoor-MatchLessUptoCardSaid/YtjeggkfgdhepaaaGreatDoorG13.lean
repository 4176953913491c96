/- A list without its useless patterns: the same first matches, and nothing useless. -/
import Derived.Test.YtjeggkfgdhepaaaGreatDoorG12
set_option linter.unusedVariables false
set_option linter.unusedSimpArgs false
namespace Go.Proofs.YtjeggkfgdhepaaaGreatDoor
open Go.RowKit
open Go.Proofs
open Go.Maps

/-- The indexes of the patterns that are of use. -/
noncomputable def keepN (l : List Dt) (t : Ty) (ps : List Pt) (k : Nat) : List Nat := (List.range k).filter fun i => !idle l t ps i
noncomputable def lessP (l : List Dt) (t : Ty) (ps : List Pt) (k : Nat) : List Pt := (keepN l t ps k).map fun i => (ps[i]?).getD anyPt
section
variable {l : List Dt} {t : Ty} {ps : List Pt}
theorem keepN_yes {k : Nat} (h : idle l t ps k = false) : keepN l t ps (k + 1) = keepN l t ps k ++ [k] := by
  unfold keepN
  rw [List.range_succ, List.filter_append, List.filter_cons_of_pos (by rw [h]; rfl)]
  rfl
theorem keepN_no {k : Nat} (h : idle l t ps k = true) : keepN l t ps (k + 1) = keepN l t ps k := by
  unfold keepN
  rw [List.range_succ, List.filter_append, List.filter_cons_of_neg (by rw [h]; decide)]
  simp
theorem lessP_yes {k : Nat} {q : Pt} (h : idle l t ps k = false) (hq : ps[k]? = some q) : lessP l t ps (k + 1) = lessP l t ps k ++ [q] := by
  unfold lessP
  rw [keepN_yes h, List.map_append, List.map_cons, List.map_nil, hq]
  rfl
theorem lessP_no {k : Nat} (h : idle l t ps k = true) : lessP l t ps (k + 1) = lessP l t ps k := by
  unfold lessP
  rw [keepN_no h]
theorem keepN_mem {k i : Nat} : i ∈ keepN l t ps k ↔ i < k ∧ idle l t ps i = false := by
  unfold keepN
  rw [List.mem_filter, List.mem_range]
  simp
theorem keepN_len (k : Nat) : (keepN l t ps k).length ≤ k := by
  unfold keepN
  have := List.length_filter_le (fun i => !idle l t ps i) (List.range k)
  rwa [List.length_range] at this
theorem lessP_len (k : Nat) : (lessP l t ps k).length = (keepN l t ps k).length := by unfold lessP; simp
theorem keepN_lt {k j j' i i' : Nat} (hj : (keepN l t ps k)[j]? = some i) (hj' : (keepN l t ps k)[j']? = some i') (h : j < j') : i < i' := by
  have hp : (keepN l t ps k).Pairwise (· < ·) := List.Pairwise.filter _ List.pairwise_lt_range
  rw [List.pairwise_iff_getElem] at hp
  obtain ⟨a, ha⟩ := List.getElem?_eq_some_iff.1 hj
  obtain ⟨b, hb⟩ := List.getElem?_eq_some_iff.1 hj'
  have := hp j j' a b h
  rw [ha, hb] at this
  exact this
theorem less_at {j i : Nat} (h : (keepN l t ps ps.length)[j]? = some i) : ∃ q, ps[i]? = some q ∧ (lessP l t ps ps.length)[j]? = some q ∧ idle l t ps i = false := by
  obtain ⟨h1, h2⟩ := keepN_mem.1 (List.mem_of_getElem? h)
  refine ⟨ps[i], List.getElem?_eq_getElem h1, ?_, h2⟩
  unfold lessP
  rw [List.getElem?_map, h, Option.map_some, List.getElem?_eq_getElem h1]
  rfl
theorem less_back {j : Nat} {q : Pt} (h : (lessP l t ps ps.length)[j]? = some q) : ∃ i, (keepN l t ps ps.length)[j]? = some i ∧ ps[i]? = some q := by
  have hl := (List.getElem?_eq_some_iff.1 h).1
  rw [lessP_len] at hl
  obtain ⟨q', h1, h2, -⟩ := less_at (l := l) (t := t) (ps := ps) (List.getElem?_eq_getElem hl)
  rw [h] at h2
  cases h2
  exact ⟨_, List.getElem?_eq_getElem hl, h1⟩
theorem less_mem {q : Pt} (h : q ∈ lessP l t ps ps.length) : q ∈ ps := by
  obtain ⟨j, hj⟩ := List.getElem?_of_mem h
  obtain ⟨i, -, hi⟩ := less_back hj
  exact List.mem_of_getElem? hi
theorem less_take {j i : Nat} (h : (keepN l t ps ps.length)[j]? = some i) : ∀ q ∈ (lessP l t ps ps.length).take j, q ∈ ps.take i := by
  intro q hq
  obtain ⟨j', hj'⟩ := List.getElem?_of_mem hq
  have hlt := (List.getElem?_eq_some_iff.1 hj').1
  rw [List.length_take] at hlt
  rw [List.getElem?_take_of_lt (by omega)] at hj'
  obtain ⟨i', h1, h2⟩ := less_back hj'
  have h3 := keepN_lt h1 h (by omega)
  refine List.mem_of_getElem? (i := i') ?_
  rw [List.getElem?_take_of_lt h3]
  exact h2
theorem less_count : ∀ k, k ≤ ps.length → ((lessP l t ps k).map Pt.count).sum ≤ ((ps.take k).map Pt.count).sum
  | 0, _ => by simp [lessP, keepN]
  | k + 1, h => by
    have ih := less_count k (by omega)
    have hq : ps[k]? = some ps[k] := List.getElem?_eq_getElem (by omega)
    have e : ps.take (k + 1) = ps.take k ++ [ps[k]] := by rw [List.take_add_one, hq]; rfl
    rw [e, List.map_append, List.sum_append]
    cases hi : idle l t ps k with
    | true => rw [lessP_no hi]; omega
    | false =>
      rw [lessP_yes hi hq, List.map_append, List.sum_append]
      omega
theorem less_asked (h : Asked l t ps) : Asked l t (lessP l t ps ps.length) := by
  refine ⟨h.sound, ?_, fun p hp => h.pats p (less_mem hp), ?_⟩
  · rw [lessP_len]
    have := keepN_len (l := l) (t := t) (ps := ps) ps.length
    have := h.len
    omega
  · have := less_count (l := l) (t := t) (ps := ps) ps.length (Nat.le_refl _)
    rw [List.take_length] at this
    have := h.nodes
    omega
/-- Nothing in it is useless. -/
theorem less_idle : idleN l t (lessP l t ps ps.length) (lessP l t ps ps.length).length = [] := by
  rw [List.eq_nil_iff_forall_not_mem]
  intro j hj
  obtain ⟨h1, h2⟩ := idleN_mem.1 hj
  have hq : (lessP l t ps ps.length)[j]? = some (lessP l t ps ps.length)[j] := List.getElem?_eq_getElem h1
  rw [idle_iff hq] at h2
  obtain ⟨i, hi, hpi⟩ := less_back hq
  obtain ⟨q', h3, h4, h5⟩ := less_at hi
  rw [hpi] at h3
  cases h3
  have hu : Useful l [t] (oneCol (ps.take i)) [(lessP l t ps ps.length)[j]] := by
    apply Classical.byContradiction
    intro hn
    rw [(idle_iff hpi).2 hn] at h5
    cases h5
  refine h2 (useful_less hu fun r hr => ?_)
  unfold oneCol at hr ⊢
  obtain ⟨q, hqm, rfl⟩ := List.mem_map.1 hr
  exact List.mem_map.2 ⟨q, less_take hi q hqm, rfl⟩
end
theorem firstOf_cases (l : List Pt) (v : Pt) : (∃ (i : Nat) (q : Pt), l[i]? = some q ∧ q.matchB v = true ∧ (∀ (j : Nat) (q : Pt), j < i → l[j]? = some q → q.matchB v = false) ∧ firstOf l v = (i : Nat)) ∨ ((∀ (j : Nat) (q : Pt), l[j]? = some q → q.matchB v = false) ∧ firstOf l v = -1) := by
  by_cases h : ∀ (j : Nat) (q : Pt), l[j]? = some q → q.matchB v = false
  · exact .inr ⟨h, firstOf_miss fun j q _ hj => h j q hj⟩
  · refine .inl ?_
    have h1 : ∃ (i : Nat) (q : Pt), l[i]? = some q ∧ q.matchB v = true := by
      apply Classical.byContradiction
      intro hn
      exact h fun j q hj => by
        cases hm : q.matchB v with
        | false => rfl
        | true => exact absurd ⟨j, q, hj, hm⟩ hn
    have key : ∀ n : Nat, (∃ i, i ≤ n ∧ ∃ q : Pt, l[i]? = some q ∧ q.matchB v = true) → ∃ (i : Nat) (q : Pt), l[i]? = some q ∧ q.matchB v = true ∧ ∀ (j : Nat) (q : Pt), j < i → l[j]? = some q → q.matchB v = false := by
      intro n
      induction n with
      | zero =>
        rintro ⟨i, hi, q, h2, h3⟩
        refine ⟨i, q, h2, h3, fun j q hj => by omega⟩
      | succ n ih =>
        rintro ⟨i, hi, q, h2, h3⟩
        by_cases hb : ∃ i, i ≤ n ∧ ∃ q : Pt, l[i]? = some q ∧ q.matchB v = true
        · exact ih hb
        · refine ⟨i, q, h2, h3, fun j q' hj hq' => ?_⟩
          cases hm : q'.matchB v with
          | false => rfl
          | true => exact absurd ⟨j, by omega, q', hq', hm⟩ hb
    obtain ⟨i, q, h2, h3⟩ := h1
    obtain ⟨i, q, h2, h3, h4⟩ := key i ⟨i, Nat.le_refl _, q, h2, h3⟩
    exact ⟨i, q, h2, h3, h4, firstOf_hit (List.getElem?_eq_some_iff.1 h2).1 (fun q' hq' => by rw [h2] at hq'; cases hq'; exact h3) h4⟩
/-- The first matches of a list without its useless patterns. -/
theorem first_less {l : List Dt} {t : Ty} {ps : List Pt} {v : Pt} (hv : Val l t v) :
    (firstOf ps v = -1 ∧ firstOf (lessP l t ps ps.length) v = -1) ∨ ∃ i k : Nat, firstOf ps v = (i : Nat) ∧ firstOf (lessP l t ps ps.length) v = (k : Nat) ∧ (keepN l t ps ps.length)[k]? = some i ∧ idle l t ps i = false := by
  rcases firstOf_cases ps v with ⟨i, q, h1, h2, h3, h4⟩ | ⟨h1, h2⟩
  · refine .inr ?_
    have hi : idle l t ps i = false := by
      cases h : idle l t ps i with
      | false => rfl
      | true => exact absurd (first_useful hv h1 h2 h3) ((idle_iff h1).1 h)
    have hm : i ∈ keepN l t ps ps.length := keepN_mem.2 ⟨(List.getElem?_eq_some_iff.1 h1).1, hi⟩
    obtain ⟨k, hk⟩ := List.getElem?_of_mem hm
    obtain ⟨q', k1, k2, -⟩ := less_at hk
    rw [h1] at k1
    cases k1
    refine ⟨i, k, h4, firstOf_hit (List.getElem?_eq_some_iff.1 k2).1 (fun q' hq' => by rw [k2] at hq'; cases hq'; exact h2) (fun j q' hj hq' => ?_), hk, hi⟩
    obtain ⟨i', e1, e2⟩ := less_back hq'
    exact h3 i' q' (keepN_lt e1 hk hj) e2
  · refine .inl ⟨h2, firstOf_miss fun j q _ hj => ?_⟩
    obtain ⟨i, -, hi⟩ := less_back hj
    exact h1 i q hi
/-- A value has no variables. -/
theorem val_binds {l : List Dt} (hr : Right l) (v : Pt) : ∀ t, okT l t → v.wellB = true → v.isVal l t = true → v.binds = [] := by
  refine Pt.induct (p := fun v => ∀ t, okT l t → v.wellB = true → v.isVal l t = true → v.binds = []) (fun d s n a c ps ih t ht hw hv => ?_) v
  have hw0 := hw
  rw [Pt.binds_mk]
  rw [Pt.isVal_mk] at hv
  rw [Pt.wellB_mk, Bool.and_eq_true, List.all_eq_true] at hw
  split at hv
  · rw [Bool.and_eq_true] at hv
    have hd := do_is hv.2
    have hn := hw.1
    unfold nodeOk at hn
    rw [hd] at hn
    simp at hn
    have : ps = [] := hn.2
    subst this
    unfold isDo
    rw [hd]
    simp
  · rename_i hnw
    rw [Bool.and_eq_true] at hv
    simp only [Bool.or_eq_true, not_or, Bool.not_eq_true] at hnw
    obtain ⟨hp1, hp2⟩ := parts_pok hr ht (p := .mk d s n a c ps) hw0 hnw.2 hv.1
    simp only [Pt.dof, Pt.name, Pt.args] at hp1 hp2
    have hvar : isDo [118, 97, 114] d = false := by
      have := hnw.2
      unfold wildD at this
      simp only [Bool.or_eq_false_iff] at this
      exact this.2
    rw [hvar]
    simp only [Bool.false_eq_true, if_false, List.nil_append]
    rw [List.flatMap_eq_nil_iff]
    intro q hq
    obtain ⟨k, hk⟩ := List.getElem?_of_mem hq
    have hlen := hp1.length
    have hkl := (List.getElem?_eq_some_iff.1 hk).1
    have hu : (partsD l t d s)[k]? = some (partsD l t d s)[k] := List.getElem?_eq_getElem (by omega)
    have hall := hv.2
    unfold isValL at hall
    rw [List.all_eq_true] at hall
    have hz : (((ps.map fun q => q.isVal l).zipWith (fun f u => f u) (partsD l t d s)))[k]? = some (q.isVal l (partsD l t d s)[k]) := by
      rw [List.getElem?_zipWith, List.getElem?_map, hk, hu]
      rfl
    exact ih q hq _ (hp2 _ (List.getElem_mem _)) (hw.2 q hq) (hall _ (List.mem_of_getElem? hz))
end Go.Proofs.YtjeggkfgdhepaaaGreatDoor

/- Rows of indexes: has. -/
set_option linter.unusedVariables false
set_option linter.unusedSimpArgs false
namespace Go.Proofs.YtjeggkfgdhepaaaGreatDoor
open Go.RowKit
open Go.Proofs

def natV (i : Nat) : Value := .int .i64 (i : Int)
/-- A row of indexes. -/
def NatsAt (B : Nat) (w : World) (A : Option Addr) (ns : List Nat) : Prop := RowAt B w 1 A (ns.map fun i => [natV i])
theorem NatsAt.cell {B : Nat} {w w' : World} {A : Option Addr} {ns : List Nat} {k : Nat} (h : NatsAt B w A ns) (hb : Below B w w') (hk : k < ns.length) : ∃ b o x, A = some ⟨b, o, none⟩ ∧ b < B ∧ ns[k]? = some x ∧ w'.cell? ⟨b, o + k, none⟩ = some (.int .i64 (x : Int)) := by
  obtain ⟨b, o, e, hlt, hc⟩ := h (by simp; omega)
  refine ⟨b, o, ns[k], e, hlt, List.getElem?_eq_getElem hk, ?_⟩
  have := hc k [natV ns[k]] (by rw [List.getElem?_map, List.getElem?_eq_getElem hk]; rfl) 0 _ rfl
  rw [Nat.mul_one, Nat.add_zero] at this
  exact (hb.cell (p := ⟨b, o + k, none⟩) hlt).trans this
theorem OwnI.nats {B : Nat} {w : World} {v : Value} {ns : List Nat} (h : OwnI B w v (ns.map natV)) : ∃ A c, v = .slice A ns.length c ∧ NatsAt w.heap.size w A ns := by
  obtain ⟨A, c, rfl, ho⟩ := h
  refine ⟨A, c, by rw [List.length_map], ?_⟩
  have := row_vals ho
  rw [List.map_map] at this
  exact this
set_option maxRecDepth 100000 in
set_option maxHeartbeats 2000000 in
theorem has_any (ns : List Nat) (A : Option Addr) (c : Nat) (n : Int) (w : World) (h : NatsAt w.heap.size w A ns) (hl : ns.length ≤ 1048576) :
    Calls Tryz.prog 19 #[.slice A ns.length c, .int .i64 n] w fun e w' => e = .returned (.bool (ns.any fun i => (i : Int) == n)) ∧ Below w.heap.size w w' := by
  have H := Lib.hid h
  obtain ⟨res, hres⟩ : ∃ r, r = (ns.any fun i => (i : Int) == n) := ⟨_, rfl⟩
  have HRES := Lib.hid hres
  rw [← hres]
  clear hres
  clear h
  go_enter Tryz.func19, Tryz.ntmps19
  go_wp2_with fail
  go_loopw [9] (fun iv wr => ∃ k : Nat, iv = .int .i64 k ∧ k ≤ ns.length ∧ Hid (Below w.heap.size w wr) ∧ Hid (∀ (j x : Nat), j < k → ns[j]? = some x → ((x : Int) == n) = false)) (fun iv _ => ns.length - (intOf iv).toNat)
  case atStart => exact ⟨0, rfl, Nat.zero_le _, Below.refl _ _, Lib.hid fun j x hj => absurd hj (Nat.not_lt_zero _)⟩
  case round =>
    obtain ⟨k, rfl, hk, HB, HN⟩ := hrel
    by_cases hlt : k < ns.length
    · obtain ⟨b, o, x, rfl, hb, hx, x0⟩ := H.out.cell HB.out hlt
      have HX := Lib.hid hx
      obtain ⟨q, hq⟩ : ∃ q, ((x : Int) == n) = q := ⟨_, rfl⟩
      have HQ := Lib.hid hq
      have hs := HB.out.size
      clear hx
      cases q
      case true =>
        have HR := Lib.hid (show res = true by rw [HRES.out, List.any_eq_true]; exact ⟨x, List.mem_of_getElem? HX.out, HQ.out⟩)
        go_wp2_with fail
        go_ret
        exact ⟨by rw [HR.out]; rfl, HB.out⟩
      case false =>
        go_wp2_with fail
        exact ⟨⟨k + 1, by go_num, by omega, HB.out, Lib.hid (fun j y hj hy => by
          by_cases hjk : j < k
          · exact HN.out j y hjk hy
          · have : j = k := by omega
            subst this
            rw [HX.out] at hy
            cases hy
            exact HQ.out)⟩, by simp [intOf]; omega⟩
    · have hk2 : k = ns.length := by omega
      have hn := HN.out
      rw [hk2] at hn
      have HR := Lib.hid (show res = false by
        rw [HRES.out, List.any_eq_false]
        intro x hx
        obtain ⟨j, hj⟩ := List.getElem?_of_mem hx
        have := hn j x (List.getElem?_eq_some_iff.1 hj).1 hj
        rw [this]
        decide)
      clear hn hk2
      go_wp2_with fail
      go_ret
      exact ⟨by rw [HR.out]; rfl, HB.out⟩
end Go.Proofs.YtjeggkfgdhepaaaGreatDoor

/- The law MatchLess, walked. -/
set_option linter.unusedVariables false
set_option linter.unusedSimpArgs false
namespace Go.Proofs.YtjeggkfgdhepaaaGreatDoor
open Go.RowKit
open Go.Proofs
open Go.Maps

theorem idle_any {l : List Dt} {t : Ty} {ps : List Pt} {n k : Nat} (hk : k < n) : ((idleN l t ps n).any fun i => (i : Int) == (k : Int)) = idle l t ps k := by
  rw [Bool.eq_iff_iff, List.any_eq_true]
  constructor
  · rintro ⟨i, hi, he⟩
    have : i = k := by simp at he; omega
    subst this
    exact (idleN_mem.1 hi).2
  · intro h
    exact ⟨k, idleN_mem.2 ⟨hk, h⟩, by simp⟩
theorem idleN_len (l : List Dt) (t : Ty) (ps : List Pt) (k : Nat) : (idleN l t ps k).length ≤ k := by
  have := idleL_len l t ps k
  unfold idleL at this
  rwa [List.length_map] at this
theorem val_of {l : List Dt} (hr : Right l) {t : Ty} (ht : okT l t) {v : Pt} (hp : v.patB = true) (hv : v.isVal l t = true) : Val l t v ∧ v.valueB = true := by
  refine ⟨⟨patB_well hp, hv⟩, ?_⟩
  unfold Pt.valueB
  rw [hp, val_binds hr v t ht (patB_well hp) hv]
  rfl
theorem first_of {w w' : World} {e : Ending} {ps : List Pt} {v : Pt} (hv : v.valueB = true) (hps : ∀ p ∈ ps, p.patB = true) (h : FirstPost w ps v e w') : Below w.heap.size w w' ∧ e = .returned (.tuple #[.int .i64 (firstOf ps v), .int .i64 0]) := by
  obtain ⟨h1, h2⟩ := h
  have : (v.valueB && ps.all Pt.patB) = true := by
    rw [hv, Bool.true_and, List.all_eq_true]
    exact hps
  rw [this] at h2
  exact ⟨h1, h2⟩
set_option maxRecDepth 100000 in
set_option maxHeartbeats 16000000 in
theorem less_law (A : Option Addr) (l : List Dt) (c : Nat) (t : Ty) (Ap : Option Addr) (ps : List Pt) (cp : Nat) (v : Pt) (w : World) (h : AskIn w A l t Ap ps) (hcap : ps.length ≤ cp) (hv : v.In w.heap.size w) (hvb : v.binds.length ≤ 1048576) :
    Calls Tryz.prog 5 #[.slice A l.length c, t.val, .slice Ap ps.length cp, v.val] w fun e w' => e = .returned (.bool true) ∧ Below w.heap.size w w' := by
  have H := Lib.hid h
  have HCAP := Lib.hid hcap
  have HAQ := Lib.hid (asked_iff (l := l) (t := t) h.count)
  have HU := Lib.hid (fun (W : World) (hW : Below w.heap.size w W) => useless_any A l c t Ap ps cp W (h.next hW) hcap)
  have HVF := Lib.hid (fun (W : World) (hW : Below w.heap.size w W) => validFlat_any v W (h.env.next hW) (hv.next hW) hvb)
  have HIV := Lib.hid (fun (ha : Asked l t ps) (hb : v.patB = true) (W : World) (hW : Below w.heap.size w W) => isVal_any A l c ha.right v t W (h.dts.next hW) (hv.next hW) (patB_well hb) (h.ty.next hW) ha.ty)
  have HF1 := Lib.hid (fun (W : World) (hW : Below w.heap.size w W) => pFirst_any ps Ap cp v W (h.env.next hW) (h.pts.at_ hW hW.size) (hv.next hW) hvb)
  have HF2 := Lib.hid (fun (less : List Pt) (A2 : Option Addr) (c2 : Nat) (W : World) (hW : Below w.heap.size w W) (hi : PtsIn W.heap.size W A2 less) => pFirst_any less A2 c2 v W (h.env.next hW) hi (hv.next hW) hvb)
  have HAW := Lib.hid (fun (W : World) (hW : Below w.heap.size w W) => awake_any W (h.env.next hW))
  have HVO := Lib.hid (fun (ha : Asked l t ps) (hb : v.patB = true) (hv : v.isVal l t = true) => val_of ha.right ha.ty hb hv)
  have hpl := h.pts.len
  obtain ⟨i0, hi, hz0, hz1, hz2⟩ := info_parts infoPat
  obtain ⟨i1, hj, hy0, hy1, hy2⟩ := info_parts infoInt
  have HB0 := Lib.hid (((Below.refl w.heap.size w).alloc (Nat.le_refl _) (.cells #[.string t.dof, .string t.name, .slice t.at_ t.args.length t.cap] 25)).alloc (by simp) (.cells #[.string v.dof, .string v.name, .int .i64 v.num, .slice v.at_ v.args.length v.cap] 28))
  have K1 := Lib.hid ((Blk.new w #[.string t.dof, .string t.name, .slice t.at_ t.args.length t.cap] 25).alloc (.cells #[.string v.dof, .string v.name, .int .i64 v.num, .slice v.at_ v.args.length v.cap] 28))
  have K2 := Lib.hid (Blk.new' (w.alloc (.cells #[.string t.dof, .string t.name, .slice t.at_ t.args.length t.cap] 25)) #[.string v.dof, .string v.name, .int .i64 v.num, .slice v.at_ v.args.length v.cap] 28 (w.heap.size + 1) (by simp))
  unfold UselessPost at HU
  obtain ⟨er, her⟩ : ∃ er, askedErr l t ps = er := ⟨_, rfl⟩
  obtain ⟨pb, hpb⟩ : ∃ pb, v.patB = pb := ⟨_, rfl⟩
  obtain ⟨vb, hvv⟩ : ∃ vb, v.isVal l t = vb := ⟨_, rfl⟩
  rw [her] at HU HAQ
  rw [hpb] at HVF HIV HVO
  rw [hvv] at HIV HVO
  clear h hv hcap hvb her hpb hvv
  unfold Ty.val Pt.val at *
  go_enter Tryz.func5, Tryz.ntmps5
  go_wp2_with fail
  generalize (w.alloc (.cells #[.string t.dof, .string t.name, .slice t.at_ t.args.length t.cap] 25)).alloc (.cells #[.string v.dof, .string v.name, .int .i64 v.num, .slice v.at_ v.args.length v.cap] 28) = w0 at HB0 K1 K2 ⊢
  refine Calls.mono (HU.out _ HB0.out) ?_
  rintro e w1 ⟨hb1, ⟨h0, v1, rfl, hown1⟩ | ⟨hne, rfl⟩⟩
  case inr =>
    have HB1 := Lib.hid (HB0.out.trans (hb1.mono HB0.out.size))
    have hne2 : (er == 0) = false := by simpa using hne
    have hne3 : (er != 0) = true := by simpa using hne
    clear hb1 hne
    go_wp2_with fail
    refine Calls.mono (HAW.out _ HB1.out) ?_
    rintro e w2 ⟨rfl, hb2⟩
    have HB2 := Lib.hid (HB1.out.trans (hb2.mono HB1.out.size))
    clear hb2
    go_wp2_with fail
    go_ret
    exact ⟨rfl, HB2.out⟩
  have HASKED := Lib.hid (HAQ.out.1 h0)
  subst h0
  obtain ⟨A1, c1, rfl, hn1⟩ := OwnI.nats (show OwnI w0.heap.size w1 v1 ((idleN l t ps ps.length).map natV) from hown1)
  have HN1 := Lib.hid hn1
  have HB1 := Lib.hid (HB0.out.trans (hb1.mono HB0.out.size))
  have K11 := Lib.hid (K1.out.below hb1 K1.out.lt)
  have K21 := Lib.hid (K2.out.below hb1 K2.out.lt)
  obtain ⟨z0, z1, z2, z3⟩ := K21.out.four
  have zl := K21.out.lt
  clear hb1 hown1 hn1
  go_wp2_with fail
  refine Calls.mono (HVF.out _ HB1.out) ?_
  rintro e w2 ⟨rfl, hb2⟩
  have HB2 := Lib.hid (HB1.out.trans (hb2.mono HB1.out.size))
  have HC2 := Lib.hid hb2
  have K12 := Lib.hid (K11.out.below hb2 K11.out.lt)
  have K22 := Lib.hid (K21.out.below hb2 K21.out.lt)
  clear hb2 z0 z1 z2 z3 zl
  cases pb
  case false =>
    go_wp2_with fail
    refine Calls.mono (HAW.out _ HB2.out) ?_
    rintro e w3 ⟨rfl, hb3⟩
    have HB3 := Lib.hid (HB2.out.trans (hb3.mono HB2.out.size))
    clear hb3
    go_wp2_with fail
    go_ret
    exact ⟨rfl, HB3.out⟩
  have HIV2 := Lib.hid (HIV.out HASKED.out rfl)
  obtain ⟨y0, y1, y2⟩ := K12.out.three
  have yl := K12.out.lt
  obtain ⟨z0, z1, z2, z3⟩ := K22.out.four
  have zl := K22.out.lt
  go_wp2_with fail
  refine Calls.mono (HIV2.out _ HB2.out) ?_
  rintro e w3 ⟨rfl, hb3⟩
  have HB3 := Lib.hid (HB2.out.trans (hb3.mono HB2.out.size))
  have HC3 := Lib.hid (HC2.out.trans (hb3.mono HC2.out.size))
  have K13 := Lib.hid (K12.out.below hb3 K12.out.lt)
  have K23 := Lib.hid (K22.out.below hb3 K22.out.lt)
  clear hb3 y0 y1 y2 yl z0 z1 z2 z3 zl
  cases vb
  case false =>
    go_wp2_with fail
    refine Calls.mono (HAW.out _ HB3.out) ?_
    rintro e w4 ⟨rfl, hb4⟩
    have HB4 := Lib.hid (HB3.out.trans (hb4.mono HB3.out.size))
    clear hb4
    go_wp2_with fail
    go_ret
    exact ⟨rfl, HB4.out⟩
  obtain ⟨hval, hvalb⟩ := HVO.out HASKED.out (by simp) (by simp)
  have HVAL := Lib.hid hval
  have HVALB := Lib.hid hvalb
  have hl12 := HASKED.out.len
  have HHAS := Lib.hid (fun (W : World) (hW : Below w1.heap.size w1 W) (k : Nat) => has_any (idleN l t ps ps.length) A1 c1 k W ((HN1.out.keep hW).wider hW.size) (by have := idleN_len l t ps ps.length; omega))
  clear hval hvalb HIV HIV2 HVO HU
  go_wp2_with fail
  go_loopw [43, 11, 12] (fun iv lv fv wr => ∃ k : Nat, iv = .int .i64 k ∧ k ≤ ps.length ∧ Hid (Below w3.heap.size w3 wr) ∧ Hid (PatsO w3.heap.size wr lv (lessP l t ps k)) ∧ Hid (OwnI w3.heap.size wr fv ((keepN l t ps k).map natV))) (fun iv _ _ _ => ps.length - (intOf iv).toNat)
  case atStart => exact ⟨0, rfl, Nat.zero_le _, Below.refl _ _, Lib.hid (PatsO.nil _ _), Lib.hid ⟨none, 0, rfl, World.ownsRow_nil _ _ _ _⟩⟩
  case round =>
    obtain ⟨k, rfl, hk, HB, HO, HI⟩ := hrel
    obtain ⟨A', c', rfl, hown⟩ := HO.out
    obtain ⟨A2, c2, rfl, hown2⟩ := HI.out
    have HOWN := Lib.hid hown
    have HOWN2 := Lib.hid hown2
    have HBW := Lib.hid (HB3.out.trans (HB.out.mono HB3.out.size))
    clear hown hown2
    by_cases hlt : k < ps.length
    · obtain ⟨q, b0, off, hq, hmem, rfl, hb, x0, x1, x2, x3⟩ := Pt.arg_at H.out.pts.row HBW.out hlt
      have HQ := Lib.hid hq
      have HBA := Lib.hid ((Below.refl wr.heap.size wr).alloc (Nat.le_refl _) (.cells #[.string q.dof, .string q.name, .int .i64 q.num, .slice q.at_ q.args.length q.cap] 28))
      have KQ := Lib.hid (Blk.new wr #[.string q.dof, .string q.name, .int .i64 q.num, .slice q.at_ q.args.length q.cap] 28)
      have hhas := HHAS.out _ (HC3.out.trans ((HB.out.trans (HBA.out.mono HB.out.size)).mono HC3.out.size)) k
      rw [idle_any hlt] at hhas
      obtain ⟨ik, hik⟩ : ∃ ik, idle l t ps k = ik := ⟨_, rfl⟩
      rw [hik] at hhas
      have HIK := Lib.hid hik
      have HH := Lib.hid hhas
      clear hq hhas hik
      go_wp2_with fail
      clear x0 x1 x2 x3
      generalize wr.alloc (.cells #[.string q.dof, .string q.name, .int .i64 q.num, .slice q.at_ q.args.length q.cap] 28) = w4 at HBA KQ HH ⊢
      refine Calls.mono HH.out ?_
      rintro e w5 ⟨rfl, hb5⟩
      have HB5 := Lib.hid (HBA.out.trans (hb5.mono HBA.out.size))
      have HB35 := Lib.hid (HB.out.trans (HB5.out.mono HB.out.size))
      have KQ5 := Lib.hid (KQ.out.below hb5 KQ.out.lt)
      have HW5 := Lib.hid (row_stays HOWN.out fun i hi => HB5.out.block i (HOWN.out.lt i hi).2)
      have HX5 := Lib.hid (row_stays HOWN2.out fun i hi => HB5.out.block i (HOWN2.out.lt i hi).2)
      clear hb5
      cases ik
      case true =>
        go_wp2_with fail
        exact ⟨⟨k + 1, by go_num, by omega, HB35.out, Lib.hid ⟨A', c', by simp [lessP_no HIK.out], by rw [lessP_no HIK.out]; exact HW5.out⟩, Lib.hid ⟨A2, c2, by simp [keepN_no HIK.out], by rw [keepN_no HIK.out]; exact HX5.out⟩⟩, by simp [intOf]; omega⟩
      case false =>
        obtain ⟨z0, z1, z2, z3⟩ := KQ5.out.four
        have zl := KQ5.out.lt
        have hs5 := HB35.out.size
        have hll : (lessP l t ps k).length ≤ 12 := by rw [lessP_len]; have := keepN_len (l := l) (t := t) (ps := ps) k; omega
        have hkl : ((keepN l t ps k).map natV).length ≤ 12 := by rw [List.length_map]; have := keepN_len (l := l) (t := t) (ps := ps) k; omega
        have HLL := Lib.hid hll
        have HKL := Lib.hid hkl
        generalize hlp : lessP l t ps k = lp at HW5 HLL hll ⊢
        generalize hkp : (keepN l t ps k).map natV = kp at HX5 HKL hkl ⊢
        have HLP := Lib.hid (lessP_yes HIK.out HQ.out)
        have HKP := Lib.hid (show (keepN l t ps (k + 1)).map natV = kp ++ [.int .i64 (k : Int)] by rw [keepN_yes HIK.out, List.map_append, hkp]; rfl)
        rw [hlp] at HLP
        clear hlp hkp HOWN HOWN2 HO HI
        go_wp2_with (at_builtin; go_must (refine wpList_append_own_at _ rfl (.tmp 52) (.tmp 54) 26 rfl w3.heap.size 28 i0 _ 4 64 Tryz.underlying26 hi hz0 hz1 hz2 rfl (by decide) (.slice A' lp.length c') lp.length ((lp.map Pt.cells).flatten) rfl ?hown ⟨w5.heap.size, 0, none⟩ 1 1 q.cells rfl rfl ?c1 ?c2 ?c3 ?c4 ?c5 ?_))
        case hown => exact World.ownsRow.alloc HW5.out _
        case c1 => exact World.news_of_block (heap_alloc_new w5 _)
        case c2 => simp [Value.oneCell', Pt.cells]
        case c3 => unfold maxLen; omega
        case c4 => omega
        case c5 => first | omega | (simp; omega)
        intro v' w6 hown hgrow _ _
        obtain ⟨A6, c6, rfl, -⟩ := row_slice hown
        have hb6 : Below w3.heap.size w3 w6 := (HB35.out.alloc hs5 _).grown hgrow (by simp; omega) (fun i hi => (HW5.out.lt i hi).1)
        have hx6 : w6.ownsRow w3.heap.size 3 1 (.slice A2 kp.length c2) kp.length kp := row_stays (World.ownsRow.alloc HX5.out (.cells #[.string q.dof, .string q.name, .int .i64 q.num, .slice q.at_ q.args.length q.cap] 28)) fun i hi => hgrow.block i (by have := (HX5.out.lt i hi).2; simp; omega) (own_apart HW5.out HX5.out (by decide) i hi).symm
        have HB6 := Lib.hid hb6
        have HX6 := Lib.hid hx6
        have HW6 := Lib.hid hown
        have hs6 := hb6.size
        clear hown hgrow hb6 hx6 z0 z1 z2 z3 zl
        go_wp2_with (at_builtin; go_must (refine wpList_append_own_at _ rfl (.tmp 56) (.tmp 58) 41 rfl w3.heap.size 3 i1 _ 1 8 Tryz.underlying41 hj hy0 hy1 hy2 rfl (by decide) (.slice A2 kp.length c2) kp.length kp rfl ?hown2 ⟨w6.heap.size, 0, none⟩ 1 1 [.int .i64 k] rfl rfl ?d1 ?d2 ?d3 ?d4 ?d5 ?_))
        case hown2 => exact World.ownsRow.alloc HX6.out _
        case d1 => exact World.news_of_block (heap_alloc_new w6 _)
        case d2 => simp [Value.oneCell']
        case d3 => unfold maxLen; omega
        case d4 => omega
        case d5 => first | omega | (simp; omega)
        intro v'' w7 hown hgrow _ _
        obtain ⟨A7, c7, rfl, -⟩ := row_slice hown
        have hb7 : Below w3.heap.size w3 w7 := (HB6.out.alloc hs6 _).grown hgrow (by simp; omega) (fun i hi => (HX6.out.lt i hi).1)
        have hw7 := row_stays (World.ownsRow.alloc HW6.out (.cells #[.int .i64 k] 3)) fun i hi => hgrow.block i (by have := (HW6.out.lt i hi).2; simp; omega) (own_apart HX6.out HW6.out (by decide) i hi).symm
        have HB7 := Lib.hid hb7
        have HX7 := Lib.hid hown
        have HW7 := Lib.hid hw7
        clear hown hgrow hb7 hw7
        go_wp2_with fail
        refine ⟨⟨k + 1, by go_num, by omega, HB7.out, Lib.hid ⟨A6, c6, ?_, ?_⟩, Lib.hid ⟨A7, c7, ?_, ?_⟩⟩, by simp [intOf]; omega⟩
        · rw [HLP.out]; simp
        · rw [HLP.out]
          have := HW7.out
          simpa using this
        · rw [HKP.out]; simp
        · rw [HKP.out]
          have := HX7.out
          simpa using this
    · have hk2 : k = ps.length := by omega
      subst hk2
      have HFL := Lib.hid (first_less (l := l) (t := t) (ps := ps) HVAL.out)
      have HLA := Lib.hid (less_asked HASKED.out)
      have HLI := Lib.hid (less_idle (l := l) (t := t) (ps := ps))
      have HLM := Lib.hid (fun q hq => less_mem (l := l) (t := t) (ps := ps) (q := q) hq)
      have HLC := Lib.hid (show ((lessP l t ps ps.length).map Pt.count).sum ≤ 1048576 by have := HLA.out.nodes; omega)
      have hll : (lessP l t ps ps.length).length ≤ 12 := HLA.out.len
      have HKN := Lib.hid (OwnI.nats HI.out)
      have HLL := Lib.hid (lessP_len (l := l) (t := t) (ps := ps) ps.length)
      have hc2 := (own_cap HOWN.out).1
      have HNA := Lib.hid (show NatsAt wr.heap.size wr A2 (keepN l t ps ps.length) from by have := row_vals HOWN2.out; rw [List.map_map] at this; exact this)
      clear HKN
      rw [List.length_map]
      generalize lessP l t ps ps.length = lp at *
      generalize keepN l t ps ps.length = kp at *
      have HPL := Lib.hid (fun (W : World) (hW : Below wr.heap.size wr W) => (show PtsIn W.heap.size W A' lp from ⟨((PatsO.row HOWN.out).keep hW).wider hW.size, fun p hp => (H.out.pts.each p (HLM.out p hp)).at_ (HBW.out.trans (hW.mono HBW.out.size)) (by have := HBW.out.size; have := hW.size; omega), fun p hp => H.out.pts.binds p (HLM.out p hp), by omega⟩))
      obtain ⟨z0, z1, z2, z3⟩ := (K23.out.below HB.out K23.out.lt).four
      have zl := (K23.out.below HB.out K23.out.lt).lt
      have KT := Lib.hid (K13.out.below HB.out K13.out.lt)
      have KV := Lib.hid (K23.out.below HB.out K23.out.lt)
      go_wp2_with fail
      refine Calls.mono (HF1.out _ HBW.out) ?_
      rintro e w6 hpost6
      obtain ⟨hb6, rfl⟩ := first_of HVALB.out (fun p hp => (HASKED.out.pats p hp).1) hpost6
      have HB6 := Lib.hid (HBW.out.trans (hb6.mono HBW.out.size))
      have HR6 := Lib.hid hb6
      have KT6 := Lib.hid (KT.out.below hb6 KT.out.lt)
      have KV6 := Lib.hid (KV.out.below hb6 KV.out.lt)
      clear hb6 z0 z1 z2 z3 zl hpost6
      obtain ⟨z0, z1, z2, z3⟩ := KV6.out.four
      have zl := KV6.out.lt
      go_wp2_with fail
      refine Calls.mono (HF2.out lp A' c' _ HB6.out (HPL.out _ HR6.out)) ?_
      rintro e w7 hpost7
      obtain ⟨hb7, rfl⟩ := first_of HVALB.out (fun p hp => (HLA.out.pats p hp).1) hpost7
      have HB7 := Lib.hid (HB6.out.trans (hb7.mono HB6.out.size))
      have HR7 := Lib.hid (HR6.out.trans (hb7.mono HR6.out.size))
      have KT7 := Lib.hid (KT6.out.below hb7 KT6.out.lt)
      clear hb7 z0 z1 z2 z3 zl hpost7
      obtain ⟨y0, y1, y2⟩ := KT7.out.three
      have yl := KT7.out.lt
      have HU2 := Lib.hid (show Calls Tryz.prog 18 #[.slice A l.length c, t.val, .slice A' lp.length c'] w7 (fun e w' => Below w7.heap.size w7 w' ∧ ∃ A9 c9, e = .returned (.tuple #[.slice A9 0 c9, .int .i64 0])) from
        Calls.mono (useless_any A l c t A' lp c' w7 ⟨(H.out.next HB7.out).env, (H.out.next HB7.out).dts, (H.out.next HB7.out).ty, HPL.out _ HR7.out, H.out.caps, H.out.tcap, fun p hp => H.out.pcap p (HLM.out p hp), H.out.dlen, HLC.out⟩ hc2) (by
          rintro e w8 ⟨hb8, ⟨-, v8, rfl, ho8⟩ | ⟨hne, -⟩⟩
          · refine ⟨hb8, ?_⟩
            unfold idleL at ho8
            rw [HLI.out] at ho8
            obtain ⟨A9, c9, rfl, -⟩ := ho8
            exact ⟨A9, c9, rfl⟩
          · exact absurd ((asked_iff HLC.out).2 HLA.out) hne))
      unfold Ty.val at HU2
      clear HHAS
      rcases HFL.out with ⟨e1, e2⟩ | ⟨i, k, e1, e2, hki, -⟩
      · rw [e1, e2]
        clear e1 e2 HFL
        go_wp2_with fail
        refine Calls.mono HU2.out ?_
        rintro e w8 ⟨hb8, A9, c9, rfl⟩
        have HB8 := Lib.hid (HB7.out.trans (hb8.mono HB7.out.size))
        clear hb8 y0 y1 y2 yl
        go_wp2_with fail
        refine Calls.mono (HAW.out _ HB8.out) ?_
        rintro e w9 ⟨rfl, hb9⟩
        have HB9 := Lib.hid (HB8.out.trans (hb9.mono HB8.out.size))
        clear hb9
        go_wp2_with fail
        go_ret
        exact ⟨rfl, HB9.out⟩
      · rw [e1, e2]
        have hk9 := (List.getElem?_eq_some_iff.1 hki).1
        have HKI := Lib.hid hki
        clear e1 e2 HFL hki
        go_wp2_with fail
        refine Calls.mono HU2.out ?_
        rintro e w8 ⟨hb8, A9, c9, rfl⟩
        have HB8 := Lib.hid (HB7.out.trans (hb8.mono HB7.out.size))
        obtain ⟨bf, fo, x, rfl, hbf, hx, x0⟩ := HNA.out.cell (HR7.out.trans (hb8.mono HR7.out.size)) hk9
        rw [HKI.out] at hx
        cases hx
        have hs8 := (HR7.out.trans (hb8.mono HR7.out.size)).size
        clear hb8 y0 y1 y2 yl
        go_wp2_with fail
        refine Calls.mono (HAW.out _ HB8.out) ?_
        rintro e w9 ⟨rfl, hb9⟩
        have HB9 := Lib.hid (HB8.out.trans (hb9.mono HB8.out.size))
        clear hb9
        go_wp2_with fail
        go_ret
        exact ⟨rfl, HB9.out⟩
end Go.Proofs.YtjeggkfgdhepaaaGreatDoor
