/- What the reference says of datatypes and of patterns of a type (pure), and that the program says the same. -/
import Derived.Test.YtjeggkfgdhepaaaGreatDoorG06
set_option linter.unusedVariables false
set_option linter.unusedSimpArgs false
namespace Go.Proofs.YtjeggkfgdhepaaaGreatDoor
open Go.RowKit
open Go.Proofs
open Go.Maps

theorem bytes_of {a b : ByteArray} (h : a.toList = b.toList) : a = b := by
  rw [toList_data, toList_data] at h
  cases a; cases b
  simp only [ByteArray.mk.injEq]
  exact Array.toList_inj.1 h
theorem bytes_iff {a b : ByteArray} : a.toList = b.toList ↔ a = b := ⟨bytes_of, fun h => by rw [h]⟩
/-- Has a type a variable? -/
def Ty.hasVar : Ty → Bool
  | .mk d _ _ _ l => isDo [118, 97, 114] d || (l.map fun t => t.hasVar).any id
/-- The names of the datatypes of a type. -/
def Ty.datasL : Ty → List ByteArray
  | .mk d n _ _ l => if isDo [100, 97, 116, 97] d then [n] else (l.map fun t => t.datasL).flatten
theorem Ty.hasVar_mk (d n : ByteArray) (a : Option Addr) (c : Nat) (l : List Ty) : (Ty.mk d n a c l).hasVar = (isDo [118, 97, 114] d || l.any Ty.hasVar) := by
  rw [Ty.hasVar]
  simp [List.any_map, Function.comp_def]
theorem Ty.datasL_mk (d n : ByteArray) (a : Option Addr) (c : Nat) (l : List Ty) : (Ty.mk d n a c l).datasL = if isDo [100, 97, 116, 97] d then [n] else l.flatMap Ty.datasL := by
  rw [Ty.datasL]
  rfl
def hasDt (l : List Dt) (n : ByteArray) : Bool := l.any fun d => d.name.toList == n.toList
def closedB (l : List Dt) (t : Ty) : Bool := t.valid (kindB .con) && (!t.hasVar && t.datasL.all (hasDt l))
def conOk (l : List Dt) (c : Cn) : Bool := kindB .con c.name && (!(c.has && (!closedB l c.ty || !c.ty.plain)) && !(!c.has && !c.ty.zero))
def dtOk (l : List Dt) (d : Dt) : Bool := kindB .con d.name && (decide (0 < d.cons.length) && d.cons.all (conOk l))
def soundB (l : List Dt) (t : Ty) : Bool := l.all (dtOk l) && (distinctB (l.map Dt.name) && (distinctB ((allCons l).map Cn.name) && closedB l t))

theorem arity_data {d : ByteArray} (h : isDo [100, 97, 116, 97] d = true) : Ty.arity d = some 0 := by
  unfold Ty.arity
  rw [h]
  simp
theorem known_closed (has : ByteArray → Bool) (con : ByteArray → Bool) (t : Ty) : t.well con = true → t.known has = (!t.hasVar && t.datasL.all has) := by
  refine Ty.induct (p := fun t => t.well con = true → t.known has = (!t.hasVar && t.datasL.all has)) (fun d n a c l ih hw => ?_) t
  rw [Ty.well_mk] at hw
  simp only [Bool.and_eq_true] at hw
  obtain ⟨⟨-, har⟩, hall⟩ := hw
  rw [Ty.known_mk, Ty.hasVar_mk, Ty.datasL_mk]
  have ih' : l.all (fun t => t.known has) = (!l.any Ty.hasVar && (l.flatMap Ty.datasL).all has) := by
    rw [Bool.eq_iff_iff]
    simp only [List.all_eq_true, Bool.and_eq_true, Bool.not_eq_true', List.any_eq_false, List.mem_flatMap, forall_exists_index, and_imp] at *
    constructor
    · intro h
      refine ⟨fun t ht => ?_, fun s t ht hs => ?_⟩
      · have := ih t ht (hall t ht)
        rw [h t ht] at this
        simp only [Bool.true_eq, Bool.and_eq_true, Bool.not_eq_true'] at this
        simp [this.1]
      · have := ih t ht (hall t ht)
        rw [h t ht] at this
        simp only [Bool.true_eq, Bool.and_eq_true, Bool.not_eq_true', List.all_eq_true] at this
        exact this.2 s hs
    · rintro ⟨h1, h2⟩ t ht
      rw [ih t ht (hall t ht)]
      simp only [Bool.and_eq_true, Bool.not_eq_true', List.all_eq_true]
      exact ⟨by simpa using h1 t ht, fun s hs => h2 s t ht hs⟩
  rw [ih']
  cases hd : isDo [100, 97, 116, 97] d
  · simp only [Bool.false_and, Bool.not_false, Bool.true_and, Bool.false_eq_true, if_false]
    cases isDo [118, 97, 114] d <;> cases l.any Ty.hasVar <;> simp
  · have hl : l = [] := by
      rw [arity_data hd] at har
      have h0 : 0 = l.length := by simpa using har
      exact List.eq_nil_of_length_eq_zero h0.symm
    subst hl
    cases isDo [118, 97, 114] d <;> simp
theorem closed_there (l : List Dt) (t : Ty) : closedB l t = t.there (dTo l l.length) := by
  unfold closedB Ty.there
  cases hv : t.valid (kindB .con) with
  | false => rfl
  | true =>
    have hw : t.well (kindB .con) = true := by unfold Ty.valid at hv; simp only [Bool.and_eq_true] at hv; exact hv.1
    rw [known_closed _ _ t hw]
    have : inL (dTo l l.length) = hasDt l := by funext s; exact dTo_in l s
    rw [this]
theorem dnames (l : List Dt) : (keysN (dTo l l.length) == l.length) = distinctB (l.map Dt.name) := by
  have hlen : (dTo l l.length).length = l.length := by simp [dTo]
  have e0 : (keysN (dTo l l.length) == l.length) = (keysN (dTo l l.length) == (dTo l l.length).length) := by rw [hlen]
  rw [e0, Bool.eq_iff_iff, beq_iff_eq, keysN_full]
  unfold distinctB dTo
  rw [List.take_length, List.pairwise_map, List.pairwise_reverse, decide_eq_true_eq, List.Nodup, List.pairwise_map]
  constructor
  · intro h
    exact h.imp fun h e => h (by rw [e])
  · intro h
    exact h.imp fun h e => h (bytes_of e.symm)
theorem cnames (l : List Dt) : (keysN (lTo l l.length) == consN l l.length) = distinctB ((allCons l).map Cn.name) := by
  have hlen : (lTo l l.length).length = consN l l.length := lTo_len (Nat.le_refl _)
  rw [Bool.eq_iff_iff, beq_iff_eq, ← hlen, keysN_full, lTo_tags, List.pairwise_map]
  have e : ((allCons l).map Cn.name).reverse = (tags l l.length).map fun x => x.con.name := by
    rw [← List.map_reverse, ← tags_cons, List.map_map]
    rfl
  unfold distinctB
  rw [decide_eq_true_eq, ← List.reverse_reverse ((allCons l).map Cn.name), e, List.Nodup, List.pairwise_reverse, List.pairwise_map]
  constructor
  · intro h
    exact h.imp fun h e => h (by rw [show _ = _ from e])
  · intro h
    exact h.imp fun h e => h (bytes_of e).symm
theorem sound_world (l : List Dt) (t : Ty) : soundB l t = (worldB l && t.there (dTo l l.length)) := by
  unfold soundB worldB
  rw [dnames, cnames, closed_there]
  have key : ∀ (c : Cn), conOk l c = (c.okB && ((!c.has || c.ty.plain) && (!c.has || c.ty.there (dTo l l.length)))) := by
    intro c
    unfold conOk Cn.okB
    rw [closed_there]
    have hw : c.ty.there (dTo l l.length) = true → c.ty.well (kindB .con) = true := by
      intro h
      unfold Ty.there Ty.valid at h
      simp only [Bool.and_eq_true] at h
      exact h.1.1
    cases h1 : c.ty.there (dTo l l.length)
    · cases kindB .con c.name <;> cases c.has <;> cases c.ty.plain <;> cases c.ty.zero <;> cases c.ty.well (kindB .con) <;> rfl
    · rw [hw h1]
      cases kindB .con c.name <;> cases c.has <;> cases c.ty.plain <;> cases c.ty.zero <;> rfl
  have hall : l.all (dtOk l) = (l.all Dt.okB && ((allCons l).all (fun c => !c.has || c.ty.plain) && (allCons l).all (fun c => !c.has || c.ty.there (dTo l l.length)))) := by
    rw [Bool.eq_iff_iff]
    simp only [List.all_eq_true, Bool.and_eq_true]
    constructor
    · intro h
      refine ⟨fun d hd => ?_, fun c hc => ?_, fun c hc => ?_⟩
      · have := h d hd
        unfold dtOk at this
        unfold Dt.okB
        simp only [Bool.and_eq_true, List.all_eq_true] at this ⊢
        refine ⟨this.1, this.2.1, fun c hc => ?_⟩
        have h2 := this.2.2 c hc
        rw [key] at h2
        simp only [Bool.and_eq_true] at h2
        exact h2.1
      · obtain ⟨d, hd, hcd⟩ := allCons_mem hc
        have := h d hd
        unfold dtOk at this
        simp only [Bool.and_eq_true, List.all_eq_true] at this
        have h2 := this.2.2 c hcd
        rw [key] at h2
        simp only [Bool.and_eq_true] at h2
        exact h2.2.1
      · obtain ⟨d, hd, hcd⟩ := allCons_mem hc
        have := h d hd
        unfold dtOk at this
        simp only [Bool.and_eq_true, List.all_eq_true] at this
        have h2 := this.2.2 c hcd
        rw [key] at h2
        simp only [Bool.and_eq_true] at h2
        exact h2.2.2
    · rintro ⟨h1, h2, h3⟩ d hd
      have h0 := h1 d hd
      unfold Dt.okB at h0
      unfold dtOk
      simp only [Bool.and_eq_true, List.all_eq_true] at h0 ⊢
      refine ⟨h0.1, h0.2.1, fun c hc => ?_⟩
      have hm : c ∈ allCons l := by unfold allCons; exact List.mem_flatMap.2 ⟨d, hd, hc⟩
      rw [key]
      simp only [Bool.and_eq_true]
      exact ⟨h0.2.2 c hc, h2 c hm, h3 c hm⟩
  rw [hall]
  cases l.all Dt.okB <;> cases (allCons l).all (fun c => !c.has || c.ty.plain) <;> cases (allCons l).all (fun c => !c.has || c.ty.there (dTo l l.length)) <;> cases distinctB (l.map Dt.name) <;> cases distinctB ((allCons l).map Cn.name) <;> cases t.there (dTo l l.length) <;> rfl

/-- The constructors of a type's datatype. -/
def consOf (l : List Dt) (n : ByteArray) : List Cn := match l.find? fun d => d.name.toList == n.toList with | some d => d.cons | none => []
def pickC (l : List Dt) (t : Ty) (s : ByteArray) (len : Nat) : Option Cn := (consOf l t.name).find? fun c => isDo [100, 97, 116, 97] t.dof && (c.name.toList == s.toList && (c.has == ((len : Int) == 1)))
def Pt.isOf (l : List Dt) : Pt → Ty → Bool
  | .mk d s _ _ _ ps => fun t =>
    let sub := ps.map fun q => Pt.isOf l q
    if isDo [97, 110, 121] d || isDo [118, 97, 114] d then true
    else if isDo [105, 110, 116] d || isDo [98, 111, 111, 108] d || isDo [117, 110, 105, 116] d then t.dof.toList == d.toList
    else if isDo [110, 105, 108] d then isDo [108, 105, 115, 116] t.dof
    else if isDo [112, 97, 105, 114] d then isDo [112, 97, 105, 114] t.dof && (sub.zipWith (fun f u => f u) t.args).all id
    else if isDo [99, 111, 110, 115] d then isDo [108, 105, 115, 116] t.dof && (sub.zipWith (fun f u => f u) (t.args.take 1 ++ [t])).all id
    else match pickC l t s ps.length with
      | none => false
      | some c => !c.has || (sub.zipWith (fun f u => f u) [c.ty]).all id
def isOfL (l : List Dt) (ps : List Pt) (ts : List Ty) : Bool := ((ps.map fun q => q.isOf l).zipWith (fun f u => f u) ts).all id
theorem Pt.isOf_mk (l : List Dt) (d s : ByteArray) (n : Int) (a : Option Addr) (c : Nat) (ps : List Pt) (t : Ty) : (Pt.mk d s n a c ps).isOf l t =
    if isDo [97, 110, 121] d || isDo [118, 97, 114] d then true
    else if isDo [105, 110, 116] d || isDo [98, 111, 111, 108] d || isDo [117, 110, 105, 116] d then t.dof.toList == d.toList
    else if isDo [110, 105, 108] d then isDo [108, 105, 115, 116] t.dof
    else if isDo [112, 97, 105, 114] d then isDo [112, 97, 105, 114] t.dof && isOfL l ps t.args
    else if isDo [99, 111, 110, 115] d then isDo [108, 105, 115, 116] t.dof && isOfL l ps (t.args.take 1 ++ [t])
    else match pickC l t s ps.length with
      | none => false
      | some c => !c.has || isOfL l ps [c.ty] := by
  rw [Pt.isOf]
  rfl
theorem zip_same {l : List Dt} {look : Look} : ∀ (ps : List Pt) (ts : List Ty), (∀ q ∈ ps, ∀ u ∈ ts, q.isOf l u = q.fit look u) → isOfL l ps ts = fitsL look ps ts
  | [], _, _ => by simp [isOfL, fitsL]
  | _ :: _, [], _ => by simp [isOfL, fitsL]
  | q :: ps, u :: ts, h => by
    have ih := zip_same (l := l) (look := look) ps ts (fun q hq u hu => h q (by simp [hq]) u (by simp [hu]))
    unfold isOfL fitsL at ih ⊢
    simp only [List.map_cons, List.zipWith_cons_cons, List.all_cons, ih, h q (by simp) u (by simp)]
theorem find_name {l : List Dt} (hd : distinctB (l.map Dt.name) = true) {d : Dt} (h : d ∈ l) : l.find? (fun x => x.name.toList == d.name.toList) = some d := by
  unfold distinctB at hd
  rw [decide_eq_true_eq] at hd
  induction l with
  | nil => cases h
  | cons x l ih =>
    simp only [List.map_cons, List.nodup_cons] at hd
    rcases List.mem_cons.1 h with rfl | h'
    · rw [List.find?_cons_of_pos (by simp)]
    · rw [List.find?_cons_of_neg]
      · exact ih hd.2 h'
      · intro e
        exact hd.1 (List.mem_map.2 ⟨d, h', (bytes_of (by simpa using e)).symm⟩)
theorem find_con {cs : List Cn} (hd : distinctB (cs.map Cn.name) = true) {c : Cn} (h : c ∈ cs) (P : Cn → Bool) (hp : ∀ x ∈ cs, P x = true → x.name = c.name) : cs.find? P = if P c then some c else none := by
  unfold distinctB at hd
  rw [decide_eq_true_eq] at hd
  induction cs with
  | nil => cases h
  | cons x cs ih =>
    simp only [List.map_cons, List.nodup_cons] at hd
    rcases List.mem_cons.1 h with rfl | h'
    · by_cases hx : P c = true
      · rw [List.find?_cons_of_pos hx, if_pos hx]
      · rw [List.find?_cons_of_neg hx, if_neg hx, List.find?_eq_none]
        intro y hy hpy
        exact hd.1 (List.mem_map.2 ⟨y, hy, hp y (by simp [hy]) hpy⟩)
    · have hx : ¬P x = true := fun hpx => hd.1 (List.mem_map.2 ⟨c, h', (hp x (by simp) hpx).symm⟩)
      rw [List.find?_cons_of_neg hx]
      exact ih hd.2 h' (fun y hy => hp y (by simp [hy]))
theorem tagTo_name (dn : ByteArray) (cs : List Cn) : ∀ j, ∀ x ∈ tagTo dn cs j, x.1 = dn
  | 0, x, hx => by simp [tagTo] at hx
  | j + 1, x, hx => by
    rw [tagTo] at hx
    cases hc : cs[j]? with
    | none => rw [hc] at hx; exact tagTo_name dn cs j x hx
    | some c =>
      rw [hc] at hx
      rcases List.mem_cons.1 hx with rfl | h
      · rfl
      · exact tagTo_name dn cs j x h
theorem tags_at {l : List Dt} {x : Tag} (h : x ∈ tags l l.length) : ∃ d ∈ l, x.1 = d.name ∧ x.con ∈ d.cons := by
  unfold tags at h
  rw [List.take_length, List.mem_flatMap] at h
  obtain ⟨d, hd, hx⟩ := h
  refine ⟨d, by simpa using hd, tagTo_name _ _ _ x hx, ?_⟩
  have := List.mem_map_of_mem (f := Tag.con) hx
  rw [tagTo_cons] at this
  simpa using this
theorem allCons_sub {l : List Dt} {d : Dt} (hd : d ∈ l) (h : distinctB ((allCons l).map Cn.name) = true) : distinctB (d.cons.map Cn.name) = true := by
  unfold distinctB allCons at *
  rw [decide_eq_true_eq] at *
  induction l with
  | nil => cases hd
  | cons x l ih =>
    simp only [List.flatMap_cons, List.map_append] at h
    rw [List.nodup_append] at h
    rcases List.mem_cons.1 hd with rfl | hd'
    · exact h.1
    · exact ih hd' h.2.1
/-- A name of a constructor is one datatype's. -/
theorem con_one {l : List Dt} (h : distinctB ((allCons l).map Cn.name) = true) {d d' : Dt} (hd : d ∈ l) (hd' : d' ∈ l) {c c' : Cn} (hc : c ∈ d.cons) (hc' : c' ∈ d'.cons) (he : c.name = c'.name) : c = c' ∧ d.name = d'.name := by
  unfold distinctB allCons at h
  rw [decide_eq_true_eq] at h
  induction l with
  | nil => cases hd
  | cons x l ih =>
    simp only [List.flatMap_cons, List.map_append] at h
    rw [List.nodup_append] at h
    obtain ⟨h1, h2, h3⟩ := h
    have hcross : ∀ {a b : Cn} {y : Dt}, a ∈ x.cons → y ∈ l → b ∈ y.cons → a.name = b.name → False := by
      intro a b y ha hy hb hab
      exact h3 a.name (List.mem_map.2 ⟨a, ha, rfl⟩) b.name (List.mem_map.2 ⟨b, List.mem_flatMap.2 ⟨y, hy, hb⟩, rfl⟩) hab
    rcases List.mem_cons.1 hd with rfl | hd1 <;> rcases List.mem_cons.1 hd' with rfl | hd2
    · refine ⟨?_, rfl⟩
      have : ∀ (cs : List Cn), (cs.map Cn.name).Nodup → c ∈ cs → c' ∈ cs → c = c' := by
        intro cs
        induction cs with
        | nil => intro _ hh; cases hh
        | cons y cs ih2 =>
          intro hn ha hb
          simp only [List.map_cons, List.nodup_cons] at hn
          rcases List.mem_cons.1 ha with rfl | ha' <;> rcases List.mem_cons.1 hb with rfl | hb'
          · rfl
          · exact absurd (List.mem_map.2 ⟨c', hb', he.symm⟩) hn.1
          · exact absurd (List.mem_map.2 ⟨c, ha', he⟩) hn.1
          · exact ih2 hn.2 ha' hb'
      exact this _ h1 hc hc'
    · exact (hcross hc hd2 hc' he).elim
    · exact (hcross hc' hd1 hc he.symm).elim
    · exact ih h2 hd1 hd2
theorem isOf_fit {l : List Dt} (hn : distinctB (l.map Dt.name) = true) (hc : distinctB ((allCons l).map Cn.name) = true) (p : Pt) : ∀ t : Ty, p.wellB = true → p.isOf l t = p.fit (lookOf l) t := by
  refine Pt.induct (p := fun p => ∀ t : Ty, p.wellB = true → p.isOf l t = p.fit (lookOf l) t) (fun d s n a c ps ih t hw => ?_) p
  rw [Pt.wellB_mk, Bool.and_eq_true, List.all_eq_true] at hw
  rw [Pt.isOf_mk, Pt.fit_mk]
  have hz : ∀ ts, isOfL l ps ts = fitsL (lookOf l) ps ts := fun ts => zip_same ps ts (fun q hq u _ => ih q hq u (hw.2 q hq))
  simp only [hz]
  cases h1 : isDo [97, 110, 121] d || isDo [118, 97, 114] d with
  | true => rfl
  | false =>
  simp only [Bool.false_eq_true, if_false]
  cases h2 : isDo [105, 110, 116] d || isDo [98, 111, 111, 108] d || isDo [117, 110, 105, 116] d with
  | true => rfl
  | false =>
  simp only [Bool.false_eq_true, if_false]
  cases h3 : isDo [110, 105, 108] d with
  | true =>
    have : isDo [112, 97, 105, 114] d = false := do_other h3 (by decide)
    rw [this]
    simp
  | false =>
  simp only [Bool.false_eq_true, if_false]
  cases h4 : isDo [112, 97, 105, 114] d with
  | true => rfl
  | false =>
  simp only [Bool.false_eq_true, if_false]
  cases h5 : isDo [99, 111, 110, 115] d with
  | true => rfl
  | false =>
  simp only [Bool.false_eq_true, if_false]
  have hlen : ps.length ≤ 1 := by
    have := hw.1
    unfold nodeOk at this
    simp only [isDo, Bool.or_eq_false_iff] at h1 h2 h3 h4 h5
    simp only [h1.1, h1.2, h2.1.1, h2.1.2, h2.2, h3, h4, h5, Bool.false_or, Bool.or_false, Bool.false_eq_true, if_false] at this
    split at this
    · simp only [Bool.and_eq_true, decide_eq_true_eq] at this
      exact this.2
    · cases this
  unfold pickC consOf lookOf
  cases hf : (tags l l.length).find? (fun x => x.con.name.toList == s.toList) with
  | none =>
    simp only [Option.map_none]
    have hnone : ∀ d' ∈ l, ∀ c' ∈ d'.cons, (c'.name.toList == s.toList) = false := by
      intro d' hd' c' hc'
      obtain ⟨x, hx, rfl⟩ := mem_tags (l := l) (c := c') (by unfold allCons; exact List.mem_flatMap.2 ⟨d', hd', hc'⟩)
      have := List.find?_eq_none.1 hf x hx
      simpa using this
    cases hg : l.find? (fun d => d.name.toList == t.name.toList) with
    | none => simp
    | some d' =>
      have hm := List.mem_of_find?_eq_some hg
      have : (d'.cons.find? fun c => isDo [100, 97, 116, 97] t.dof && (c.name.toList == s.toList && (c.has == ((ps.length : Int) == 1)))) = none := by
        rw [List.find?_eq_none]
        intro c' hc'
        rw [hnone d' hm c' hc']
        simp
      simp only [this]
  | some x =>
    have hx := List.mem_of_find?_eq_some hf
    have hxs : x.con.name = s := bytes_of (by simpa using List.find?_some hf)
    obtain ⟨d0, hd0, hx1, hxc⟩ := tags_at hx
    simp only [Option.map_some, hx1]
    cases hdt : isDo [100, 97, 116, 97] t.dof with
    | false =>
      simp only [Bool.false_and]
      have hff : ∀ cs : List Cn, cs.find? (fun _ => false) = none := fun cs => by rw [List.find?_eq_none]; simp
      cases hg : l.find? (fun d => d.name.toList == t.name.toList) with
      | none => simp
      | some d' => simp only [hff]
    | true =>
      simp only [Bool.true_and]
      cases hg : l.find? (fun d => d.name.toList == t.name.toList) with
      | none =>
        have := List.find?_eq_none.1 hg d0 hd0
        have hne : (t.name.toList == d0.name.toList) = false := by
          rw [beq_eq_false_iff_ne]
          intro e
          exact this (by simp [e])
        rw [hne]
        simp
      | some d' =>
        have hm := List.mem_of_find?_eq_some hg
        have hdn : d'.name = t.name := bytes_of (by simpa using List.find?_some hg)
        by_cases hsame : t.name = d0.name
        · have hdd : d' = d0 := by
            have := find_name hn hd0
            rw [← hsame] at this
            rw [this] at hg
            exact (Option.some.inj hg).symm
          subst hdd
          have hfc := find_con (allCons_sub hm hc) hxc (fun c => c.name.toList == s.toList && (c.has == ((ps.length : Int) == 1))) (by
            intro y hy hpy
            simp only [Bool.and_eq_true] at hpy
            rw [hxs]
            exact bytes_of (by simpa using hpy.1))
          simp only [hfc, hsame, hxs, beq_self_eq_true, Bool.true_and]
          match ps, hlen with
          | [], _ =>
            cases hh : x.con.has with
            | false => simp [hh, fitsL]
            | true => simp [hh]
          | [q], _ =>
            cases hh : x.con.has with
            | false => simp [hh]
            | true => simp [hh, fitsL]
          | _ :: _ :: _, h => simp at h
        · have hne : (t.name.toList == d0.name.toList) = false := by
            rw [beq_eq_false_iff_ne]
            intro e
            exact hsame (bytes_of e)
          rw [hne]
          have : (d'.cons.find? fun c => c.name.toList == s.toList && (c.has == ((ps.length : Int) == 1))) = none := by
            rw [List.find?_eq_none]
            intro c' hc' hp
            simp only [Bool.and_eq_true] at hp
            have h9 : c'.name = x.con.name := by rw [hxs]; exact bytes_of (by simpa using hp.1)
            exact hsame (hdn.symm.trans (con_one hc hm hd0 hc' hxc h9).2)
          simp only [this, Bool.false_and]
end Go.Proofs.YtjeggkfgdhepaaaGreatDoor

/- The reference's functions of types: IsVar, wellType, ValidType, IsPlain, SameType. -/
set_option linter.unusedVariables false
set_option linter.unusedSimpArgs false
namespace Go.Proofs.YtjeggkfgdhepaaaGreatDoor
open Go.RowKit
open Go.Proofs

set_option maxHeartbeats 1000000 in
theorem rIsVar_any (s : ByteArray) (hs : s.size ≤ 140737488355328) (w : World) :
    Calls Tryz.prog 154 #[.string s] w fun e w' => e = .returned (.bool (isTyVar s)) ∧ w = w' := by
  by_cases h2 : s.size = 2
  · have hb : ((s.size : Int) == 2) = true := by simp; omega
    have i0 : (0 : Int) < s.size := by omega
    have i1 : (1 : Int) < s.size := by omega
    obtain ⟨b, h39⟩ : ∃ b, ((s[0].toNat : Int) == 39) = b := ⟨_, rfl⟩
    obtain ⟨c1, hc1⟩ : ∃ c, decide ((97 : Int) ≤ (s[1].toNat : Int)) = c := ⟨_, rfl⟩
    obtain ⟨c2, hc2⟩ : ∃ c, decide ((s[1].toNat : Int) ≤ 122) = c := ⟨_, rfl⟩
    have hc : smallB s[1] = (c1 && c2) := by rw [← hc1, ← hc2]; exact (small_test s[1]).symm
    have hres : isTyVar s = (b && (c1 && c2)) := by
      unfold isTyVar
      have e : s.toList = [s[0], s[1]] := by
        rw [toList_data]
        have e1 := from_lt (s := s) (i := 0) (by omega)
        have e2 := from_lt (s := s) (i := 1) (by omega)
        have e3 := from_end s (i := 2) (by omega)
        rw [e2, e3] at e1
        exact e1
      rw [e]
      simp only [hc]
      congr 1
      rw [← h39, Bool.eq_iff_iff]
      simp
      omega
    rw [hres]
    clear hres hc
    have hd1 : c1 = true → (97 : Int) ≤ (s[1].toNat : Int) := fun h => by subst h; exact of_decide_eq_true hc1
    have hd1' : c1 = false → ¬(97 : Int) ≤ (s[1].toNat : Int) := fun h => by subst h; exact of_decide_eq_false hc1
    have hd2 : c2 = true → (s[1].toNat : Int) ≤ 122 := fun h => by subst h; exact of_decide_eq_true hc2
    have hd2' : c2 = false → ¬(s[1].toNat : Int) ≤ 122 := fun h => by subst h; exact of_decide_eq_false hc2
    cases b
    · go_enter Tryz.func154, Tryz.ntmps154
      go_wp2_with fail
      go_ret
      exact ⟨rfl, rfl⟩
    cases c1
    · have k1 := hd1' rfl
      go_enter Tryz.func154, Tryz.ntmps154
      go_wp2_with fail
      go_ret
      exact ⟨rfl, rfl⟩
    cases c2
    · have k1 := hd1 rfl
      have k2 := hd2' rfl
      go_enter Tryz.func154, Tryz.ntmps154
      go_wp2_with fail
      go_ret
      exact ⟨rfl, rfl⟩
    · have k1 := hd1 rfl
      have k2 := hd2 rfl
      go_enter Tryz.func154, Tryz.ntmps154
      go_wp2_with fail
      go_ret
      exact ⟨rfl, rfl⟩
  · have hb : ((s.size : Int) == 2) = false := by simp; omega
    have hres : isTyVar s = false := by
      unfold isTyVar
      rw [toList_data]
      have hl : s.data.toList.length = s.size := by simp
      split
      · rename_i a b e
        rw [e] at hl
        simp at hl
        omega
      · rfl
    rw [hres]
    go_enter Tryz.func154, Tryz.ntmps154
    go_wp2_with fail
    go_ret
    exact ⟨rfl, rfl⟩

theorem name_plain {d n : ByteArray} (hd : (d.toList == [100, 97, 116, 97]) = false) (hv : (d.toList == [118, 97, 114]) = false) (con : ByteArray → Bool) : Ty.nameOk con d n = (n.toList == []) := by
  unfold Ty.nameOk isDo
  rw [hd, hv]
  rfl
def RW (con : ByteArray → Bool) (d n : ByteArray) (a : Nat) : Prop := Ty.nameOk con d n = (n.toList == []) ∧ Ty.arity d = some a
theorem RW.zero {con : ByteArray → Bool} {d n : ByteArray} {x : List UInt8} (h : (d.toList == x) = true) (hx : x = [105, 110, 116] ∨ x = [98, 111, 111, 108] ∨ x = [117, 110, 105, 116] ∨ x = [116, 101, 120, 116]) : RW con d n 0 := by
  have e : d.toList = x := by simpa using h
  refine ⟨name_plain ?_ ?_ con, ?_⟩
  · rw [e]; rcases hx with rfl | rfl | rfl | rfl <;> decide
  · rw [e]; rcases hx with rfl | rfl | rfl | rfl <;> decide
  · unfold Ty.arity isDo; rw [e]; rcases hx with rfl | rfl | rfl | rfl <;> decide
theorem RW.two {con : ByteArray → Bool} {d n : ByteArray} {x : List UInt8} (h : (d.toList == x) = true) (hx : x = [112, 97, 105, 114] ∨ x = [102, 110]) : RW con d n 2 := by
  have e : d.toList = x := by simpa using h
  refine ⟨name_plain ?_ ?_ con, ?_⟩
  · rw [e]; rcases hx with rfl | rfl <;> decide
  · rw [e]; rcases hx with rfl | rfl <;> decide
  · unfold Ty.arity isDo; rw [e]; rcases hx with rfl | rfl <;> decide
theorem RW.one {con : ByteArray → Bool} {d n : ByteArray} {x : List UInt8} (h : (d.toList == x) = true) (hx : x = [108, 105, 115, 116] ∨ x = [97, 114, 114, 97, 121]) : RW con d n 1 := by
  have e : d.toList = x := by simpa using h
  refine ⟨name_plain ?_ ?_ con, ?_⟩
  · rw [e]; rcases hx with rfl | rfl <;> decide
  · rw [e]; rcases hx with rfl | rfl <;> decide
  · unfold Ty.arity isDo; rw [e]; rcases hx with rfl | rfl <;> decide
theorem arity_none {d : ByteArray} (h1 : (d.toList == [105, 110, 116]) = false) (h2 : (d.toList == [98, 111, 111, 108]) = false) (h3 : (d.toList == [117, 110, 105, 116]) = false) (h4 : (d.toList == [116, 101, 120, 116]) = false) (h5 : (d.toList == [112, 97, 105, 114]) = false)
    (h6 : (d.toList == [102, 110]) = false) (h7 : (d.toList == [108, 105, 115, 116]) = false) (h8 : (d.toList == [97, 114, 114, 97, 121]) = false) (h9 : (d.toList == [100, 97, 116, 97]) = false) (h10 : (d.toList == [118, 97, 114]) = false) : Ty.arity d = none := by
  unfold Ty.arity isDo
  rw [h1, h2, h3, h4, h5, h6, h7, h8, h9, h10]
  rfl
theorem len_zero_beq (n : Nat) : (some 0 == some n) = ((n : Int) == 0) := by
  rw [Bool.eq_iff_iff]
  simp
  omega
set_option maxRecDepth 100000 in
set_option maxHeartbeats 4000000 in
theorem rType_any : ∀ (t : Ty) (w : World), Env w → t.In w.heap.size w →
    Calls Tryz.prog 137 #[t.val] w fun e w' => e = .returned (.bool (t.well (kindB .con))) ∧ Below w.heap.size w w' := by
  refine Ty.induct fun d n A c l ih w he hin => ?_
  obtain ⟨hd, hn, hl, -, hrow, hall⟩ := Ty.In_mk.1 hin
  have HR := Lib.hid hrow
  have HA := Lib.hid hall
  have IH := Lib.hid ih
  have HE := Lib.hid he
  clear hin hrow hall ih he
  have HB0 := Lib.hid ((Below.refl w.heap.size w).alloc (Nat.le_refl _) (.cells #[.string d, .string n, .slice A l.length c] 25))
  have HK := Lib.hid (Blk.new w #[.string d, .string n, .slice A l.length c] 25)
  have HWM := Lib.hid (Ty.well_mk (kindB .con) d n A c l)
  unfold Ty.val
  simp only [Ty.dof, Ty.name, Ty.at_, Ty.cap, Ty.args]
  have HNO : Hid (∀ (e : Ending) (w' : World) (b : Bool), Below w.heap.size w w' → (Ty.mk d n A c l).well (kindB .con) = b → e = .returned (.bool b) → e = .returned (.bool ((Ty.mk d n A c l).well (kindB .con))) ∧ Below w.heap.size w w') := Lib.hid fun e w' b h h1 h2 => ⟨by rw [h1]; exact h2, h⟩
  generalize (Ty.mk d n A c l).well (kindB .con) = res at HWM HNO ⊢
  go_enter Tryz.func137, Tryz.ntmps137
  go_upto_block 0 with (fail)
  go_cut [3] (fun av wx => ∃ a : Nat, av = .int .i64 a ∧ Hid (RW (kindB .con) d n a) ∧ Hid (Below w.heap.size w wx) ∧ Hid (Blk wx w.heap.size #[.string d, .string n, .slice A l.length c] 25))
  case first =>
    generalize w.alloc (.cells #[.string d, .string n, .slice A l.length c] 25) = w0 at HB0 HK ⊢
    obtain ⟨y0, y1, y2⟩ := HK.out.three
    have yl := HK.out.lt
    obtain ⟨t1, h1⟩ : ∃ t, (d.toList == [105, 110, 116]) = t := ⟨_, rfl⟩
    cases t1
    case true =>
      have HW := Lib.hid (RW.zero (con := kindB .con) (n := n) h1 (by simp))
      go_wp2_with fail
      go_meet
      exact ⟨0, rfl, HW.out, HB0.out, HK.out⟩
    obtain ⟨t2, h2⟩ : ∃ t, (d.toList == [98, 111, 111, 108]) = t := ⟨_, rfl⟩
    cases t2
    case true =>
      have HW := Lib.hid (RW.zero (con := kindB .con) (n := n) h2 (by simp))
      go_wp2_with fail
      go_meet
      exact ⟨0, rfl, HW.out, HB0.out, HK.out⟩
    obtain ⟨t3, h3⟩ : ∃ t, (d.toList == [117, 110, 105, 116]) = t := ⟨_, rfl⟩
    cases t3
    case true =>
      have HW := Lib.hid (RW.zero (con := kindB .con) (n := n) h3 (by simp))
      go_wp2_with fail
      go_meet
      exact ⟨0, rfl, HW.out, HB0.out, HK.out⟩
    obtain ⟨t4, h4⟩ : ∃ t, (d.toList == [116, 101, 120, 116]) = t := ⟨_, rfl⟩
    cases t4
    case true =>
      have HW := Lib.hid (RW.zero (con := kindB .con) (n := n) h4 (by simp))
      go_wp2_with fail
      go_meet
      exact ⟨0, rfl, HW.out, HB0.out, HK.out⟩
    obtain ⟨t5, h5⟩ : ∃ t, (d.toList == [112, 97, 105, 114]) = t := ⟨_, rfl⟩
    cases t5
    case true =>
      have HW := Lib.hid (RW.two (con := kindB .con) (n := n) h5 (by simp))
      go_wp2_with fail
      go_meet
      exact ⟨2, rfl, HW.out, HB0.out, HK.out⟩
    obtain ⟨t6, h6⟩ : ∃ t, (d.toList == [102, 110]) = t := ⟨_, rfl⟩
    cases t6
    case true =>
      have HW := Lib.hid (RW.two (con := kindB .con) (n := n) h6 (by simp))
      go_wp2_with fail
      go_meet
      exact ⟨2, rfl, HW.out, HB0.out, HK.out⟩
    obtain ⟨t7, h7⟩ : ∃ t, (d.toList == [108, 105, 115, 116]) = t := ⟨_, rfl⟩
    cases t7
    case true =>
      have HW := Lib.hid (RW.one (con := kindB .con) (n := n) h7 (by simp))
      go_wp2_with fail
      go_meet
      exact ⟨1, rfl, HW.out, HB0.out, HK.out⟩
    obtain ⟨t8, h8⟩ : ∃ t, (d.toList == [97, 114, 114, 97, 121]) = t := ⟨_, rfl⟩
    cases t8
    case true =>
      have HW := Lib.hid (RW.one (con := kindB .con) (n := n) h8 (by simp))
      go_wp2_with fail
      go_meet
      exact ⟨1, rfl, HW.out, HB0.out, HK.out⟩
    obtain ⟨t9, h9⟩ : ∃ t, (d.toList == [100, 97, 116, 97]) = t := ⟨_, rfl⟩
    obtain ⟨z, hz⟩ : ∃ z, ((l.length : Int) == 0) = z := ⟨_, rfl⟩
    cases t9
    case true =>
      have hc := rIsCon_any n hn
      have hok : res = (kindB .con n && z) := by
        have e := HWM.out
        rw [arity_data (d := d) h9, len_zero_beq, hz] at e
        rw [e]
        unfold Ty.nameOk isDo
        rw [h9, if_pos rfl]
        cases z
        · simp
        · have : l = [] := by simpa using hz
          rw [this]
          simp
      generalize kindB .con n = cb at hc hok
      have HC := Lib.hid hc
      have HOK := Lib.hid hok
      clear hc hok
      cases cb
      · go_wp2_with fail
        refine Calls.mono (HC.out _ (HE.out.next HB0.out)) ?_
        rintro e w1 ⟨rfl, hb1⟩
        have HB1 := Lib.hid (HB0.out.trans (hb1.mono HB0.out.size))
        clear hb1
        go_wp2_with fail
        go_ret
        exact HNO.out _ _ _ HB1.out HOK.out rfl
      · cases z
        all_goals
          go_wp2_with fail
          refine Calls.mono (HC.out _ (HE.out.next HB0.out)) ?_
          rintro e w1 ⟨rfl, hb1⟩
          have HB1 := Lib.hid (HB0.out.trans (hb1.mono HB0.out.size))
          have HK1 := Lib.hid (HK.out.below hb1 HK.out.lt)
          clear hb1 y0 y1 y2 yl
          obtain ⟨y0, y1, y2⟩ := HK1.out.three
          have yl := HK1.out.lt
          go_wp2_with fail
          go_ret
          exact HNO.out _ _ _ HB1.out HOK.out rfl
    obtain ⟨t10, h10⟩ : ∃ t, (d.toList == [118, 97, 114]) = t := ⟨_, rfl⟩
    cases t10
    case true =>
      have hc := rIsVar_any n (by omega)
      have hok : res = (isTyVar n && z) := by
        have e := HWM.out
        have har : Ty.arity d = some 0 := by
          unfold Ty.arity isDo
          rw [h10]
          simp
        rw [har, len_zero_beq, hz] at e
        rw [e]
        unfold Ty.nameOk isDo
        rw [h9, h10]
        cases z
        · simp
        · have : l = [] := by simpa using hz
          rw [this]
          simp
      generalize isTyVar n = cb at hc hok
      have HC := Lib.hid hc
      have HOK := Lib.hid hok
      clear hc hok
      cases cb
      · go_wp2_with fail
        refine Calls.mono (HC.out _) ?_
        rintro e w1 ⟨rfl, rfl⟩
        go_wp2_with fail
        go_ret
        exact HNO.out _ _ _ HB0.out HOK.out rfl
      · cases z
        all_goals
          go_wp2_with fail
          refine Calls.mono (HC.out _) ?_
          rintro e w1 ⟨rfl, rfl⟩
          go_wp2_with fail
          go_ret
          exact HNO.out _ _ _ HB0.out HOK.out rfl
    have hno : res = false := by
      have e := HWM.out
      rw [arity_none h1 h2 h3 h4 h5 h6 h7 h8 h9 h10] at e
      rw [e]
      simp
    have HN := Lib.hid hno
    clear hno hz
    go_wp2_with fail
    go_ret
    exact HNO.out _ _ _ HB0.out HN.out rfl
  case rest =>
    obtain ⟨a, rfl, HRW, HB, HKX⟩ := hcut
    obtain ⟨y0, y1, y2⟩ := HKX.out.three
    have yl := HKX.out.lt
    have HW := Lib.hid (show res = ((n.toList == []) && ((l.length : Int) == (a : Int)) && l.all fun t => t.well (kindB .con)) by
      have e := HWM.out
      rw [HRW.out.1, HRW.out.2] at e
      rw [e]
      have : (some a == some l.length) = ((l.length : Int) == (a : Int)) := by rw [Bool.eq_iff_iff]; simp; omega
      rw [this])
    have ha := HRW.out
    clear ha
    go_wp2_with fail
    go_loopw [44] (fun iv wr => ∃ k : Nat, iv = .int .i64 k ∧ k ≤ l.length ∧ Hid (Below wc.heap.size wc wr) ∧ Hid ((l.take k).all (fun t => t.well (kindB .con)) = true)) (fun iv _ => l.length - (intOf iv).toNat)
    case atStart => exact ⟨0, rfl, Nat.zero_le _, Below.refl _ _, Lib.hid rfl⟩
    case round =>
      obtain ⟨k, rfl, hk, HC, HM⟩ := hrel
      have HBW := Lib.hid (HB.out.trans (HC.out.mono HB.out.size))
      by_cases hlt : k < l.length
      · obtain ⟨q, b0, off, hq, hmem, rfl, hb, x0, x1, x2⟩ := Ty.arg_at HR.out HBW.out hlt
        have HQ := Lib.hid ((HA.out q hmem).at_ HBW.out HBW.out.size)
        have HQK := Lib.hid hq
        have HCC := Lib.hid (fun (W : World) (he : Env W) (hp : q.In W.heap.size W) => IH.out q hmem W he hp)
        unfold Ty.val at HCC
        clear hq
        go_wp2_with fail
        refine Calls.mono (HCC.out _ ((HE.out.next HBW.out).next ((Below.refl _ _).alloc (Nat.le_refl _) _)) (HQ.out.next ((Below.refl _ _).alloc (Nat.le_refl _) _))) ?_
        rintro e w1 ⟨rfl, hb1⟩
        have HB1 := Lib.hid (HC.out.trans ((((Below.refl _ _).alloc (Nat.le_refl _) _).trans (hb1.mono (by simp))).mono HC.out.size))
        clear hb1
        obtain ⟨r, hr⟩ : ∃ r, q.well (kindB .con) = r := ⟨_, rfl⟩
        rw [hr]
        have HRR := Lib.hid hr
        clear hr
        cases r
        · go_wp2_with fail
          go_ret
          refine HNO.out _ _ false (HB.out.trans (HB1.out.mono HB.out.size)) ?_ rfl
          rw [HW.out, all_no (p := fun t => t.well (kindB .con)) HQK.out HRR.out, Bool.and_false]
        · go_wp2_with fail
          exact ⟨⟨k + 1, by go_num, by omega, HB1.out, Lib.hid (all_take_succ HQK.out HM.out HRR.out)⟩, by simp [intOf]; omega⟩
      · have hk2 : k = l.length := by omega
        have hm := HM.out
        rw [hk2, List.take_length] at hm
        have HALL := Lib.hid hm
        clear hm hk2 y0 y1 y2 yl
        obtain ⟨y0, y1, y2⟩ := (HKX.out.below HC.out HKX.out.lt).three
        have yl := (HKX.out.below HC.out HKX.out.lt).lt
        obtain ⟨te, hte⟩ : ∃ t, (n.toList == []) = t := ⟨_, rfl⟩
        obtain ⟨tl, htl⟩ : ∃ t, ((l.length : Int) == (a : Int)) = t := ⟨_, rfl⟩
        have hte2 : n.toList.isEmpty = te := by rw [← hte]; cases n.toList <;> rfl
        have HRES := Lib.hid (show res = (te && tl) by rw [HW.out, HALL.out, hte, htl, Bool.and_true])
        clear hte
        cases te
        · go_wp2_with fail
          go_ret
          exact HNO.out _ _ _ HBW.out HRES.out rfl
        · cases tl
          all_goals
            go_wp2_with fail
            go_ret
            exact HNO.out _ _ _ HBW.out HRES.out rfl
set_option maxHeartbeats 1000000 in
theorem rValidType_any (t : Ty) (w : World) (h : Env w) (hin : t.In w.heap.size w) :
    Calls Tryz.prog 114 #[t.val] w fun e w' => e = .returned (.bool (t.valid (kindB .con))) ∧ Below w.heap.size w w' := by
  have HE := Lib.hid h
  have HI := Lib.hid hin
  have HC1 := Lib.hid (fun (W : World) (he : Env W) (hp : t.In W.heap.size W) => rType_any t W he hp)
  have HC2 := Lib.hid (fun (W : World) (hp : t.In W.heap.size W) => sizeType_any t W hp)
  unfold Ty.valid
  clear h hin
  have HB0 := Lib.hid ((Below.refl w.heap.size w).alloc (Nat.le_refl _) (.cells #[.string t.dof, .string t.name, .slice t.at_ t.args.length t.cap] 25))
  generalize t.well (kindB .con) = ok at HC1 ⊢
  generalize t.size = sz at HC2 ⊢
  unfold Ty.val at *
  cases ok
  all_goals
    go_enter Tryz.func114, Tryz.ntmps114
    go_wp2_with fail
    refine Calls.mono (HC1.out _ (HE.out.next HB0.out) (HI.out.at_ HB0.out HB0.out.size)) ?_
    rintro e w1 ⟨rfl, hb1⟩
    obtain ⟨y0, y1, y2⟩ := Blk.three ((Blk.new w _ _).below hb1 (by simp))
    have HB1 := Lib.hid (HB0.out.trans (hb1.mono HB0.out.size))
    have yl : w.heap.size < w1.heap.size := by have := hb1.size; simp at this; omega
    clear hb1
    go_wp2_with fail
  · go_ret
    exact ⟨rfl, HB1.out⟩
  · refine Calls.mono (HC2.out _ (HI.out.at_ HB1.out HB1.out.size)) ?_
    rintro e w2 ⟨rfl, hb2⟩
    have HB2 := Lib.hid (HB1.out.trans (hb2.mono HB1.out.size))
    clear hb2
    go_wp2_with fail
    refine Calls.mono (small_any _ _ _) ?_
    rintro e w3 ⟨rfl, rfl⟩
    go_wp2_with fail
    go_ret
    exact ⟨by simp, HB2.out⟩
set_option maxRecDepth 100000 in
set_option maxHeartbeats 2000000 in
theorem rPlain_any : ∀ (t : Ty) (w : World), t.In w.heap.size w →
    Calls Tryz.prog 76 #[t.val] w fun e w' => e = .returned (.bool t.plain) ∧ Below w.heap.size w w' := by
  refine Ty.induct fun d n A c l ih w hin => ?_
  obtain ⟨hd, hn, hl, -, hrow, hall⟩ := Ty.In_mk.1 hin
  have HR := Lib.hid hrow
  have HA := Lib.hid hall
  have IH := Lib.hid ih
  clear hin hrow hall ih
  have HB0 := Lib.hid ((Below.refl w.heap.size w).alloc (Nat.le_refl _) (.cells #[.string d, .string n, .slice A l.length c] 25))
  have HK := Lib.hid (Blk.new w #[.string d, .string n, .slice A l.length c] 25)
  rw [Ty.plain_mk]
  unfold Ty.val isDo
  simp only [Ty.dof, Ty.name, Ty.at_, Ty.cap, Ty.args]
  go_enter Tryz.func76, Tryz.ntmps76
  go_wp2_with fail
  generalize w.alloc (.cells #[.string d, .string n, .slice A l.length c] 25) = w0 at HB0 HK ⊢
  go_loopw [8] (fun iv wr => ∃ k : Nat, iv = .int .i64 k ∧ k ≤ l.length ∧ Hid (Below w0.heap.size w0 wr) ∧ Hid ((l.take k).all Ty.plain = true)) (fun iv _ => l.length - (intOf iv).toNat)
  case atStart => exact ⟨0, rfl, Nat.zero_le _, Below.refl _ _, Lib.hid rfl⟩
  case round =>
    obtain ⟨k, rfl, hk, HC, HM⟩ := hrel
    have HBW := Lib.hid (HB0.out.trans (HC.out.mono HB0.out.size))
    by_cases hlt : k < l.length
    · obtain ⟨q, b0, off, hq, hmem, rfl, hb, x0, x1, x2⟩ := Ty.arg_at HR.out HBW.out hlt
      have HQ := Lib.hid ((HA.out q hmem).at_ HBW.out HBW.out.size)
      have HQK := Lib.hid hq
      have HCC := Lib.hid (fun (W : World) (hp : q.In W.heap.size W) => IH.out q hmem W hp)
      unfold Ty.val at HCC
      clear hq
      go_wp2_with fail
      refine Calls.mono (HCC.out _ (HQ.out.next ((Below.refl _ _).alloc (Nat.le_refl _) _))) ?_
      rintro e w1 ⟨rfl, hb1⟩
      have HB1 := Lib.hid (HC.out.trans ((((Below.refl _ _).alloc (Nat.le_refl _) _).trans (hb1.mono (by simp))).mono HC.out.size))
      clear hb1
      obtain ⟨r, hr⟩ : ∃ r, q.plain = r := ⟨_, rfl⟩
      rw [hr]
      have HRR := Lib.hid hr
      clear hr
      cases r
      · go_wp2_with fail
        go_ret
        refine ⟨?_, HB0.out.trans (HB1.out.mono HB0.out.size)⟩
        rw [all_no HQK.out HRR.out]
        simp
      · go_wp2_with fail
        exact ⟨⟨k + 1, by go_num, by omega, HB1.out, Lib.hid (all_take_succ HQK.out HM.out HRR.out)⟩, by simp [intOf]; omega⟩
    · have hk2 : k = l.length := by omega
      have hm := HM.out
      rw [hk2, List.take_length] at hm
      have HM2 := Lib.hid hm
      have kv := HK.out.below HC.out HK.out.lt
      obtain ⟨y0, y1, y2⟩ := kv.three
      have yl := kv.lt
      clear kv hk2 hm
      obtain ⟨tv, hv⟩ : ∃ t, (d.toList == [118, 97, 114]) = t := ⟨_, rfl⟩
      obtain ⟨tf, hf⟩ : ∃ t, (d.toList == [102, 110]) = t := ⟨_, rfl⟩
      obtain ⟨ta, ha⟩ : ∃ t, (d.toList == [97, 114, 114, 97, 121]) = t := ⟨_, rfl⟩
      have hv' := bne_of hv
      have hf' := bne_of hf
      have ha' := bne_of ha
      have HV := Lib.hid (And.intro hv (And.intro hf ha))
      cases tv <;> cases tf <;> cases ta
      all_goals
        go_wp2_with fail
        go_ret
        refine ⟨?_, HBW.out⟩
        rw [HM2.out, HV.out.1, HV.out.2.1, HV.out.2.2]
        rfl
end Go.Proofs.YtjeggkfgdhepaaaGreatDoor

/- A text put into an ascending list: the reference's Put (which members its answer has). -/
set_option linter.unusedVariables false
set_option linter.unusedSimpArgs false
namespace Go.Proofs.YtjeggkfgdhepaaaGreatDoor
open Go.RowKit
open Go.Proofs

def PutPost (B : Nat) (w : World) (xs : List ByteArray) (s : ByteArray) (e : Ending) (w' : World) : Prop :=
  Below B w w' ∧ ∃ v ys, e = .returned v ∧ Texts B w' v ys ∧ ys.length ≤ xs.length + 1 ∧ ∀ x, x ∈ ys ↔ x ∈ xs ∨ x = s
/-- append of nil; the walk stands behind it. -/
theorem append_none {P : Program} {w : World} {ops : Array Oper} {rest : List Oper} {o : Oper} {a : Act} {Q : Exit → Act → World → Prop} (hgd : o.guard = none) (s x : Operand) (t : TypeId)
    (ho : o.op = .call { callee := .builtin .append, args := #[s, x], argTypes := #[t, t] })
    (base : Nat) (e : TypeId) (i : TypeInfo) (size : Nat) (ht : P.underlying t = some (.slice e)) (hi : P.info? e = some i)
    (v : Value) (n : Nat) (xs : List Value) (hs : a.eval s = v) (hown : w.ownsRow base e size v n xs) (hx : a.eval x = .slice none 0 0)
    (h : ∀ v' w', Hid (v' = v ∧ w' = w) → wpList P ops Q rest (a.put o.dst v') w') : wpList P ops Q (o :: rest) a w :=
  wpList_append_own_none hgd s x t ho base e i size ht hi v n xs hs hown hx (h _ _ (Lib.hid ⟨rfl, rfl⟩))
theorem bytes_ofb {a b : ByteArray} (h : (a.toList == b.toList) = true) : a = b := by
  have h : a.toList = b.toList := by simpa using h
  rw [ByteArray.toList_eq, ByteArray.toList_eq] at h
  cases a; cases b
  simp only [ByteArray.mk.injEq]
  exact Array.toList_inj.1 h
set_option maxRecDepth 100000 in
set_option maxHeartbeats 2000000 in
theorem put_any (B : Nat) (w : World) (v : Value) (xs : List ByteArray) (s : ByteArray) (h : Texts B w v xs) (hB : B ≤ w.heap.size) (hl : xs.length ≤ 1048576) :
    Calls Tryz.prog 155 #[v, .string s] w (PutPost B w xs s) := by
  obtain ⟨A, c, rfl, h⟩ := h
  have H := Lib.hid h
  obtain ⟨i0, hi, hz0, hz1, hz2⟩ := info_parts infoStr
  rcases A with _ | ⟨g, o, sp⟩
  · obtain ⟨hx, hc⟩ : xs = [] ∧ c = 0 := by
      rcases h.2 with ⟨he, hn⟩ | ⟨g, cap, cur, he, _⟩
      · simp only [Value.slice.injEq] at he
        exact ⟨List.eq_nil_of_length_eq_zero hn, he.2.2⟩
      · simp at he
    subst hx hc
    clear h
    go_enter Tryz.func155, Tryz.ntmps155
    go_wp2_with fail
    go_loopw [5] (fun iv wr => iv = .int .i64 0 ∧ wr = w) (fun iv _ => 0)
    case atStart => exact ⟨rfl, rfl⟩
    case round =>
      obtain ⟨rfl, rfl⟩ := hrel
      have HL := Lib.hid (World.ownsRow_lit (base := B) (e := 9) (size := 1) wr #[] 0 hB (by unfold maxLen; omega) rfl)
      go_wp2_with (at_builtin; go_must (refine append_none rfl (.tmp 34) (.tmp 37) 53 rfl B 9 i0 1 Tryz.underlying53 hi (.slice (some ⟨wr.heap.size, 0, none⟩) 0 0) 0 [] rfl ?own rfl ?_))
      case own => exact HL.out
      rintro _ _ ⟨rfl, rfl⟩
      have HB0 := Lib.hid (show Below B wr (wr.alloc (.cells #[] 9)) from (Below.refl B wr).alloc hB _)
      go_wp2_with (at_builtin; go_must (refine wpList_append_own_at _ rfl (.tmp 39) (.tmp 41) 53 rfl B 9 i0 _ 1 16 Tryz.underlying53 hi hz0 hz1 hz2 rfl (by decide) (.slice (some ⟨wr.heap.size, 0, none⟩) 0 0) 0 [] rfl ?own ⟨wr.heap.size + 1, 0, none⟩ 1 1 [.string s] rfl rfl ?c1 ?c2 ?c3 ?c4 ?c5 ?_))
      case own => exact HL.out.alloc _
      case c1 => exact cell_one_at _ _ _ _ (by simp)
      case c2 => intro u hu; simp only [List.mem_singleton] at hu; subst hu; rfl
      case c3 => unfold maxLen; omega
      case c4 => omega
      case c5 => simp; omega
      intro v2 w2 hown hgrow _ _
      obtain ⟨A3, c3, rfl, -⟩ := row_slice hown
      have HB2 := Lib.hid ((HB0.out.alloc (by simp; omega) (.cells #[.string s] 9)).grown hgrow (by simp; omega) (fun j hj => (HL.out.lt j hj).1))
      have HO2 := Lib.hid hown
      clear hown hgrow
      go_wp2_with (at_builtin; go_must (refine append_none rfl (.tmp 43) (.tmp 46) 53 rfl B 9 i0 1 Tryz.underlying53 hi (.slice A3 1 c3) 1 [.string s] rfl ?own rfl ?_))
      case own => exact HO2.out
      rintro _ _ ⟨rfl, rfl⟩
      go_wp2_with fail
      go_ret
      exact ⟨HB2.out, _, [s], rfl, ⟨_, _, rfl, HO2.out⟩, by simp, by simp⟩
  · obtain ⟨rfl, rfl, hcap⟩ : o = 0 ∧ sp = none ∧ xs.length ≤ c := by
      rcases h.2 with ⟨he, hn⟩ | ⟨g', cap, cur, he, -, -, hcap, -⟩
      · simp at he
      · simp only [Value.slice.injEq, Option.some.injEq, Addr.mk.injEq] at he
        obtain ⟨⟨rfl, rfl, rfl⟩, -, rfl⟩ := he
        exact ⟨rfl, rfl, hcap⟩
    clear h
    go_enter Tryz.func155, Tryz.ntmps155
    go_wp2_with fail
    go_loopw [5] (fun iv wr => ∃ i : Nat, iv = .int .i64 i ∧ i ≤ xs.length ∧ wr = w) (fun iv _ => xs.length - (intOf iv).toNat)
    case atStart => exact ⟨0, rfl, Nat.zero_le _, rfl⟩
    case round =>
      obtain ⟨i, rfl, hi2, rfl⟩ := hrel
      have HL := Lib.hid (World.ownsRow_lit (base := wr.heap.size) (e := 9) (size := 1) wr #[] 0 (Nat.le_refl _) (by unfold maxLen; omega) rfl)
      have hic : (i : Int) ≤ (c : Int) := by omega
      have i00 : (0 : Int) ≤ i := by omega
      have hcells : Hid (∀ j x, xs[j]? = some x → wr.cell? ⟨g, j, none⟩ = some (.string x)) := Lib.hid fun j x hx => by
        obtain ⟨g', hg', hc2, -⟩ := row_cell H.out j (.string x) (by simp [hx])
        simp only [Option.some.injEq, Addr.mk.injEq, and_true] at hg'
        subst hg'
        exact hc2
      have hgl : g < wr.heap.size := (H.out.lt g rfl).2
      by_cases hlt : i < xs.length
      · obtain ⟨a, ha⟩ : ∃ a, xs[i]? = some a := ⟨_, List.getElem?_eq_getElem hlt⟩
        have hc := hcells.out i a ha
        have HA := Lib.hid ha
        clear ha
        obtain ⟨b1, hb1⟩ : ∃ b, Op.bytesLess a.toList s.toList = b := ⟨_, rfl⟩
        cases b1
        case true =>
          go_wp2_with fail
          exact ⟨⟨i + 1, by go_num, by omega, trivial⟩, by simp [intOf]; omega⟩
        obtain ⟨b2, hb2⟩ : ∃ b, (a.toList == s.toList) = b := ⟨_, rfl⟩
        cases b2
        case true =>
          have HE := Lib.hid (bytes_ofb hb2)
          go_wp2_with fail
          go_ret
          refine ⟨Below.refl _ _, _, xs, rfl, ⟨_, _, rfl, H.out⟩, by omega, fun x => ⟨.inl, fun hx => ?_⟩⟩
          rcases hx with hx | rfl
          · exact hx
          · rw [← HE.out]
            exact List.mem_of_getElem? HA.out
        go_wp2_with (at_builtin; go_must (refine wpList_append_own_at _ rfl (.tmp 34) (.tmp 37) 53 rfl wr.heap.size 9 i0 _ 1 16 Tryz.underlying53 hi hz0 hz1 hz2 rfl (by decide) (.slice (some ⟨wr.heap.size, 0, none⟩) 0 0) 0 [] rfl ?ownx0 ⟨g, 0, none⟩ i c ((xs.map Value.string).take i) rfl (by simp; try omega) ?c1x0 ?c2x0 ?c3x0 ?c4x0 ?c5x0 ?_))
        case ownx0 => exact HL.out
        case c1x0 =>
          intro j u hu
          have hu2 : (xs.map Value.string)[j]? = some u := by
            have hji : j < i := by have := (List.getElem?_eq_some_iff.1 hu).1; simp at this; omega
            rw [List.getElem?_take_of_lt hji] at hu
            exact hu
          rw [List.getElem?_map] at hu2
          obtain ⟨x, hx, rfl⟩ := Option.map_eq_some_iff.1 hu2
          have e : (⟨g, 0, none⟩ : Addr).add j = ⟨g, j, none⟩ := by unfold Addr.add; split <;> simp_all
          try rw [e]
          first | exact hcells.out j x hx | exact (((Below.refl wr.heap.size wr).alloc (Nat.le_refl _) _).cell (p := ⟨g, j, none⟩) hgl).trans (hcells.out j x hx)
        case c2x0 => intro u hu; replace hu := List.mem_of_mem_take hu; simp only [List.mem_map] at hu; obtain ⟨x, -, rfl⟩ := hu; rfl
        case c3x0 => unfold maxLen; omega
        case c4x0 => omega
        try case c5x0 => first | omega | (simp; omega) | simp
        intro v1 w1 hown1 hgrow1 _ _
        have hown1 : w1.ownsRow wr.heap.size 9 1 v1 i ((xs.map Value.string).take i) := by simpa using hown1
        obtain ⟨A1, c1, rfl, -⟩ := row_slice hown1
        have HB1 := Lib.hid (((Below.refl wr.heap.size wr).alloc (Nat.le_refl _) (.cells #[] 9)).grown hgrow1 (by simp) (fun j hj => (HL.out.lt j hj).1))
        have HO1 := Lib.hid hown1
        have hs1 := HB1.out.size
        clear hown1 hgrow1
        go_wp2_with (at_builtin; go_must (refine wpList_append_own_at _ rfl (.tmp 39) (.tmp 41) 53 rfl wr.heap.size 9 i0 _ 1 16 Tryz.underlying53 hi hz0 hz1 hz2 rfl (by decide) (.slice A1 i c1) i ((xs.map Value.string).take i) rfl ?ownx1 ⟨w1.heap.size, 0, none⟩ 1 1 [.string s] rfl rfl ?c1x1 ?c2x1 ?c3x1 ?c4x1 ?c5x1 ?_))
        case ownx1 => exact HO1.out.alloc _
        case c1x1 => exact cell_one_at _ _ _ _ rfl
        case c2x1 => intro u hu; simp only [List.mem_singleton] at hu; subst hu; rfl
        case c3x1 => unfold maxLen; omega
        case c4x1 => omega
        case c5x1 => simp; omega
        intro v2 w2 hown2 hgrow2 _ _
        obtain ⟨A2, c2, rfl, -⟩ := row_slice hown2
        have HB2 := Lib.hid ((HB1.out.alloc hs1 (.cells #[.string s] 9)).grown hgrow2 (by simp; omega) (fun j hj => (HO1.out.lt j hj).1))
        have HO2 := Lib.hid hown2
        have hs2 := HB2.out.size
        clear hown2 hgrow2
        go_wp2_with (at_builtin; go_must (refine wpList_append_own_at _ rfl (.tmp 43) (.tmp 46) 53 rfl wr.heap.size 9 i0 _ 1 16 Tryz.underlying53 hi hz0 hz1 hz2 rfl (by decide) (.slice A2 (i + 1) c2) (i + 1) ((xs.map Value.string).take i ++ [.string s]) rfl ?ownx2 ⟨g, i, none⟩ (xs.length - i) (c - i) ((xs.map Value.string).drop i) rfl (by simp) ?c1x2 ?c2x2 ?c3x2 ?c4x2 ?c5x2 ?_))
        case ownx2 => exact HO2.out
        case c1x2 =>
          intro j u hu
          rw [List.getElem?_drop, List.getElem?_map] at hu
          obtain ⟨x, hx, rfl⟩ := Option.map_eq_some_iff.1 hu
          have e : (⟨g, i, none⟩ : Addr).add j = ⟨g, i + j, none⟩ := by unfold Addr.add; split <;> simp_all
          rw [e]
          exact (HB2.out.cell (p := ⟨g, i + j, none⟩) hgl).trans (hcells.out _ x hx)
        case c2x2 => intro u hu; replace hu := List.mem_of_mem_drop hu; simp only [List.mem_map] at hu; obtain ⟨x, -, rfl⟩ := hu; rfl
        case c3x2 => unfold maxLen; omega
        case c4x2 => omega
        case c5x2 => omega
        intro v3 w3 hown3 hgrow3 _ _
        obtain ⟨A3, c3, rfl, -⟩ := row_slice hown3
        have HB3 := Lib.hid (HB2.out.grown hgrow3 hs2 (fun j hj => (HO2.out.lt j hj).1))
        have HO3 := Lib.hid hown3
        clear hown3 hgrow3
        go_wp2_with fail
        go_ret
        have hn : i + 1 + (xs.length - i) = (xs.take i ++ [s] ++ xs.drop i).length := by simp; omega
        have hm : (xs.map Value.string).take i ++ .string s :: (xs.map Value.string).drop i = (xs.take i ++ [s] ++ xs.drop i).map Value.string := by simp
        have ho := HO3.out
        rw [hm, hn] at ho
        rw [hn]
        refine ⟨HB3.out.mono hB, _, _, rfl, Texts.wider ⟨A3, c3, rfl, ho⟩ hB, by simp; omega, fun x => ?_⟩
        have hx : x ∈ xs ↔ x ∈ xs.take i ∨ x ∈ xs.drop i := by rw [← List.mem_append, List.take_append_drop]
        rw [hx]
        simp only [List.mem_append, List.mem_singleton]
        constructor
        · rintro ((h | h) | h)
          · exact .inl (.inl h)
          · exact .inr h
          · exact .inl (.inr h)
        · rintro ((h | h) | h)
          · exact .inl (.inl h)
          · exact .inr h
          · exact .inl (.inr h)
      · have hii : i = xs.length := by omega
        subst hii
        go_wp2_with (at_builtin; go_must (refine wpList_append_own_at _ rfl (.tmp 34) (.tmp 37) 53 rfl wr.heap.size 9 i0 _ 1 16 Tryz.underlying53 hi hz0 hz1 hz2 rfl (by decide) (.slice (some ⟨wr.heap.size, 0, none⟩) 0 0) 0 [] rfl ?ownx3 ⟨g, 0, none⟩ xs.length c (xs.map Value.string) rfl (by simp; try omega) ?c1x3 ?c2x3 ?c3x3 ?c4x3 ?c5x3 ?_))
        case ownx3 => exact HL.out
        case c1x3 =>
          intro j x hx
          have e : (⟨g, 0, none⟩ : Addr).add j = ⟨g, j, none⟩ := by unfold Addr.add; split <;> simp_all
          try rw [e]
          first | exact hcells.out j x hx | exact (((Below.refl wr.heap.size wr).alloc (Nat.le_refl _) _).cell (p := ⟨g, j, none⟩) hgl).trans (hcells.out j x hx)
        case c2x3 => first | (intro x hx; rfl) | (intro u hu; simp only [List.mem_map] at hu; obtain ⟨x, -, rfl⟩ := hu; rfl)
        case c3x3 => unfold maxLen; omega
        case c4x3 => omega
        try case c5x3 => first | omega | (simp; omega) | simp
        intro v1 w1 hown1 hgrow1 _ _
        have hown1 : w1.ownsRow wr.heap.size 9 1 v1 xs.length (xs.map Value.string) := by simpa using hown1
        obtain ⟨A1, c1, rfl, -⟩ := row_slice hown1
        have HB1 := Lib.hid (((Below.refl wr.heap.size wr).alloc (Nat.le_refl _) (.cells #[] 9)).grown hgrow1 (by simp) (fun j hj => (HL.out.lt j hj).1))
        have HO1 := Lib.hid hown1
        have hs1 := HB1.out.size
        clear hown1 hgrow1
        go_wp2_with (at_builtin; go_must (refine wpList_append_own_at _ rfl (.tmp 39) (.tmp 41) 53 rfl wr.heap.size 9 i0 _ 1 16 Tryz.underlying53 hi hz0 hz1 hz2 rfl (by decide) (.slice A1 xs.length c1) xs.length (xs.map Value.string) rfl ?ownx4 ⟨w1.heap.size, 0, none⟩ 1 1 [.string s] rfl rfl ?c1x4 ?c2x4 ?c3x4 ?c4x4 ?c5x4 ?_))
        case ownx4 => exact HO1.out.alloc _
        case c1x4 => exact cell_one_at _ _ _ _ rfl
        case c2x4 => intro u hu; simp only [List.mem_singleton] at hu; subst hu; rfl
        case c3x4 => unfold maxLen; omega
        case c4x4 => omega
        case c5x4 => simp; omega
        intro v2 w2 hown2 hgrow2 _ _
        obtain ⟨A2, c2, rfl, -⟩ := row_slice hown2
        have HB2 := Lib.hid ((HB1.out.alloc hs1 (.cells #[.string s] 9)).grown hgrow2 (by simp; omega) (fun j hj => (HO1.out.lt j hj).1))
        have HO2 := Lib.hid hown2
        have hs2 := HB2.out.size
        clear hown2 hgrow2
        obtain ⟨ad, had⟩ : ∃ ad, (if c = xs.length then some ⟨g, 0, none⟩ else some ⟨g, xs.length, none⟩ : Option Addr) = some ad := by split <;> exact ⟨_, rfl⟩
        go_wp2_with (at_builtin; go_must (refine wpList_append_own_at _ rfl (.tmp 43) (.tmp 46) 53 rfl wr.heap.size 9 i0 _ 1 16 Tryz.underlying53 hi hz0 hz1 hz2 rfl (by decide) (.slice A2 (xs.length + 1) c2) (xs.length + 1) (xs.map Value.string ++ [.string s]) rfl ?ownx5 ad 0 (c - xs.length) [] rfl (by simp) ?c1x5 ?c2x5 ?c3x5 ?c4x5 ?c5x5 ?_))
        case ownx5 => exact HO2.out
        case c1x5 => intro j u hu; simp at hu
        case c2x5 => intro u hu; cases hu
        case c3x5 => unfold maxLen; omega
        case c4x5 => omega
        case c5x5 => omega
        intro v3 w3 hown3 hgrow3 _ _
        obtain ⟨A3, c3, rfl, -⟩ := row_slice hown3
        have HB3 := Lib.hid (HB2.out.grown hgrow3 hs2 (fun j hj => (HO2.out.lt j hj).1))
        have HO3 := Lib.hid hown3
        clear hown3 hgrow3
        go_wp2_with fail
        go_ret
        have hn : xs.length + 1 + 0 = (xs ++ [s]).length := by simp
        have hm : xs.map Value.string ++ [.string s] = (xs ++ [s]).map Value.string := by simp
        have ho := HO3.out
        try rw [List.append_nil] at ho
        rw [hm] at ho
        have hn2 : xs.length + 1 = (xs ++ [s]).length := by simp
        try rw [Nat.add_zero] at ho
        rw [hn2] at ho
        try rw [Nat.add_zero]
        rw [hn2]
        refine ⟨HB3.out.mono hB, _, xs ++ [s], rfl, Texts.wider ⟨A3, c3, rfl, ho⟩ hB, by simp, fun x => by simp⟩
end Go.Proofs.YtjeggkfgdhepaaaGreatDoor

/- The reference's vars and datas: which names their answers have. -/
set_option linter.unusedVariables false
set_option linter.unusedSimpArgs false
namespace Go.Proofs.YtjeggkfgdhepaaaGreatDoor
open Go.RowKit
open Go.Proofs

/-- The variables of a type. -/
def Ty.varsL : Ty → List ByteArray
  | .mk d n _ _ l => if isDo [118, 97, 114] d then [n] else (l.map fun t => t.varsL).flatten
theorem Ty.varsL_mk (d n : ByteArray) (a : Option Addr) (c : Nat) (l : List Ty) : (Ty.mk d n a c l).varsL = if isDo [118, 97, 114] d then [n] else l.flatMap Ty.varsL := by
  rw [Ty.varsL]
  rfl
theorem hasVar_vars (t : Ty) : t.hasVar = !t.varsL.isEmpty := by
  refine Ty.induct (p := fun t => t.hasVar = !t.varsL.isEmpty) (fun d n a c l ih => ?_) t
  rw [Ty.hasVar_mk, Ty.varsL_mk]
  cases h : isDo [118, 97, 114] d
  · simp only [Bool.false_or, Bool.false_eq_true, if_false]
    rw [Bool.eq_iff_iff]
    simp only [List.any_eq_true, Bool.not_eq_true', List.isEmpty_eq_false_iff, ne_eq, List.flatMap_eq_nil_iff, Classical.not_forall]
    constructor
    · rintro ⟨t, ht, hv⟩
      rw [ih t ht] at hv
      exact ⟨t, ht, by simpa using hv⟩
    · rintro ⟨t, ht, hv⟩
      exact ⟨t, ht, by rw [ih t ht]; simpa using hv⟩
  · simp
def SetPost (B : Nat) (w : World) (xs : List ByteArray) (k : Nat) (ns : List ByteArray) (e : Ending) (w' : World) : Prop :=
  Below B w w' ∧ ∃ v ys, e = .returned v ∧ Texts B w' v ys ∧ ys.length ≤ xs.length + k ∧ ∀ x, x ∈ ys ↔ x ∈ xs ∨ x ∈ ns
theorem count_pos (t : Ty) : 1 ≤ t.count := by cases t; rw [Ty.count_mk]; omega
theorem countTo {l : List Ty} {k : Nat} {q : Ty} (h : l[k]? = some q) : ((l.take k).map Ty.count).sum + q.count ≤ (l.map Ty.count).sum := by
  have e : l = l.take k ++ l.drop k := (List.take_append_drop k l).symm
  have hd : l.drop k = q :: l.drop (k + 1) := by
    have hlt := (List.getElem?_eq_some_iff.1 h).1
    rw [List.drop_eq_getElem_cons hlt, (List.getElem?_eq_some_iff.1 h).2]
  conv => rhs; rw [e, hd]
  simp
theorem sum_take_succ {l : List Ty} {k : Nat} {q : Ty} (h : l[k]? = some q) : ((l.take (k + 1)).map Ty.count).sum = ((l.take k).map Ty.count).sum + q.count := by
  rw [List.take_add_one, h]
  simp
theorem flat_take_succ {f : Ty → List ByteArray} {l : List Ty} {k : Nat} {q : Ty} (h : l[k]? = some q) (x : ByteArray) : x ∈ (l.take (k + 1)).flatMap f ↔ x ∈ (l.take k).flatMap f ∨ x ∈ f q := by
  rw [List.take_add_one, h]
  simp
set_option maxRecDepth 100000 in
set_option maxHeartbeats 4000000 in
theorem rVars_any (B : Nat) : ∀ (t : Ty) (w : World) (v : Value) (xs : List ByteArray), t.In B w → Texts B w v xs → B ≤ w.heap.size → xs.length + t.count ≤ 1048576 →
    Calls Tryz.prog 139 #[t.val, v] w (SetPost B w xs t.count t.varsL) := by
  refine Ty.induct fun d n A c l ih w v xs hin hx hB hlen => ?_
  obtain ⟨hd, hn, hl, -, hrow, hall⟩ := Ty.In_mk.1 hin
  rw [Ty.count_mk] at hlen ⊢
  rw [Ty.varsL_mk]
  have HR := Lib.hid hrow
  have HA := Lib.hid hall
  have IH := Lib.hid ih
  have HX := Lib.hid hx
  obtain ⟨A0, c0, rfl, -⟩ := hx
  clear hin hrow hall ih
  have HB0 := Lib.hid ((Below.refl B w).alloc hB (.cells #[.string d, .string n, .slice A l.length c] 25))
  have HK := Lib.hid (Blk.new w #[.string d, .string n, .slice A l.length c] 25)
  unfold Ty.val isDo
  simp only [Ty.dof, Ty.name, Ty.at_, Ty.cap, Ty.args]
  obtain ⟨tv, hv⟩ : ∃ t, (d.toList == [118, 97, 114]) = t := ⟨_, rfl⟩
  rw [hv]
  cases tv
  case true =>
    have HP := Lib.hid (fun (W : World) (hb : Below B w W) (hW : w.heap.size ≤ W.heap.size) (hkeep : Texts B W (.slice A0 xs.length c0) xs) => put_any B W (.slice A0 xs.length c0) xs n hkeep (Nat.le_trans hB hW) (by omega))
    have HXA := Lib.hid (show Texts B (w.alloc (.cells #[.string d, .string n, .slice A l.length c] 25)) (.slice A0 xs.length c0) xs from HX.out.keep ((Below.refl _ _).alloc (Nat.le_refl _) _))
    simp only [if_true]
    go_enter Tryz.func139, Tryz.ntmps139
    go_wp2_with fail
    refine Calls.mono (HP.out _ HB0.out (by simp) HXA.out) ?_
    rintro e w1 ⟨hb1, v1, ys, rfl, hy, hyl, hym⟩
    have HB1 := Lib.hid (HB0.out.trans hb1)
    have HY := Lib.hid hy
    have HYM := Lib.hid hym
    have HYL := Lib.hid hyl
    clear hb1 hy hym hyl
    go_wp2_with fail
    go_ret
    refine ⟨HB1.out, _, ys, rfl, HY.out, by have := HYL.out; omega, fun x => ?_⟩
    rw [HYM.out]
    simp
  case false =>
    simp only [Bool.false_eq_true, if_false]
    have hsum : Hid (xs.length + (l.map Ty.count).sum ≤ 1048576) := Lib.hid (by omega)
    have hsum2 : Hid ((l.map Ty.count).sum ≤ 1 + (l.map Ty.count).sum) := Lib.hid (by omega)
    generalize hc1 : 1 + (l.map Ty.count).sum = cnt at hlen hsum2 ⊢
    clear hc1
    go_enter Tryz.func139, Tryz.ntmps139
    go_wp2_with fail
    have HW0 := Lib.hid (show Texts B (w.alloc (.cells #[.string d, .string n, .slice A l.length c] 25)) (.slice A0 xs.length c0) xs from HX.out.keep ((Below.refl _ _).alloc (Nat.le_refl _) _))
    have hs0 : B ≤ (w.alloc (.cells #[.string d, .string n, .slice A l.length c] 25)).heap.size := by simp; omega
    generalize w.alloc (.cells #[.string d, .string n, .slice A l.length c] 25) = w0 at HB0 HK HW0 hs0 ⊢
    go_loopw [17, 1] (fun iv ov wr => ∃ (k : Nat) (ys : List ByteArray) (Ay : Option Addr) (cy : Nat), iv = .int .i64 k ∧ k ≤ l.length ∧ ov = .slice Ay ys.length cy ∧ Hid (Below B w0 wr) ∧ Hid (Texts B wr (.slice Ay ys.length cy) ys) ∧ Hid (ys.length ≤ xs.length + ((l.take k).map Ty.count).sum) ∧ Hid (∀ x, x ∈ ys ↔ x ∈ xs ∨ x ∈ (l.take k).flatMap Ty.varsL)) (fun iv _ _ => l.length - (intOf iv).toNat)
    case atStart => exact ⟨0, xs, A0, c0, rfl, Nat.zero_le _, rfl, Below.refl _ _, HW0.out, Lib.hid (by simp), Lib.hid (fun x => by simp)⟩
    case round =>
      obtain ⟨k, ys, Ay, cy, rfl, hk, rfl, HC, HT, HL, HM⟩ := hrel
      have HBW := Lib.hid (HB0.out.trans HC.out)
      by_cases hlt : k < l.length
      · obtain ⟨q, b0, off, hq, hmem, rfl, hb, x0, x1, x2⟩ := Ty.arg_at HR.out HBW.out hlt
        have HQ := Lib.hid (Ty.In.keep HBW.out _ (HA.out q hmem))
        have HQK := Lib.hid hq
        have hqs : ys.length + q.count ≤ 1048576 := by
          have h1 := countTo hq
          have h2 := hsum.out
          have h3 := HL.out
          omega
        have HCC := Lib.hid (fun (W : World) (hp : q.In B W) (ht : Texts B W (.slice Ay ys.length cy) ys) (hW : B ≤ W.heap.size) => IH.out q hmem W (.slice Ay ys.length cy) ys hp ht hW hqs)
        have hsr : B ≤ wr.heap.size := Nat.le_trans hs0 HC.out.size
        unfold Ty.val at HCC
        clear hq hqs
        go_wp2_with fail
        refine Calls.mono (HCC.out _ (Ty.In.keep ((Below.refl B wr).alloc hsr _) _ HQ.out) (HT.out.keep ((Below.refl _ _).alloc (Nat.le_refl _) _)) (by simp; omega)) ?_
        rintro e w1 ⟨hb1, v1, zs, rfl, hz, hzl, hzm⟩
        obtain ⟨Az, cz, rfl, hzr⟩ := hz
        have HB1 := Lib.hid (HC.out.trans (((Below.refl B wr).alloc hsr _).trans hb1))
        have HZ := Lib.hid (show Texts B w1 (.slice Az zs.length cz) zs from ⟨Az, cz, rfl, hzr⟩)
        have HZM := Lib.hid hzm
        have HZL := Lib.hid hzl
        clear hb1 hzr hzm hzl
        go_wp2_with fail
        refine ⟨⟨k + 1, zs, Az, cz, by go_num, by omega, rfl, HB1.out, HZ.out, ?_, ?_⟩, by simp [intOf]; omega⟩
        · refine Lib.hid ?_
          have h3 := HL.out
          have h4 := HZL.out
          rw [sum_take_succ HQK.out]
          omega
        · refine Lib.hid fun x => ?_
          rw [HZM.out, HM.out, flat_take_succ HQK.out, or_assoc]
      · have hk2 : k = l.length := by omega
        have hm := HM.out
        have hl2 := HL.out
        rw [hk2, List.take_length] at hm hl2
        have HM2 := Lib.hid hm
        have HL2 := Lib.hid hl2
        clear hm hl2 hk2
        go_wp2_with fail
        go_ret
        refine ⟨HBW.out, _, ys, rfl, HT.out, ?_, HM2.out⟩
        have h5 := HL2.out
        have h6 := hsum2.out
        omega
set_option maxHeartbeats 1000000 in
theorem rVarsOf_any (t : Ty) (w : World) (hin : t.In w.heap.size w) (hlen : t.count ≤ 1048576) :
    Calls Tryz.prog 115 #[t.val] w (SetPost w.heap.size w [] t.count t.varsL) := by
  have HI := Lib.hid hin
  have HC := Lib.hid (fun (W : World) (hW : Below w.heap.size w W) => rVars_any w.heap.size t W (.slice none 0 0) [] (Ty.In.keep hW _ HI.out) (Texts.nil _ _) hW.size (by simpa using hlen))
  have HB0 := Lib.hid ((Below.refl w.heap.size w).alloc (Nat.le_refl _) (.cells #[.string t.dof, .string t.name, .slice t.at_ t.args.length t.cap] 25))
  clear hin
  unfold Ty.val at *
  go_enter Tryz.func115, Tryz.ntmps115
  go_wp2_with fail
  refine Calls.mono (HC.out _ HB0.out) ?_
  rintro e w1 ⟨hb1, v1, ys, rfl, hy, hyl, hym⟩
  have HB1 := Lib.hid (HB0.out.trans hb1)
  have HY := Lib.hid hy
  have HYM := Lib.hid hym
  have HYL := Lib.hid hyl
  clear hb1 hy hym hyl
  go_wp2_with fail
  go_ret
  exact ⟨HB1.out, _, ys, rfl, HY.out, HYL.out, HYM.out⟩
set_option maxRecDepth 100000 in
set_option maxHeartbeats 4000000 in
theorem rDatas_any (B : Nat) : ∀ (t : Ty) (w : World) (v : Value) (xs : List ByteArray), t.In B w → Texts B w v xs → B ≤ w.heap.size → xs.length + t.count ≤ 1048576 →
    Calls Tryz.prog 140 #[t.val, v] w (SetPost B w xs t.count t.datasL) := by
  refine Ty.induct fun d n A c l ih w v xs hin hx hB hlen => ?_
  obtain ⟨hd, hn, hl, -, hrow, hall⟩ := Ty.In_mk.1 hin
  rw [Ty.count_mk] at hlen ⊢
  rw [Ty.datasL_mk]
  have HR := Lib.hid hrow
  have HA := Lib.hid hall
  have IH := Lib.hid ih
  have HX := Lib.hid hx
  obtain ⟨A0, c0, rfl, -⟩ := hx
  clear hin hrow hall ih
  have HB0 := Lib.hid ((Below.refl B w).alloc hB (.cells #[.string d, .string n, .slice A l.length c] 25))
  have HK := Lib.hid (Blk.new w #[.string d, .string n, .slice A l.length c] 25)
  unfold Ty.val isDo
  simp only [Ty.dof, Ty.name, Ty.at_, Ty.cap, Ty.args]
  obtain ⟨tv, hv⟩ : ∃ t, (d.toList == [100, 97, 116, 97]) = t := ⟨_, rfl⟩
  rw [hv]
  cases tv
  case true =>
    have HP := Lib.hid (fun (W : World) (hb : Below B w W) (hW : w.heap.size ≤ W.heap.size) (hkeep : Texts B W (.slice A0 xs.length c0) xs) => put_any B W (.slice A0 xs.length c0) xs n hkeep (Nat.le_trans hB hW) (by omega))
    have HXA := Lib.hid (show Texts B (w.alloc (.cells #[.string d, .string n, .slice A l.length c] 25)) (.slice A0 xs.length c0) xs from HX.out.keep ((Below.refl _ _).alloc (Nat.le_refl _) _))
    simp only [if_true]
    go_enter Tryz.func140, Tryz.ntmps140
    go_wp2_with fail
    refine Calls.mono (HP.out _ HB0.out (by simp) HXA.out) ?_
    rintro e w1 ⟨hb1, v1, ys, rfl, hy, hyl, hym⟩
    have HB1 := Lib.hid (HB0.out.trans hb1)
    have HY := Lib.hid hy
    have HYM := Lib.hid hym
    have HYL := Lib.hid hyl
    clear hb1 hy hym hyl
    go_wp2_with fail
    go_ret
    refine ⟨HB1.out, _, ys, rfl, HY.out, by have := HYL.out; omega, fun x => ?_⟩
    rw [HYM.out]
    simp
  case false =>
    simp only [Bool.false_eq_true, if_false]
    have hsum : Hid (xs.length + (l.map Ty.count).sum ≤ 1048576) := Lib.hid (by omega)
    have hsum2 : Hid ((l.map Ty.count).sum ≤ 1 + (l.map Ty.count).sum) := Lib.hid (by omega)
    generalize hc1 : 1 + (l.map Ty.count).sum = cnt at hlen hsum2 ⊢
    clear hc1
    go_enter Tryz.func140, Tryz.ntmps140
    go_wp2_with fail
    have HW0 := Lib.hid (show Texts B (w.alloc (.cells #[.string d, .string n, .slice A l.length c] 25)) (.slice A0 xs.length c0) xs from HX.out.keep ((Below.refl _ _).alloc (Nat.le_refl _) _))
    have hs0 : B ≤ (w.alloc (.cells #[.string d, .string n, .slice A l.length c] 25)).heap.size := by simp; omega
    generalize w.alloc (.cells #[.string d, .string n, .slice A l.length c] 25) = w0 at HB0 HK HW0 hs0 ⊢
    go_loopw [17, 1] (fun iv ov wr => ∃ (k : Nat) (ys : List ByteArray) (Ay : Option Addr) (cy : Nat), iv = .int .i64 k ∧ k ≤ l.length ∧ ov = .slice Ay ys.length cy ∧ Hid (Below B w0 wr) ∧ Hid (Texts B wr (.slice Ay ys.length cy) ys) ∧ Hid (ys.length ≤ xs.length + ((l.take k).map Ty.count).sum) ∧ Hid (∀ x, x ∈ ys ↔ x ∈ xs ∨ x ∈ (l.take k).flatMap Ty.datasL)) (fun iv _ _ => l.length - (intOf iv).toNat)
    case atStart => exact ⟨0, xs, A0, c0, rfl, Nat.zero_le _, rfl, Below.refl _ _, HW0.out, Lib.hid (by simp), Lib.hid (fun x => by simp)⟩
    case round =>
      obtain ⟨k, ys, Ay, cy, rfl, hk, rfl, HC, HT, HL, HM⟩ := hrel
      have HBW := Lib.hid (HB0.out.trans HC.out)
      by_cases hlt : k < l.length
      · obtain ⟨q, b0, off, hq, hmem, rfl, hb, x0, x1, x2⟩ := Ty.arg_at HR.out HBW.out hlt
        have HQ := Lib.hid (Ty.In.keep HBW.out _ (HA.out q hmem))
        have HQK := Lib.hid hq
        have hqs : ys.length + q.count ≤ 1048576 := by
          have h1 := countTo hq
          have h2 := hsum.out
          have h3 := HL.out
          omega
        have HCC := Lib.hid (fun (W : World) (hp : q.In B W) (ht : Texts B W (.slice Ay ys.length cy) ys) (hW : B ≤ W.heap.size) => IH.out q hmem W (.slice Ay ys.length cy) ys hp ht hW hqs)
        have hsr : B ≤ wr.heap.size := Nat.le_trans hs0 HC.out.size
        unfold Ty.val at HCC
        clear hq hqs
        go_wp2_with fail
        refine Calls.mono (HCC.out _ (Ty.In.keep ((Below.refl B wr).alloc hsr _) _ HQ.out) (HT.out.keep ((Below.refl _ _).alloc (Nat.le_refl _) _)) (by simp; omega)) ?_
        rintro e w1 ⟨hb1, v1, zs, rfl, hz, hzl, hzm⟩
        obtain ⟨Az, cz, rfl, hzr⟩ := hz
        have HB1 := Lib.hid (HC.out.trans (((Below.refl B wr).alloc hsr _).trans hb1))
        have HZ := Lib.hid (show Texts B w1 (.slice Az zs.length cz) zs from ⟨Az, cz, rfl, hzr⟩)
        have HZM := Lib.hid hzm
        have HZL := Lib.hid hzl
        clear hb1 hzr hzm hzl
        go_wp2_with fail
        refine ⟨⟨k + 1, zs, Az, cz, by go_num, by omega, rfl, HB1.out, HZ.out, ?_, ?_⟩, by simp [intOf]; omega⟩
        · refine Lib.hid ?_
          have h3 := HL.out
          have h4 := HZL.out
          rw [sum_take_succ HQK.out]
          omega
        · refine Lib.hid fun x => ?_
          rw [HZM.out, HM.out, flat_take_succ HQK.out, or_assoc]
      · have hk2 : k = l.length := by omega
        have hm := HM.out
        have hl2 := HL.out
        rw [hk2, List.take_length] at hm hl2
        have HM2 := Lib.hid hm
        have HL2 := Lib.hid hl2
        clear hm hl2 hk2
        go_wp2_with fail
        go_ret
        refine ⟨HBW.out, _, ys, rfl, HT.out, ?_, HM2.out⟩
        have h5 := HL2.out
        have h6 := hsum2.out
        omega
set_option maxHeartbeats 1000000 in
theorem rDatasOf_any (t : Ty) (w : World) (hin : t.In w.heap.size w) (hlen : t.count ≤ 1048576) :
    Calls Tryz.prog 116 #[t.val] w (SetPost w.heap.size w [] t.count t.datasL) := by
  have HI := Lib.hid hin
  have HC := Lib.hid (fun (W : World) (hW : Below w.heap.size w W) => rDatas_any w.heap.size t W (.slice none 0 0) [] (Ty.In.keep hW _ HI.out) (Texts.nil _ _) hW.size (by simpa using hlen))
  have HB0 := Lib.hid ((Below.refl w.heap.size w).alloc (Nat.le_refl _) (.cells #[.string t.dof, .string t.name, .slice t.at_ t.args.length t.cap] 25))
  clear hin
  unfold Ty.val at *
  go_enter Tryz.func116, Tryz.ntmps116
  go_wp2_with fail
  refine Calls.mono (HC.out _ HB0.out) ?_
  rintro e w1 ⟨hb1, v1, ys, rfl, hy, hyl, hym⟩
  have HB1 := Lib.hid (HB0.out.trans hb1)
  have HY := Lib.hid hy
  have HYM := Lib.hid hym
  have HYL := Lib.hid hyl
  clear hb1 hy hym hyl
  go_wp2_with fail
  go_ret
  exact ⟨HB1.out, _, ys, rfl, HY.out, HYL.out, HYM.out⟩
end Go.Proofs.YtjeggkfgdhepaaaGreatDoor

/- The reference's Datatype, closedIn and Sound. -/
set_option linter.unusedVariables false
set_option linter.unusedSimpArgs false
namespace Go.Proofs.YtjeggkfgdhepaaaGreatDoor
open Go.RowKit
open Go.Proofs

def dtFound (l : List Dt) (n : ByteArray) : Value × Bool := match l.find? fun d => d.name.toList == n.toList with | some d => (d.val, true) | none => (zDt, false)
theorem find_hit {α : Type} {l : List α} {p : α → Bool} {i : Nat} {q : α} (hq : l[i]? = some q) (hp : p q = true) (hn : ∀ j x, j < i → l[j]? = some x → p x = false) : l.find? p = some q := by
  induction l generalizing i with
  | nil => simp at hq
  | cons y l ih =>
    cases i with
    | zero =>
      simp only [List.getElem?_cons_zero, Option.some.injEq] at hq
      subst hq
      rw [List.find?_cons_of_pos hp]
    | succ i =>
      have hy := hn 0 y (by omega) rfl
      rw [List.find?_cons_of_neg (by rw [hy]; simp)]
      exact ih (i := i) hq (fun j x hj hx => hn (j + 1) x (by omega) hx)
theorem find_miss {α : Type} {l : List α} {p : α → Bool} (hn : ∀ j x, j < l.length → l[j]? = some x → p x = false) : l.find? p = none := by
  rw [List.find?_eq_none]
  intro x hx
  obtain ⟨j, hj⟩ := List.getElem?_of_mem hx
  rw [hn j x (List.getElem?_eq_some_iff.1 hj).1 hj]
  simp
theorem not_before {α : Type} {l : List α} {p : α → Bool} {k : Nat} {q : α} (h : ∀ j x, j < k → l[j]? = some x → p x = false) (hq : l[k]? = some q) (hp : p q = false) : ∀ j x, j < k + 1 → l[j]? = some x → p x = false := by
  intro j x hj hx
  rcases Nat.lt_succ_iff_lt_or_eq.1 hj with hj | rfl
  · exact h j x hj hx
  · rw [hq] at hx
    simp only [Option.some.injEq] at hx
    subst hx
    exact hp
set_option maxRecDepth 100000 in
set_option maxHeartbeats 2000000 in
theorem datatype_any (A : Option Addr) (l : List Dt) (c : Nat) (n : ByteArray) (w : World) (h : DtsIn w.heap.size w A l) :
    Calls Tryz.prog 78 #[.slice A l.length c, .string n] w fun e w' => e = .returned (.tuple #[(dtFound l n).1, .bool (dtFound l n).2]) ∧ Below w.heap.size w w' := by
  have H := Lib.hid h
  have hl := h.len
  clear h
  have hz : ∀ W, (zeroValue 111).run Tryz.prog W = .ok (.agg #[.string emptyS, .slice none 0 0]) W := zeroDt
  have HB0 := Lib.hid ((Below.refl w.heap.size w).alloc (Nat.le_refl _) (.cells #[.string emptyS, .slice none 0 0] 111))
  have HK := Lib.hid (Blk.new w #[.string emptyS, .slice none 0 0] 111)
  go_enter Tryz.func78, Tryz.ntmps78
  go_wp2_with fail
  generalize hw0 : w.alloc (.cells #[.string emptyS, .slice none 0 0] 111) = w0 at HB0 HK ⊢
  go_loopw [10] (fun iv wr => ∃ k : Nat, iv = .int .i64 k ∧ k ≤ l.length ∧ Hid (Below w0.heap.size w0 wr) ∧ Hid (∀ j x, j < k → l[j]? = some x → (x.name.toList == n.toList) = false)) (fun iv _ => l.length - (intOf iv).toNat)
  case atStart => exact ⟨0, rfl, Nat.zero_le _, Below.refl _ _, Lib.hid fun j x hj => absurd hj (Nat.not_lt_zero _)⟩
  case round =>
    obtain ⟨k, rfl, hk, HC, HN⟩ := hrel
    have HBW := Lib.hid (HB0.out.trans (HC.out.mono HB0.out.size))
    have HKR := Lib.hid (HK.out.below HC.out HK.out.lt)
    obtain ⟨z0, z1⟩ := HKR.out.two
    have zl := HKR.out.lt
    have zf : wr.frozen? ⟨w.heap.size, 0, none⟩ = false := HKR.out.free 0
    have zf1 : wr.frozen? ⟨w.heap.size, 1, none⟩ = false := HKR.out.free 1
    by_cases hlt : k < l.length
    · obtain ⟨q, b0, off, hq, hmem, rfl, hb, x0, x1⟩ := Dt.arg_at H.out.row HBW.out hlt
      have HQ := Lib.hid hq
      clear hq
      obtain ⟨t, ht⟩ : ∃ t, (q.name.toList == n.toList) = t := ⟨_, rfl⟩
      have HT := Lib.hid ht
      cases t
      · go_wp2_with fail
        refine ⟨⟨k + 1, by go_num, by omega, HC.out.trans ((Below.refl _ _).alloc HC.out.size _), Lib.hid (not_before HN.out HQ.out HT.out)⟩, by simp [intOf]; omega⟩
      · have HF := Lib.hid (show dtFound l n = (q.val, true) by unfold dtFound; rw [find_hit HQ.out HT.out HN.out])
        have HP2 := Lib.hid ((((HKR.out.set 0 (.string q.name)).set 1 (.slice q.at_ q.cons.length q.cap))).alloc (.cells #[.string q.name, .slice q.at_ q.cons.length q.cap] 111))
        obtain ⟨r0, r1⟩ := HP2.out.two
        have HB9 := Lib.hid (((HBW.out.setCell (p := ⟨w.heap.size, 0, none⟩) (Nat.le_refl _) (.string q.name)).setCell (p := ⟨w.heap.size, 1, none⟩) (Nat.le_refl _) (.slice q.at_ q.cons.length q.cap)).alloc (by have := HBW.out.size; simpa [World.setCell] using this) (.cells #[.string q.name, .slice q.at_ q.cons.length q.cap] 111))
        go_wp2_with fail
        exact bodyPost_ret (v := .tuple #[.agg #[.string q.name, .slice q.at_ q.cons.length q.cap], .bool true]) (by simp [results, Tryz.results78, go_sem, r0, r1]) rfl ⟨by rw [HF.out]; rfl, HB9.out⟩
    · have hk2 : k = l.length := by omega
      have hn := HN.out
      rw [hk2] at hn
      have HF := Lib.hid (show dtFound l n = (zDt, false) by unfold dtFound; rw [find_miss hn])
      have HP2 := Lib.hid ((((HKR.out.set 0 (.string emptyS)).set 1 (.slice none 0 0))))
      obtain ⟨r0, r1⟩ := HP2.out.two
      have HB9 := Lib.hid ((HBW.out.setCell (p := ⟨w.heap.size, 0, none⟩) (Nat.le_refl _) (.string emptyS)).setCell (p := ⟨w.heap.size, 1, none⟩) (Nat.le_refl _) (.slice none 0 0))
      clear hn hk2
      go_wp2_with fail
      exact bodyPost_ret (v := .tuple #[.agg #[.string emptyS, .slice none 0 0], .bool false]) (by simp [results, Tryz.results78, go_sem, r0, r1]) rfl ⟨by rw [HF.out]; rfl, HB9.out⟩
def allHas (l : List Dt) (ns : List ByteArray) : Bool := ns.all (hasDt l)
theorem dtFound_has (l : List Dt) (n : ByteArray) : (dtFound l n).2 = hasDt l n := by
  unfold dtFound hasDt
  cases h : l.find? fun d => d.name.toList == n.toList with
  | none =>
    have := List.find?_eq_none.1 h
    rw [eq_comm, List.any_eq_false]
    exact this
  | some d =>
    rw [eq_comm, List.any_eq_true]
    exact ⟨d, List.mem_of_find?_eq_some h, by simpa using List.find?_some h⟩
theorem dtFound_form (l : List Dt) (n : ByteArray) : ∃ a b m k, (dtFound l n).1 = .agg #[.string a, .slice b m k] := by
  unfold dtFound
  cases l.find? fun d => d.name.toList == n.toList with
  | none => exact ⟨_, _, _, _, rfl⟩
  | some d => exact ⟨_, _, _, _, rfl⟩
theorem all_same {l : List Dt} {a b : List ByteArray} (h : ∀ x, x ∈ a ↔ x ∈ b) : a.all (hasDt l) = b.all (hasDt l) := by
  rw [Bool.eq_iff_iff]
  simp only [List.all_eq_true]
  exact ⟨fun h1 x hx => h1 x ((h x).2 hx), fun h1 x hx => h1 x ((h x).1 hx)⟩
set_option maxRecDepth 100000 in
set_option maxHeartbeats 4000000 in
theorem closedIn_any (A : Option Addr) (l : List Dt) (c : Nat) (t : Ty) (w : World) (he : Env w) (h : DtsIn w.heap.size w A l) (ht : t.In w.heap.size w) (hcnt : t.count ≤ 1048576) :
    Calls Tryz.prog 75 #[.slice A l.length c, t.val] w fun e w' => e = .returned (.bool (closedB l t)) ∧ Below w.heap.size w w' := by
  have HE := Lib.hid he
  have H := Lib.hid h
  have HT := Lib.hid ht
  have HC1 := Lib.hid (fun (W : World) (hW : Below w.heap.size w W) => rValidType_any t W (HE.out.next hW) (HT.out.next hW))
  have HC2 := Lib.hid (fun (W : World) (hW : Below w.heap.size w W) => rVarsOf_any t W (HT.out.next hW) hcnt)
  have HC3 := Lib.hid (fun (W : World) (hW : Below w.heap.size w W) => rDatasOf_any t W (HT.out.next hW) hcnt)
  have HC4 := Lib.hid (fun (n : ByteArray) (W : World) (hW : Below w.heap.size w W) => datatype_any A l c n W (H.out.next hW))
  clear he h ht
  have HCB := Lib.hid (show closedB l t = (t.valid (kindB .con) && (!t.hasVar && t.datasL.all (hasDt l))) from rfl)
  have hvv := hasVar_vars t
  generalize closedB l t = res at HCB ⊢
  generalize t.valid (kindB .con) = vb at HC1 HCB
  generalize t.hasVar = hv at HCB hvv
  have HVV := Lib.hid hvv
  clear hvv
  have HB0 := Lib.hid ((Below.refl w.heap.size w).alloc (Nat.le_refl _) (.cells #[.string t.dof, .string t.name, .slice t.at_ t.args.length t.cap] 25))
  have HK := Lib.hid (Blk.new w #[.string t.dof, .string t.name, .slice t.at_ t.args.length t.cap] 25)
  unfold Ty.val at *
  cases vb
  case false =>
    go_enter Tryz.func75, Tryz.ntmps75
    go_wp2_with fail
    refine Calls.mono (HC1.out _ HB0.out) ?_
    rintro e w1 ⟨rfl, hb1⟩
    have HB1 := Lib.hid (HB0.out.trans (hb1.mono HB0.out.size))
    clear hb1
    go_wp2_with fail
    go_ret
    exact ⟨by rw [HCB.out]; rfl, HB1.out⟩
  case true =>
    go_enter Tryz.func75, Tryz.ntmps75
    go_wp2_with fail
    refine Calls.mono (HC1.out _ HB0.out) ?_
    rintro e w1 ⟨rfl, hb1⟩
    have HB1 := Lib.hid (HB0.out.trans (hb1.mono HB0.out.size))
    have HK1 := Lib.hid (HK.out.below hb1 HK.out.lt)
    clear hb1
    obtain ⟨y0, y1, y2⟩ := HK1.out.three
    have yl := HK1.out.lt
    go_wp2_with fail
    refine Calls.mono (HC2.out _ HB1.out) ?_
    rintro e w2 ⟨hb2, v2, ys, rfl, hy, -, hym⟩
    obtain ⟨A2, c2, rfl, -⟩ := hy
    have HB2 := Lib.hid (HB1.out.trans (hb2.mono HB1.out.size))
    have HK2 := Lib.hid (HK1.out.below hb2 HK1.out.lt)
    clear hb2 y0 y1 y2 yl
    obtain ⟨y0, y1, y2⟩ := HK2.out.three
    have yl := HK2.out.lt
    have hz : (ys.length = 0) ↔ hv = false := by
      rw [HVV.out]
      constructor
      · intro h0
        have : ys = [] := List.eq_nil_of_length_eq_zero h0
        subst this
        cases hvl : t.varsL with
        | nil => rfl
        | cons x r =>
          have := (hym x).2 (.inr (by rw [hvl]; simp))
          simp at this
      · intro h0
        have h0' : t.varsL = [] := by
          cases hvl : t.varsL with
          | nil => rfl
          | cons x r => rw [hvl] at h0; simp at h0
        cases ys with
        | nil => rfl
        | cons x r =>
          have := (hym x).1 (by simp)
          rw [h0'] at this
          simp at this
    cases hv
    case true =>
      have hpos : 0 < ys.length := by
        rcases Nat.eq_zero_or_pos ys.length with h0 | h0
        · exact absurd (hz.1 h0) (by simp)
        · exact h0
      have hpi : (0 : Int) < (ys.length : Int) := by omega
      clear hym hz
      go_wp2_with fail
      go_ret
      exact ⟨by rw [HCB.out]; rfl, HB2.out⟩
    case false =>
      have h0 : ys.length = 0 := hz.2 rfl
      have hys : ys = [] := List.eq_nil_of_length_eq_zero h0
      subst hys
      clear hym hz h0
      go_wp2_with fail
      refine Calls.mono (HC3.out _ HB2.out) ?_
      rintro e w3 ⟨hb3, v3, zs, rfl, hzz, hzl, hzm⟩
      obtain ⟨A3, c3, rfl, hzr⟩ := hzz
      have HB3 := Lib.hid (HB2.out.trans (hb3.mono HB2.out.size))
      have HZR := Lib.hid hzr
      have hzlen : zs.length ≤ 1048576 := by simpa using Nat.le_trans hzl (by simpa using hcnt)
      have HALL := Lib.hid (show t.datasL.all (hasDt l) = zs.all (hasDt l) from all_same fun x => by rw [hzm]; simp)
      clear hb3 y0 y1 y2 yl hzr hzm hzl
      go_wp2_with fail
      go_loopw [21] (fun iv wr => ∃ k : Nat, iv = .int .i64 k ∧ k ≤ zs.length ∧ Hid (Below w3.heap.size w3 wr) ∧ Hid ((zs.take k).all (hasDt l) = true)) (fun iv _ => zs.length - (intOf iv).toNat)
      case atStart => exact ⟨0, rfl, Nat.zero_le _, Below.refl _ _, Lib.hid rfl⟩
      case round =>
        obtain ⟨k, rfl, hk, HC, HM⟩ := hrel
        have HBW := Lib.hid (HB3.out.trans (HC.out.mono HB3.out.size))
        by_cases hlt : k < zs.length
        · obtain ⟨s, hs⟩ : ∃ s, zs[k]? = some s := ⟨_, List.getElem?_eq_getElem hlt⟩
          have hrow := row_stays HZR.out fun j hj => HC.out.block j (HZR.out.lt j hj).2
          obtain ⟨g, rfl, hc, -⟩ := row_cell hrow k (.string s) (by simp [hs])
          have HS := Lib.hid hs
          clear hs hrow
          go_wp2_with fail
          refine Calls.mono (HC4.out s _ HBW.out) ?_
          rintro e w4 ⟨rfl, hb4⟩
          have HB4 := Lib.hid (HC.out.trans (hb4.mono HC.out.size))
          clear hb4
          rw [dtFound_has]
          obtain ⟨fa, fb, fm, fk, hform⟩ := dtFound_form l s
          rw [hform]
          obtain ⟨r, hr⟩ : ∃ r, hasDt l s = r := ⟨_, rfl⟩
          rw [hr]
          have HR := Lib.hid hr
          clear hr hform
          cases r
          · go_wp2_with fail
            go_ret
            refine ⟨?_, (HB3.out.trans (HB4.out.mono HB3.out.size)).alloc (Nat.le_trans HB3.out.size HB4.out.size) _⟩
            rw [HCB.out, HALL.out, all_no HS.out HR.out]
            rfl
          · go_wp2_with fail
            exact ⟨⟨k + 1, by go_num, by omega, HB4.out.alloc HB4.out.size _, Lib.hid (all_take_succ HS.out HM.out HR.out)⟩, by simp [intOf]; omega⟩
        · have hk2 : k = zs.length := by omega
          have hm := HM.out
          rw [hk2, List.take_length] at hm
          have HM2 := Lib.hid hm
          clear hm hk2
          go_wp2_with fail
          go_ret
          refine ⟨?_, HBW.out⟩
          rw [HCB.out, HALL.out, HM2.out]
          rfl
end Go.Proofs.YtjeggkfgdhepaaaGreatDoor

/- The reference's SameType where the second type is the empty one. -/
set_option linter.unusedVariables false
set_option linter.unusedSimpArgs false
namespace Go.Proofs.YtjeggkfgdhepaaaGreatDoor
open Go.RowKit
open Go.Proofs

set_option maxRecDepth 100000 in
set_option maxHeartbeats 2000000 in
theorem rSameNil_any (A : Option Addr) (n c : Nat) (w : World) :
    Calls Tryz.prog 117 #[.slice A n c, .slice none 0 0] w fun e w' => e = .returned (.bool ((n : Int) == 0)) ∧ w = w' := by
  rcases Nat.eq_zero_or_pos n with h0 | h0
  · subst h0
    go_enter Tryz.func117, Tryz.ntmps117
    go_wp2_with fail
    go_loopw [13] (fun iv wr => iv = .int .i64 0 ∧ wr = w) (fun iv _ => 0)
    case atStart => exact ⟨rfl, rfl⟩
    case round =>
      obtain ⟨rfl, rfl⟩ := hrel
      go_wp2_with fail
      go_ret
      exact ⟨rfl, rfl⟩
  · have h1 : ((n : Int) == 0) = false := by simp; omega
    have h2 : ((n : Int) != 0) = true := by simp; omega
    rw [h1]
    go_enter Tryz.func117, Tryz.ntmps117
    go_wp2_with fail
    go_ret
    exact ⟨rfl, rfl⟩
set_option maxRecDepth 100000 in
set_option maxHeartbeats 2000000 in
theorem rSameZero_any (t : Ty) (w : World) :
    Calls Tryz.prog 77 #[t.val, .agg #[.string ⟨#[]⟩, .string ⟨#[]⟩, .slice none 0 0]] w fun e w' => e = .returned (.bool t.zero) ∧ Below w.heap.size w w' := by
  obtain ⟨d, n, A, c, l⟩ := t
  unfold Ty.zero Ty.val
  simp only [Ty.dof, Ty.name, Ty.at_, Ty.cap, Ty.args]
  have HC := Lib.hid (fun W => rSameNil_any A l.length c W)
  have HB0 := Lib.hid (((Below.refl w.heap.size w).alloc (Nat.le_refl _) (.cells #[.string d, .string n, .slice A l.length c] 25)).alloc (by simp) (.cells #[.string ⟨#[]⟩, .string ⟨#[]⟩, .slice none 0 0] 25))
  obtain ⟨b1, h1⟩ : ∃ b, (d.toList == []) = b := ⟨_, rfl⟩
  obtain ⟨b2, h2⟩ : ∃ b, (n.toList == []) = b := ⟨_, rfl⟩
  have h1' := (empty_both d).symm.trans h1
  have h2' := (empty_both n).symm.trans h2
  have he : (⟨#[]⟩ : ByteArray).toList = [] := empty_list
  rw [h1', h2']
  generalize ((l.length : Int) == 0) = b3 at HC ⊢
  cases b1
  · go_enter Tryz.func77, Tryz.ntmps77
    go_wp2_with fail
    go_ret
    exact ⟨rfl, HB0.out⟩
  cases b2
  · go_enter Tryz.func77, Tryz.ntmps77
    go_wp2_with fail
    go_ret
    exact ⟨rfl, HB0.out⟩
  · go_enter Tryz.func77, Tryz.ntmps77
    go_wp2_with fail
    refine Calls.mono (HC.out _) ?_
    rintro e w1 ⟨rfl, rfl⟩
    go_wp2_with fail
    go_ret
    exact ⟨by simp, HB0.out⟩
end Go.Proofs.YtjeggkfgdhepaaaGreatDoor

/- The reference's Sound: are datatypes right, and is a type one over them? -/
set_option linter.unusedVariables false
set_option linter.unusedSimpArgs false
namespace Go.Proofs.YtjeggkfgdhepaaaGreatDoor
open Go.RowKit
open Go.Proofs

/-- Two lists of texts, in two rows of the call's own. -/
structure TwoAt (B : Nat) (w : World) (At : Option Addr) (ct : Nat) (Ac : Option Addr) (cc : Nat) (ts cs : List ByteArray) : Prop where
  t : w.ownsRow B 9 1 (.slice At ts.length ct) ts.length (ts.map Value.string)
  c : w.ownsRow B 9 1 (.slice Ac cs.length cc) cs.length (cs.map Value.string)
  ne : ∀ k, (Value.slice At 0 0).ownBlock = some k → (Value.slice Ac 0 0).ownBlock ≠ some k
section
variable {B : Nat} {w w1 w2 : World} {At Ac : Option Addr} {ct cc : Nat} {ts cs : List ByteArray}
theorem TwoAt.keep (h : TwoAt B w At ct Ac cc ts cs) (hb : Below w.heap.size w w1) : TwoAt B w1 At ct Ac cc ts cs :=
  ⟨row_stays h.t fun k hk => hb.block k (h.t.lt k hk).2, row_stays h.c fun k hk => hb.block k (h.c.lt k hk).2, h.ne⟩
theorem TwoAt.nil (B : Nat) (w : World) : TwoAt B w none 0 none 0 [] [] := ⟨World.ownsRow_nil _ _ _ _, World.ownsRow_nil _ _ _ _, fun k hk => by cases hk⟩
theorem TwoAt.putT {s : ByteArray} {v : Value} (h : TwoAt B w At ct Ac cc ts cs) (hown : w2.ownsRow B 9 1 v (ts.length + 1) (ts.map Value.string ++ [.string s])) (hg : w.grownBy w2 (Value.slice At ts.length ct).ownBlock)
    (hor : v.ownBlock = (Value.slice At ts.length ct).ownBlock ∨ v.ownBlock = some w.heap.size) : ∃ A' c', v = .slice A' (ts ++ [s]).length c' ∧ TwoAt B w2 A' c' Ac cc (ts ++ [s]) cs := by
  obtain ⟨A', c', rfl, -⟩ := row_slice hown
  refine ⟨A', c', by simp, by simpa using hown, ?_, ?_⟩
  · refine h.c.kept hg ?_
    cases hc : (Value.slice Ac cs.length cc).ownBlock with
    | none => exact .inl rfl
    | some k =>
      right
      intro e
      exact h.ne k (own_eq.1 e.symm) (own_eq.1 hc)
  · intro k hk hk2
    rcases hor with ho | ho
    · rw [own_is, own_is (A := At)] at ho
      exact h.ne k (ho.symm.trans hk) hk2
    · rw [own_is] at ho
      have e : k = w.heap.size := Option.some.inj (hk.symm.trans ho)
      have := (h.c.lt k (own_eq.2 hk2)).2
      omega
theorem TwoAt.putC {s : ByteArray} {v : Value} (h : TwoAt B w At ct Ac cc ts cs) (hown : w2.ownsRow B 9 1 v (cs.length + 1) (cs.map Value.string ++ [.string s])) (hg : w.grownBy w2 (Value.slice Ac cs.length cc).ownBlock)
    (hor : v.ownBlock = (Value.slice Ac cs.length cc).ownBlock ∨ v.ownBlock = some w.heap.size) : ∃ A' c', v = .slice A' (cs ++ [s]).length c' ∧ TwoAt B w2 At ct A' c' ts (cs ++ [s]) := by
  obtain ⟨A', c', rfl, -⟩ := row_slice hown
  refine ⟨A', c', by simp, ?_, by simpa using hown, ?_⟩
  · refine h.t.kept hg ?_
    cases hc : (Value.slice At ts.length ct).ownBlock with
    | none => exact .inl rfl
    | some k =>
      right
      intro e
      exact h.ne k (own_eq.1 hc) (own_eq.1 e.symm)
  · intro k hk hk2
    rcases hor with ho | ho
    · rw [own_is, own_is (A := Ac)] at ho
      exact h.ne k hk (ho.symm.trans hk2)
    · rw [own_is] at ho
      have e : k = w.heap.size := Option.some.inj (hk2.symm.trans ho)
      have := (h.t.lt k (own_eq.2 hk)).2
      omega
end
theorem names_succ {l : List Dt} {k : Nat} {q : Dt} (h : l[k]? = some q) : (l.take (k + 1)).map Dt.name = (l.take k).map Dt.name ++ [q.name] := by rw [List.take_add_one, h]; simp
theorem cnames_succ {l : List Cn} {k : Nat} {q : Cn} (h : l[k]? = some q) : (l.take (k + 1)).map Cn.name = (l.take k).map Cn.name ++ [q.name] := by rw [List.take_add_one, h]; simp
theorem all_cons_succ {l : List Dt} {k : Nat} {q : Dt} (h : l[k]? = some q) : allCons (l.take (k + 1)) = allCons (l.take k) ++ q.cons := by unfold allCons; rw [List.take_add_one, h]; simp
theorem allCons_len {l : List Dt} (k : Nat) (hc : consN l l.length ≤ 1048576) : (allCons (l.take k)).length ≤ 1048576 := by
  have h1 := consN_le l k
  have h2 : (allCons (l.take k)).length = consN l k := by unfold allCons consN; rw [List.length_flatMap]
  omega
set_option maxRecDepth 100000 in
set_option maxHeartbeats 8000000 in
theorem sound_any (A : Option Addr) (l : List Dt) (c : Nat) (t : Ty) (w : World) (he : Env w) (h : DtsIn w.heap.size w A l) (ht : t.In w.heap.size w) (hcnt : t.count ≤ 1048576) (hcc : ∀ d ∈ l, ∀ x ∈ d.cons, x.ty.count ≤ 1048576) :
    Calls Tryz.prog 38 #[.slice A l.length c, t.val] w fun e w' => e = .returned (.bool (soundB l t)) ∧ Below w.heap.size w w' := by
  have HE := Lib.hid he
  have H := Lib.hid h
  have HT := Lib.hid ht
  have HCC := Lib.hid hcc
  have hl := h.len
  have hcons := Lib.hid h.cons
  have HC1 := Lib.hid (fun (n : ByteArray) (hn : n.size ≤ 1099511627776) (W : World) (hW : Below w.heap.size w W) => rIsCon_any n hn W (HE.out.next hW))
  have HC2 := Lib.hid (fun (u : Ty) (hu : u.In w.heap.size w) (huc : u.count ≤ 1048576) (W : World) (hW : Below w.heap.size w W) => closedIn_any A l c u W (HE.out.next hW) (H.out.next hW) (hu.next hW) huc)
  have HC3 := Lib.hid (fun (u : Ty) (hu : u.In w.heap.size w) (W : World) (hW : Below w.heap.size w W) => rPlain_any u W (hu.next hW))
  have HC4 := Lib.hid (fun (u : Ty) (W : World) => rSameZero_any u W)
  have HC5 := Lib.hid (fun (W : World) (B : Nat) (v : Value) (xs : List ByteArray) (ht : Texts B W v xs) (hlen : xs.length ≤ 1048576) => differ_any B W v xs ht hlen)
  clear he h ht hcc
  have HPOST := Lib.hid (fun (e : Ending) (w' : World) (b : Bool) (hb : Below w.heap.size w w') (h1 : soundB l t = b) (h2 : e = .returned (.bool b)) => (⟨by rw [h1]; exact h2, hb⟩ : e = .returned (.bool (soundB l t)) ∧ Below w.heap.size w w'))
  have HNO := Lib.hid (fun (e : Ending) (w' : World) (hb : Below w.heap.size w w') (h1 : l.all (dtOk l) = false) (h2 : e = .returned (.bool false)) => HPOST.out e w' false hb (by unfold soundB; rw [h1]; rfl) h2)
  have HRES := Lib.hid (show soundB l t = (l.all (dtOk l) && (distinctB (l.map Dt.name) && (distinctB ((allCons l).map Cn.name) && closedB l t))) from rfl)
  obtain ⟨i0, hi, hz0, hz1, hz2⟩ := info_parts infoStr
  have HB0 := Lib.hid ((Below.refl w.heap.size w).alloc (Nat.le_refl _) (.cells #[.string t.dof, .string t.name, .slice t.at_ t.args.length t.cap] 25))
  have HK := Lib.hid (Blk.new w #[.string t.dof, .string t.name, .slice t.at_ t.args.length t.cap] 25)
  unfold Ty.val at *
  go_enter Tryz.func38, Tryz.ntmps38
  go_wp2_with fail
  generalize w.alloc (.cells #[.string t.dof, .string t.name, .slice t.at_ t.args.length t.cap] 25) = w0 at HB0 HK ⊢
  go_loopw [13, 5, 6] (fun iv tv cv wr => ∃ (k : Nat) (ts cs : List ByteArray) (At Ac : Option Addr) (ct cc : Nat), iv = .int .i64 k ∧ k ≤ l.length ∧ tv = .slice At ts.length ct ∧ cv = .slice Ac cs.length cc ∧ Hid (Below w0.heap.size w0 wr) ∧ Hid (TwoAt w0.heap.size wr At ct Ac cc ts cs) ∧
      Hid (ts = (l.take k).map Dt.name) ∧ Hid (cs = (allCons (l.take k)).map Cn.name) ∧ Hid ((l.take k).all (dtOk l) = true)) (fun iv _ _ _ => l.length - (intOf iv).toNat)
  case atStart => exact ⟨0, [], [], none, none, 0, 0, rfl, Nat.zero_le _, rfl, rfl, Below.refl _ _, TwoAt.nil _ _, rfl, rfl, rfl⟩
  case round =>
    obtain ⟨k, ts, cs, At, Ac, ct, cc, rfl, hk, rfl, rfl, HC, HTW, HTS, HCS, HM⟩ := hrel
    have HBW := Lib.hid (HB0.out.trans (HC.out.mono HB0.out.size))
    by_cases hlt : k < l.length
    · obtain ⟨q, b0, off, hq, hmem, rfl, hb, x0, x1⟩ := Dt.arg_at H.out.row HBW.out hlt
      have HQ := Lib.hid hq
      have hqi := H.out.each q hmem
      have HQN := Lib.hid hqi.1
      have HQR := Lib.hid hqi.2.2.2.1
      have HQE := Lib.hid hqi.2.2.2.2
      have hqlen := hqi.2.1
      have HQC := Lib.hid (HCC.out q hmem)
      have HBQ := Lib.hid (HC.out.alloc HC.out.size (.cells #[.string q.name, .slice q.at_ q.cons.length q.cap] 111))
      have HKQ := Lib.hid (Blk.new wr #[.string q.name, .slice q.at_ q.cons.length q.cap] 111)
      have HTW1 := Lib.hid (HTW.out.keep (w1 := wr.alloc (.cells #[.string q.name, .slice q.at_ q.cons.length q.cap] 111)) ((Below.refl _ _).alloc (Nat.le_refl _) _))
      have HDK := Lib.hid (show dtOk l q = (kindB .con q.name && (decide (0 < q.cons.length) && q.cons.all (conOk l))) from rfl)
      have HBAD := Lib.hid (fun (h1 : dtOk l q = false) => all_no HQ.out h1)
      obtain ⟨kb, hkb⟩ : ∃ b, kindB .con q.name = b := ⟨_, rfl⟩
      have HC1q := Lib.hid (HC1.out q.name HQN.out)
      rw [hkb] at HC1q HDK
      clear hq hqi hkb
      cases kb
      case false =>
        go_wp2_with fail
        refine Calls.mono (HC1q.out _ (HB0.out.trans (HBQ.out.mono HB0.out.size))) ?_
        rintro e w1 ⟨rfl, hb1⟩
        have HB1 := Lib.hid (HBQ.out.trans (hb1.mono HBQ.out.size))
        clear hb1
        go_wp2_with fail
        go_ret
        exact HNO.out _ _ (HB0.out.trans (HB1.out.mono HB0.out.size)) (HBAD.out (by rw [HDK.out]; rfl)) rfl
      case true =>
        rcases Nat.eq_zero_or_pos q.cons.length with hpos | hpos
        · have hno : decide (0 < q.cons.length) = false := by rw [hpos]; rfl
          rw [hno] at HDK
          rw [hpos] at HKQ HBQ x1
          clear hno HTW1
          go_wp2_with fail
          refine Calls.mono (HC1q.out _ (HB0.out.trans (HBQ.out.mono HB0.out.size))) ?_
          rintro e w1 ⟨rfl, hb1⟩
          have HB1 := Lib.hid (HBQ.out.trans (hb1.mono HBQ.out.size))
          have HK1 := Lib.hid (HKQ.out.below hb1 HKQ.out.lt)
          obtain ⟨y0, y1⟩ := HK1.out.two
          have yl := HK1.out.lt
          clear hb1
          go_wp2_with fail
          go_ret
          exact HNO.out _ _ (HB0.out.trans (HB1.out.mono HB0.out.size)) (HBAD.out (by rw [HDK.out]; rfl)) rfl
        · have hyes : decide (0 < q.cons.length) = true := decide_eq_true hpos
          rw [hyes] at HDK
          have hneq : ((q.cons.length : Int) == 0) = false := by rw [beq_eq_false_iff_ne]; omega
          have HPOS := Lib.hid hpos
          clear hyes hpos
          go_wp2_with fail
          refine Calls.mono (HC1q.out _ (HB0.out.trans (HBQ.out.mono HB0.out.size))) ?_
          rintro e w1 ⟨rfl, hb1⟩
          have HB1 := Lib.hid (HBQ.out.trans (hb1.mono HBQ.out.size))
          have HK1 := Lib.hid (HKQ.out.below hb1 HKQ.out.lt)
          obtain ⟨y0, y1⟩ := HK1.out.two
          have yl := HK1.out.lt
          have HTW2 := Lib.hid (HTW1.out.keep hb1)
          have htl : ts.length ≤ 1048576 := by
            have := HTS.out
            rw [this, List.length_map, List.length_take]
            omega
          have hs1 := HB1.out.size
          clear hb1
          go_wp2_with (at_builtin; go_must (refine wpList_append_own_at _ rfl (.tmp 27) (.tmp 30) 53 rfl w0.heap.size 9 i0 _ 1 16 Tryz.underlying53 hi hz0 hz1 hz2 rfl (by decide) (.slice At ts.length ct) ts.length (ts.map Value.string) rfl ?own ⟨w1.heap.size, 0, none⟩ 1 1 [.string q.name] rfl rfl ?c1 ?c2 ?c3 ?c4 ?c5 ?_))
          case own => exact HTW2.out.t.alloc _
          case c1 => exact cell_one_at _ _ _ _ rfl
          case c2 => intro u hu; simp only [List.mem_singleton] at hu; subst hu; rfl
          case c3 => unfold maxLen; omega
          case c4 => omega
          case c5 => simp; omega
          intro v2 w2 hown hgrow _ hor
          obtain ⟨A2, c2, rfl, htw⟩ := TwoAt.putT (HTW2.out.keep ((Below.refl _ _).alloc (Nat.le_refl _) (.cells #[.string q.name] 9))) hown hgrow (by simpa using hor)
          have hltT := fun j hj => (HTW2.out.t.lt j hj)
          have HB2 := Lib.hid ((HB1.out.alloc hs1 (.cells #[.string q.name] 9)).grown hgrow (by simp; omega) (fun j hj => (hltT j hj).1))
          have hltT0 := fun j hj => (HTW.out.t.lt j hj)
          have hkq : w2.heap[wr.heap.size]? = w1.heap[wr.heap.size]? := by
            rw [hgrow.block wr.heap.size (by simp; omega) (fun e => by have := (hltT0 _ e.symm).2; omega)]
            exact Below.heap_alloc _ _ _ yl
          have HK2 := Lib.hid (show Blk w2 wr.heap.size #[.string q.name, .slice q.at_ q.cons.length q.cap] 111 from hkq.trans HK1.out)
          have HTW3 := Lib.hid htw
          have HTS2 := Lib.hid (show ts ++ [q.name] = (l.take (k + 1)).map Dt.name by rw [names_succ HQ.out, HTS.out])
          generalize hts2 : ts ++ [q.name] = ts2 at HTW3 HTS2 ⊢
          have htl2 : ts2.length ≤ 1048576 := by
            have := HTS2.out
            rw [this, List.length_map, List.length_take]
            omega
          clear hneq hown hgrow hor htw hltT hltT0 hkq y0 y1 yl hts2
          obtain ⟨y0, y1⟩ := HK2.out.two
          have yl := HK2.out.lt
          go_wp2_with fail
          obtain ⟨wx, rfl⟩ : ∃ wx : World, wx = wr := ⟨_, rfl⟩
          have HCS0 := Lib.hid (show cs = (allCons (l.take k)).map Cn.name ++ (q.cons.take 0).map Cn.name by simpa using HCS.out)
          go_loopw [35, 6] (fun jv cv wr => ∃ (j : Nat) (cs2 : List ByteArray) (Ac2 : Option Addr) (cc2 : Nat), jv = .int .i64 j ∧ j ≤ q.cons.length ∧ cv = .slice Ac2 cs2.length cc2 ∧ Hid (Below w0.heap.size w0 wr) ∧ Hid (TwoAt w0.heap.size wr A2 c2 Ac2 cc2 ts2 cs2) ∧
            Hid (cs2 = (allCons (l.take k)).map Cn.name ++ (q.cons.take j).map Cn.name) ∧ Hid ((q.cons.take j).all (conOk l) = true)) (fun jv _ _ => q.cons.length - (intOf jv).toNat)
          case atStart => exact ⟨0, cs, Ac, cc, rfl, Nat.zero_le _, rfl, HB2.out, HTW3.out, HCS0.out, rfl⟩
          case round =>
            obtain ⟨j, cs2, Ac2, cc2, rfl, hj, rfl, HI, HTI, HCI, HMI⟩ := hrel
            have HBI := Lib.hid (HB0.out.trans (HI.out.mono HB0.out.size))
            by_cases hjlt : j < q.cons.length
            · obtain ⟨cc0, b5, off5, hq5, hm5, hat5, hb5, z0, z1, z2, z3, z4⟩ := Cn.arg_at HQR.out HBI.out hjlt
              rw [hat5]
              have HQ5 := Lib.hid hq5
              have HN5 := Lib.hid (HQE.out cc0 hm5).1
              have HT5 := Lib.hid (HQE.out cc0 hm5).2
              have HX5 := Lib.hid (HQC.out cc0 hm5)
              have HC1c := Lib.hid (HC1.out cc0.name HN5.out)
              have HC2c := Lib.hid (HC2.out cc0.ty HT5.out HX5.out)
              have HC3c := Lib.hid (HC3.out cc0.ty HT5.out)
              have HC4c := Lib.hid (HC4.out cc0.ty)
              have HOK := Lib.hid (show conOk l cc0 = (kindB .con cc0.name && (!(cc0.has && (!closedB l cc0.ty || !cc0.ty.plain)) && !(!cc0.has && !cc0.ty.zero))) from rfl)
              have HBADC := Lib.hid (fun (h1 : conOk l cc0 = false) => HBAD.out (by rw [HDK.out, all_no HQ5.out h1]; rfl))
              have HBC := Lib.hid (HI.out.alloc HI.out.size (.cells #[.string cc0.name, .bool cc0.has, .string cc0.ty.dof, .string cc0.ty.name, .slice cc0.ty.at_ cc0.ty.args.length cc0.ty.cap] 117))
              have HBC0 := Lib.hid (HB0.out.trans (HBC.out.mono HB0.out.size))
              have HKC := Lib.hid (Blk.new wr #[.string cc0.name, .bool cc0.has, .string cc0.ty.dof, .string cc0.ty.name, .slice cc0.ty.at_ cc0.ty.args.length cc0.ty.cap] 117)
              have HTI1 := Lib.hid (HTI.out.keep (w1 := wr.alloc (.cells #[.string cc0.name, .bool cc0.has, .string cc0.ty.dof, .string cc0.ty.name, .slice cc0.ty.at_ cc0.ty.args.length cc0.ty.cap] 117)) ((Below.refl _ _).alloc (Nat.le_refl _) _))
              clear hq5
              generalize kindB .con cc0.name = kb at HC1c HOK
              generalize closedB l cc0.ty = cl at HC2c HOK
              generalize cc0.ty.plain = pl at HC3c HOK
              generalize cc0.ty.zero = ze at HC4c HOK
              generalize cc0.has = hs at z1 HOK HBC HBC0 HKC HTI1
              obtain ⟨ok, hoke⟩ : ∃ ok, conOk l cc0 = ok := ⟨_, rfl⟩
              rw [hoke] at HOK HBADC
              have HOKE := Lib.hid hoke.symm
              clear hoke
              cases kb
              case false =>
                go_wp2_with fail
                refine Calls.mono (HC1c.out _ HBC0.out) ?_
                rintro e w3 ⟨rfl, hb3⟩
                have HB3 := Lib.hid (HBC0.out.trans (hb3.mono HBC0.out.size))
                clear hb3
                go_wp2_with fail
                go_ret
                exact HNO.out _ _ HB3.out (HBADC.out (by rw [HOK.out]; rfl)) rfl
              have hcl2 : cs2.length ≤ 1048576 := by
                have h1 := HCI.out
                have h2 := allCons_len (l := l) (k + 1) hcons.out
                rw [all_cons_succ HQ.out, List.length_append] at h2
                rw [h1, List.length_append, List.length_map, List.length_map, List.length_take]
                omega
              cases hs
              case true =>
                cases cl
                case false =>
                  go_wp2_with fail
                  refine Calls.mono (HC1c.out _ HBC0.out) ?_
                  rintro e w3 ⟨rfl, hb3⟩
                  have HB3 := Lib.hid (HBC0.out.trans (hb3.mono HBC0.out.size))
                  have HK3 := Lib.hid (HKC.out.below hb3 HKC.out.lt)
                  obtain ⟨u0, u1, u2, u3, u4⟩ := HK3.out.five
                  have ul := HK3.out.lt
                  clear hb3
                  go_wp2_with fail
                  refine Calls.mono (HC2c.out _ HB3.out) ?_
                  rintro e w4 ⟨rfl, hb4⟩
                  have HB4 := Lib.hid (HB3.out.trans (hb4.mono HB3.out.size))
                  have HK4 := Lib.hid (HK3.out.below hb4 HK3.out.lt)
                  clear hb4 u0 u1 u2 u3 u4 ul
                  obtain ⟨u0, u1, u2, u3, u4⟩ := HK4.out.five
                  have ul := HK4.out.lt
                  go_wp2_with fail
                  go_ret
                  exact HNO.out _ _ HB4.out (HBADC.out (by rw [HOK.out]; rfl)) rfl
                case true =>
                  cases pl
                  case false =>
                    go_wp2_with fail
                    refine Calls.mono (HC1c.out _ HBC0.out) ?_
                    rintro e w3 ⟨rfl, hb3⟩
                    have HB3 := Lib.hid (HBC0.out.trans (hb3.mono HBC0.out.size))
                    have HK3 := Lib.hid (HKC.out.below hb3 HKC.out.lt)
                    obtain ⟨u0, u1, u2, u3, u4⟩ := HK3.out.five
                    have ul := HK3.out.lt
                    clear hb3
                    go_wp2_with fail
                    refine Calls.mono (HC2c.out _ HB3.out) ?_
                    rintro e w4 ⟨rfl, hb4⟩
                    have HB4 := Lib.hid (HB3.out.trans (hb4.mono HB3.out.size))
                    have HK4 := Lib.hid (HK3.out.below hb4 HK3.out.lt)
                    clear hb4 u0 u1 u2 u3 u4 ul
                    obtain ⟨u0, u1, u2, u3, u4⟩ := HK4.out.five
                    have ul := HK4.out.lt
                    go_wp2_with fail
                    refine Calls.mono (HC3c.out _ HB4.out) ?_
                    rintro e w5 ⟨rfl, hb5⟩
                    have HB5 := Lib.hid (HB4.out.trans (hb5.mono HB4.out.size))
                    have HK5 := Lib.hid (HK4.out.below hb5 HK4.out.lt)
                    clear hb5 u0 u1 u2 u3 u4 ul
                    obtain ⟨u0, u1, u2, u3, u4⟩ := HK5.out.five
                    have ul := HK5.out.lt
                    go_wp2_with fail
                    go_ret
                    exact HNO.out _ _ HB5.out (HBADC.out (by rw [HOK.out]; rfl)) rfl
                  case true =>
                    go_wp2_with fail
                    refine Calls.mono (HC1c.out _ HBC0.out) ?_
                    rintro e w3 ⟨rfl, hb3⟩
                    have HB3 := Lib.hid (HBC.out.trans (hb3.mono HBC.out.size))
                    have HK3 := Lib.hid (HKC.out.below hb3 HKC.out.lt)
                    have HT3 := Lib.hid (HTI1.out.keep hb3)
                    obtain ⟨u0, u1, u2, u3, u4⟩ := HK3.out.five
                    have ul := HK3.out.lt
                    clear hb3
                    go_wp2_with fail
                    refine Calls.mono (HC2c.out _ (HB0.out.trans (HB3.out.mono HB0.out.size))) ?_
                    rintro e w4 ⟨rfl, hb4⟩
                    have HB4 := Lib.hid (HB3.out.trans (hb4.mono HB3.out.size))
                    have HK4 := Lib.hid (HK3.out.below hb4 HK3.out.lt)
                    have HT4 := Lib.hid (HT3.out.keep hb4)
                    clear hb4 u0 u1 u2 u3 u4 ul
                    obtain ⟨u0, u1, u2, u3, u4⟩ := HK4.out.five
                    have ul := HK4.out.lt
                    go_wp2_with fail
                    refine Calls.mono (HC3c.out _ (HB0.out.trans (HB4.out.mono HB0.out.size))) ?_
                    rintro e w5 ⟨rfl, hb5⟩
                    have HB5 := Lib.hid (HB4.out.trans (hb5.mono HB4.out.size))
                    have HK5 := Lib.hid (HK4.out.below hb5 HK4.out.lt)
                    have HT5 := Lib.hid (HT4.out.keep hb5)
                    clear hb5 u0 u1 u2 u3 u4 ul
                    obtain ⟨u0, u1, u2, u3, u4⟩ := HK5.out.five
                    have ul := HK5.out.lt
                    have hs5 := HB5.out.size
                    go_wp2_with (at_builtin; go_must (refine wpList_append_own_at _ rfl (.tmp 72) (.tmp 75) 53 rfl w0.heap.size 9 i0 _ 1 16 Tryz.underlying53 hi hz0 hz1 hz2 rfl (by decide) (.slice Ac2 cs2.length cc2) cs2.length (cs2.map Value.string) rfl ?own2 ⟨w5.heap.size, 0, none⟩ 1 1 [.string cc0.name] rfl rfl ?d1 ?d2 ?d3 ?d4 ?d5 ?_))
                    case own2 => exact HT5.out.c.alloc _
                    case d1 => exact cell_one_at _ _ _ _ rfl
                    case d2 => intro u hu; simp only [List.mem_singleton] at hu; subst hu; rfl
                    case d3 => unfold maxLen; omega
                    case d4 => omega
                    case d5 => simp; omega
                    intro v6 w6 hown hgrow _ hor
                    obtain ⟨A9, c9, rfl, htw⟩ := TwoAt.putC (HT5.out.keep ((Below.refl _ _).alloc (Nat.le_refl _) (.cells #[.string cc0.name] 9))) hown hgrow (by simpa using hor)
                    have hltC := fun j hj => (HT5.out.c.lt j hj)
                    have HB6 := Lib.hid ((HB5.out.alloc hs5 (.cells #[.string cc0.name] 9)).grown hgrow (by simp; omega) (fun j hj => (hltC j hj).1))
                    have HT6 := Lib.hid htw
                    have HCI6 := Lib.hid (show cs2 ++ [cc0.name] = (allCons (l.take k)).map Cn.name ++ (q.cons.take (j + 1)).map Cn.name by rw [cnames_succ HQ5.out, HCI.out, List.append_assoc])
                    generalize hcs3 : cs2 ++ [cc0.name] = cs3 at HT6 HCI6 ⊢
                    clear hown hgrow hor htw hltC hcs3 u0 u1 u2 u3 u4 ul
                    go_wp2_with fail
                    exact ⟨⟨j + 1, cs3, A9, c9, by go_num, by omega, rfl, HB6.out, HT6.out, HCI6.out, Lib.hid (all_take_succ HQ5.out HMI.out (HOKE.out.symm.trans (by rw [HOK.out]; rfl)))⟩, by simp [intOf]; omega⟩
              case false =>
                cases ze
                case false =>
                  go_wp2_with fail
                  refine Calls.mono (HC1c.out _ HBC0.out) ?_
                  rintro e w3 ⟨rfl, hb3⟩
                  have HB3 := Lib.hid (HBC0.out.trans (hb3.mono HBC0.out.size))
                  have HK3 := Lib.hid (HKC.out.below hb3 HKC.out.lt)
                  obtain ⟨u0, u1, u2, u3, u4⟩ := HK3.out.five
                  have ul := HK3.out.lt
                  clear hb3
                  go_wp2_with fail
                  refine Calls.mono (HC4c.out _) ?_
                  rintro e w4 ⟨rfl, hb4⟩
                  have HB4 := Lib.hid (HB3.out.trans (hb4.mono HB3.out.size))
                  have HK4 := Lib.hid (HK3.out.below hb4 HK3.out.lt)
                  clear hb4 u0 u1 u2 u3 u4 ul
                  obtain ⟨u0, u1, u2, u3, u4⟩ := HK4.out.five
                  have ul := HK4.out.lt
                  go_wp2_with fail
                  go_ret
                  exact HNO.out _ _ HB4.out (HBADC.out (by rw [HOK.out]; rfl)) rfl
                case true =>
                  go_wp2_with fail
                  refine Calls.mono (HC1c.out _ HBC0.out) ?_
                  rintro e w3 ⟨rfl, hb3⟩
                  have HB3 := Lib.hid (HBC.out.trans (hb3.mono HBC.out.size))
                  have HK3 := Lib.hid (HKC.out.below hb3 HKC.out.lt)
                  have HT3 := Lib.hid (HTI1.out.keep hb3)
                  obtain ⟨u0, u1, u2, u3, u4⟩ := HK3.out.five
                  have ul := HK3.out.lt
                  clear hb3
                  go_wp2_with fail
                  refine Calls.mono (HC4c.out _) ?_
                  rintro e w5 ⟨rfl, hb5⟩
                  have HB5 := Lib.hid (HB3.out.trans (hb5.mono HB3.out.size))
                  have HK5 := Lib.hid (HK3.out.below hb5 HK3.out.lt)
                  have HT5 := Lib.hid (HT3.out.keep hb5)
                  clear hb5 u0 u1 u2 u3 u4 ul
                  obtain ⟨u0, u1, u2, u3, u4⟩ := HK5.out.five
                  have ul := HK5.out.lt
                  have hs5 := HB5.out.size
                  go_wp2_with (at_builtin; go_must (refine wpList_append_own_at _ rfl (.tmp 72) (.tmp 75) 53 rfl w0.heap.size 9 i0 _ 1 16 Tryz.underlying53 hi hz0 hz1 hz2 rfl (by decide) (.slice Ac2 cs2.length cc2) cs2.length (cs2.map Value.string) rfl ?own2 ⟨w5.heap.size, 0, none⟩ 1 1 [.string cc0.name] rfl rfl ?d1 ?d2 ?d3 ?d4 ?d5 ?_))
                  case own2 => exact HT5.out.c.alloc _
                  case d1 => exact cell_one_at _ _ _ _ rfl
                  case d2 => intro u hu; simp only [List.mem_singleton] at hu; subst hu; rfl
                  case d3 => unfold maxLen; omega
                  case d4 => omega
                  case d5 => simp; omega
                  intro v6 w6 hown hgrow _ hor
                  obtain ⟨A9, c9, rfl, htw⟩ := TwoAt.putC (HT5.out.keep ((Below.refl _ _).alloc (Nat.le_refl _) (.cells #[.string cc0.name] 9))) hown hgrow (by simpa using hor)
                  have hltC := fun j hj => (HT5.out.c.lt j hj)
                  have HB6 := Lib.hid ((HB5.out.alloc hs5 (.cells #[.string cc0.name] 9)).grown hgrow (by simp; omega) (fun j hj => (hltC j hj).1))
                  have HT6 := Lib.hid htw
                  have HCI6 := Lib.hid (show cs2 ++ [cc0.name] = (allCons (l.take k)).map Cn.name ++ (q.cons.take (j + 1)).map Cn.name by rw [cnames_succ HQ5.out, HCI.out, List.append_assoc])
                  generalize hcs3 : cs2 ++ [cc0.name] = cs3 at HT6 HCI6 ⊢
                  clear hown hgrow hor htw hltC hcs3 u0 u1 u2 u3 u4 ul
                  go_wp2_with fail
                  exact ⟨⟨j + 1, cs3, A9, c9, by go_num, by omega, rfl, HB6.out, HT6.out, HCI6.out, Lib.hid (all_take_succ HQ5.out HMI.out (HOKE.out.symm.trans (by rw [HOK.out]; rfl)))⟩, by simp [intOf]; omega⟩
            · have hj2 : j = q.cons.length := by omega
              have hci := HCI.out
              have hmi := HMI.out
              rw [hj2, List.take_length] at hci hmi
              have HCI2 := Lib.hid (show cs2 = (allCons (l.take (k + 1))).map Cn.name by rw [hci, all_cons_succ HQ.out, List.map_append])
              have HDOK := Lib.hid (show dtOk l q = true by rw [HDK.out, hmi]; rfl)
              clear hci hmi hj2
              go_wp2_with fail
              exact ⟨⟨k + 1, ts2, cs2, A2, Ac2, c2, cc2, by go_num, by omega, rfl, rfl, HI.out, HTI.out, HTS2.out, HCI2.out, Lib.hid (all_take_succ HQ.out HM.out HDOK.out)⟩, by simp [intOf]; omega⟩
    · have hk2 : k = l.length := by omega
      have hts := HTS.out
      have hcs := HCS.out
      have hm := HM.out
      rw [hk2, List.take_length] at hts hcs hm
      have HTS2 := Lib.hid hts
      have HCS2 := Lib.hid hcs
      have HALL := Lib.hid hm
      have htl : ts.length ≤ 1048576 := by rw [hts, List.length_map]; exact hl
      have hcl : cs.length ≤ 1048576 := by
        have h2 := allCons_len (l := l) l.length hcons.out
        rw [List.take_length] at h2
        rw [hcs, List.length_map]
        exact h2
      have HTT := Lib.hid (show Texts w0.heap.size wr (.slice At ts.length ct) ts from ⟨At, ct, rfl, HTW.out.t⟩)
      have HTC := Lib.hid (show Texts w0.heap.size wr (.slice Ac cs.length cc) cs from ⟨Ac, cc, rfl, HTW.out.c⟩)
      have HD1 := Lib.hid (fun (W : World) (ht : Texts w0.heap.size W (.slice At ts.length ct) ts) => HC5.out W _ _ _ ht htl)
      have HD2 := Lib.hid (fun (W : World) (ht : Texts w0.heap.size W (.slice Ac cs.length cc) cs) => HC5.out W _ _ _ ht hcl)
      have HCT := Lib.hid (HC2.out t HT.out hcnt)
      have HRS := Lib.hid (show soundB l t = (distinctB ts && (distinctB cs && closedB l t)) by rw [HRES.out, HALL.out, HTS2.out, HCS2.out]; rfl)
      have HKR := Lib.hid (HK.out.below HC.out HK.out.lt)
      obtain ⟨y0, y1, y2⟩ := HKR.out.three
      have yl := HKR.out.lt
      clear hts hcs hm hk2
      generalize distinctB ts = d1 at HD1 HRS
      generalize distinctB cs = d2 at HD2 HRS
      generalize closedB l t = d3 at HCT HRS
      cases d1
      case false =>
        go_wp2_with fail
        refine Calls.mono (HD1.out _ HTT.out) ?_
        rintro e w3 ⟨rfl, rfl⟩
        go_wp2_with fail
        go_ret
        exact HPOST.out _ _ _ HBW.out (by rw [HRS.out]; rfl) rfl
      case true =>
        cases d2
        case false =>
          go_wp2_with fail
          refine Calls.mono (HD1.out _ HTT.out) ?_
          rintro e w3 ⟨rfl, rfl⟩
          go_wp2_with fail
          refine Calls.mono (HD2.out _ HTC.out) ?_
          rintro e w4 ⟨rfl, rfl⟩
          go_wp2_with fail
          go_ret
          exact HPOST.out _ _ _ HBW.out (by rw [HRS.out]; rfl) rfl
        case true =>
          go_wp2_with fail
          refine Calls.mono (HD1.out _ HTT.out) ?_
          rintro e w3 ⟨rfl, rfl⟩
          go_wp2_with fail
          refine Calls.mono (HD2.out _ HTC.out) ?_
          rintro e w4 ⟨rfl, rfl⟩
          go_wp2_with fail
          refine Calls.mono (HCT.out _ HBW.out) ?_
          rintro e w5 ⟨rfl, hb5⟩
          have HB5 := Lib.hid (HBW.out.trans (hb5.mono HBW.out.size))
          clear hb5
          go_wp2_with fail
          go_ret
          exact HPOST.out _ _ _ HB5.out (HRS.out.trans rfl) (by simp)
end Go.Proofs.YtjeggkfgdhepaaaGreatDoor
