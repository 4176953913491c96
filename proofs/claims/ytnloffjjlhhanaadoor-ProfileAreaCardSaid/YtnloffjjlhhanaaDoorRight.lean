/- Events, once more, at a later world. -/
import Derived.Test.YtnloffjjlhhanaaDoorPure
set_option linter.unusedVariables false
set_option linter.unusedSimpArgs false
namespace Go.Proofs.YtnloffjjlhhanaaDoor
open Go.RowKit
open Go.Proofs

theorem Evs.rebase {B : Nat} {w w' : World} {A : Option Addr} {l : List Ev} (h : Evs B w A l) (hf : Fr No w w') : Evs w'.heap.size w' A l := fun i e he => by
  obtain ⟨b, off, hA, -, hbl, h4⟩ := h.fr0 hf i e he
  exact ⟨b, off, hA, hbl, hbl, h4⟩
end Go.Proofs.YtnloffjjlhhanaaDoor
