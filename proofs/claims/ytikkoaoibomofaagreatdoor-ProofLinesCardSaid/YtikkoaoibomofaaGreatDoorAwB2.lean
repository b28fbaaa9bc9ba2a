/-
  Hallmarkkept's Book: a kind's growing lists and the store about the book. No condition.
-/
import Derived.Test.YtikkoaoibomofaaGreatDoorAwB1
set_option maxRecDepth 100000
set_option linter.unusedVariables false
set_option linter.unusedSimpArgs false
namespace Go.Proofs.YtikkoaoibomofaaGreatDoor.Aw
open Go Go.RowKit

abbrev intT : Nat := 3
structure KL where
  out : AccL
  told : AccL
  waits : AccL
  note : AccL
  fresh : AccL
  mark : AccL
  due : AccL
  from_ : AccL
  seen : Int
def KL.kind (k : KL) : KindA := ⟨k.out.av, k.told.av, k.waits.av, k.note.av, k.fresh.av, k.mark.av, k.due.av, k.from_.av, .int .i64 k.seen⟩
def KL.empty : KL := ⟨.empty, .empty, .empty, .empty, .empty, .empty, .empty, .empty, 0⟩
def KL.fp (k : KL) (tS : TypeId) : List (Nat × Own) := k.out.fp tS ++ (k.told.fp tS ++ (k.waits.fp tS ++ (k.note.fp tS ++ (k.fresh.fp tS ++ (k.mark.fp intT ++ (k.due.fp intT ++ (k.from_.fp intT)))))))
def KindA.cells (k : KindA) : List AV := [k.out, k.told, k.waits, k.note, k.fresh, k.mark, k.due, k.from_, k.seen]
theorem KL.zero_le : leL KindA.zero.cells KL.empty.kind.cells := ⟨rfl, rfl, rfl, rfl, rfl, rfl, rfl, rfl, rfl, trivial⟩
theorem BookA.leL_ints (B : BookA) {K K' : KindA} (h : leL K.cells K'.cells) : leL { B with ints := K }.cells { B with ints := K' }.cells := by
  obtain ⟨h1, h2, h3, h4, h5, h6, h7, h8, h9, _⟩ := h
  exact ⟨AV.le_refl _, AV.le_refl _, AV.le_refl _, AV.le_refl _, h1, h2, h3, h4, h5, h6, h7, h8, h9, AV.le_refl _, AV.le_refl _, AV.le_refl _, AV.le_refl _, AV.le_refl _, AV.le_refl _, AV.le_refl _, AV.le_refl _, AV.le_refl _, AV.le_refl _, AV.le_refl _, AV.le_refl _, AV.le_refl _, AV.le_refl _, AV.le_refl _, AV.le_refl _, AV.le_refl _, AV.le_refl _, AV.le_refl _, AV.le_refl _, AV.le_refl _, AV.le_refl _, AV.le_refl _, AV.le_refl _, AV.le_refl _, AV.le_refl _, AV.le_refl _, AV.le_refl _, AV.le_refl _, AV.le_refl _, AV.le_refl _, AV.le_refl _, AV.le_refl _, AV.le_refl _, AV.le_refl _, AV.le_refl _, AV.le_refl _, AV.le_refl _, AV.le_refl _, AV.le_refl _, AV.le_refl _, AV.le_refl _, AV.le_refl _, AV.le_refl _, AV.le_refl _, AV.le_refl _, AV.le_refl _, AV.le_refl _, AV.le_refl _, AV.le_refl _, AV.le_refl _, AV.le_refl _, AV.le_refl _, AV.le_refl _, AV.le_refl _, AV.le_refl _, AV.le_refl _, AV.le_refl _, AV.le_refl _, AV.le_refl _, AV.le_refl _, AV.le_refl _, AV.le_refl _, AV.le_refl _, AV.le_refl _, AV.le_refl _, AV.le_refl _, AV.le_refl _, AV.le_refl _, AV.le_refl _, AV.le_refl _, AV.le_refl _, AV.le_refl _, AV.le_refl _, AV.le_refl _, AV.le_refl _, AV.le_refl _, AV.le_refl _, AV.le_refl _, AV.le_refl _, AV.le_refl _, AV.le_refl _, AV.le_refl _, AV.le_refl _, AV.le_refl _, AV.le_refl _, AV.le_refl _, AV.le_refl _, AV.le_refl _, AV.le_refl _, AV.le_refl _, AV.le_refl _, AV.le_refl _, AV.le_refl _, AV.le_refl _, AV.le_refl _, AV.le_refl _, AV.le_refl _, AV.le_refl _, AV.le_refl _, AV.le_refl _, AV.le_refl _, AV.le_refl _, AV.le_refl _, AV.le_refl _, AV.le_refl _, AV.le_refl _, AV.le_refl _, AV.le_refl _, AV.le_refl _, AV.le_refl _, AV.le_refl _, AV.le_refl _, AV.le_refl _, AV.le_refl _, AV.le_refl _, AV.le_refl _, AV.le_refl _, AV.le_refl _, AV.le_refl _, AV.le_refl _, AV.le_refl _, AV.le_refl _, AV.le_refl _, AV.le_refl _, AV.le_refl _, trivial⟩
theorem BookA.leL_texts (B : BookA) {K K' : KindA} (h : leL K.cells K'.cells) : leL { B with texts := K }.cells { B with texts := K' }.cells := by
  obtain ⟨h1, h2, h3, h4, h5, h6, h7, h8, h9, _⟩ := h
  exact ⟨AV.le_refl _, AV.le_refl _, AV.le_refl _, AV.le_refl _, AV.le_refl _, AV.le_refl _, AV.le_refl _, AV.le_refl _, AV.le_refl _, AV.le_refl _, AV.le_refl _, AV.le_refl _, AV.le_refl _, h1, h2, h3, h4, h5, h6, h7, h8, h9, AV.le_refl _, AV.le_refl _, AV.le_refl _, AV.le_refl _, AV.le_refl _, AV.le_refl _, AV.le_refl _, AV.le_refl _, AV.le_refl _, AV.le_refl _, AV.le_refl _, AV.le_refl _, AV.le_refl _, AV.le_refl _, AV.le_refl _, AV.le_refl _, AV.le_refl _, AV.le_refl _, AV.le_refl _, AV.le_refl _, AV.le_refl _, AV.le_refl _, AV.le_refl _, AV.le_refl _, AV.le_refl _, AV.le_refl _, AV.le_refl _, AV.le_refl _, AV.le_refl _, AV.le_refl _, AV.le_refl _, AV.le_refl _, AV.le_refl _, AV.le_refl _, AV.le_refl _, AV.le_refl _, AV.le_refl _, AV.le_refl _, AV.le_refl _, AV.le_refl _, AV.le_refl _, AV.le_refl _, AV.le_refl _, AV.le_refl _, AV.le_refl _, AV.le_refl _, AV.le_refl _, AV.le_refl _, AV.le_refl _, AV.le_refl _, AV.le_refl _, AV.le_refl _, AV.le_refl _, AV.le_refl _, AV.le_refl _, AV.le_refl _, AV.le_refl _, AV.le_refl _, AV.le_refl _, AV.le_refl _, AV.le_refl _, AV.le_refl _, AV.le_refl _, AV.le_refl _, AV.le_refl _, AV.le_refl _, AV.le_refl _, AV.le_refl _, AV.le_refl _, AV.le_refl _, AV.le_refl _, AV.le_refl _, AV.le_refl _, AV.le_refl _, AV.le_refl _, AV.le_refl _, AV.le_refl _, AV.le_refl _, AV.le_refl _, AV.le_refl _, AV.le_refl _, AV.le_refl _, AV.le_refl _, AV.le_refl _, AV.le_refl _, AV.le_refl _, AV.le_refl _, AV.le_refl _, AV.le_refl _, AV.le_refl _, AV.le_refl _, AV.le_refl _, AV.le_refl _, AV.le_refl _, AV.le_refl _, AV.le_refl _, AV.le_refl _, AV.le_refl _, AV.le_refl _, AV.le_refl _, AV.le_refl _, AV.le_refl _, AV.le_refl _, AV.le_refl _, AV.le_refl _, AV.le_refl _, AV.le_refl _, AV.le_refl _, AV.le_refl _, AV.le_refl _, AV.le_refl _, AV.le_refl _, AV.le_refl _, AV.le_refl _, AV.le_refl _, AV.le_refl _, AV.le_refl _, trivial⟩
theorem BookA.leL_terms (B : BookA) {K K' : KindA} (h : leL K.cells K'.cells) : leL { B with terms := K }.cells { B with terms := K' }.cells := by
  obtain ⟨h1, h2, h3, h4, h5, h6, h7, h8, h9, _⟩ := h
  exact ⟨AV.le_refl _, AV.le_refl _, AV.le_refl _, AV.le_refl _, AV.le_refl _, AV.le_refl _, AV.le_refl _, AV.le_refl _, AV.le_refl _, AV.le_refl _, AV.le_refl _, AV.le_refl _, AV.le_refl _, AV.le_refl _, AV.le_refl _, AV.le_refl _, AV.le_refl _, AV.le_refl _, AV.le_refl _, AV.le_refl _, AV.le_refl _, AV.le_refl _, h1, h2, h3, h4, h5, h6, h7, h8, h9, AV.le_refl _, AV.le_refl _, AV.le_refl _, AV.le_refl _, AV.le_refl _, AV.le_refl _, AV.le_refl _, AV.le_refl _, AV.le_refl _, AV.le_refl _, AV.le_refl _, AV.le_refl _, AV.le_refl _, AV.le_refl _, AV.le_refl _, AV.le_refl _, AV.le_refl _, AV.le_refl _, AV.le_refl _, AV.le_refl _, AV.le_refl _, AV.le_refl _, AV.le_refl _, AV.le_refl _, AV.le_refl _, AV.le_refl _, AV.le_refl _, AV.le_refl _, AV.le_refl _, AV.le_refl _, AV.le_refl _, AV.le_refl _, AV.le_refl _, AV.le_refl _, AV.le_refl _, AV.le_refl _, AV.le_refl _, AV.le_refl _, AV.le_refl _, AV.le_refl _, AV.le_refl _, AV.le_refl _, AV.le_refl _, AV.le_refl _, AV.le_refl _, AV.le_refl _, AV.le_refl _, AV.le_refl _, AV.le_refl _, AV.le_refl _, AV.le_refl _, AV.le_refl _, AV.le_refl _, AV.le_refl _, AV.le_refl _, AV.le_refl _, AV.le_refl _, AV.le_refl _, AV.le_refl _, AV.le_refl _, AV.le_refl _, AV.le_refl _, AV.le_refl _, AV.le_refl _, AV.le_refl _, AV.le_refl _, AV.le_refl _, AV.le_refl _, AV.le_refl _, AV.le_refl _, AV.le_refl _, AV.le_refl _, AV.le_refl _, AV.le_refl _, AV.le_refl _, AV.le_refl _, AV.le_refl _, AV.le_refl _, AV.le_refl _, AV.le_refl _, AV.le_refl _, AV.le_refl _, AV.le_refl _, AV.le_refl _, AV.le_refl _, AV.le_refl _, AV.le_refl _, AV.le_refl _, AV.le_refl _, AV.le_refl _, AV.le_refl _, AV.le_refl _, AV.le_refl _, AV.le_refl _, AV.le_refl _, AV.le_refl _, AV.le_refl _, AV.le_refl _, AV.le_refl _, AV.le_refl _, AV.le_refl _, AV.le_refl _, AV.le_refl _, AV.le_refl _, AV.le_refl _, AV.le_refl _, AV.le_refl _, AV.le_refl _, trivial⟩
theorem BookA.leL_vars (B : BookA) {K K' : KindA} (h : leL K.cells K'.cells) : leL { B with vars := K }.cells { B with vars := K' }.cells := by
  obtain ⟨h1, h2, h3, h4, h5, h6, h7, h8, h9, _⟩ := h
  exact ⟨AV.le_refl _, AV.le_refl _, AV.le_refl _, AV.le_refl _, AV.le_refl _, AV.le_refl _, AV.le_refl _, AV.le_refl _, AV.le_refl _, AV.le_refl _, AV.le_refl _, AV.le_refl _, AV.le_refl _, AV.le_refl _, AV.le_refl _, AV.le_refl _, AV.le_refl _, AV.le_refl _, AV.le_refl _, AV.le_refl _, AV.le_refl _, AV.le_refl _, AV.le_refl _, AV.le_refl _, AV.le_refl _, AV.le_refl _, AV.le_refl _, AV.le_refl _, AV.le_refl _, AV.le_refl _, AV.le_refl _, h1, h2, h3, h4, h5, h6, h7, h8, h9, AV.le_refl _, AV.le_refl _, AV.le_refl _, AV.le_refl _, AV.le_refl _, AV.le_refl _, AV.le_refl _, AV.le_refl _, AV.le_refl _, AV.le_refl _, AV.le_refl _, AV.le_refl _, AV.le_refl _, AV.le_refl _, AV.le_refl _, AV.le_refl _, AV.le_refl _, AV.le_refl _, AV.le_refl _, AV.le_refl _, AV.le_refl _, AV.le_refl _, AV.le_refl _, AV.le_refl _, AV.le_refl _, AV.le_refl _, AV.le_refl _, AV.le_refl _, AV.le_refl _, AV.le_refl _, AV.le_refl _, AV.le_refl _, AV.le_refl _, AV.le_refl _, AV.le_refl _, AV.le_refl _, AV.le_refl _, AV.le_refl _, AV.le_refl _, AV.le_refl _, AV.le_refl _, AV.le_refl _, AV.le_refl _, AV.le_refl _, AV.le_refl _, AV.le_refl _, AV.le_refl _, AV.le_refl _, AV.le_refl _, AV.le_refl _, AV.le_refl _, AV.le_refl _, AV.le_refl _, AV.le_refl _, AV.le_refl _, AV.le_refl _, AV.le_refl _, AV.le_refl _, AV.le_refl _, AV.le_refl _, AV.le_refl _, AV.le_refl _, AV.le_refl _, AV.le_refl _, AV.le_refl _, AV.le_refl _, AV.le_refl _, AV.le_refl _, AV.le_refl _, AV.le_refl _, AV.le_refl _, AV.le_refl _, AV.le_refl _, AV.le_refl _, AV.le_refl _, AV.le_refl _, AV.le_refl _, AV.le_refl _, AV.le_refl _, AV.le_refl _, AV.le_refl _, AV.le_refl _, AV.le_refl _, AV.le_refl _, AV.le_refl _, AV.le_refl _, AV.le_refl _, AV.le_refl _, AV.le_refl _, AV.le_refl _, AV.le_refl _, AV.le_refl _, AV.le_refl _, AV.le_refl _, AV.le_refl _, AV.le_refl _, AV.le_refl _, AV.le_refl _, AV.le_refl _, trivial⟩
theorem BookA.leL_pieces (B : BookA) {K K' : KindA} (h : leL K.cells K'.cells) : leL { B with pieces := K }.cells { B with pieces := K' }.cells := by
  obtain ⟨h1, h2, h3, h4, h5, h6, h7, h8, h9, _⟩ := h
  exact ⟨AV.le_refl _, AV.le_refl _, AV.le_refl _, AV.le_refl _, AV.le_refl _, AV.le_refl _, AV.le_refl _, AV.le_refl _, AV.le_refl _, AV.le_refl _, AV.le_refl _, AV.le_refl _, AV.le_refl _, AV.le_refl _, AV.le_refl _, AV.le_refl _, AV.le_refl _, AV.le_refl _, AV.le_refl _, AV.le_refl _, AV.le_refl _, AV.le_refl _, AV.le_refl _, AV.le_refl _, AV.le_refl _, AV.le_refl _, AV.le_refl _, AV.le_refl _, AV.le_refl _, AV.le_refl _, AV.le_refl _, AV.le_refl _, AV.le_refl _, AV.le_refl _, AV.le_refl _, AV.le_refl _, AV.le_refl _, AV.le_refl _, AV.le_refl _, AV.le_refl _, h1, h2, h3, h4, h5, h6, h7, h8, h9, AV.le_refl _, AV.le_refl _, AV.le_refl _, AV.le_refl _, AV.le_refl _, AV.le_refl _, AV.le_refl _, AV.le_refl _, AV.le_refl _, AV.le_refl _, AV.le_refl _, AV.le_refl _, AV.le_refl _, AV.le_refl _, AV.le_refl _, AV.le_refl _, AV.le_refl _, AV.le_refl _, AV.le_refl _, AV.le_refl _, AV.le_refl _, AV.le_refl _, AV.le_refl _, AV.le_refl _, AV.le_refl _, AV.le_refl _, AV.le_refl _, AV.le_refl _, AV.le_refl _, AV.le_refl _, AV.le_refl _, AV.le_refl _, AV.le_refl _, AV.le_refl _, AV.le_refl _, AV.le_refl _, AV.le_refl _, AV.le_refl _, AV.le_refl _, AV.le_refl _, AV.le_refl _, AV.le_refl _, AV.le_refl _, AV.le_refl _, AV.le_refl _, AV.le_refl _, AV.le_refl _, AV.le_refl _, AV.le_refl _, AV.le_refl _, AV.le_refl _, AV.le_refl _, AV.le_refl _, AV.le_refl _, AV.le_refl _, AV.le_refl _, AV.le_refl _, AV.le_refl _, AV.le_refl _, AV.le_refl _, AV.le_refl _, AV.le_refl _, AV.le_refl _, AV.le_refl _, AV.le_refl _, AV.le_refl _, AV.le_refl _, AV.le_refl _, AV.le_refl _, AV.le_refl _, AV.le_refl _, AV.le_refl _, AV.le_refl _, AV.le_refl _, AV.le_refl _, AV.le_refl _, AV.le_refl _, AV.le_refl _, AV.le_refl _, AV.le_refl _, AV.le_refl _, AV.le_refl _, AV.le_refl _, AV.le_refl _, AV.le_refl _, AV.le_refl _, AV.le_refl _, AV.le_refl _, AV.le_refl _, AV.le_refl _, trivial⟩
theorem BookA.leL_ops (B : BookA) {K K' : KindA} (h : leL K.cells K'.cells) : leL { B with ops := K }.cells { B with ops := K' }.cells := by
  obtain ⟨h1, h2, h3, h4, h5, h6, h7, h8, h9, _⟩ := h
  exact ⟨AV.le_refl _, AV.le_refl _, AV.le_refl _, AV.le_refl _, AV.le_refl _, AV.le_refl _, AV.le_refl _, AV.le_refl _, AV.le_refl _, AV.le_refl _, AV.le_refl _, AV.le_refl _, AV.le_refl _, AV.le_refl _, AV.le_refl _, AV.le_refl _, AV.le_refl _, AV.le_refl _, AV.le_refl _, AV.le_refl _, AV.le_refl _, AV.le_refl _, AV.le_refl _, AV.le_refl _, AV.le_refl _, AV.le_refl _, AV.le_refl _, AV.le_refl _, AV.le_refl _, AV.le_refl _, AV.le_refl _, AV.le_refl _, AV.le_refl _, AV.le_refl _, AV.le_refl _, AV.le_refl _, AV.le_refl _, AV.le_refl _, AV.le_refl _, AV.le_refl _, AV.le_refl _, AV.le_refl _, AV.le_refl _, AV.le_refl _, AV.le_refl _, AV.le_refl _, AV.le_refl _, AV.le_refl _, AV.le_refl _, h1, h2, h3, h4, h5, h6, h7, h8, h9, AV.le_refl _, AV.le_refl _, AV.le_refl _, AV.le_refl _, AV.le_refl _, AV.le_refl _, AV.le_refl _, AV.le_refl _, AV.le_refl _, AV.le_refl _, AV.le_refl _, AV.le_refl _, AV.le_refl _, AV.le_refl _, AV.le_refl _, AV.le_refl _, AV.le_refl _, AV.le_refl _, AV.le_refl _, AV.le_refl _, AV.le_refl _, AV.le_refl _, AV.le_refl _, AV.le_refl _, AV.le_refl _, AV.le_refl _, AV.le_refl _, AV.le_refl _, AV.le_refl _, AV.le_refl _, AV.le_refl _, AV.le_refl _, AV.le_refl _, AV.le_refl _, AV.le_refl _, AV.le_refl _, AV.le_refl _, AV.le_refl _, AV.le_refl _, AV.le_refl _, AV.le_refl _, AV.le_refl _, AV.le_refl _, AV.le_refl _, AV.le_refl _, AV.le_refl _, AV.le_refl _, AV.le_refl _, AV.le_refl _, AV.le_refl _, AV.le_refl _, AV.le_refl _, AV.le_refl _, AV.le_refl _, AV.le_refl _, AV.le_refl _, AV.le_refl _, AV.le_refl _, AV.le_refl _, AV.le_refl _, AV.le_refl _, AV.le_refl _, AV.le_refl _, AV.le_refl _, AV.le_refl _, AV.le_refl _, AV.le_refl _, AV.le_refl _, AV.le_refl _, AV.le_refl _, AV.le_refl _, AV.le_refl _, AV.le_refl _, AV.le_refl _, AV.le_refl _, AV.le_refl _, AV.le_refl _, AV.le_refl _, AV.le_refl _, AV.le_refl _, AV.le_refl _, trivial⟩
theorem BookA.leL_cuts (B : BookA) {K K' : KindA} (h : leL K.cells K'.cells) : leL { B with cuts := K }.cells { B with cuts := K' }.cells := by
  obtain ⟨h1, h2, h3, h4, h5, h6, h7, h8, h9, _⟩ := h
  exact ⟨AV.le_refl _, AV.le_refl _, AV.le_refl _, AV.le_refl _, AV.le_refl _, AV.le_refl _, AV.le_refl _, AV.le_refl _, AV.le_refl _, AV.le_refl _, AV.le_refl _, AV.le_refl _, AV.le_refl _, AV.le_refl _, AV.le_refl _, AV.le_refl _, AV.le_refl _, AV.le_refl _, AV.le_refl _, AV.le_refl _, AV.le_refl _, AV.le_refl _, AV.le_refl _, AV.le_refl _, AV.le_refl _, AV.le_refl _, AV.le_refl _, AV.le_refl _, AV.le_refl _, AV.le_refl _, AV.le_refl _, AV.le_refl _, AV.le_refl _, AV.le_refl _, AV.le_refl _, AV.le_refl _, AV.le_refl _, AV.le_refl _, AV.le_refl _, AV.le_refl _, AV.le_refl _, AV.le_refl _, AV.le_refl _, AV.le_refl _, AV.le_refl _, AV.le_refl _, AV.le_refl _, AV.le_refl _, AV.le_refl _, AV.le_refl _, AV.le_refl _, AV.le_refl _, AV.le_refl _, AV.le_refl _, AV.le_refl _, AV.le_refl _, AV.le_refl _, AV.le_refl _, h1, h2, h3, h4, h5, h6, h7, h8, h9, AV.le_refl _, AV.le_refl _, AV.le_refl _, AV.le_refl _, AV.le_refl _, AV.le_refl _, AV.le_refl _, AV.le_refl _, AV.le_refl _, AV.le_refl _, AV.le_refl _, AV.le_refl _, AV.le_refl _, AV.le_refl _, AV.le_refl _, AV.le_refl _, AV.le_refl _, AV.le_refl _, AV.le_refl _, AV.le_refl _, AV.le_refl _, AV.le_refl _, AV.le_refl _, AV.le_refl _, AV.le_refl _, AV.le_refl _, AV.le_refl _, AV.le_refl _, AV.le_refl _, AV.le_refl _, AV.le_refl _, AV.le_refl _, AV.le_refl _, AV.le_refl _, AV.le_refl _, AV.le_refl _, AV.le_refl _, AV.le_refl _, AV.le_refl _, AV.le_refl _, AV.le_refl _, AV.le_refl _, AV.le_refl _, AV.le_refl _, AV.le_refl _, AV.le_refl _, AV.le_refl _, AV.le_refl _, AV.le_refl _, AV.le_refl _, AV.le_refl _, AV.le_refl _, AV.le_refl _, AV.le_refl _, AV.le_refl _, AV.le_refl _, AV.le_refl _, AV.le_refl _, AV.le_refl _, AV.le_refl _, AV.le_refl _, AV.le_refl _, AV.le_refl _, AV.le_refl _, AV.le_refl _, AV.le_refl _, AV.le_refl _, AV.le_refl _, AV.le_refl _, AV.le_refl _, AV.le_refl _, AV.le_refl _, trivial⟩
theorem BookA.leL_means (B : BookA) {K K' : KindA} (h : leL K.cells K'.cells) : leL { B with means := K }.cells { B with means := K' }.cells := by
  obtain ⟨h1, h2, h3, h4, h5, h6, h7, h8, h9, _⟩ := h
  exact ⟨AV.le_refl _, AV.le_refl _, AV.le_refl _, AV.le_refl _, AV.le_refl _, AV.le_refl _, AV.le_refl _, AV.le_refl _, AV.le_refl _, AV.le_refl _, AV.le_refl _, AV.le_refl _, AV.le_refl _, AV.le_refl _, AV.le_refl _, AV.le_refl _, AV.le_refl _, AV.le_refl _, AV.le_refl _, AV.le_refl _, AV.le_refl _, AV.le_refl _, AV.le_refl _, AV.le_refl _, AV.le_refl _, AV.le_refl _, AV.le_refl _, AV.le_refl _, AV.le_refl _, AV.le_refl _, AV.le_refl _, AV.le_refl _, AV.le_refl _, AV.le_refl _, AV.le_refl _, AV.le_refl _, AV.le_refl _, AV.le_refl _, AV.le_refl _, AV.le_refl _, AV.le_refl _, AV.le_refl _, AV.le_refl _, AV.le_refl _, AV.le_refl _, AV.le_refl _, AV.le_refl _, AV.le_refl _, AV.le_refl _, AV.le_refl _, AV.le_refl _, AV.le_refl _, AV.le_refl _, AV.le_refl _, AV.le_refl _, AV.le_refl _, AV.le_refl _, AV.le_refl _, AV.le_refl _, AV.le_refl _, AV.le_refl _, AV.le_refl _, AV.le_refl _, AV.le_refl _, AV.le_refl _, AV.le_refl _, AV.le_refl _, h1, h2, h3, h4, h5, h6, h7, h8, h9, AV.le_refl _, AV.le_refl _, AV.le_refl _, AV.le_refl _, AV.le_refl _, AV.le_refl _, AV.le_refl _, AV.le_refl _, AV.le_refl _, AV.le_refl _, AV.le_refl _, AV.le_refl _, AV.le_refl _, AV.le_refl _, AV.le_refl _, AV.le_refl _, AV.le_refl _, AV.le_refl _, AV.le_refl _, AV.le_refl _, AV.le_refl _, AV.le_refl _, AV.le_refl _, AV.le_refl _, AV.le_refl _, AV.le_refl _, AV.le_refl _, AV.le_refl _, AV.le_refl _, AV.le_refl _, AV.le_refl _, AV.le_refl _, AV.le_refl _, AV.le_refl _, AV.le_refl _, AV.le_refl _, AV.le_refl _, AV.le_refl _, AV.le_refl _, AV.le_refl _, AV.le_refl _, AV.le_refl _, AV.le_refl _, AV.le_refl _, AV.le_refl _, AV.le_refl _, AV.le_refl _, AV.le_refl _, AV.le_refl _, AV.le_refl _, AV.le_refl _, AV.le_refl _, AV.le_refl _, AV.le_refl _, AV.le_refl _, AV.le_refl _, AV.le_refl _, AV.le_refl _, AV.le_refl _, AV.le_refl _, AV.le_refl _, AV.le_refl _, AV.le_refl _, trivial⟩
theorem BookA.leL_lists (B : BookA) {K K' : KindA} (h : leL K.cells K'.cells) : leL { B with lists := K }.cells { B with lists := K' }.cells := by
  obtain ⟨h1, h2, h3, h4, h5, h6, h7, h8, h9, _⟩ := h
  exact ⟨AV.le_refl _, AV.le_refl _, AV.le_refl _, AV.le_refl _, AV.le_refl _, AV.le_refl _, AV.le_refl _, AV.le_refl _, AV.le_refl _, AV.le_refl _, AV.le_refl _, AV.le_refl _, AV.le_refl _, AV.le_refl _, AV.le_refl _, AV.le_refl _, AV.le_refl _, AV.le_refl _, AV.le_refl _, AV.le_refl _, AV.le_refl _, AV.le_refl _, AV.le_refl _, AV.le_refl _, AV.le_refl _, AV.le_refl _, AV.le_refl _, AV.le_refl _, AV.le_refl _, AV.le_refl _, AV.le_refl _, AV.le_refl _, AV.le_refl _, AV.le_refl _, AV.le_refl _, AV.le_refl _, AV.le_refl _, AV.le_refl _, AV.le_refl _, AV.le_refl _, AV.le_refl _, AV.le_refl _, AV.le_refl _, AV.le_refl _, AV.le_refl _, AV.le_refl _, AV.le_refl _, AV.le_refl _, AV.le_refl _, AV.le_refl _, AV.le_refl _, AV.le_refl _, AV.le_refl _, AV.le_refl _, AV.le_refl _, AV.le_refl _, AV.le_refl _, AV.le_refl _, AV.le_refl _, AV.le_refl _, AV.le_refl _, AV.le_refl _, AV.le_refl _, AV.le_refl _, AV.le_refl _, AV.le_refl _, AV.le_refl _, AV.le_refl _, AV.le_refl _, AV.le_refl _, AV.le_refl _, AV.le_refl _, AV.le_refl _, AV.le_refl _, AV.le_refl _, AV.le_refl _, h1, h2, h3, h4, h5, h6, h7, h8, h9, AV.le_refl _, AV.le_refl _, AV.le_refl _, AV.le_refl _, AV.le_refl _, AV.le_refl _, AV.le_refl _, AV.le_refl _, AV.le_refl _, AV.le_refl _, AV.le_refl _, AV.le_refl _, AV.le_refl _, AV.le_refl _, AV.le_refl _, AV.le_refl _, AV.le_refl _, AV.le_refl _, AV.le_refl _, AV.le_refl _, AV.le_refl _, AV.le_refl _, AV.le_refl _, AV.le_refl _, AV.le_refl _, AV.le_refl _, AV.le_refl _, AV.le_refl _, AV.le_refl _, AV.le_refl _, AV.le_refl _, AV.le_refl _, AV.le_refl _, AV.le_refl _, AV.le_refl _, AV.le_refl _, AV.le_refl _, AV.le_refl _, AV.le_refl _, AV.le_refl _, AV.le_refl _, AV.le_refl _, AV.le_refl _, AV.le_refl _, AV.le_refl _, AV.le_refl _, AV.le_refl _, AV.le_refl _, AV.le_refl _, AV.le_refl _, AV.le_refl _, AV.le_refl _, AV.le_refl _, AV.le_refl _, trivial⟩
theorem BookA.leL_cons (B : BookA) {K K' : KindA} (h : leL K.cells K'.cells) : leL { B with cons := K }.cells { B with cons := K' }.cells := by
  obtain ⟨h1, h2, h3, h4, h5, h6, h7, h8, h9, _⟩ := h
  exact ⟨AV.le_refl _, AV.le_refl _, AV.le_refl _, AV.le_refl _, AV.le_refl _, AV.le_refl _, AV.le_refl _, AV.le_refl _, AV.le_refl _, AV.le_refl _, AV.le_refl _, AV.le_refl _, AV.le_refl _, AV.le_refl _, AV.le_refl _, AV.le_refl _, AV.le_refl _, AV.le_refl _, AV.le_refl _, AV.le_refl _, AV.le_refl _, AV.le_refl _, AV.le_refl _, AV.le_refl _, AV.le_refl _, AV.le_refl _, AV.le_refl _, AV.le_refl _, AV.le_refl _, AV.le_refl _, AV.le_refl _, AV.le_refl _, AV.le_refl _, AV.le_refl _, AV.le_refl _, AV.le_refl _, AV.le_refl _, AV.le_refl _, AV.le_refl _, AV.le_refl _, AV.le_refl _, AV.le_refl _, AV.le_refl _, AV.le_refl _, AV.le_refl _, AV.le_refl _, AV.le_refl _, AV.le_refl _, AV.le_refl _, AV.le_refl _, AV.le_refl _, AV.le_refl _, AV.le_refl _, AV.le_refl _, AV.le_refl _, AV.le_refl _, AV.le_refl _, AV.le_refl _, AV.le_refl _, AV.le_refl _, AV.le_refl _, AV.le_refl _, AV.le_refl _, AV.le_refl _, AV.le_refl _, AV.le_refl _, AV.le_refl _, AV.le_refl _, AV.le_refl _, AV.le_refl _, AV.le_refl _, AV.le_refl _, AV.le_refl _, AV.le_refl _, AV.le_refl _, AV.le_refl _, AV.le_refl _, AV.le_refl _, AV.le_refl _, AV.le_refl _, AV.le_refl _, AV.le_refl _, AV.le_refl _, AV.le_refl _, AV.le_refl _, h1, h2, h3, h4, h5, h6, h7, h8, h9, AV.le_refl _, AV.le_refl _, AV.le_refl _, AV.le_refl _, AV.le_refl _, AV.le_refl _, AV.le_refl _, AV.le_refl _, AV.le_refl _, AV.le_refl _, AV.le_refl _, AV.le_refl _, AV.le_refl _, AV.le_refl _, AV.le_refl _, AV.le_refl _, AV.le_refl _, AV.le_refl _, AV.le_refl _, AV.le_refl _, AV.le_refl _, AV.le_refl _, AV.le_refl _, AV.le_refl _, AV.le_refl _, AV.le_refl _, AV.le_refl _, AV.le_refl _, AV.le_refl _, AV.le_refl _, AV.le_refl _, AV.le_refl _, AV.le_refl _, AV.le_refl _, AV.le_refl _, AV.le_refl _, AV.le_refl _, AV.le_refl _, AV.le_refl _, AV.le_refl _, AV.le_refl _, AV.le_refl _, AV.le_refl _, AV.le_refl _, AV.le_refl _, trivial⟩
theorem BookA.leL_rows (B : BookA) {K K' : KindA} (h : leL K.cells K'.cells) : leL { B with rows := K }.cells { B with rows := K' }.cells := by
  obtain ⟨h1, h2, h3, h4, h5, h6, h7, h8, h9, _⟩ := h
  exact ⟨AV.le_refl _, AV.le_refl _, AV.le_refl _, AV.le_refl _, AV.le_refl _, AV.le_refl _, AV.le_refl _, AV.le_refl _, AV.le_refl _, AV.le_refl _, AV.le_refl _, AV.le_refl _, AV.le_refl _, AV.le_refl _, AV.le_refl _, AV.le_refl _, AV.le_refl _, AV.le_refl _, AV.le_refl _, AV.le_refl _, AV.le_refl _, AV.le_refl _, AV.le_refl _, AV.le_refl _, AV.le_refl _, AV.le_refl _, AV.le_refl _, AV.le_refl _, AV.le_refl _, AV.le_refl _, AV.le_refl _, AV.le_refl _, AV.le_refl _, AV.le_refl _, AV.le_refl _, AV.le_refl _, AV.le_refl _, AV.le_refl _, AV.le_refl _, AV.le_refl _, AV.le_refl _, AV.le_refl _, AV.le_refl _, AV.le_refl _, AV.le_refl _, AV.le_refl _, AV.le_refl _, AV.le_refl _, AV.le_refl _, AV.le_refl _, AV.le_refl _, AV.le_refl _, AV.le_refl _, AV.le_refl _, AV.le_refl _, AV.le_refl _, AV.le_refl _, AV.le_refl _, AV.le_refl _, AV.le_refl _, AV.le_refl _, AV.le_refl _, AV.le_refl _, AV.le_refl _, AV.le_refl _, AV.le_refl _, AV.le_refl _, AV.le_refl _, AV.le_refl _, AV.le_refl _, AV.le_refl _, AV.le_refl _, AV.le_refl _, AV.le_refl _, AV.le_refl _, AV.le_refl _, AV.le_refl _, AV.le_refl _, AV.le_refl _, AV.le_refl _, AV.le_refl _, AV.le_refl _, AV.le_refl _, AV.le_refl _, AV.le_refl _, AV.le_refl _, AV.le_refl _, AV.le_refl _, AV.le_refl _, AV.le_refl _, AV.le_refl _, AV.le_refl _, AV.le_refl _, AV.le_refl _, h1, h2, h3, h4, h5, h6, h7, h8, h9, AV.le_refl _, AV.le_refl _, AV.le_refl _, AV.le_refl _, AV.le_refl _, AV.le_refl _, AV.le_refl _, AV.le_refl _, AV.le_refl _, AV.le_refl _, AV.le_refl _, AV.le_refl _, AV.le_refl _, AV.le_refl _, AV.le_refl _, AV.le_refl _, AV.le_refl _, AV.le_refl _, AV.le_refl _, AV.le_refl _, AV.le_refl _, AV.le_refl _, AV.le_refl _, AV.le_refl _, AV.le_refl _, AV.le_refl _, AV.le_refl _, AV.le_refl _, AV.le_refl _, AV.le_refl _, AV.le_refl _, AV.le_refl _, AV.le_refl _, AV.le_refl _, AV.le_refl _, AV.le_refl _, trivial⟩
theorem BookA.leL_steps (B : BookA) {K K' : KindA} (h : leL K.cells K'.cells) : leL { B with steps := K }.cells { B with steps := K' }.cells := by
  obtain ⟨h1, h2, h3, h4, h5, h6, h7, h8, h9, _⟩ := h
  exact ⟨AV.le_refl _, AV.le_refl _, AV.le_refl _, AV.le_refl _, AV.le_refl _, AV.le_refl _, AV.le_refl _, AV.le_refl _, AV.le_refl _, AV.le_refl _, AV.le_refl _, AV.le_refl _, AV.le_refl _, AV.le_refl _, AV.le_refl _, AV.le_refl _, AV.le_refl _, AV.le_refl _, AV.le_refl _, AV.le_refl _, AV.le_refl _, AV.le_refl _, AV.le_refl _, AV.le_refl _, AV.le_refl _, AV.le_refl _, AV.le_refl _, AV.le_refl _, AV.le_refl _, AV.le_refl _, AV.le_refl _, AV.le_refl _, AV.le_refl _, AV.le_refl _, AV.le_refl _, AV.le_refl _, AV.le_refl _, AV.le_refl _, AV.le_refl _, AV.le_refl _, AV.le_refl _, AV.le_refl _, AV.le_refl _, AV.le_refl _, AV.le_refl _, AV.le_refl _, AV.le_refl _, AV.le_refl _, AV.le_refl _, AV.le_refl _, AV.le_refl _, AV.le_refl _, AV.le_refl _, AV.le_refl _, AV.le_refl _, AV.le_refl _, AV.le_refl _, AV.le_refl _, AV.le_refl _, AV.le_refl _, AV.le_refl _, AV.le_refl _, AV.le_refl _, AV.le_refl _, AV.le_refl _, AV.le_refl _, AV.le_refl _, AV.le_refl _, AV.le_refl _, AV.le_refl _, AV.le_refl _, AV.le_refl _, AV.le_refl _, AV.le_refl _, AV.le_refl _, AV.le_refl _, AV.le_refl _, AV.le_refl _, AV.le_refl _, AV.le_refl _, AV.le_refl _, AV.le_refl _, AV.le_refl _, AV.le_refl _, AV.le_refl _, AV.le_refl _, AV.le_refl _, AV.le_refl _, AV.le_refl _, AV.le_refl _, AV.le_refl _, AV.le_refl _, AV.le_refl _, AV.le_refl _, AV.le_refl _, AV.le_refl _, AV.le_refl _, AV.le_refl _, AV.le_refl _, AV.le_refl _, AV.le_refl _, AV.le_refl _, AV.le_refl _, h1, h2, h3, h4, h5, h6, h7, h8, h9, AV.le_refl _, AV.le_refl _, AV.le_refl _, AV.le_refl _, AV.le_refl _, AV.le_refl _, AV.le_refl _, AV.le_refl _, AV.le_refl _, AV.le_refl _, AV.le_refl _, AV.le_refl _, AV.le_refl _, AV.le_refl _, AV.le_refl _, AV.le_refl _, AV.le_refl _, AV.le_refl _, AV.le_refl _, AV.le_refl _, AV.le_refl _, AV.le_refl _, AV.le_refl _, AV.le_refl _, AV.le_refl _, AV.le_refl _, AV.le_refl _, trivial⟩
theorem BookA.leL_halls (B : BookA) {K K' : KindA} (h : leL K.cells K'.cells) : leL { B with halls := K }.cells { B with halls := K' }.cells := by
  obtain ⟨h1, h2, h3, h4, h5, h6, h7, h8, h9, _⟩ := h
  exact ⟨AV.le_refl _, AV.le_refl _, AV.le_refl _, AV.le_refl _, AV.le_refl _, AV.le_refl _, AV.le_refl _, AV.le_refl _, AV.le_refl _, AV.le_refl _, AV.le_refl _, AV.le_refl _, AV.le_refl _, AV.le_refl _, AV.le_refl _, AV.le_refl _, AV.le_refl _, AV.le_refl _, AV.le_refl _, AV.le_refl _, AV.le_refl _, AV.le_refl _, AV.le_refl _, AV.le_refl _, AV.le_refl _, AV.le_refl _, AV.le_refl _, AV.le_refl _, AV.le_refl _, AV.le_refl _, AV.le_refl _, AV.le_refl _, AV.le_refl _, AV.le_refl _, AV.le_refl _, AV.le_refl _, AV.le_refl _, AV.le_refl _, AV.le_refl _, AV.le_refl _, AV.le_refl _, AV.le_refl _, AV.le_refl _, AV.le_refl _, AV.le_refl _, AV.le_refl _, AV.le_refl _, AV.le_refl _, AV.le_refl _, AV.le_refl _, AV.le_refl _, AV.le_refl _, AV.le_refl _, AV.le_refl _, AV.le_refl _, AV.le_refl _, AV.le_refl _, AV.le_refl _, AV.le_refl _, AV.le_refl _, AV.le_refl _, AV.le_refl _, AV.le_refl _, AV.le_refl _, AV.le_refl _, AV.le_refl _, AV.le_refl _, AV.le_refl _, AV.le_refl _, AV.le_refl _, AV.le_refl _, AV.le_refl _, AV.le_refl _, AV.le_refl _, AV.le_refl _, AV.le_refl _, AV.le_refl _, AV.le_refl _, AV.le_refl _, AV.le_refl _, AV.le_refl _, AV.le_refl _, AV.le_refl _, AV.le_refl _, AV.le_refl _, AV.le_refl _, AV.le_refl _, AV.le_refl _, AV.le_refl _, AV.le_refl _, AV.le_refl _, AV.le_refl _, AV.le_refl _, AV.le_refl _, AV.le_refl _, AV.le_refl _, AV.le_refl _, AV.le_refl _, AV.le_refl _, AV.le_refl _, AV.le_refl _, AV.le_refl _, AV.le_refl _, AV.le_refl _, AV.le_refl _, AV.le_refl _, AV.le_refl _, AV.le_refl _, AV.le_refl _, AV.le_refl _, AV.le_refl _, AV.le_refl _, h1, h2, h3, h4, h5, h6, h7, h8, h9, AV.le_refl _, AV.le_refl _, AV.le_refl _, AV.le_refl _, AV.le_refl _, AV.le_refl _, AV.le_refl _, AV.le_refl _, AV.le_refl _, AV.le_refl _, AV.le_refl _, AV.le_refl _, AV.le_refl _, AV.le_refl _, AV.le_refl _, AV.le_refl _, AV.le_refl _, AV.le_refl _, trivial⟩
theorem BookA.leL_causes (B : BookA) {K K' : KindA} (h : leL K.cells K'.cells) : leL { B with causes := K }.cells { B with causes := K' }.cells := by
  obtain ⟨h1, h2, h3, h4, h5, h6, h7, h8, h9, _⟩ := h
  exact ⟨AV.le_refl _, AV.le_refl _, AV.le_refl _, AV.le_refl _, AV.le_refl _, AV.le_refl _, AV.le_refl _, AV.le_refl _, AV.le_refl _, AV.le_refl _, AV.le_refl _, AV.le_refl _, AV.le_refl _, AV.le_refl _, AV.le_refl _, AV.le_refl _, AV.le_refl _, AV.le_refl _, AV.le_refl _, AV.le_refl _, AV.le_refl _, AV.le_refl _, AV.le_refl _, AV.le_refl _, AV.le_refl _, AV.le_refl _, AV.le_refl _, AV.le_refl _, AV.le_refl _, AV.le_refl _, AV.le_refl _, AV.le_refl _, AV.le_refl _, AV.le_refl _, AV.le_refl _, AV.le_refl _, AV.le_refl _, AV.le_refl _, AV.le_refl _, AV.le_refl _, AV.le_refl _, AV.le_refl _, AV.le_refl _, AV.le_refl _, AV.le_refl _, AV.le_refl _, AV.le_refl _, AV.le_refl _, AV.le_refl _, AV.le_refl _, AV.le_refl _, AV.le_refl _, AV.le_refl _, AV.le_refl _, AV.le_refl _, AV.le_refl _, AV.le_refl _, AV.le_refl _, AV.le_refl _, AV.le_refl _, AV.le_refl _, AV.le_refl _, AV.le_refl _, AV.le_refl _, AV.le_refl _, AV.le_refl _, AV.le_refl _, AV.le_refl _, AV.le_refl _, AV.le_refl _, AV.le_refl _, AV.le_refl _, AV.le_refl _, AV.le_refl _, AV.le_refl _, AV.le_refl _, AV.le_refl _, AV.le_refl _, AV.le_refl _, AV.le_refl _, AV.le_refl _, AV.le_refl _, AV.le_refl _, AV.le_refl _, AV.le_refl _, AV.le_refl _, AV.le_refl _, AV.le_refl _, AV.le_refl _, AV.le_refl _, AV.le_refl _, AV.le_refl _, AV.le_refl _, AV.le_refl _, AV.le_refl _, AV.le_refl _, AV.le_refl _, AV.le_refl _, AV.le_refl _, AV.le_refl _, AV.le_refl _, AV.le_refl _, AV.le_refl _, AV.le_refl _, AV.le_refl _, AV.le_refl _, AV.le_refl _, AV.le_refl _, AV.le_refl _, AV.le_refl _, AV.le_refl _, AV.le_refl _, AV.le_refl _, AV.le_refl _, AV.le_refl _, AV.le_refl _, AV.le_refl _, AV.le_refl _, AV.le_refl _, AV.le_refl _, AV.le_refl _, h1, h2, h3, h4, h5, h6, h7, h8, h9, AV.le_refl _, AV.le_refl _, AV.le_refl _, AV.le_refl _, AV.le_refl _, AV.le_refl _, AV.le_refl _, AV.le_refl _, AV.le_refl _, trivial⟩
theorem BookA.leL_acts (B : BookA) {K K' : KindA} (h : leL K.cells K'.cells) : leL { B with acts := K }.cells { B with acts := K' }.cells := by
  obtain ⟨h1, h2, h3, h4, h5, h6, h7, h8, h9, _⟩ := h
  exact ⟨AV.le_refl _, AV.le_refl _, AV.le_refl _, AV.le_refl _, AV.le_refl _, AV.le_refl _, AV.le_refl _, AV.le_refl _, AV.le_refl _, AV.le_refl _, AV.le_refl _, AV.le_refl _, AV.le_refl _, AV.le_refl _, AV.le_refl _, AV.le_refl _, AV.le_refl _, AV.le_refl _, AV.le_refl _, AV.le_refl _, AV.le_refl _, AV.le_refl _, AV.le_refl _, AV.le_refl _, AV.le_refl _, AV.le_refl _, AV.le_refl _, AV.le_refl _, AV.le_refl _, AV.le_refl _, AV.le_refl _, AV.le_refl _, AV.le_refl _, AV.le_refl _, AV.le_refl _, AV.le_refl _, AV.le_refl _, AV.le_refl _, AV.le_refl _, AV.le_refl _, AV.le_refl _, AV.le_refl _, AV.le_refl _, AV.le_refl _, AV.le_refl _, AV.le_refl _, AV.le_refl _, AV.le_refl _, AV.le_refl _, AV.le_refl _, AV.le_refl _, AV.le_refl _, AV.le_refl _, AV.le_refl _, AV.le_refl _, AV.le_refl _, AV.le_refl _, AV.le_refl _, AV.le_refl _, AV.le_refl _, AV.le_refl _, AV.le_refl _, AV.le_refl _, AV.le_refl _, AV.le_refl _, AV.le_refl _, AV.le_refl _, AV.le_refl _, AV.le_refl _, AV.le_refl _, AV.le_refl _, AV.le_refl _, AV.le_refl _, AV.le_refl _, AV.le_refl _, AV.le_refl _, AV.le_refl _, AV.le_refl _, AV.le_refl _, AV.le_refl _, AV.le_refl _, AV.le_refl _, AV.le_refl _, AV.le_refl _, AV.le_refl _, AV.le_refl _, AV.le_refl _, AV.le_refl _, AV.le_refl _, AV.le_refl _, AV.le_refl _, AV.le_refl _, AV.le_refl _, AV.le_refl _, AV.le_refl _, AV.le_refl _, AV.le_refl _, AV.le_refl _, AV.le_refl _, AV.le_refl _, AV.le_refl _, AV.le_refl _, AV.le_refl _, AV.le_refl _, AV.le_refl _, AV.le_refl _, AV.le_refl _, AV.le_refl _, AV.le_refl _, AV.le_refl _, AV.le_refl _, AV.le_refl _, AV.le_refl _, AV.le_refl _, AV.le_refl _, AV.le_refl _, AV.le_refl _, AV.le_refl _, AV.le_refl _, AV.le_refl _, AV.le_refl _, AV.le_refl _, AV.le_refl _, AV.le_refl _, AV.le_refl _, AV.le_refl _, AV.le_refl _, AV.le_refl _, AV.le_refl _, AV.le_refl _, h1, h2, h3, h4, h5, h6, h7, h8, h9, trivial⟩
/-- The store about the book: its cells, one kind's lists, what else is there. -/
structure BkS (S₀ : St) (tS : TypeId) (bk : Nat) (cells : List AV) (k : KL) (rest : List (Nat × Own)) (S : St) : Prop where
  ok : FpOk S₀ ((bk, .obj bookT cells) :: (k.fp tS ++ rest))
  eq : S = ov S₀ ((bk, .obj bookT cells) :: (k.fp tS ++ rest))
section
variable {S₀ : St} {tS : TypeId} {bk : Nat} {cells : List AV} {k : KL} {rest : List (Nat × Own)} {S : St}
theorem BkS.book (h : BkS S₀ tS bk cells k rest S) : S bk = some (.obj bookT cells) := by rw [h.eq]; exact ov_get h.ok.nd (by simp)
theorem BkS.store (h : BkS S₀ tS bk cells k rest S) (cells' : List AV) : BkS S₀ tS bk cells' k rest (S.upd bk (.obj bookT cells')) :=
  ⟨h.ok.set (pre := []) _, by rw [h.eq]; simp only [ov, St.upd_upd]⟩
theorem BkS.none_ne (h : BkS S₀ tS bk cells k rest S) {b : Nat} (hb : S b = none) : b ∉ ((bk, Own.obj bookT cells) :: (k.fp tS ++ rest)).map (·.1) := by
  rw [h.eq] at hb; exact (ov_none h.ok.nd hb).2
theorem BkS.new (h : BkS S₀ tS bk cells k rest S) {b : Nat} (hb : S b = none) (o : Own) : BkS S₀ tS bk cells k (rest ++ [(b, o)]) (S.upd b o) := by
  have h1 := ov_new_mid (S₀ := S₀) (o := o) (pre := (bk, Own.obj bookT cells) :: (k.fp tS ++ rest)) (post := []) (by rw [List.append_nil]; exact h.none_ne hb)
  have h2 := FpOk.add (pre := (bk, Own.obj bookT cells) :: (k.fp tS ++ rest)) (post := []) (by rw [List.append_nil]; exact h.ok) (by rw [List.append_nil, ← h.eq]; exact hb) o
  simp only [List.append_nil, List.cons_append, List.append_assoc] at h1 h2
  exact ⟨h2, by rw [h.eq]; exact h1⟩
theorem BkS.get (h : BkS S₀ tS bk cells k rest S) {b : Nat} {o : Own} (hm : (b, o) ∈ rest) : S b = some o := by rw [h.eq]; exact ov_get h.ok.nd (by simp [hm])
theorem BkS.set (h : BkS S₀ tS bk cells k rest S) {p q : List (Nat × Own)} {b : Nat} {o : Own} (hr : rest = p ++ (b, o) :: q) (o' : Own) : BkS S₀ tS bk cells k (p ++ (b, o') :: q) (S.upd b o') := by
  subst hr
  have h1 := ov_upd_mid (S₀ := S₀) (o := o) (o' := o') (b := b) (pre := (bk, Own.obj bookT cells) :: (k.fp tS ++ p)) (post := q) (by simpa [List.append_assoc] using h.ok.nd)
  have h2 := FpOk.set (S₀ := S₀) (o := o) (b := b) (pre := (bk, Own.obj bookT cells) :: (k.fp tS ++ p)) (post := q) (by simpa [List.append_assoc] using h.ok) o'
  simp only [List.cons_append, List.append_assoc] at h1 h2
  exact ⟨h2, by rw [h.eq]; exact h1⟩
theorem BkS.perm (h : BkS S₀ tS bk cells k rest S) {k' : KL} {rest' : List (Nat × Own)} (hp : (k.fp tS ++ rest).Perm (k'.fp tS ++ rest')) : BkS S₀ tS bk cells k' rest' S := by
  obtain ⟨h1, h2⟩ := h.ok.perm (List.Perm.cons (bk, Own.obj bookT cells) hp)
  exact ⟨h1, by rw [h.eq, h2]⟩
theorem BkS.shrink (h : BkS S₀ tS bk cells k rest S) {k' : KL} {rest' : List (Nat × Own)} (hs : List.Sublist (k'.fp tS ++ rest') (k.fp tS ++ rest)) :
    BkS S₀ tS bk cells k' rest' (ov S₀ ((bk, .obj bookT cells) :: (k'.fp tS ++ rest'))) ∧ St.le (ov S₀ ((bk, .obj bookT cells) :: (k'.fp tS ++ rest'))) S := by
  have hs' := List.Sublist.cons_cons (bk, Own.obj bookT cells) hs
  have hok := h.ok.sub hs'
  exact ⟨⟨hok, rfl⟩, by rw [h.eq]; exact ov_sub_le h.ok (fun p hp => hs'.subset hp) hok.nd⟩
theorem BkS.weak (h : BkS S₀ tS bk cells k rest S) {cells' : List AV} (hl : leL cells cells') : St.leW (S.upd bk (.obj bookT cells')) S ∧ BkS S₀ tS bk cells' k rest (S.upd bk (.obj bookT cells')) :=
  ⟨St.leW_upd h.book hl, h.store cells'⟩
theorem BkS.tip_out (h : BkS S₀ tS bk cells k rest S) (hn : k.out.es ≠ []) : S k.out.b = some (.tip tS 1 k.out.es.length) := by
  have h1 := h.ok
  rw [h.eq]
  have e : (bk, Own.obj bookT cells) :: (k.fp tS ++ rest) = ((bk, Own.obj bookT cells) :: ([])) ++ (k.out.fp tS ++ (k.told.fp tS ++ k.waits.fp tS ++ k.note.fp tS ++ k.fresh.fp tS ++ k.mark.fp intT ++ k.due.fp intT ++ k.from_.fp intT ++ rest)) := by simp [KL.fp, List.append_assoc]
  rw [e] at h1 ⊢
  exact AccL.tip h1 hn
theorem BkS.push_out (h : BkS S₀ tS bk cells k rest S) {S₁ : St} (h1 : k.out.es = [] → S₁ = S) (h2 : k.out.es ≠ [] → S₁ = S.del k.out.b) {b' : Nat} (hb : S₁ b' = none) (x : AV) {n : Nat} (hn : n = k.out.es.length + 1) :
    BkS S₀ tS bk cells { k with out := k.out.push b' x } rest (S₁.upd b' (.tip tS 1 n)) := by
  have h0 := h.ok
  rw [h.eq] at h1 h2
  have e : ∀ a : AccL, (bk, Own.obj bookT cells) :: ({ k with out := a }.fp tS ++ rest) = ((bk, Own.obj bookT cells) :: ([])) ++ (a.fp tS ++ (k.told.fp tS ++ k.waits.fp tS ++ k.note.fp tS ++ k.fresh.fp tS ++ k.mark.fp intT ++ k.due.fp intT ++ k.from_.fp intT ++ rest)) := fun a => by simp [KL.fp, List.append_assoc]
  have e0 := e k.out
  rw [show ({ k with out := k.out } : KL) = k from rfl] at e0
  rw [e0] at h0 h1 h2
  obtain ⟨m1, m2⟩ := AccL.pushed h0 h1 h2 hb x hn
  exact ⟨by rw [e]; exact m2, by rw [e]; exact m1⟩
theorem BkS.clear_out (h : BkS S₀ tS bk cells k rest S) : BkS S₀ tS bk cells { k with out := .empty } (k.out.fp tS ++ rest) S := by
  refine h.perm ?_
  have e0 : k.fp tS ++ rest = ([]) ++ (k.out.fp tS ++ (k.told.fp tS ++ k.waits.fp tS ++ k.note.fp tS ++ k.fresh.fp tS ++ k.mark.fp intT ++ k.due.fp intT ++ k.from_.fp intT ++ rest)) := by simp [KL.fp, List.append_assoc]
  have e1 : ({ k with out := .empty } : KL).fp tS ++ (k.out.fp tS ++ rest) = ([]) ++ ((k.told.fp tS ++ k.waits.fp tS ++ k.note.fp tS ++ k.fresh.fp tS ++ k.mark.fp intT ++ k.due.fp intT ++ k.from_.fp intT) ++ (k.out.fp tS ++ rest)) := by simp [KL.fp, AccL.fp, AccL.empty, List.append_assoc]
  rw [e0, e1]
  refine List.Perm.append_left _ ?_
  have := List.perm_append_comm (l₁ := k.out.fp tS) (l₂ := k.told.fp tS ++ k.waits.fp tS ++ k.note.fp tS ++ k.fresh.fp tS ++ k.mark.fp intT ++ k.due.fp intT ++ k.from_.fp intT)
  have := this.append_right rest
  simpa [List.append_assoc] using this
theorem BkS.tip_told (h : BkS S₀ tS bk cells k rest S) (hn : k.told.es ≠ []) : S k.told.b = some (.tip tS 1 k.told.es.length) := by
  have h1 := h.ok
  rw [h.eq]
  have e : (bk, Own.obj bookT cells) :: (k.fp tS ++ rest) = ((bk, Own.obj bookT cells) :: (k.out.fp tS)) ++ (k.told.fp tS ++ (k.waits.fp tS ++ k.note.fp tS ++ k.fresh.fp tS ++ k.mark.fp intT ++ k.due.fp intT ++ k.from_.fp intT ++ rest)) := by simp [KL.fp, List.append_assoc]
  rw [e] at h1 ⊢
  exact AccL.tip h1 hn
theorem BkS.push_told (h : BkS S₀ tS bk cells k rest S) {S₁ : St} (h1 : k.told.es = [] → S₁ = S) (h2 : k.told.es ≠ [] → S₁ = S.del k.told.b) {b' : Nat} (hb : S₁ b' = none) (x : AV) {n : Nat} (hn : n = k.told.es.length + 1) :
    BkS S₀ tS bk cells { k with told := k.told.push b' x } rest (S₁.upd b' (.tip tS 1 n)) := by
  have h0 := h.ok
  rw [h.eq] at h1 h2
  have e : ∀ a : AccL, (bk, Own.obj bookT cells) :: ({ k with told := a }.fp tS ++ rest) = ((bk, Own.obj bookT cells) :: (k.out.fp tS)) ++ (a.fp tS ++ (k.waits.fp tS ++ k.note.fp tS ++ k.fresh.fp tS ++ k.mark.fp intT ++ k.due.fp intT ++ k.from_.fp intT ++ rest)) := fun a => by simp [KL.fp, List.append_assoc]
  have e0 := e k.told
  rw [show ({ k with told := k.told } : KL) = k from rfl] at e0
  rw [e0] at h0 h1 h2
  obtain ⟨m1, m2⟩ := AccL.pushed h0 h1 h2 hb x hn
  exact ⟨by rw [e]; exact m2, by rw [e]; exact m1⟩
theorem BkS.clear_told (h : BkS S₀ tS bk cells k rest S) : BkS S₀ tS bk cells { k with told := .empty } (k.told.fp tS ++ rest) S := by
  refine h.perm ?_
  have e0 : k.fp tS ++ rest = (k.out.fp tS) ++ (k.told.fp tS ++ (k.waits.fp tS ++ k.note.fp tS ++ k.fresh.fp tS ++ k.mark.fp intT ++ k.due.fp intT ++ k.from_.fp intT ++ rest)) := by simp [KL.fp, List.append_assoc]
  have e1 : ({ k with told := .empty } : KL).fp tS ++ (k.told.fp tS ++ rest) = (k.out.fp tS) ++ ((k.waits.fp tS ++ k.note.fp tS ++ k.fresh.fp tS ++ k.mark.fp intT ++ k.due.fp intT ++ k.from_.fp intT) ++ (k.told.fp tS ++ rest)) := by simp [KL.fp, AccL.fp, AccL.empty, List.append_assoc]
  rw [e0, e1]
  refine List.Perm.append_left _ ?_
  have := List.perm_append_comm (l₁ := k.told.fp tS) (l₂ := k.waits.fp tS ++ k.note.fp tS ++ k.fresh.fp tS ++ k.mark.fp intT ++ k.due.fp intT ++ k.from_.fp intT)
  have := this.append_right rest
  simpa [List.append_assoc] using this
theorem BkS.tip_waits (h : BkS S₀ tS bk cells k rest S) (hn : k.waits.es ≠ []) : S k.waits.b = some (.tip tS 1 k.waits.es.length) := by
  have h1 := h.ok
  rw [h.eq]
  have e : (bk, Own.obj bookT cells) :: (k.fp tS ++ rest) = ((bk, Own.obj bookT cells) :: (k.out.fp tS ++ k.told.fp tS)) ++ (k.waits.fp tS ++ (k.note.fp tS ++ k.fresh.fp tS ++ k.mark.fp intT ++ k.due.fp intT ++ k.from_.fp intT ++ rest)) := by simp [KL.fp, List.append_assoc]
  rw [e] at h1 ⊢
  exact AccL.tip h1 hn
theorem BkS.push_waits (h : BkS S₀ tS bk cells k rest S) {S₁ : St} (h1 : k.waits.es = [] → S₁ = S) (h2 : k.waits.es ≠ [] → S₁ = S.del k.waits.b) {b' : Nat} (hb : S₁ b' = none) (x : AV) {n : Nat} (hn : n = k.waits.es.length + 1) :
    BkS S₀ tS bk cells { k with waits := k.waits.push b' x } rest (S₁.upd b' (.tip tS 1 n)) := by
  have h0 := h.ok
  rw [h.eq] at h1 h2
  have e : ∀ a : AccL, (bk, Own.obj bookT cells) :: ({ k with waits := a }.fp tS ++ rest) = ((bk, Own.obj bookT cells) :: (k.out.fp tS ++ k.told.fp tS)) ++ (a.fp tS ++ (k.note.fp tS ++ k.fresh.fp tS ++ k.mark.fp intT ++ k.due.fp intT ++ k.from_.fp intT ++ rest)) := fun a => by simp [KL.fp, List.append_assoc]
  have e0 := e k.waits
  rw [show ({ k with waits := k.waits } : KL) = k from rfl] at e0
  rw [e0] at h0 h1 h2
  obtain ⟨m1, m2⟩ := AccL.pushed h0 h1 h2 hb x hn
  exact ⟨by rw [e]; exact m2, by rw [e]; exact m1⟩
theorem BkS.clear_waits (h : BkS S₀ tS bk cells k rest S) : BkS S₀ tS bk cells { k with waits := .empty } (k.waits.fp tS ++ rest) S := by
  refine h.perm ?_
  have e0 : k.fp tS ++ rest = (k.out.fp tS ++ k.told.fp tS) ++ (k.waits.fp tS ++ (k.note.fp tS ++ k.fresh.fp tS ++ k.mark.fp intT ++ k.due.fp intT ++ k.from_.fp intT ++ rest)) := by simp [KL.fp, List.append_assoc]
  have e1 : ({ k with waits := .empty } : KL).fp tS ++ (k.waits.fp tS ++ rest) = (k.out.fp tS ++ k.told.fp tS) ++ ((k.note.fp tS ++ k.fresh.fp tS ++ k.mark.fp intT ++ k.due.fp intT ++ k.from_.fp intT) ++ (k.waits.fp tS ++ rest)) := by simp [KL.fp, AccL.fp, AccL.empty, List.append_assoc]
  rw [e0, e1]
  refine List.Perm.append_left _ ?_
  have := List.perm_append_comm (l₁ := k.waits.fp tS) (l₂ := k.note.fp tS ++ k.fresh.fp tS ++ k.mark.fp intT ++ k.due.fp intT ++ k.from_.fp intT)
  have := this.append_right rest
  simpa [List.append_assoc] using this
theorem BkS.tip_note (h : BkS S₀ tS bk cells k rest S) (hn : k.note.es ≠ []) : S k.note.b = some (.tip tS 1 k.note.es.length) := by
  have h1 := h.ok
  rw [h.eq]
  have e : (bk, Own.obj bookT cells) :: (k.fp tS ++ rest) = ((bk, Own.obj bookT cells) :: (k.out.fp tS ++ k.told.fp tS ++ k.waits.fp tS)) ++ (k.note.fp tS ++ (k.fresh.fp tS ++ k.mark.fp intT ++ k.due.fp intT ++ k.from_.fp intT ++ rest)) := by simp [KL.fp, List.append_assoc]
  rw [e] at h1 ⊢
  exact AccL.tip h1 hn
theorem BkS.push_note (h : BkS S₀ tS bk cells k rest S) {S₁ : St} (h1 : k.note.es = [] → S₁ = S) (h2 : k.note.es ≠ [] → S₁ = S.del k.note.b) {b' : Nat} (hb : S₁ b' = none) (x : AV) {n : Nat} (hn : n = k.note.es.length + 1) :
    BkS S₀ tS bk cells { k with note := k.note.push b' x } rest (S₁.upd b' (.tip tS 1 n)) := by
  have h0 := h.ok
  rw [h.eq] at h1 h2
  have e : ∀ a : AccL, (bk, Own.obj bookT cells) :: ({ k with note := a }.fp tS ++ rest) = ((bk, Own.obj bookT cells) :: (k.out.fp tS ++ k.told.fp tS ++ k.waits.fp tS)) ++ (a.fp tS ++ (k.fresh.fp tS ++ k.mark.fp intT ++ k.due.fp intT ++ k.from_.fp intT ++ rest)) := fun a => by simp [KL.fp, List.append_assoc]
  have e0 := e k.note
  rw [show ({ k with note := k.note } : KL) = k from rfl] at e0
  rw [e0] at h0 h1 h2
  obtain ⟨m1, m2⟩ := AccL.pushed h0 h1 h2 hb x hn
  exact ⟨by rw [e]; exact m2, by rw [e]; exact m1⟩
theorem BkS.clear_note (h : BkS S₀ tS bk cells k rest S) : BkS S₀ tS bk cells { k with note := .empty } (k.note.fp tS ++ rest) S := by
  refine h.perm ?_
  have e0 : k.fp tS ++ rest = (k.out.fp tS ++ k.told.fp tS ++ k.waits.fp tS) ++ (k.note.fp tS ++ (k.fresh.fp tS ++ k.mark.fp intT ++ k.due.fp intT ++ k.from_.fp intT ++ rest)) := by simp [KL.fp, List.append_assoc]
  have e1 : ({ k with note := .empty } : KL).fp tS ++ (k.note.fp tS ++ rest) = (k.out.fp tS ++ k.told.fp tS ++ k.waits.fp tS) ++ ((k.fresh.fp tS ++ k.mark.fp intT ++ k.due.fp intT ++ k.from_.fp intT) ++ (k.note.fp tS ++ rest)) := by simp [KL.fp, AccL.fp, AccL.empty, List.append_assoc]
  rw [e0, e1]
  refine List.Perm.append_left _ ?_
  have := List.perm_append_comm (l₁ := k.note.fp tS) (l₂ := k.fresh.fp tS ++ k.mark.fp intT ++ k.due.fp intT ++ k.from_.fp intT)
  have := this.append_right rest
  simpa [List.append_assoc] using this
theorem BkS.tip_fresh (h : BkS S₀ tS bk cells k rest S) (hn : k.fresh.es ≠ []) : S k.fresh.b = some (.tip tS 1 k.fresh.es.length) := by
  have h1 := h.ok
  rw [h.eq]
  have e : (bk, Own.obj bookT cells) :: (k.fp tS ++ rest) = ((bk, Own.obj bookT cells) :: (k.out.fp tS ++ k.told.fp tS ++ k.waits.fp tS ++ k.note.fp tS)) ++ (k.fresh.fp tS ++ (k.mark.fp intT ++ k.due.fp intT ++ k.from_.fp intT ++ rest)) := by simp [KL.fp, List.append_assoc]
  rw [e] at h1 ⊢
  exact AccL.tip h1 hn
theorem BkS.push_fresh (h : BkS S₀ tS bk cells k rest S) {S₁ : St} (h1 : k.fresh.es = [] → S₁ = S) (h2 : k.fresh.es ≠ [] → S₁ = S.del k.fresh.b) {b' : Nat} (hb : S₁ b' = none) (x : AV) {n : Nat} (hn : n = k.fresh.es.length + 1) :
    BkS S₀ tS bk cells { k with fresh := k.fresh.push b' x } rest (S₁.upd b' (.tip tS 1 n)) := by
  have h0 := h.ok
  rw [h.eq] at h1 h2
  have e : ∀ a : AccL, (bk, Own.obj bookT cells) :: ({ k with fresh := a }.fp tS ++ rest) = ((bk, Own.obj bookT cells) :: (k.out.fp tS ++ k.told.fp tS ++ k.waits.fp tS ++ k.note.fp tS)) ++ (a.fp tS ++ (k.mark.fp intT ++ k.due.fp intT ++ k.from_.fp intT ++ rest)) := fun a => by simp [KL.fp, List.append_assoc]
  have e0 := e k.fresh
  rw [show ({ k with fresh := k.fresh } : KL) = k from rfl] at e0
  rw [e0] at h0 h1 h2
  obtain ⟨m1, m2⟩ := AccL.pushed h0 h1 h2 hb x hn
  exact ⟨by rw [e]; exact m2, by rw [e]; exact m1⟩
theorem BkS.clear_fresh (h : BkS S₀ tS bk cells k rest S) : BkS S₀ tS bk cells { k with fresh := .empty } (k.fresh.fp tS ++ rest) S := by
  refine h.perm ?_
  have e0 : k.fp tS ++ rest = (k.out.fp tS ++ k.told.fp tS ++ k.waits.fp tS ++ k.note.fp tS) ++ (k.fresh.fp tS ++ (k.mark.fp intT ++ k.due.fp intT ++ k.from_.fp intT ++ rest)) := by simp [KL.fp, List.append_assoc]
  have e1 : ({ k with fresh := .empty } : KL).fp tS ++ (k.fresh.fp tS ++ rest) = (k.out.fp tS ++ k.told.fp tS ++ k.waits.fp tS ++ k.note.fp tS) ++ ((k.mark.fp intT ++ k.due.fp intT ++ k.from_.fp intT) ++ (k.fresh.fp tS ++ rest)) := by simp [KL.fp, AccL.fp, AccL.empty, List.append_assoc]
  rw [e0, e1]
  refine List.Perm.append_left _ ?_
  have := List.perm_append_comm (l₁ := k.fresh.fp tS) (l₂ := k.mark.fp intT ++ k.due.fp intT ++ k.from_.fp intT)
  have := this.append_right rest
  simpa [List.append_assoc] using this
theorem BkS.tip_mark (h : BkS S₀ tS bk cells k rest S) (hn : k.mark.es ≠ []) : S k.mark.b = some (.tip intT 1 k.mark.es.length) := by
  have h1 := h.ok
  rw [h.eq]
  have e : (bk, Own.obj bookT cells) :: (k.fp tS ++ rest) = ((bk, Own.obj bookT cells) :: (k.out.fp tS ++ k.told.fp tS ++ k.waits.fp tS ++ k.note.fp tS ++ k.fresh.fp tS)) ++ (k.mark.fp intT ++ (k.due.fp intT ++ k.from_.fp intT ++ rest)) := by simp [KL.fp, List.append_assoc]
  rw [e] at h1 ⊢
  exact AccL.tip h1 hn
theorem BkS.push_mark (h : BkS S₀ tS bk cells k rest S) {S₁ : St} (h1 : k.mark.es = [] → S₁ = S) (h2 : k.mark.es ≠ [] → S₁ = S.del k.mark.b) {b' : Nat} (hb : S₁ b' = none) (x : AV) {n : Nat} (hn : n = k.mark.es.length + 1) :
    BkS S₀ tS bk cells { k with mark := k.mark.push b' x } rest (S₁.upd b' (.tip intT 1 n)) := by
  have h0 := h.ok
  rw [h.eq] at h1 h2
  have e : ∀ a : AccL, (bk, Own.obj bookT cells) :: ({ k with mark := a }.fp tS ++ rest) = ((bk, Own.obj bookT cells) :: (k.out.fp tS ++ k.told.fp tS ++ k.waits.fp tS ++ k.note.fp tS ++ k.fresh.fp tS)) ++ (a.fp intT ++ (k.due.fp intT ++ k.from_.fp intT ++ rest)) := fun a => by simp [KL.fp, List.append_assoc]
  have e0 := e k.mark
  rw [show ({ k with mark := k.mark } : KL) = k from rfl] at e0
  rw [e0] at h0 h1 h2
  obtain ⟨m1, m2⟩ := AccL.pushed h0 h1 h2 hb x hn
  exact ⟨by rw [e]; exact m2, by rw [e]; exact m1⟩
theorem BkS.clear_mark (h : BkS S₀ tS bk cells k rest S) : BkS S₀ tS bk cells { k with mark := .empty } (k.mark.fp intT ++ rest) S := by
  refine h.perm ?_
  have e0 : k.fp tS ++ rest = (k.out.fp tS ++ k.told.fp tS ++ k.waits.fp tS ++ k.note.fp tS ++ k.fresh.fp tS) ++ (k.mark.fp intT ++ (k.due.fp intT ++ k.from_.fp intT ++ rest)) := by simp [KL.fp, List.append_assoc]
  have e1 : ({ k with mark := .empty } : KL).fp tS ++ (k.mark.fp intT ++ rest) = (k.out.fp tS ++ k.told.fp tS ++ k.waits.fp tS ++ k.note.fp tS ++ k.fresh.fp tS) ++ ((k.due.fp intT ++ k.from_.fp intT) ++ (k.mark.fp intT ++ rest)) := by simp [KL.fp, AccL.fp, AccL.empty, List.append_assoc]
  rw [e0, e1]
  refine List.Perm.append_left _ ?_
  have := List.perm_append_comm (l₁ := k.mark.fp intT) (l₂ := k.due.fp intT ++ k.from_.fp intT)
  have := this.append_right rest
  simpa [List.append_assoc] using this
theorem BkS.tip_due (h : BkS S₀ tS bk cells k rest S) (hn : k.due.es ≠ []) : S k.due.b = some (.tip intT 1 k.due.es.length) := by
  have h1 := h.ok
  rw [h.eq]
  have e : (bk, Own.obj bookT cells) :: (k.fp tS ++ rest) = ((bk, Own.obj bookT cells) :: (k.out.fp tS ++ k.told.fp tS ++ k.waits.fp tS ++ k.note.fp tS ++ k.fresh.fp tS ++ k.mark.fp intT)) ++ (k.due.fp intT ++ (k.from_.fp intT ++ rest)) := by simp [KL.fp, List.append_assoc]
  rw [e] at h1 ⊢
  exact AccL.tip h1 hn
theorem BkS.push_due (h : BkS S₀ tS bk cells k rest S) {S₁ : St} (h1 : k.due.es = [] → S₁ = S) (h2 : k.due.es ≠ [] → S₁ = S.del k.due.b) {b' : Nat} (hb : S₁ b' = none) (x : AV) {n : Nat} (hn : n = k.due.es.length + 1) :
    BkS S₀ tS bk cells { k with due := k.due.push b' x } rest (S₁.upd b' (.tip intT 1 n)) := by
  have h0 := h.ok
  rw [h.eq] at h1 h2
  have e : ∀ a : AccL, (bk, Own.obj bookT cells) :: ({ k with due := a }.fp tS ++ rest) = ((bk, Own.obj bookT cells) :: (k.out.fp tS ++ k.told.fp tS ++ k.waits.fp tS ++ k.note.fp tS ++ k.fresh.fp tS ++ k.mark.fp intT)) ++ (a.fp intT ++ (k.from_.fp intT ++ rest)) := fun a => by simp [KL.fp, List.append_assoc]
  have e0 := e k.due
  rw [show ({ k with due := k.due } : KL) = k from rfl] at e0
  rw [e0] at h0 h1 h2
  obtain ⟨m1, m2⟩ := AccL.pushed h0 h1 h2 hb x hn
  exact ⟨by rw [e]; exact m2, by rw [e]; exact m1⟩
theorem BkS.clear_due (h : BkS S₀ tS bk cells k rest S) : BkS S₀ tS bk cells { k with due := .empty } (k.due.fp intT ++ rest) S := by
  refine h.perm ?_
  have e0 : k.fp tS ++ rest = (k.out.fp tS ++ k.told.fp tS ++ k.waits.fp tS ++ k.note.fp tS ++ k.fresh.fp tS ++ k.mark.fp intT) ++ (k.due.fp intT ++ (k.from_.fp intT ++ rest)) := by simp [KL.fp, List.append_assoc]
  have e1 : ({ k with due := .empty } : KL).fp tS ++ (k.due.fp intT ++ rest) = (k.out.fp tS ++ k.told.fp tS ++ k.waits.fp tS ++ k.note.fp tS ++ k.fresh.fp tS ++ k.mark.fp intT) ++ ((k.from_.fp intT) ++ (k.due.fp intT ++ rest)) := by simp [KL.fp, AccL.fp, AccL.empty, List.append_assoc]
  rw [e0, e1]
  refine List.Perm.append_left _ ?_
  simp only [← List.append_assoc]; exact List.Perm.append_right _ List.perm_append_comm
theorem BkS.tip_from_ (h : BkS S₀ tS bk cells k rest S) (hn : k.from_.es ≠ []) : S k.from_.b = some (.tip intT 1 k.from_.es.length) := by
  have h1 := h.ok
  rw [h.eq]
  have e : (bk, Own.obj bookT cells) :: (k.fp tS ++ rest) = ((bk, Own.obj bookT cells) :: (k.out.fp tS ++ k.told.fp tS ++ k.waits.fp tS ++ k.note.fp tS ++ k.fresh.fp tS ++ k.mark.fp intT ++ k.due.fp intT)) ++ (k.from_.fp intT ++ (rest)) := by simp [KL.fp, List.append_assoc]
  rw [e] at h1 ⊢
  exact AccL.tip h1 hn
theorem BkS.push_from_ (h : BkS S₀ tS bk cells k rest S) {S₁ : St} (h1 : k.from_.es = [] → S₁ = S) (h2 : k.from_.es ≠ [] → S₁ = S.del k.from_.b) {b' : Nat} (hb : S₁ b' = none) (x : AV) {n : Nat} (hn : n = k.from_.es.length + 1) :
    BkS S₀ tS bk cells { k with from_ := k.from_.push b' x } rest (S₁.upd b' (.tip intT 1 n)) := by
  have h0 := h.ok
  rw [h.eq] at h1 h2
  have e : ∀ a : AccL, (bk, Own.obj bookT cells) :: ({ k with from_ := a }.fp tS ++ rest) = ((bk, Own.obj bookT cells) :: (k.out.fp tS ++ k.told.fp tS ++ k.waits.fp tS ++ k.note.fp tS ++ k.fresh.fp tS ++ k.mark.fp intT ++ k.due.fp intT)) ++ (a.fp intT ++ (rest)) := fun a => by simp [KL.fp, List.append_assoc]
  have e0 := e k.from_
  rw [show ({ k with from_ := k.from_ } : KL) = k from rfl] at e0
  rw [e0] at h0 h1 h2
  obtain ⟨m1, m2⟩ := AccL.pushed h0 h1 h2 hb x hn
  exact ⟨by rw [e]; exact m2, by rw [e]; exact m1⟩
theorem BkS.clear_from_ (h : BkS S₀ tS bk cells k rest S) : BkS S₀ tS bk cells { k with from_ := .empty } (k.from_.fp intT ++ rest) S := by
  refine h.perm ?_
  have e0 : k.fp tS ++ rest = (k.out.fp tS ++ k.told.fp tS ++ k.waits.fp tS ++ k.note.fp tS ++ k.fresh.fp tS ++ k.mark.fp intT ++ k.due.fp intT) ++ (k.from_.fp intT ++ (rest)) := by simp [KL.fp, List.append_assoc]
  have e1 : ({ k with from_ := .empty } : KL).fp tS ++ (k.from_.fp intT ++ rest) = (k.out.fp tS ++ k.told.fp tS ++ k.waits.fp tS ++ k.note.fp tS ++ k.fresh.fp tS ++ k.mark.fp intT ++ k.due.fp intT) ++ (([]) ++ (k.from_.fp intT ++ rest)) := by simp [KL.fp, AccL.fp, AccL.empty, List.append_assoc]
  rw [e0, e1]
  refine List.Perm.append_left _ ?_
  exact List.Perm.refl _
end
end Go.Proofs.YtikkoaoibomofaaGreatDoor.Aw
