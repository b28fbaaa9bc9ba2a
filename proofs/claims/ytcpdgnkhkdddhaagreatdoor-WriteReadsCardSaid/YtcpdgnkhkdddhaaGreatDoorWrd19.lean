/-
  The entry of a law's walk where it is handed calls of a log. No condition.
-/
import Derived.Test.YtcpdgnkhkdddhaaGreatDoorWrd18
import Derived.Test.YtcpdgnkhkdddhaaGreatDoorWrd16
set_option maxRecDepth 100000
set_option linter.unusedVariables false
set_option linter.unusedSimpArgs false
namespace Go.Proofs.YtcpdgnkhkdddhaaGreatDoor.Aw
open Go Go.RowKit

section
variable {H : Type} {enc : TypeId × Value → H} {W : World}
theorem opens_bool : Opens enc W 4 (fun b : Bool => [.bool b]) (fun _ => True) := fun fuel cs x h => by
  obtain ⟨b, rfl, _⟩ := DataW.trod_bool Tryz.underlying4 h
  refine ⟨b, by simp only [RelL, Rel]; exact ⟨_, _, rfl, rfl, rfl⟩, fun u hu => ?_, trivial⟩
  obtain rfl : u = .bool b := by simpa using hu
  rfl
theorem opens_opC : Opens enc W 90 opC (fun v => SzOp v ∧ IntOp v) := fun fuel cs x h => by
  obtain ⟨xs, n, _, _, hl, hxs, hf⟩ := DataW.trod_struct Tryz.underlying90 h
  have hl : cs.length = 10 := hl.trans (by kernel_rfl)
  have hxs : xs.length = 9 := hxs
  have hmx : maxLen ≤ 9223372036854775807 := by decide
  match cs, hl with
  | [c0, c1, c2, c3, c4, c5, c6, c7, c8, c9], _ =>
    obtain ⟨z0, a1, a2, a3⟩ := opens_field hf 0 _ rfl (by omega) (k := 1) (by kernel_rfl) opens_int
    obtain ⟨z1, b1, b2, b3⟩ := opens_field hf 1 _ rfl (by omega) (k := 1) (by kernel_rfl) opens_bool
    obtain ⟨z2, e1, e2, e3, e4⟩ := opens_field hf 2 _ rfl (by omega) (k := 2) (by kernel_rfl) opens_row
    obtain ⟨z3, d1, d2, d3, _⟩ := opens_field hf 3 _ rfl (by omega) (k := 1) (by kernel_rfl) opens_ops
    obtain ⟨z4, f1, f2, f3, f4⟩ := opens_field hf 4 _ rfl (by omega) (k := 1) (by kernel_rfl) opens_ints
    obtain ⟨z5, g1, g2, g3⟩ := opens_field hf 5 _ rfl (by omega) (k := 1) (by kernel_rfl) opens_int
    obtain ⟨z6, i1, i2, i3⟩ := opens_field hf 6 _ rfl (by omega) (k := 1) (by kernel_rfl) opens_int
    obtain ⟨z7, j1, j2, j3⟩ := opens_field hf 7 _ rfl (by omega) (k := 1) (by kernel_rfl) opens_int
    obtain ⟨z8, k1, k2, k3⟩ := opens_field hf 8 _ rfl (by omega) (k := 1) (by kernel_rfl) opens_int
    refine ⟨⟨z0, z1, z2.1, z2.2, z3, z4, z5, z6, z7, z8⟩, RelL.append a1 (RelL.append b1 (RelL.append e1 (RelL.append d1 (RelL.append f1 (RelL.append g1 (RelL.append i1 (RelL.append j1 k1))))))), fun u hu => ?_,
      ⟨Nat.le_trans e4 hmx, fun p hp => Nat.le_trans (e3 p hp).2 hmx, fun o ho => Nat.le_trans (d3 o ho).2 hmx, Nat.le_trans f4 hmx⟩, ⟨fun p hp => (e3 p hp).1, fun o ho => (d3 o ho).1, f3, g3, i3, j3, k3⟩⟩
    simp only [List.mem_cons, List.not_mem_nil, or_false] at hu
    rcases hu with rfl | rfl | rfl | rfl | rfl | rfl | rfl | rfl | rfl | rfl
    · exact a2 _ (List.mem_singleton.2 rfl)
    · exact b2 _ (List.mem_singleton.2 rfl)
    · exact e2 _ (List.mem_cons_self ..)
    · exact e2 _ (List.mem_cons_of_mem _ (List.mem_cons_self ..))
    · exact d2 _ (List.mem_singleton.2 rfl)
    · exact f2 _ (List.mem_singleton.2 rfl)
    · exact g2 _ (List.mem_singleton.2 rfl)
    · exact i2 _ (List.mem_singleton.2 rfl)
    · exact j2 _ (List.mem_singleton.2 rfl)
    · exact k2 _ (List.mem_singleton.2 rfl)
theorem opens_opCs : Opens enc W 85 (fun l : List OpC => [.sl .any 10 (rowsC l)]) (fun l => (∀ v ∈ l, SzOp v ∧ IntOp v) ∧ l.length ≤ maxLen) :=
  opens_slice Tryz.underlying85 (by kernel_rfl) (by decide) (fun _ => rfl) opens_opC
theorem open_opCs {b0 : Nat} {v : Value} {d : DataW H} {ps : List MemPlace} (hval : Value.okWide Tryz.prog W .any b0 85 v) (hd : DataW.Trod enc Tryz.prog W 0 (fun _ => true) true 85 v d ps) :
    ∃ l : List OpC, Rel W (rdOf St.emp) (.sl .any 10 (rowsC l)) v ∧ (∀ v ∈ l, SzOp v) ∧ ∀ v ∈ l, IntOp v := by
  obtain ⟨a, len, cap, rfl⟩ := Go.WideShapes.okWide_slice Tryz.underlying85 hval
  obtain ⟨fuel, hf⟩ := hd
  obtain ⟨l, h1, _, h3, _⟩ := opens_opCs _ _ _ hf
  refine ⟨l, ?_, fun v hv => (h3 v hv).1, fun v hv => (h3 v hv).2⟩
  have e : (Value.slice a len cap).cells.toList = [Value.slice a len cap] := rfl
  rw [e] at h1
  simp only [RelL] at h1
  obtain ⟨u, us, h4, h5, _⟩ := h1
  obtain ⟨rfl, _⟩ := List.cons.inj h4
  exact h5
end
end Go.Proofs.YtcpdgnkhkdddhaaGreatDoor.Aw
