/-
  Hallmarkkept's Book: lists of strings: what was written full is laid on.
-/
import Derived.Test.YtikkoaoibomofaaGreatDoorAwB3
set_option maxRecDepth 100000
set_option linter.unusedVariables false
set_option linter.unusedSimpArgs false
namespace Go.Proofs.YtikkoaoibomofaaGreatDoor.Aw
open Go Go.RowKit
variable {G : Nat → Option (List AV)}

theorem wrap_lo (n : Int) : -9223372036854775808 ≤ IntKind.i64.wrap n := by rw [IntKind.wrap_i64]; omega
theorem wrap_hi (n : Int) : IntKind.i64.wrap n ≤ 9223372036854775807 := by rw [IntKind.wrap_i64]; omega
theorem rows_pre : ∀ (m : List ByteArray) (junk : List AV), rowsOf 1 (List.take (m.length * 1) (List.drop 0 (m.map AV.str ++ junk))) m.length = rowsS m
  | [], junk => rfl
  | s :: m, junk => by
    have := rows_pre m junk
    simp only [List.drop_zero, Nat.mul_one] at this ⊢
    simp only [List.length_cons, List.map_cons, List.cons_append, List.take_succ_cons, rowsOf, rowsS, List.drop_succ_cons, List.drop_zero]
    rw [this]
    rfl
/-- A list's cells begin so. -/
def PreT (l : List ByteArray) (cells : List AV) : Prop := ∃ junk, cells = l.map AV.str ++ junk
theorem PreT.le {l : List ByteArray} {cells : List AV} (h : PreT l cells) : l.length ≤ cells.length := by obtain ⟨j, rfl⟩ := h; simp
/-- Where more is written behind, what stood ahead stays. -/
theorem PreT.set {l m : List ByteArray} {cells : List AV} (h : PreT l cells) (hm : PreT m cells) (hle : l.length ≤ m.length) (x : ByteArray) (h1 : m.length < cells.length) : PreT l (cells.set m.length (.str x)) := by
  obtain ⟨j, rfl⟩ := h
  refine ⟨j.set (m.length - l.length) (.str x), ?_⟩
  rw [List.set_append]
  simp only [List.length_map]
  rw [if_neg (by omega)]
theorem PreT.push {m : List ByteArray} {cells : List AV} (hm : PreT m cells) (x : ByteArray) (h1 : m.length < cells.length) : PreT (m ++ [x]) (cells.set m.length (.str x)) := by
  obtain ⟨j, rfl⟩ := hm
  cases j with
  | nil => simp at h1
  | cons y j =>
    refine ⟨j, ?_⟩
    rw [List.set_append]
    simp
/-- All lists that were told can still be seen. -/
def SeesT (O : List OE) (rest : List (Nat × Own)) : Prop := ∀ o ∈ O, ∃ cells, (o.b, Own.obj strT cells) ∈ rest ∧ PreT o.l cells
theorem SeesT.mono {O : List OE} {rest rest' : List (Nat × Own)} (h : SeesT O rest) (hm : ∀ p ∈ rest, p ∈ rest') : SeesT O rest' := fun o ho => by
  obtain ⟨c, h1, h2⟩ := h o ho
  exact ⟨c, hm _ h1, h2⟩
theorem rest_one {S₀ : St} {tS bk : Nat} {cells : List AV} {k : KL} {rest : List (Nat × Own)} {S : St} (h : BkS S₀ tS bk cells k rest S) {b : Nat} {o o' : Own} (h1 : (b, o) ∈ rest) (h2 : (b, o') ∈ rest) : o = o' := by
  have := (h.get h1).symm.trans (h.get h2)
  cases this; rfl
theorem BkS.itemSet {S₀ : St} {tS bk : Nat} {cells : List AV} {k : KL} {rest : List (Nat × Own)} {S : St} (h : BkS S₀ tS bk cells k rest S) {b : Nat} {o : Own} (hm : (b, o) ∈ rest) (o' : Own) :
    ∃ rest', BkS S₀ tS bk cells k rest' (S.upd b o') ∧ (b, o') ∈ rest' ∧ (∀ c p, (c, p) ∈ rest → c ≠ b → (c, p) ∈ rest') := by
  obtain ⟨p, q, rfl⟩ := List.append_of_mem hm
  refine ⟨p ++ (b, o') :: q, h.set rfl o', by simp, fun c x hc hne => ?_⟩
  simp only [List.mem_append, List.mem_cons, Prod.mk.injEq] at hc ⊢
  rcases hc with hc | ⟨rfl, _⟩ | hc
  · exact .inl hc
  · exact absurd rfl hne
  · exact .inr (.inr hc)
theorem SeesT.grow {S₀ : St} {tS bk : Nat} {cs : List AV} {k : KL} {rest : List (Nat × Own)} {S : St} (h : BkS S₀ tS bk cs k rest S) {O : List OE} (hs : SeesT O rest) {b : Nat} {cells : List AV} (hm : (b, .obj strT cells) ∈ rest) {m : List ByteArray} (hp : PreT m cells)
    (h1 : m.length < cells.length) (hle : ∀ o ∈ O, o.b = b → o.l.length ≤ m.length) (x : ByteArray) :
    ∃ rest', BkS S₀ tS bk cs k rest' (S.upd b (.obj strT (cells.set m.length (.str x)))) ∧ (b, .obj strT (cells.set m.length (.str x))) ∈ rest' ∧ SeesT O rest' ∧ (∀ c p, (c, p) ∈ rest → c ≠ b → (c, p) ∈ rest') := by
  obtain ⟨rest', k1, k2, k3⟩ := h.itemSet hm (.obj strT (cells.set m.length (.str x)))
  refine ⟨rest', k1, k2, fun o ho => ?_, k3⟩
  obtain ⟨c, c1, c2⟩ := hs o ho
  by_cases hb : o.b = b
  · have : c = cells := by
      rw [hb] at c1
      have := rest_one h c1 hm
      cases this; rfl
    subst this
    exact ⟨_, by rw [hb]; exact k2, c2.set hp (hle o ho hb) x h1⟩
  · exact ⟨c, k3 _ _ c1 hb, c2⟩
/-- A list that is being laid on: its block, how far it is, its cells. -/
structure GrowT (O : List OE) (keep : Nat → Prop) (rest₀ : List (Nat × Own)) (rest : List (Nat × Own)) (b cap : Nat) (m : List ByteArray) : Prop where
  item : ∃ cells, (b, Own.obj strT cells) ∈ rest ∧ PreT m cells ∧ cap ≤ cells.length
  le : m.length ≤ cap
  max : cap ≤ maxLen
  sees : SeesT O rest
  low : ∀ o ∈ O, o.b = b → o.l.length ≤ m.length
  kept : ∀ c p, (c, p) ∈ rest₀ → keep c → (c, p) ∈ rest
  free : ¬ keep b
/-- One round of laying on: what the append leaves. -/
theorem GrowT.inPlace {S₀ : St} {tS bk : Nat} {cs : List AV} {k : KL} {rest : List (Nat × Own)} {S : St} (h : BkS S₀ tS bk cs k rest S) {O : List OE} {keep : Nat → Prop} {rest₀ : List (Nat × Own)} {b cap : Nat} {m : List ByteArray} (hg : GrowT O keep rest₀ rest b cap m)
    {cells : List AV} (hm : (b, .obj strT cells) ∈ rest) (hr : m.length + 1 ≤ cap) (x : ByteArray) :
    ∃ rest', BkS S₀ tS bk cs k rest' (S.upd b (.obj strT (cells.set m.length (.str x)))) ∧ GrowT O keep rest₀ rest' b cap (m ++ [x]) := by
  obtain ⟨cells', hm', hp, hc⟩ := hg.item
  have : cells' = cells := by have := rest_one h hm' hm; cases this; rfl
  subst this
  obtain ⟨rest', k1, k2, k3, k4⟩ := hg.sees.grow h hm hp (by omega) hg.low x
  exact ⟨rest', k1, ⟨_, k2, hp.push x (by omega), by simpa using hc⟩, by simpa using hr, hg.max, k3, fun o ho hb => by have := hg.low o ho hb; simp; omega, fun c p h1 h2 => k4 c p (hg.kept c p h1 h2) (fun e => hg.free (by rw [← e]; exact h2)), hg.free⟩
theorem GrowT.newRow {S₀ : St} {tS bk : Nat} {cs : List AV} {k : KL} {rest : List (Nat × Own)} {S : St} (h : BkS S₀ tS bk cs k rest S) {O : List OE} {keep : Nat → Prop} {rest₀ : List (Nat × Own)} {b cap : Nat} {m : List ByteArray} (hg : GrowT O keep rest₀ rest b cap m)
    (hk0 : ∀ c, keep c → ∃ p, (c, p) ∈ rest₀) {b' cap' : Nat} (hb : S b' = none) (hc1 : m.length + 1 ≤ cap') (hc2 : cap' ≤ maxLen) (x : ByteArray) (tail : List AV) (ht : cap' ≤ m.length + 1 + tail.length) :
    ∃ rest', BkS S₀ tS bk cs k rest' (S.upd b' (.obj strT ((m ++ [x]).map AV.str ++ tail))) ∧ GrowT O keep rest₀ rest' b' cap' (m ++ [x]) := by
  have hnew := h.new hb (.obj strT ((m ++ [x]).map AV.str ++ tail))
  have hnk : b' ∉ rest.map (·.1) := fun hh => h.none_ne hb (by simp only [List.map_cons, List.map_append, List.mem_cons, List.mem_append]; exact .inr (.inr hh))
  refine ⟨_, hnew, ⟨_, by simp, ⟨tail, rfl⟩, by simp; omega⟩, by simpa using hc1, hc2, hg.sees.mono (by simp +contextual), fun o ho hb' => ?_, fun c p h1 h2 => by simp [hg.kept c p h1 h2], fun hk => ?_⟩
  · obtain ⟨c, c1, _⟩ := hg.sees o ho
    exact absurd (List.mem_map.2 ⟨_, c1, hb'⟩) hnk
  · obtain ⟨p, hp⟩ := hk0 b' hk
    exact hnk (List.mem_map.2 ⟨_, hg.kept b' p hp hk, rfl⟩)
end Go.Proofs.YtikkoaoibomofaaGreatDoor.Aw
