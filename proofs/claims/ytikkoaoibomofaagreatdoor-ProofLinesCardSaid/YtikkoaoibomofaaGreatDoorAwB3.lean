/-
  Hallmarkkept's Book: lists of strings: two lists held against each other; the lists that are held.
-/
import Derived.Test.YtikkoaoibomofaaGreatDoorAwB2
set_option maxRecDepth 100000
set_option linter.unusedVariables false
namespace Go.Proofs.YtikkoaoibomofaaGreatDoor.Aw
open Go Go.RowKit
variable {G : Nat → Option (List AV)}

abbrev strT : Nat := 9
abbrev strsT : Nat := 41
theorem sameTexts_ok (b cap : Nat) (l : List ByteArray) (junk : List AV) (hl : l.length ≤ 1000000000000) (S : St) (hS : S b = some (.obj strT (l.map AV.str ++ junk))) :
    Triple P (C G) 31 [.arr b 0 l.length cap, .sl .any 1 (rowsS l)] S fun o S' => o = .ret (.bool true) ∧ S' = S := by
  refine triple_of_awp (hT G) hm Tryz.func31 rfl (by decide +kernel) rfl (by decide +kernel) (by show 2 ≤ _; decide +kernel) rfl ?_
  conv => whnf
  intro hlen
  conv => whnf
  refine split_of (fun h => by simp [rowsS] at h) (fun _ => ?_)
  conv => whnf
  refine ⟨⟨Nat, fun i => [(0, .arr b 0 l.length cap), (1, .sl .any 1 (rowsS l)), (5, .int .i64 (i : Int))], fun i S' => S' = S ∧ i ≤ l.length, fun i => l.length - i⟩,
    ⟨0, ⟨rfl, ⟨rfl, rfl⟩, rfl, trivial⟩, S, St.leW_refl _, rfl, by omega⟩, ?_⟩
  rintro (i : Nat) S₁ ⟨rfl, h2⟩
  conv => whnf
  refine split_of (fun hlt => ?_) (fun hlt => ?_)
  · have hlt : i < l.length := by simpa using hlt
    have w1 : IntKind.i64.wrap ((i : Int) + 1) = ((i + 1 : Nat) : Int) := wrap_nat (by omega)
    conv => whnf
    refine ⟨⟨by omega, by omega⟩, ?_⟩
    conv => whnf
    refine ⟨_, _, hS, aPart_cell rfl (x := .str l[i]) (by show (List.map AV.str l ++ junk)[0 + (i : Int).toNat * 1]? = _; simp [List.getElem?_append_left, hlt]) ?_⟩
    conv => whnf
    refine ⟨[.str l[i]], ⟨by omega, by simp [rowsS, hlt]⟩, ?_⟩
    conv => whnf
    refine split_of (fun h => by simp at h) (fun _ => ?_)
    conv => whnf
    exact ⟨i + 1, ⟨rfl, ⟨rfl, rfl⟩, congrArg _ w1, trivial⟩, ⟨_, St.leW_refl _, rfl, by omega⟩, by show l.length - (i + 1) < l.length - i; omega⟩
  · conv => whnf
    exact ⟨_, _, ⟨rfl, rfl⟩, St.le_refl _, AV.leS_refl _ _ _⟩
/-- A list of strings that is tracked: its block, what it holds, what lies behind. -/
structure ItT where
  b : Nat
  cap : Nat
  l : List ByteArray
  junk : List AV
def ItT.hdr (it : ItT) : AV := .arr it.b 0 it.l.length it.cap
def ItT.own (it : ItT) : Own := .obj strT (it.l.map AV.str ++ it.junk)
structure ItT.Ok (it : ItT) : Prop where
  le : it.l.length ≤ it.cap
  room : it.cap ≤ it.l.length + it.junk.length
  max : it.cap ≤ maxLen
structure WE where
  it : ItT
  note : Nat
  mark : Int
  due : Int
structure OE where
  b : Nat
  cap : Nat
  l : List ByteArray
  told : Nat
structure FE where
  it : ItT
  from_ : Int
structure KData (k : KL) (W : List WE) (O : List OE) (F : List FE) : Prop where
  waits : k.waits.es = W.map fun w => [w.it.hdr]
  note : k.note.es = W.map fun w => [.sl (.own w.note) 1 (rowsS w.it.l)]
  mark : k.mark.es = W.map fun w => [.int .i64 w.mark]
  due : k.due.es = W.map fun w => [.int .i64 w.due]
  out : k.out.es = O.map fun o => [.arr o.b 0 o.l.length o.cap]
  told : k.told.es = O.map fun o => [.sl (.own o.told) 1 (rowsS o.l)]
  fresh : k.fresh.es = F.map fun f => [f.it.hdr]
  from_ : k.from_.es = F.map fun f => [.int .i64 f.from_]
theorem holdTexts_ok (S₀ : St) (bk : Nat) (B : BookA) (k : KL) (rest : List (Nat × Own)) (S : St) (h : BkS S₀ strsT bk { B with texts := k.kind }.cells k rest S) (W : List WE) (O : List OE) (F : List FE) (hk : KData k W O F)
    (hW : ∀ w ∈ W, S w.it.b = some w.it.own ∧ w.it.l.length ≤ 1000000000000) (hO : ∀ o ∈ O, (∃ junk, S o.b = some (.obj strT (o.l.map AV.str ++ junk))) ∧ o.l.length ≤ 1000000000000) (hn : O.length ≤ 1000000000000 ∧ W.length ≤ 1000000000000) :
    Triple P (C G) 13 [.ref bk 0] S fun o S' => o = .ret (.bool true) ∧ S' = S := by
  have hb := h.book
  refine triple_of_awp (hT G) hm Tryz.func13 rfl (by decide +kernel) rfl (by decide +kernel) (by show 1 ≤ _; decide +kernel) rfl ?_
  conv => whnf
  refine ⟨⟨Nat, fun i => [(0, .ref bk 0), (3, .int .i64 (i : Int))], fun i S' => S' = S ∧ i ≤ O.length, fun i => O.length - i⟩, ⟨0, ⟨rfl, rfl, trivial⟩, S, St.leW_refl _, rfl, by omega⟩, ?_⟩
  rintro (i : Nat) S₁ ⟨rfl, hi⟩
  conv => whnf
  refine ⟨_, _, hb, ?_⟩
  conv => whnf
  intro hlen
  conv => whnf
  refine split_of (fun hlt => ?_) (fun hlt => ?_)
  · have hlt : i < O.length := by
      have : k.out.es.length = O.length := by rw [hk.out]; simp
      have := of_decide_eq_true hlt
      omega
    have w1 : IntKind.i64.wrap ((i : Int) + 1) = ((i + 1 : Nat) : Int) := wrap_nat (by omega)
    obtain ⟨⟨junk, hj⟩, hjl⟩ := hO O[i] (List.getElem_mem hlt)
    conv => whnf
    refine ⟨[], (.free 0 (.free 1 (.free 2 (.free 3 (.free 4 (.free 5 (.free 6 (.free 7 (.free 8 (.free 9 (.free 10 (.free 11 (.free 12 (.free 13 (.one 14 (.free 15 .done) .none))))))))))))))), _, by decide +kernel, ?_, fun _ _ h => ⟨_, .inl rfl, h⟩⟩
    conv => whnf
    refine ⟨_, _, hb, ?_⟩
    conv => whnf
    refine ⟨[.arr O[i].b 0 O[i].l.length O[i].cap], ⟨by omega, by rw [hk.out]; simp [hlt]⟩, ?_⟩
    conv => whnf
    refine ⟨_, _, hb, ?_⟩
    conv => whnf
    refine ⟨[.sl (.own O[i].told) 1 (rowsS O[i].l)], ⟨by omega, by rw [hk.told]; simp [hlt]⟩, ?_⟩
    conv => whnf
    refine Triple.use (sameTexts_ok O[i].b O[i].cap O[i].l junk hjl S₁ hj) (by exact ⟨rfl, ⟨rfl, rfl⟩, trivial⟩) ?_
    rintro o S' ⟨rfl, rfl⟩
    conv => whnf
    exact ⟨i + 1, ⟨rfl, congrArg _ w1, trivial⟩, ⟨_, St.leW_refl _, rfl, by omega⟩, by show O.length - (i + 1) < O.length - i; omega⟩
  · conv => whnf
    refine ⟨⟨Nat, fun i => [(0, .ref bk 0), (4, .int .i64 (i : Int))], fun i S' => S' = S₁ ∧ i ≤ W.length, fun i => W.length - i⟩, ⟨0, ⟨rfl, rfl, trivial⟩, S₁, St.leW_refl _, rfl, by omega⟩, ?_⟩
    rintro (i : Nat) S₂ ⟨rfl, hi⟩
    conv => whnf
    refine ⟨_, _, hb, ?_⟩
    conv => whnf
    intro hlen
    conv => whnf
    refine split_of (fun hlt => ?_) (fun hlt => ?_)
    · have hlt : i < W.length := by
        have : k.waits.es.length = W.length := by rw [hk.waits]; simp
        have := of_decide_eq_true hlt
        omega
      have w1 : IntKind.i64.wrap ((i : Int) + 1) = ((i + 1 : Nat) : Int) := wrap_nat (by omega)
      obtain ⟨hj, hjl⟩ := hW W[i] (List.getElem_mem hlt)
      conv => whnf
      refine ⟨[], (.free 0 (.free 1 (.free 2 (.free 3 (.free 4 (.free 5 (.free 6 (.free 7 (.free 8 (.free 9 (.free 10 (.free 11 (.free 12 (.free 13 (.one 14 (.free 15 .done) .none))))))))))))))), _, by decide +kernel, ?_, fun _ _ h => ⟨_, .inl rfl, h⟩⟩
      conv => whnf
      refine ⟨_, _, hb, ?_⟩
      conv => whnf
      refine ⟨[W[i].it.hdr], ⟨by omega, by rw [hk.waits]; simp [hlt]⟩, ?_⟩
      conv => whnf
      refine ⟨_, _, hb, ?_⟩
      conv => whnf
      refine ⟨[.sl (.own W[i].note) 1 (rowsS W[i].it.l)], ⟨by omega, by rw [hk.note]; simp [hlt]⟩, ?_⟩
      conv => whnf
      refine Triple.use (sameTexts_ok W[i].it.b W[i].it.cap W[i].it.l W[i].it.junk hjl S₂ hj) (by exact ⟨rfl, ⟨rfl, rfl⟩, trivial⟩) ?_
      rintro o S' ⟨rfl, rfl⟩
      conv => whnf
      exact ⟨i + 1, ⟨rfl, congrArg _ w1, trivial⟩, ⟨_, St.leW_refl _, rfl, by omega⟩, by show W.length - (i + 1) < W.length - i; omega⟩
    · conv => whnf
      exact ⟨_, _, ⟨rfl, rfl⟩, St.le_refl _, AV.leS_refl _ _ _⟩
end Go.Proofs.YtikkoaoibomofaaGreatDoor.Aw
