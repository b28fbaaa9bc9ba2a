/-
  Package hallmarkroom: the count of parts, walked.
  Package hallmarkroom: the count of a step's parts, walked.
  Package hallmarkroom: the count of steps; plain: what a count within its bound says of the steps.
  hallmarklaw8.ProofBack, walked: it answers true.
-/
import Derived.Test.YtdlgedpmbeafdaaGreatDoorPab11
import Derived.Test.YtdlgedpmbeafdaaGreatDoorPab14
set_option maxRecDepth 100000
set_option linter.unusedVariables false
set_option linter.unusedSimpArgs false
namespace Go.Proofs.YtdlgedpmbeafdaaGreatDoor.Aw
open Go Go.RowKit
variable {G : Nat → Option (List AV)}

/-- What is left, once n parts more are counted. -/
def cnt (x n : Int) : Int := if 0 ≤ x then x - n else x
/-- What the count holds is in an int's reach, with room above. -/
def OkC (x : Int) : Prop := -9223372036854775808 ≤ x ∧ x ≤ 1000000000
theorem cnt_ok {x n : Int} (h : OkC x) (h0 : 0 ≤ n) (h1 : n ≤ 9223372036854775807) : OkC (cnt x n) := by
  unfold OkC cnt at *
  split <;> omega
def CntAt (S : St) (b : Nat) (x : Int) : Prop := S b = some (.obj 73 [.int .i64 x])
theorem CMany_ok (n : Int) (S : St) : Triple P (C G) 13 [.int .i64 n] S fun o S' => ∃ b, S b = none ∧ o = .ret (.ref b 0) ∧ S' = S.upd b (.obj 73 [.int .i64 n]) := by
  refine triple_of_awp (hT G) hm Tryz.func13 rfl (by decide +kernel) rfl (by decide +kernel) (by show 1 ≤ _; decide +kernel) rfl ?_
  conv => whnf
  intro b hb
  conv => whnf
  exact ⟨_, _, ⟨b, hb, rfl, rfl⟩, St.le_refl _, AV.leS_refl _ _ _⟩
theorem COk_ok {S : St} {b : Nat} {x : Int} (h : CntAt S b x) : Triple P (C G) 15 [.ref b 0] S fun o S' => o = .ret (.bool (decide (0 ≤ x))) ∧ S' = S := by
  unfold CntAt at h
  refine triple_of_awp (hT G) hm Tryz.func15 rfl (by decide +kernel) rfl (by decide +kernel) (by show 1 ≤ _; decide +kernel) rfl ?_
  conv => whnf
  refine ⟨_, _, h, ?_⟩
  conv => whnf
  exact ⟨_, _, ⟨rfl, rfl⟩, St.le_refl _, AV.leS_refl _ _ _⟩
theorem CAdd_ok {S : St} {b : Nat} {x : Int} (h : CntAt S b x) (hx : OkC x) (n : Int) (h0 : 0 ≤ n) (h1 : n ≤ 9223372036854775807) : Triple P (C G) 44 [.ref b 0, .int .i64 n] S fun o S' => (∃ r, o = .ret (.bool r)) ∧ S' = S.upd b (.obj 73 [.int .i64 (cnt x n)]) := by
  have hw : 0 ≤ x → IntKind.i64.wrap (x - n) = x - n := fun hp => wrap_i64 (by omega) (by unfold OkC at hx; omega)
  unfold CntAt at h
  unfold cnt
  by_cases hp : 0 ≤ x
  · rw [if_pos hp]
    have hw := hw hp
    refine triple_of_awp (hT G) hm Tryz.func44 rfl (by decide +kernel) rfl (by decide +kernel) (by show 2 ≤ _; decide +kernel) rfl ?_
    refine awp_seq2 fun K hK hQ => ?_
    conv => whnf
    refine hK _ _ ?_
    clear hK hQ K
    refine awp_seq2 fun K hK hQ => ?_
    conv => whnf
    refine ⟨_, _, h, ?_⟩
    conv => whnf
    refine split_of (fun _ => ?_) (fun hh => absurd hp (of_decide_eq_false hh))
    conv => whnf
    refine ⟨_, _, h, ?_⟩
    conv => whnf
    refine ⟨_, _, h, ?_⟩
    conv => whnf
    rw [hw]
    refine hK _ _ ?_
    clear hK hQ K
    conv => whnf
    refine ⟨_, _, St.upd_same _ _ _, ?_⟩
    conv => whnf
    exact ⟨_, _, ⟨⟨_, rfl⟩, rfl⟩, St.le_refl _, AV.leS_refl _ _ _⟩
  · rw [if_neg hp]
    refine triple_of_awp (hT G) hm Tryz.func44 rfl (by decide +kernel) rfl (by decide +kernel) (by show 2 ≤ _; decide +kernel) rfl ?_
    refine awp_seq2 fun K hK hQ => ?_
    conv => whnf
    refine hK _ _ ?_
    clear hK hQ K
    refine awp_seq2 fun K hK hQ => ?_
    conv => whnf
    refine ⟨_, _, h, ?_⟩
    conv => whnf
    refine split_of (fun hh => absurd (of_decide_eq_true hh) hp) (fun _ => ?_)
    conv => whnf
    refine hK _ _ ?_
    clear hK hQ K
    conv => whnf
    refine ⟨_, _, h, ?_⟩
    conv => whnf
    exact ⟨_, _, ⟨⟨_, rfl⟩, by rw [St.upd_id h]⟩, St.le_refl _, AV.leS_refl _ _ _⟩
def cntT (x : Int) (s : ByteArray) : Int := cnt (cnt x 1) s.size
theorem cntT_ok {x : Int} (h : OkC x) (s : ByteArray) (hs : s.size ≤ 9223372036854775807) : OkC (cntT x s) := cnt_ok (cnt_ok h (by omega) (by omega)) (by omega) (by omega)
theorem Text_c {S : St} {b : Nat} {x : Int} (h : CntAt S b x) (hx : OkC x) (s : ByteArray) (hs : s.size ≤ 9223372036854775807) : Triple P (C G) 41 [.ref b 0, .str s] S fun o S' => o = .ret (.tu []) ∧ S' = S.upd b (.obj 73 [.int .i64 (cntT x s)]) := by
  have a1 := CAdd_ok (G := G) h hx 1 (by omega) (by omega)
  have h1 : CntAt (S.upd b (.obj 73 [.int .i64 (cnt x 1)])) b (cnt x 1) := St.upd_same _ _ _
  have a2 := CAdd_ok (G := G) h1 (cnt_ok hx (by omega) (by omega)) s.size (by omega) (by omega)
  rw [St.upd_upd] at a2
  unfold cntT
  generalize cnt (cnt x 1) s.size = z at *
  refine triple_of_awp (hT G) hm Tryz.func41 rfl (by decide +kernel) rfl (by decide +kernel) (by show 2 ≤ _; decide +kernel) rfl ?_
  refine awp_seq2 fun K hK hQ => ?_
  conv => whnf
  refine a1.mono ?_
  rintro o T ⟨⟨r, rfl⟩, rfl⟩
  conv => whnf
  refine hK _ _ ?_
  clear hK hQ K
  conv => whnf
  refine a2.mono ?_
  rintro o T ⟨⟨r, rfl⟩, rfl⟩
  conv => whnf
  exact ⟨_, _, ⟨rfl, rfl⟩, St.le_refl _, AV.leS_refl _ _ _⟩
/-- Text by text, until too much is counted. -/
def cntL : Int → List ByteArray → Int
  | x, [] => x
  | x, s :: l => if 0 ≤ x then cntL (cntT x s) l else x
theorem Texts_c {S : St} {b : Nat} {x : Int} (h : CntAt S b x) (hx : OkC x) (l : List ByteArray) (hs : ∀ o ∈ l, ((fun s : ByteArray => s) o).size ≤ 9223372036854775807) : Triple P (C G) 45 [.ref b 0, .sl .any 1 (rowsS l)] S fun o S' => o = .ret (.tu []) ∧ S' = S.upd b (.obj 73 [.int .i64 (cntL x (l.map fun o => (fun s : ByteArray => s) o))]) := by
  refine triple_of_awp (hT G) hm Tryz.func45 rfl (by decide +kernel) rfl (by decide +kernel) (by show 2 ≤ _; decide +kernel) rfl ?_
  conv => whnf
  refine ⟨⟨Nat × Int, fun z => [(0, .ref b 0), (1, .sl .any 1 (rowsS l)), (4, .int .i64 (z.1 : Int))],
    fun z S' => S' = S.upd b (.obj 73 [.int .i64 z.2]) ∧ OkC z.2 ∧ z.1 ≤ l.length ∧ cntL z.2 ((l.map fun o => (fun s : ByteArray => s) o).drop z.1) = cntL x (l.map fun o => (fun s : ByteArray => s) o), fun z => l.length - z.1⟩,
    ⟨(0, x), ⟨rfl, ⟨rfl, rfl⟩, rfl, trivial⟩, _, St.leW_refl _, (St.upd_id h).symm, hx, by omega, rfl⟩, ?_⟩
  rintro ⟨i, y⟩ S' ⟨rfl, hy, hi, he⟩
  dsimp only at hy hi he
  have h' : CntAt (S.upd b (.obj 73 [.int .i64 y])) b y := St.upd_same _ _ _
  have hok := COk_ok (G := G) h'
  conv => whnf
  intro hlen
  conv => whnf
  by_cases hlt : i < l.length
  · rw [show decide ((i : Int) < ((rowsS l).length : Int)) = true from decide_eq_true (by rw [rowsS_len]; omega)]
    have hd : (l.map fun o => (fun s : ByteArray => s) o).drop i = (fun o => (fun s : ByteArray => s) o) l[i] :: (l.map fun o => (fun s : ByteArray => s) o).drop (i + 1) := by
      rw [List.drop_eq_getElem_cons (by simpa using hlt)]; simp
    rw [hd] at he
    simp only [cntL] at he
    have hsi := hs _ (List.getElem_mem hlt)
    have ga : (rowsS l)[(i : Int).toNat]? = some ([.str l[i]]) := by simp [rowsS, hlt]
    have htx := Text_c (G := G) h' hy ((fun o => (fun s : ByteArray => s) o) l[i]) hsi
    have hyt := cntT_ok hy ((fun o => (fun s : ByteArray => s) o) l[i]) hsi
    rw [St.upd_upd] at htx
    rw [rowsS_len] at hlen
    conv => whnf
    refine hok.mono ?_
    rintro o T ⟨rfl, rfl⟩
    conv => whnf
    refine split_of (fun hp => ?_) (fun hp => ?_)
    · have hp : 0 ≤ y := of_decide_eq_true hp
      rw [if_pos hp] at he
      have w1 : IntKind.i64.wrap ((i : Int) + 1) = ((i + 1 : Nat) : Int) := wrap_nat (by omega)
      dsimp only at htx hyt he
      generalize l[i] = e at *
      conv => whnf
      refine ⟨_, ⟨by omega, ga⟩, ?_⟩
      conv => whnf
      refine htx.mono ?_
      rintro o T ⟨rfl, rfl⟩
      conv => whnf
      exact ⟨(i + 1, _), ⟨rfl, ⟨rfl, rfl⟩, congrArg _ w1, trivial⟩, ⟨_, St.leW_refl _, rfl, hyt, hlt, he⟩, by show l.length - (i + 1) < l.length - i; omega⟩
    · have hp : ¬ 0 ≤ y := of_decide_eq_false hp
      rw [if_neg hp] at he
      conv => whnf
      exact ⟨_, _, ⟨rfl, by rw [he]⟩, St.le_refl _, AV.leS_refl _ _ _⟩
  · rw [show decide ((i : Int) < ((rowsS l).length : Int)) = false from decide_eq_false (by rw [rowsS_len]; omega)]
    have hd : (l.map fun o => (fun s : ByteArray => s) o).drop i = [] := List.drop_eq_nil_of_le (by simp; omega)
    rw [hd] at he
    conv => whnf
    exact ⟨_, _, ⟨rfl, by rw [← he]; rfl⟩, St.le_refl _, AV.leS_refl _ _ _⟩
theorem Ops_c {S : St} {b : Nat} {x : Int} (h : CntAt S b x) (hx : OkC x) (l : List (Int × ByteArray × Int)) (hs : ∀ o ∈ l, (o.2.1).size ≤ 9223372036854775807) : Triple P (C G) 42 [.ref b 0, .sl .any 3 (rowsO l)] S fun o S' => o = .ret (.tu []) ∧ S' = S.upd b (.obj 73 [.int .i64 (cntL x (l.map fun o => o.2.1))]) := by
  refine triple_of_awp (hT G) hm Tryz.func42 rfl (by decide +kernel) rfl (by decide +kernel) (by show 2 ≤ _; decide +kernel) rfl ?_
  conv => whnf
  refine ⟨⟨Nat × Int, fun z => [(0, .ref b 0), (1, .sl .any 3 (rowsO l)), (4, .int .i64 (z.1 : Int))],
    fun z S' => S' = S.upd b (.obj 73 [.int .i64 z.2]) ∧ OkC z.2 ∧ z.1 ≤ l.length ∧ cntL z.2 ((l.map fun o => o.2.1).drop z.1) = cntL x (l.map fun o => o.2.1), fun z => l.length - z.1⟩,
    ⟨(0, x), ⟨rfl, ⟨rfl, rfl⟩, rfl, trivial⟩, _, St.leW_refl _, (St.upd_id h).symm, hx, by omega, rfl⟩, ?_⟩
  rintro ⟨i, y⟩ S' ⟨rfl, hy, hi, he⟩
  dsimp only at hy hi he
  have h' : CntAt (S.upd b (.obj 73 [.int .i64 y])) b y := St.upd_same _ _ _
  have hok := COk_ok (G := G) h'
  conv => whnf
  intro hlen
  conv => whnf
  by_cases hlt : i < l.length
  · rw [show decide ((i : Int) < ((rowsO l).length : Int)) = true from decide_eq_true (by rw [rowsO_len]; omega)]
    have hd : (l.map fun o => o.2.1).drop i = (fun o => o.2.1) l[i] :: (l.map fun o => o.2.1).drop (i + 1) := by
      rw [List.drop_eq_getElem_cons (by simpa using hlt)]; simp
    rw [hd] at he
    simp only [cntL] at he
    have hsi := hs _ (List.getElem_mem hlt)
    have ga : (rowsO l)[(i : Int).toNat]? = some ([.int .i64 l[i].1, .str l[i].2.1, .int .i64 l[i].2.2]) := by simp [rowsO, hlt]
    have htx := Text_c (G := G) h' hy ((fun o => o.2.1) l[i]) hsi
    have hyt := cntT_ok hy ((fun o => o.2.1) l[i]) hsi
    rw [St.upd_upd] at htx
    rw [rowsO_len] at hlen
    conv => whnf
    refine hok.mono ?_
    rintro o T ⟨rfl, rfl⟩
    conv => whnf
    refine split_of (fun hp => ?_) (fun hp => ?_)
    · have hp : 0 ≤ y := of_decide_eq_true hp
      rw [if_pos hp] at he
      have w1 : IntKind.i64.wrap ((i : Int) + 1) = ((i + 1 : Nat) : Int) := wrap_nat (by omega)
      dsimp only at htx hyt he
      generalize l[i] = e at *
      conv => whnf
      refine ⟨_, ⟨by omega, ga⟩, ?_⟩
      conv => whnf
      refine htx.mono ?_
      rintro o T ⟨rfl, rfl⟩
      conv => whnf
      exact ⟨(i + 1, _), ⟨rfl, ⟨rfl, rfl⟩, congrArg _ w1, trivial⟩, ⟨_, St.leW_refl _, rfl, hyt, hlt, he⟩, by show l.length - (i + 1) < l.length - i; omega⟩
    · have hp : ¬ 0 ≤ y := of_decide_eq_false hp
      rw [if_neg hp] at he
      conv => whnf
      exact ⟨_, _, ⟨rfl, by rw [he]⟩, St.le_refl _, AV.leS_refl _ _ _⟩
  · rw [show decide ((i : Int) < ((rowsO l).length : Int)) = false from decide_eq_false (by rw [rowsO_len]; omega)]
    have hd : (l.map fun o => o.2.1).drop i = [] := List.drop_eq_nil_of_le (by simp; omega)
    rw [hd] at he
    conv => whnf
    exact ⟨_, _, ⟨rfl, by rw [← he]; rfl⟩, St.le_refl _, AV.leS_refl _ _ _⟩
end Go.Proofs.YtdlgedpmbeafdaaGreatDoor.Aw

set_option maxRecDepth 100000
set_option linter.unusedVariables false
set_option linter.unusedSimpArgs false
namespace Go.Proofs.YtdlgedpmbeafdaaGreatDoor.Aw
open Go Go.RowKit
variable {G : Nat → Option (List AV)}

def cntRow (x : Int) (ps : List (ByteArray × Int)) (bound : ByteArray) : Int := cntL (cntT x bound) (ps.map fun o => o.1)
theorem cntL_ok : ∀ (l : List ByteArray) {x : Int}, OkC x → (∀ s ∈ l, s.size ≤ 9223372036854775807) → OkC (cntL x l)
  | [], x, h, _ => h
  | s :: l, x, h, hs => by
    unfold cntL
    split
    · exact cntL_ok l (cntT_ok h s (hs s (by simp))) fun y hy => hs y (by simp [hy])
    · exact h
theorem Row_c {S : St} {b : Nat} {x : Int} (h : CntAt S b x) (hx : OkC x) (l : List (ByteArray × Int)) (bound : ByteArray) (hb : bound.size ≤ 9223372036854775807) (hs : ∀ o ∈ l, o.1.size ≤ 9223372036854775807) : Triple P (C G) 43 [.ref b 0, .ag [.sl .any 2 (rowsP l), .str bound]] S fun o S' => o = .ret (.tu []) ∧ S' = S.upd b (.obj 73 [.int .i64 (cntRow x l bound)]) := by
  refine triple_of_awp (hT G) hm Tryz.func43 rfl (by decide +kernel) rfl (by decide +kernel) (by show 2 ≤ _; decide +kernel) rfl ?_
  refine awp_seq2 fun K hK hQ => ?_
  conv => whnf
  intro b3 hb3
  conv => whnf
  refine hK _ _ ?_
  clear hK hQ K
  have hne : b ≠ b3 := St.ne_of hb3 h
  generalize hS1 : S.upd b3 (.obj 37 [.sl .any 2 (rowsP l), .str bound]) = S1
  have q3 : S1 b3 = some (.obj 37 [.sl .any 2 (rowsP l), .str bound]) := by rw [← hS1]; exact St.upd_same _ _ _
  have h1 : CntAt S1 b x := by rw [← hS1]; exact St.up hb3 h
  have htx := Text_c (G := G) h1 hx bound hb
  have hy0 := cntT_ok hx bound hb
  refine awp_seq2 fun K hK hQ => ?_
  conv => whnf
  refine ⟨_, _, q3, ?_⟩
  conv => whnf
  refine htx.mono ?_
  rintro o T ⟨rfl, rfl⟩
  conv => whnf
  refine hK _ _ ?_
  clear hK hQ K
  unfold cntRow
  generalize cntT x bound = x0 at *
  conv => whnf
  refine ⟨⟨Nat × Int, fun z => [(0, .ref b 0), (3, .ref b3 0), (4, .int .i64 (z.1 : Int))],
    fun z S' => S' = S1.upd b (.obj 73 [.int .i64 z.2]) ∧ OkC z.2 ∧ z.1 ≤ l.length ∧ cntL z.2 ((l.map fun o => o.1).drop z.1) = cntL x0 (l.map fun o => o.1), fun z => l.length - z.1⟩,
    ⟨(0, x0), ⟨rfl, rfl, rfl, trivial⟩, _, St.leW_refl _, rfl, hy0, by omega, rfl⟩, ?_⟩
  rintro ⟨i, y⟩ S' ⟨rfl, hy, hi, he⟩
  dsimp only at hy hi he
  have h' : CntAt (S1.upd b (.obj 73 [.int .i64 y])) b y := St.upd_same _ _ _
  have q' : (S1.upd b (.obj 73 [.int .i64 y])) b3 = some (.obj 37 [.sl .any 2 (rowsP l), .str bound]) := St.ov (Ne.symm hne) q3
  have hok := COk_ok (G := G) h'
  have hend : ∀ z : Int, St.le (S.upd b (.obj 73 [.int .i64 z])) (S1.upd b (.obj 73 [.int .i64 z])) := fun z => by
    rw [← hS1]
    exact St.le_upd2 (St.le_upd' (St.le_refl _) hb3 _) _ _
  conv => whnf
  refine ⟨_, _, q', ?_⟩
  conv => whnf
  intro hlen
  conv => whnf
  by_cases hlt : i < l.length
  · rw [show decide ((i : Int) < ((rowsP l).length : Int)) = true from decide_eq_true (by rw [rowsP_len]; omega)]
    have hd : (l.map fun o => o.1).drop i = (fun o : ByteArray × Int => o.1) l[i] :: (l.map fun o => o.1).drop (i + 1) := by
      rw [List.drop_eq_getElem_cons (by simpa using hlt)]; simp
    rw [hd] at he
    simp only [cntL] at he
    have hsi := hs _ (List.getElem_mem hlt)
    have ga : (rowsP l)[(i : Int).toNat]? = some ([.str l[i].1, .int .i64 l[i].2]) := by simp [rowsP, hlt]
    have htx := Text_c (G := G) h' hy l[i].1 hsi
    have hyt := cntT_ok hy l[i].1 hsi
    rw [St.upd_upd] at htx
    rw [rowsP_len] at hlen
    conv => whnf
    refine hok.mono ?_
    rintro o T ⟨rfl, rfl⟩
    conv => whnf
    refine split_of (fun hp => ?_) (fun hp => ?_)
    · have hp : 0 ≤ y := of_decide_eq_true hp
      rw [if_pos hp] at he
      have w1 : IntKind.i64.wrap ((i : Int) + 1) = ((i + 1 : Nat) : Int) := wrap_nat (by omega)
      generalize l[i] = e at *
      conv => whnf
      refine ⟨_, _, q', ?_⟩
      conv => whnf
      refine ⟨_, ⟨by omega, ga⟩, ?_⟩
      conv => whnf
      refine htx.mono ?_
      rintro o T ⟨rfl, rfl⟩
      conv => whnf
      exact ⟨(i + 1, _), ⟨rfl, rfl, congrArg _ w1, trivial⟩, ⟨_, St.leW_refl _, rfl, hyt, hlt, he⟩, by show l.length - (i + 1) < l.length - i; omega⟩
    · have hp : ¬ 0 ≤ y := of_decide_eq_false hp
      rw [if_neg hp] at he
      conv => whnf
      exact ⟨_, _, ⟨rfl, rfl⟩, by rw [← he]; exact hend _, AV.leS_refl _ _ _⟩
  · rw [show decide ((i : Int) < ((rowsP l).length : Int)) = false from decide_eq_false (by rw [rowsP_len]; omega)]
    have hd : (l.map fun o => o.1).drop i = [] := List.drop_eq_nil_of_le (by simp; omega)
    rw [hd] at he
    conv => whnf
    exact ⟨_, _, ⟨rfl, rfl⟩, by rw [← he]; exact hend _, AV.leS_refl _ _ _⟩
/-- A step's strings are within the reach of an int. -/
structure SzStep (v : StepV) : Prop where
  num : v.num.size ≤ 9223372036854775807
  ops : ∀ o ∈ v.ops, o.2.1.size ≤ 9223372036854775807
  pieces : ∀ p ∈ v.pieces, p.1.size ≤ 9223372036854775807
  bound : v.bound.size ≤ 9223372036854775807
  ids : ∀ x ∈ v.ids, x.size ≤ 9223372036854775807
  s7 : v.s7.size ≤ 9223372036854775807
  s8 : v.s8.size ≤ 9223372036854775807
  lits : v.lits.length ≤ 9223372036854775807
def cntS (x : Int) (v : StepV) : Int :=
  cntL (cnt (cntRow (cntL (cntT (cntT (cntT x v.num) v.s7) v.s8) (v.ops.map fun o => o.2.1)) v.pieces v.bound) v.lits.length) (v.ids.map fun o => (fun s : ByteArray => s) o)
theorem cntRow_ok {x : Int} (h : OkC x) (l : List (ByteArray × Int)) (bound : ByteArray) (hb : bound.size ≤ 9223372036854775807) (hs : ∀ o ∈ l, o.1.size ≤ 9223372036854775807) : OkC (cntRow x l bound) :=
  cntL_ok _ (cntT_ok h bound hb) fun s hs' => by
    obtain ⟨o, ho, rfl⟩ := List.mem_map.1 hs'
    exact hs o ho
theorem cntS_ok {x : Int} (h : OkC x) {v : StepV} (hv : SzStep v) : OkC (cntS x v) :=
  cntL_ok _ (cnt_ok (cntRow_ok (cntL_ok _ (cntT_ok (cntT_ok (cntT_ok h _ hv.num) _ hv.s7) _ hv.s8) (fun s hs => by
    obtain ⟨o, ho, rfl⟩ := List.mem_map.1 hs
    exact hv.ops o ho)) _ _ hv.bound hv.pieces) (by omega) (by have := hv.lits; omega)) (fun s hs => by
    obtain ⟨o, ho, rfl⟩ := List.mem_map.1 hs
    exact hv.ids o ho)
theorem Step_c {S : St} {b : Nat} {x : Int} (h : CntAt S b x) (hx : OkC x) (v : StepV) (hv : SzStep v) : Triple P (C G) 25 [.ref b 0, stepAV v] S fun o S' => o = .ret (.tu []) ∧ S' = S.upd b (.obj 73 [.int .i64 (cntS x v)]) := by
  refine triple_of_awp (hT G) hm Tryz.func25 rfl (by decide +kernel) rfl (by decide +kernel) (by show 2 ≤ _; decide +kernel) rfl ?_
  refine awp_seq2 fun K hK hQ => ?_
  conv => whnf
  intro b3 hb3
  conv => whnf
  refine hK _ _ ?_
  clear hK hQ K
  have hne : b ≠ b3 := St.ne_of hb3 h
  change awp _ _ _ _ (S.upd b3 (.obj 40 (stepR v))) _
  generalize hS1 : S.upd b3 (.obj 40 (stepR v)) = S1
  have q3 : S1 b3 = some (.obj 40 (stepR v)) := by rw [← hS1]; exact St.upd_same _ _ _
  have h1 : CntAt S1 b x := by rw [← hS1]; exact St.up hb3 h
  have hend : ∀ z : Int, St.le (S.upd b (.obj 73 [.int .i64 z])) (S1.upd b (.obj 73 [.int .i64 z])) := fun z => by
    rw [← hS1]
    exact St.le_upd2 (St.le_upd' (St.le_refl _) hb3 _) _ _
  have hc : ∀ z : Int, CntAt (S1.upd b (.obj 73 [.int .i64 z])) b z := fun z => St.upd_same _ _ _
  have hq : ∀ z : Int, (S1.upd b (.obj 73 [.int .i64 z])) b3 = some (.obj 40 (stepR v)) := fun z => St.ov (Ne.symm hne) q3
  have a0 := Text_c (G := G) h1 hx v.num hv.num
  have o0 := cntT_ok hx v.num hv.num
  have a1 := Text_c (G := G) (hc _) o0 v.s7 hv.s7
  have o1 := cntT_ok o0 v.s7 hv.s7
  have a2 := Text_c (G := G) (hc _) o1 v.s8 hv.s8
  have o2 := cntT_ok o1 v.s8 hv.s8
  have a3 := Ops_c (G := G) (hc _) o2 v.ops hv.ops
  have o3 : OkC (cntL (cntT (cntT (cntT x v.num) v.s7) v.s8) (v.ops.map fun o => o.2.1)) := cntL_ok _ o2 (fun s hs => by
    obtain ⟨o, ho, rfl⟩ := List.mem_map.1 hs
    exact hv.ops o ho)
  have a4 := Row_c (G := G) (hc _) o3 v.pieces v.bound hv.bound hv.pieces
  have o4 := cntRow_ok o3 v.pieces v.bound hv.bound hv.pieces
  have a5 := CAdd_ok (G := G) (hc _) o4 (v.lits.length : Int) (by omega) (by have := hv.lits; omega)
  have o5 := cnt_ok o4 (n := (v.lits.length : Int)) (by omega) (by have := hv.lits; omega)
  have a6 := Texts_c (G := G) (hc _) o5 v.ids hv.ids
  rw [St.upd_upd] at a1 a2 a3 a4 a5 a6
  unfold cntS
  generalize cntL (cnt (cntRow (cntL (cntT (cntT (cntT x v.num) v.s7) v.s8) (v.ops.map fun o => o.2.1)) v.pieces v.bound) v.lits.length) (v.ids.map fun o => (fun s : ByteArray => s) o) = z6 at *
  generalize cnt (cntRow (cntL (cntT (cntT (cntT x v.num) v.s7) v.s8) (v.ops.map fun o => o.2.1)) v.pieces v.bound) v.lits.length = z5 at *
  generalize cntRow (cntL (cntT (cntT (cntT x v.num) v.s7) v.s8) (v.ops.map fun o => o.2.1)) v.pieces v.bound = z4 at *
  generalize cntL (cntT (cntT (cntT x v.num) v.s7) v.s8) (v.ops.map fun o => o.2.1) = z3 at *
  generalize cntT (cntT (cntT x v.num) v.s7) v.s8 = z2 at *
  generalize cntT (cntT x v.num) v.s7 = z1 at *
  generalize cntT x v.num = z0 at *
  refine awp_seq2 fun K hK hQ => ?_
  conv => whnf
  refine ⟨_, _, q3, ?_⟩
  conv => whnf
  refine a0.mono ?_
  rintro o T ⟨rfl, rfl⟩
  conv => whnf
  refine hK _ _ ?_
  clear hK hQ K
  refine awp_seq2 fun K hK hQ => ?_
  conv => whnf
  refine ⟨_, _, hq _, ?_⟩
  conv => whnf
  refine a1.mono ?_
  rintro o T ⟨rfl, rfl⟩
  conv => whnf
  refine hK _ _ ?_
  clear hK hQ K
  refine awp_seq2 fun K hK hQ => ?_
  conv => whnf
  refine ⟨_, _, hq _, ?_⟩
  conv => whnf
  refine a2.mono ?_
  rintro o T ⟨rfl, rfl⟩
  conv => whnf
  refine hK _ _ ?_
  clear hK hQ K
  refine awp_seq2 fun K hK hQ => ?_
  conv => whnf
  refine ⟨_, _, hq _, ?_⟩
  conv => whnf
  refine a3.mono ?_
  rintro o T ⟨rfl, rfl⟩
  conv => whnf
  refine hK _ _ ?_
  clear hK hQ K
  refine awp_seq2 fun K hK hQ => ?_
  conv => whnf
  refine ⟨_, _, hq _, ?_⟩
  conv => whnf
  refine a4.mono ?_
  rintro o T ⟨rfl, rfl⟩
  conv => whnf
  refine hK _ _ ?_
  clear hK hQ K
  refine awp_seq2 fun K hK hQ => ?_
  conv => whnf
  refine ⟨_, _, hq _, ?_⟩
  conv => whnf
  intro _
  conv => whnf
  rw [rowsI_len]
  refine a5.mono ?_
  rintro o T ⟨⟨r, rfl⟩, rfl⟩
  conv => whnf
  refine hK _ _ ?_
  clear hK hQ K
  conv => whnf
  refine ⟨_, _, hq _, ?_⟩
  conv => whnf
  refine a6.mono ?_
  rintro o T ⟨rfl, rfl⟩
  conv => whnf
  exact ⟨_, _, ⟨rfl, rfl⟩, hend _, AV.leS_refl _ _ _⟩
end Go.Proofs.YtdlgedpmbeafdaaGreatDoor.Aw

set_option maxRecDepth 100000
set_option linter.unusedVariables false
set_option linter.unusedSimpArgs false
namespace Go.Proofs.YtdlgedpmbeafdaaGreatDoor.Aw
open Go Go.RowKit
variable {G : Nat → Option (List AV)}

def cntSs : Int → List StepV → Int
  | x, [] => x
  | x, v :: l => if 0 ≤ x then cntSs (cntS x v) l else x
theorem Steps_c {S : St} {b : Nat} {x : Int} (h : CntAt S b x) (hx : OkC x) (l : List StepV) (hs : ∀ v ∈ l, SzStep v) : Triple P (C G) 14 [.ref b 0, .sl .any 10 (rowsT l)] S fun o S' => o = .ret (.tu []) ∧ S' = S.upd b (.obj 73 [.int .i64 (cntSs x l)]) := by
  refine triple_of_awp (hT G) hm Tryz.func14 rfl (by decide +kernel) rfl (by decide +kernel) (by show 2 ≤ _; decide +kernel) rfl ?_
  conv => whnf
  refine ⟨⟨Nat × Int, fun z => [(0, .ref b 0), (1, .sl .any 10 (rowsT l)), (4, .int .i64 (z.1 : Int))],
    fun z S' => S' = S.upd b (.obj 73 [.int .i64 z.2]) ∧ OkC z.2 ∧ z.1 ≤ l.length ∧ cntSs z.2 (l.drop z.1) = cntSs x l, fun z => l.length - z.1⟩,
    ⟨(0, x), ⟨rfl, ⟨rfl, rfl⟩, rfl, trivial⟩, _, St.leW_refl _, (St.upd_id h).symm, hx, by omega, rfl⟩, ?_⟩
  rintro ⟨i, y⟩ S' ⟨rfl, hy, hi, he⟩
  dsimp only at hy hi he
  have h' : CntAt (S.upd b (.obj 73 [.int .i64 y])) b y := St.upd_same _ _ _
  have hok := COk_ok (G := G) h'
  conv => whnf
  intro hlen
  conv => whnf
  by_cases hlt : i < l.length
  · rw [show decide ((i : Int) < ((rowsT l).length : Int)) = true from decide_eq_true (by rw [rowsT_len]; omega)]
    have hd : l.drop i = l[i] :: l.drop (i + 1) := List.drop_eq_getElem_cons hlt
    rw [hd] at he
    simp only [cntSs] at he
    have hsi := hs _ (List.getElem_mem hlt)
    have ga : (rowsT l)[(i : Int).toNat]? = some (stepR l[i]) := by simp [rowsT, hlt]
    have htx := Step_c (G := G) h' hy l[i] hsi
    have hyt := cntS_ok hy hsi
    rw [St.upd_upd] at htx
    rw [rowsT_len] at hlen
    conv => whnf
    refine hok.mono ?_
    rintro o T ⟨rfl, rfl⟩
    conv => whnf
    refine split_of (fun hp => ?_) (fun hp => ?_)
    · have hp : 0 ≤ y := of_decide_eq_true hp
      rw [if_pos hp] at he
      have w1 : IntKind.i64.wrap ((i : Int) + 1) = ((i + 1 : Nat) : Int) := wrap_nat (by omega)
      generalize l[i] = e at *
      conv => whnf
      refine ⟨_, ⟨by omega, ga⟩, ?_⟩
      conv => whnf
      refine htx.mono ?_
      rintro o T ⟨rfl, rfl⟩
      conv => whnf
      exact ⟨(i + 1, _), ⟨rfl, ⟨rfl, rfl⟩, congrArg _ w1, trivial⟩, ⟨_, St.leW_refl _, rfl, hyt, hlt, he⟩, by show l.length - (i + 1) < l.length - i; omega⟩
    · have hp : ¬ 0 ≤ y := of_decide_eq_false hp
      rw [if_neg hp] at he
      conv => whnf
      exact ⟨_, _, ⟨rfl, by rw [he]⟩, St.le_refl _, AV.leS_refl _ _ _⟩
  · rw [show decide ((i : Int) < ((rowsT l).length : Int)) = false from decide_eq_false (by rw [rowsT_len]; omega)]
    have hd : l.drop i = [] := List.drop_eq_nil_of_le (by omega)
    rw [hd] at he
    conv => whnf
    exact ⟨_, _, ⟨rfl, by rw [← he]; rfl⟩, St.le_refl _, AV.leS_refl _ _ _⟩
/-! ### Plain -/
def wS1 (s : ByteArray) : Nat := 1 + s.size
def wL (l : List ByteArray) : Nat := (l.map wS1).sum
theorem cnt_back {x n : Int} (h0 : 0 ≤ n) (h : 0 ≤ cnt x n) : 0 ≤ x ∧ cnt x n = x - n := by
  unfold cnt at *
  by_cases hx : 0 ≤ x
  · rw [if_pos hx]; exact ⟨hx, rfl⟩
  · rw [if_neg hx] at h; exact absurd h hx
theorem cntT_back {x : Int} {s : ByteArray} (h : 0 ≤ cntT x s) : 0 ≤ x ∧ cntT x s = x - (wS1 s : Nat) := by
  unfold cntT at *
  obtain ⟨h1, h2⟩ := cnt_back (by omega) h
  obtain ⟨h3, h4⟩ := cnt_back (by omega) h1
  refine ⟨h3, ?_⟩
  rw [h2, h4]
  unfold wS1
  omega
theorem cntL_back : ∀ {l : List ByteArray} {x : Int}, 0 ≤ cntL x l → 0 ≤ x ∧ cntL x l = x - (wL l : Nat)
  | [], x, h => ⟨h, by simp [cntL, wL]⟩
  | s :: l, x, h => by
    unfold cntL at h ⊢
    by_cases hx : 0 ≤ x
    · rw [if_pos hx] at h ⊢
      obtain ⟨h1, h2⟩ := cntL_back h
      obtain ⟨h3, h4⟩ := cntT_back h1
      refine ⟨hx, ?_⟩
      rw [h2, h4]
      simp only [wL, List.map_cons, List.sum_cons]
      omega
    · rw [if_neg hx] at h; exact absurd h hx
/-- The weight of a step. -/
def wt (v : StepV) : Nat := wS1 v.num + wS1 v.s7 + wS1 v.s8 + wL (v.ops.map fun o => o.2.1) + wS1 v.bound + wL (v.pieces.map fun o => o.1) + v.lits.length + wL v.ids
theorem cntS_back {x : Int} {v : StepV} (h : 0 ≤ cntS x v) : 0 ≤ x ∧ cntS x v = x - (wt v : Nat) := by
  unfold cntS cntRow at *
  obtain ⟨h1, e1⟩ := cntL_back h
  obtain ⟨h2, e2⟩ := cnt_back (by omega) h1
  obtain ⟨h3, e3⟩ := cntL_back h2
  obtain ⟨h4, e4⟩ := cntT_back h3
  obtain ⟨h5, e5⟩ := cntL_back h4
  obtain ⟨h6, e6⟩ := cntT_back h5
  obtain ⟨h7, e7⟩ := cntT_back h6
  obtain ⟨h8, e8⟩ := cntT_back h7
  refine ⟨h8, ?_⟩
  rw [e1, e2, e3, e4, e5, e6, e7, e8]
  have : wL (v.ids.map fun o => (fun s : ByteArray => s) o) = wL v.ids := by congr 1; exact List.map_id v.ids
  unfold wt
  omega
def wts (l : List StepV) : Nat := (l.map wt).sum
theorem cntSs_back : ∀ {l : List StepV} {x : Int}, 0 ≤ cntSs x l → 0 ≤ x ∧ cntSs x l = x - (wts l : Nat)
  | [], x, h => ⟨h, by simp [cntSs, wts]⟩
  | s :: l, x, h => by
    unfold cntSs at h ⊢
    by_cases hx : 0 ≤ x
    · rw [if_pos hx] at h ⊢
      obtain ⟨h1, h2⟩ := cntSs_back h
      obtain ⟨h3, h4⟩ := cntS_back h1
      refine ⟨hx, ?_⟩
      rw [h2, h4]
      simp only [wts, List.map_cons, List.sum_cons]
      omega
    · rw [if_neg hx] at h; exact absurd h hx
theorem wL_mem {l : List ByteArray} : ∀ s ∈ l, s.size ≤ wL l := by
  induction l with
  | nil => intro s hs; cases hs
  | cons x l ih =>
    intro s hs
    have e : wL (x :: l) = wS1 x + wL l := by simp [wL]
    rcases List.mem_cons.1 hs with rfl | hs
    · unfold wS1 at e; omega
    · have := ih s hs; omega
theorem wL_len (l : List ByteArray) : l.length ≤ wL l := by
  induction l with
  | nil => simp
  | cons x l ih =>
    have e : wL (x :: l) = wS1 x + wL l := by simp [wL]
    unfold wS1 at e
    simp only [List.length_cons]
    omega
/-- Integers of a step are an int's. -/
structure IntStep (v : StepV) : Prop where
  ops : ∀ o ∈ v.ops, okI o.2.2
  pieces : ∀ p ∈ v.pieces, okI p.2
  lits : ∀ z ∈ v.lits, okI z
theorem ok_of_wt {v : StepV} (h : wt v ≤ 200000) (hi : IntStep v) : OkStep v := by
  unfold wt at h
  have h1 := wL_len (v.ops.map fun o => o.2.1)
  have h2 := wL_len (v.pieces.map fun o => o.1)
  have h3 := wL_len v.ids
  rw [List.length_map] at h1 h2
  have e1 : v.num.size ≤ wS1 v.num := by unfold wS1; omega
  have e2 : v.s7.size ≤ wS1 v.s7 := by unfold wS1; omega
  have e3 : v.s8.size ≤ wS1 v.s8 := by unfold wS1; omega
  have e4 : v.bound.size ≤ wS1 v.bound := by unfold wS1; omega
  refine ⟨⟨by omega, fun o ho => ⟨hi.ops o ho, ?_⟩⟩, ⟨by omega, fun p hp => ⟨hi.pieces p hp, ?_⟩, by omega⟩, ⟨by omega, hi.lits⟩, ⟨by omega, fun x hx => ?_⟩, by omega, by omega, by omega⟩
  · have := wL_mem (l := v.ops.map fun o => o.2.1) o.2.1 (List.mem_map.2 ⟨o, ho, rfl⟩); omega
  · have := wL_mem (l := v.pieces.map fun o => o.1) p.1 (List.mem_map.2 ⟨p, hp, rfl⟩); omega
  · have := wL_mem x hx; omega
theorem opT_len (o : OpV) (h : okI o.2.2) : (opT o).size ≤ o.2.1.size + 25 := by
  have hl := litT_size o.2.2 h
  unfold opT
  split
  · omega
  split
  · omega
  split
  · show 1 ≤ _; omega
  split
  · rw [ba_size_append]; show _ + 2 ≤ _; omega
  split
  · rw [ba_size_append]; show _ + 2 ≤ _; omega
  split
  · show 1 ≤ _; omega
  split
  · rw [ba_size_append]; show _ + 2 ≤ _; omega
  · exact Nat.zero_le _
theorem ops_sum (l : List OpV) (h : ∀ o ∈ l, okI o.2.2) : sumS (l.map opT) + l.length ≤ 26 * wL (l.map fun o => o.2.1) := by
  induction l with
  | nil => simp [sumS]
  | cons o l ih =>
    have ih := ih fun x hx => h x (by simp [hx])
    have h1 := opT_len o (h o (by simp))
    have e : wL ((o :: l).map fun o => o.2.1) = wS1 o.2.1 + wL (l.map fun o => o.2.1) := by simp [wL]
    rw [e]
    unfold wS1
    simp only [List.map_cons, sumS_cons, List.length_cons] at ih ⊢
    omega
theorem pieces_sum (l : List (ByteArray × Int)) (h : ∀ o ∈ l, okI o.2) : sumS (pieceT l) + (pieceT l).length ≤ 26 * wL (l.map fun o => o.1) := by
  induction l with
  | nil => simp [sumS, pieceT]
  | cons o l ih =>
    have ih := ih fun x hx => h x (by simp [hx])
    have h1 := litT_size o.2 (h o (by simp))
    have e : wL ((o :: l).map fun o => o.1) = wS1 o.1 + wL (l.map fun o => o.1) := by simp [wL]
    have e2 : pieceT (o :: l) = o.1 :: litT o.2 :: pieceT l := by simp [pieceT]
    rw [e, e2]
    unfold wS1
    simp only [sumS_cons, List.length_cons] at ih ⊢
    omega
theorem lits_sum (l : List Int) (h : ∀ z ∈ l, okI z) : sumS (litsT l) + (litsT l).length ≤ 26 * l.length := by
  induction l with
  | nil => simp [sumS, litsT]
  | cons z l ih =>
    have ih := ih fun x hx => h x (by simp [hx])
    have h1 := litT_size z (h z (by simp))
    have e2 : litsT (z :: l) = litT z :: litsT l := by simp [litsT]
    rw [e2]
    simp only [sumS_cons, List.length_cons] at ih ⊢
    omega
theorem ids_sum (l : List ByteArray) : sumS l + l.length ≤ 26 * wL l := by
  induction l with
  | nil => simp [sumS]
  | cons x l ih =>
    have e : wL (x :: l) = wS1 x + wL l := by simp [wL]
    rw [e]
    unfold wS1
    simp only [sumS_cons, List.length_cons] at ih ⊢
    omega
theorem endT_len (v : StepV) : (endT v).size ≤ 20 + v.s7.size + v.s8.size + wL v.ids := by
  have hid : (idT v.ids).size ≤ 3 + wL v.ids := by
    cases hv : v.ids with
    | nil => decide
    | cons x l =>
      have e : wL (x :: l) = wS1 x + wL l := by simp [wL]
      unfold idT
      rw [ba_size_append, e]
      unfold wS1
      show 3 + _ ≤ _
      omega
  unfold endT
  split
  · show 4 ≤ _; omega
  split
  · show 3 ≤ _; omega
  split
  · rw [ba_size_append]; show 5 + _ ≤ _; omega
  split
  · rw [ba_size_append, ba_size_append]; show 4 + _ + _ ≤ _; omega
  split
  · rw [ba_size_append, ba_size_append, ba_size_append, ba_size_append]; show 7 + _ + _ + 1 + _ ≤ _; omega
  · exact Nat.zero_le _
theorem rowT_len (ps : List (ByteArray × Int)) (bound : ByteArray) (h : ∀ o ∈ ps, okI o.2) : (rowT ps bound).size ≤ 26 * wL (ps.map fun o => o.1) + bound.size + 6 := by
  have h1 := joinS_sum (pieceT ps ++ [geS, bound, semiS]) spaceS
  have h2 := pieces_sum ps h
  have e : spaceS.size = 1 := rfl
  have e2 : geS.size = 2 := rfl
  have e3 : semiS.size = 1 := rfl
  rw [e, sumS_append] at h1
  simp only [sumS_cons, sumS_nil, List.length_append, List.length_cons, List.length_nil, e2, e3] at h1
  unfold rowT
  omega
set_option maxHeartbeats 2000000 in
theorem textT_wt {v : StepV} (hi : IntStep v) : (textT v).size ≤ 26 * wt v + 60 := by
  have h0 := joinS_sum (textW v) spaceS
  have e : spaceS.size = 1 := rfl
  rw [e] at h0
  have h1 : sumS (v.ops.map opT) + v.ops.length ≤ 26 * wL (v.ops.map fun o => o.2.1) := ops_sum v.ops hi.ops
  have h2 := rowT_len v.pieces v.bound hi.pieces
  have h3 := lits_sum v.lits hi.lits
  have h4 := ids_sum v.ids
  have h5 := endT_len v
  have e1 : w1S.size = 32 := rfl
  have e2 : kF.size = 1 := rfl
  have e3 : kPol.size = 3 := rfl
  have e4 : kRup.size = 3 := rfl
  have e5 : kE.size = 1 := rfl
  have e6 : kSoli.size = 4 := rfl
  have e7 : kSolx.size = 4 := rfl
  have e8 : kDel.size = 3 := rfl
  have e9 : kStar.size = 1 := rfl
  have e10 : w8S.size = 11 := rfl
  have e11 : kConc.size = 10 := rfl
  have e12 : w10S.size = 24 := rfl
  have e13 : (⟨#[105, 100]⟩ : ByteArray).size = 2 := rfl
  unfold textT
  refine Nat.le_trans h0 ?_
  unfold wt wS1
  unfold textW
  repeat' split
  all_goals simp only [sumS_append, sumS_cons, sumS_nil, List.length_append, List.length_cons, List.length_nil, List.length_map, e1, e2, e3, e4, e5, e6, e7, e8, e9, e10, e11, e12, e13]
  all_goals omega
theorem wts_mem {l : List StepV} : ∀ v ∈ l, wt v ≤ wts l := by
  induction l with
  | nil => intro s hs; cases hs
  | cons x l ih =>
    intro s hs
    have e : wts (x :: l) = wt x + wts l := by simp [wts]
    rcases List.mem_cons.1 hs with rfl | hs
    · omega
    · have := ih s hs; omega
theorem wts_len (l : List StepV) : 4 * l.length ≤ wts l := by
  induction l with
  | nil => simp
  | cons x l ih =>
    have e : wts (x :: l) = wt x + wts l := by simp [wts]
    have : 4 ≤ wt x := by unfold wt wS1; omega
    simp only [List.length_cons]
    omega
theorem texts_wts (l : List StepV) (hi : ∀ v ∈ l, IntStep v) : sumS (l.map textT) ≤ 26 * wts l + 60 * l.length := by
  induction l with
  | nil => simp [sumS]
  | cons x l ih =>
    have ih := ih fun v hv => hi v (by simp [hv])
    have e : wts (x :: l) = wt x + wts l := by simp [wts]
    have := textT_wt (hi x (by simp))
    rw [e]
    simp only [List.map_cons, sumS_cons, List.length_cons] at ih ⊢
    omega
end Go.Proofs.YtdlgedpmbeafdaaGreatDoor.Aw

set_option maxRecDepth 100000
set_option linter.unusedVariables false
set_option linter.unusedSimpArgs false
namespace Go.Proofs.YtdlgedpmbeafdaaGreatDoor.Aw
open Go Go.RowKit
variable {G : Nat → Option (List AV)}

theorem lawBack_ok {m : Int} (hM : G 1 = some [.int .i64 m]) (hG : GS G) (hA : GAs G) (l : List StepV) (hsz : ∀ v ∈ l, SzStep v) (hint : ∀ v ∈ l, IntStep v) (S : St) :
    Triple P (C G) 4 [.sl .any 10 (rowsT l)] S fun o S' => o = .ret (.bool true) ∧ S' = S := by
  have hkn := fun S => known_ok (G := G) hG hA S
  refine triple_of_awp (hT G) hm Tryz.func4 rfl (by decide +kernel) rfl (by decide +kernel) (by show 1 ≤ _; decide +kernel) rfl ?_
  refine awp_seq2 fun K hK hQ => ?_
  conv => whnf
  refine hK _ _ ?_
  clear hK hQ K
  refine awp_seq2 fun K hK hQ => ?_
  conv => whnf
  refine (hkn _).mono ?_
  rintro o T ⟨rfl, rfl⟩
  conv => whnf
  refine hK _ _ ?_
  clear hK hQ K
  refine awp_seq2 fun K hK hQ => ?_
  conv => whnf
  refine (CMany_ok 200000 _).mono ?_
  rintro o T2 ⟨b3, hb3, rfl, rfl⟩
  conv => whnf
  refine hK _ _ ?_
  clear hK hQ K
  have hc := Steps_c (G := G) (S := T.upd b3 (.obj 73 [.int .i64 200000])) (St.upd_same _ _ _) (x := 200000) ⟨by decide, by decide⟩ l hsz
  rw [St.upd_upd] at hc
  have hback := cntSs_back (l := l) (x := 200000)
  generalize cntSs 200000 l = z at *
  refine awp_seq2 fun K hK hQ => ?_
  conv => whnf
  refine hc.mono ?_
  rintro o T2 ⟨rfl, rfl⟩
  conv => whnf
  refine hK _ _ ?_
  clear hK hQ K
  have hle3 : St.le T (T.upd b3 (.obj 73 [.int .i64 z])) := St.le_upd' (St.le_refl _) hb3 _
  have hok := COk_ok (G := G) (S := T.upd b3 (.obj 73 [.int .i64 z])) (b := b3) (x := z) (St.upd_same _ _ _)
  generalize T.upd b3 (.obj 73 [.int .i64 z]) = T3 at *
  refine awp_seq2 fun K hK hQ => ?_
  conv => whnf
  refine hok.mono ?_
  rintro o T2 ⟨rfl, rfl⟩
  by_cases hz : 0 ≤ z
  · rw [decide_eq_true hz]
    conv => whnf
    refine hK _ _ ?_
    clear hK hQ K
    obtain ⟨_, hz2⟩ := hback hz
    have hw : wts l ≤ 200000 := by omega
    have hll := wts_len l
    have hst : ∀ v ∈ l, OkStep v ∧ (textT v).size ≤ 8999999 := fun v hv => by
      have h1 := wts_mem v hv
      have h2 := textT_wt (hint v hv)
      exact ⟨ok_of_wt (by omega) (hint v hv), by omega⟩
    have hwr := fun S => Write_ok (G := G) hG hA l (by omega) hst S
    have hpr : ∀ v ∈ l, ∀ S, Triple P (C G) 17 [stepAV v] S fun o S' => o = .ret (.tu [.str (printP v).1, .int .i64 (printP v).2]) ∧ S' = S := fun v hv S =>
      Print_ok (G := G) hG hA v (hst v hv).1 (hst v hv).2 (parseP_len _ (hst v hv).2) S
    rcases hwl : writeL l [] 0 with ⟨B, _ | ⟨k, c⟩⟩
    · have hnone : (writeL l [] 0).2 = none := by rw [hwl]
      obtain ⟨w1, w2⟩ := written_read hnone
      obtain ⟨w3, w4⟩ := writeL_none l [] 0 hnone
      have wsz : (⟨(writeL l [] 0).1.toArray⟩ : ByteArray).size < 100000001 := by
        rw [w4, List.nil_append]
        have e := logB_len (l.map textT)
        have e2 := texts_wts l hint
        rw [List.length_map] at e
        have : (⟨(logB (l.map textT)).toArray⟩ : ByteArray).size = (logB (l.map textT)).length := by simp [ByteArray.size]
        rw [this, e]
        omega
      have hrd := fun S => Read_ok (G := G) hM hG hA ⟨(writeL l [] 0).1.toArray⟩ wsz (fun x hx => by
        rw [w1] at hx
        obtain ⟨v, hv, rfl⟩ := List.mem_map.1 hx
        exact (hst v hv).2) S
      have hln := fun S => lines_ok (G := G) hM ⟨(writeL l [] 0).1.toArray⟩ wsz S
      rw [w2] at hrd
      rw [w1] at hln
      dsimp only [readAV] at hrd
      rw [hwl] at hwr hrd hln
      dsimp only [writeAV] at hwr hrd hln
      generalize (⟨B.toArray⟩ : ByteArray) = tx at *
      have hsm := fun S => sameSteps_self (G := G) l (by omega) (fun v hv => by
        have h := (printP_zero (w3 v hv)).2.1
        have h2 := parseP_len (textT v) (hst v hv).2
        rw [h] at h2
        exact h2) S
      refine awp_seq2 fun K hK hQ => ?_
      conv => whnf
      refine (hwr _).mono ?_
      rintro o T ⟨rfl, rfl⟩
      conv => whnf
      refine hK _ _ ?_
      clear hK hQ K
      refine awp_seq2 fun K hK hQ => ?_
      conv => whnf
      refine (told_nil _).mono ?_
      rintro o T ⟨rfl, rfl⟩
      conv => whnf
      intro b6 hb6
      conv => whnf
      refine ⟨_, _, St.upd_same _ _ _, ?_⟩
      conv => whnf
      rw [St.upd_upd]
      refine hK _ _ ?_
      clear hK hQ K
      refine awp_seq2 fun K hK hQ => ?_
      conv => whnf
      refine hK _ _ ?_
      clear hK hQ K
      have q6 := St.upd_same T b6 (.obj 29 [.int .i64 0, .int .i64 0])
      have hle6 := St.le_trans hle3 (St.le_upd' (St.le_refl T) hb6 (.obj 29 [.int .i64 0, .int .i64 0]))
      generalize T.upd b6 (.obj 29 [.int .i64 0, .int .i64 0]) = T6 at *
      refine awp_seq2 fun K hK hQ => ?_
      conv => whnf
      refine ⟨_, _, q6, ?_⟩
      conv => whnf
      refine hK _ _ ?_
      clear hK hQ K
      refine awp_seq2 fun K hK hQ => ?_
      conv => whnf
      refine (hrd _).mono ?_
      rintro o T ⟨rfl, rfl⟩
      conv => whnf
      refine hK _ _ ?_
      clear hK hQ K
      refine awp_seq2 fun K hK hQ => ?_
      conv => whnf
      refine (hln _).mono ?_
      rintro o T ⟨rfl, rfl⟩
      conv => whnf
      refine hK _ _ ?_
      clear hK hQ K
      refine awp_seq2 fun K hK hQ => ?_
      refine awp_seq2 fun K1 hK1 hQ1 => ?_
      refine awp_region ?_
      refine aOps_cut 9 fun K' hK' => ?_
      conv => whnf
      refine (hsm _).mono ?_
      rintro o T ⟨rfl, rfl⟩
      conv => whnf
      refine hK' _ _ ?_
      clear hK' K'
      conv => whnf
      intro _
      conv => whnf
      intro _
      conv => whnf
      rw [show (((rowsS (l.map textT)).length : Int) != ((rowsT l).length : Int)) = false from by simp [rowsT_len, rowsS_len]]
      conv => whnf
      refine hK1 _ _ ?_
      clear hK1 hQ1 K1
      conv => whnf
      refine hK _ _ ?_
      clear hK hQ K
      refine awp_seq2 fun K hK hQ => ?_
      conv => whnf
      refine ⟨⟨Nat, fun i => [(0, .sl .any 10 (rowsT l)), (12, .sl .any 1 (rowsS (l.map textT))), (13, .int .i64 (i : Int))],
        fun i S' => S' = T ∧ i ≤ l.length, fun i => l.length - i⟩,
        ⟨0, ⟨⟨rfl, rfl⟩, ⟨rfl, rfl⟩, rfl, trivial⟩, _, St.leW_refl _, rfl, by omega⟩, ?_⟩
      rintro (i : Nat) S1 ⟨rfl, hi⟩
      conv => whnf
      intro _
      conv => whnf
      refine split_of (fun hlt => ?_) (fun hlt => ?_)
      · have hlt : i < l.length := by have := of_decide_eq_true hlt; rw [rowsT_len] at this; omega
        have hp := hpr _ (List.getElem_mem hlt)
        have hga : (rowsT l)[(i : Int).toNat]? = some (stepR l[i]) := by simp [rowsT, hlt]
        have hgb : (rowsS (l.map textT))[(i : Int).toNat]? = some [.str (textT l[i])] := by simp [rowsS, hlt]
        have hz := printP_zero (w3 _ (List.getElem_mem hlt))
        have hz0 := w3 _ (List.getElem_mem hlt)
        rw [hz.1, hz0] at hp
        have w1' : IntKind.i64.wrap ((i : Int) + 1) = ((i + 1 : Nat) : Int) := wrap_nat (by omega)
        generalize l[i] = v at *
        generalize textT v = tv at *
        conv => whnf
        refine ⟨_, ⟨by omega, hga⟩, ?_⟩
        conv => whnf
        refine (hp _).mono ?_
        rintro o T ⟨rfl, rfl⟩
        conv => whnf
        refine (num_ok 0 _).mono ?_
        rintro o T ⟨rfl, rfl⟩
        conv => whnf
        refine ⟨_, ⟨by omega, hgb⟩, ?_⟩
        conv => whnf
        rw [show decide (tv = tv) = true from decide_eq_true rfl]
        conv => whnf
        exact ⟨i + 1, ⟨⟨rfl, rfl⟩, ⟨rfl, rfl⟩, congrArg _ w1', trivial⟩, ⟨_, St.leW_refl _, rfl, by omega⟩, by show l.length - (i + 1) < l.length - i; omega⟩
      · conv => whnf
        refine hK _ _ ?_
        clear hK hQ K
        conv => whnf
        exact ⟨_, _, ⟨rfl, rfl⟩, hle6, AV.leS_refl _ _ _⟩
    · obtain ⟨w0, j, hj, hk, hcj, rfl⟩ := writeL_some l [] 0 k c (by rw [hwl])
      rw [hwl] at hwr w0
      dsimp only at w0
      subst w0
      dsimp only [writeAV] at hwr
      have hk : k = j + 1 := by omega
      subst hk
      have hp := hpr _ (List.getElem_mem hj)
      have hga : (rowsT l)[(j : Int).toNat]? = some (stepR l[j]) := by simp [rowsT, hj]
      rw [hcj] at hp
      have w1 : IntKind.i64.wrap (((j + 1 : Nat) : Int) - 1) = (j : Int) := by rw [wrap_i64 (by omega) (by omega)]; omega
      generalize (printP l[j]).1 = px at *
      refine awp_seq2 fun K hK hQ => ?_
      conv => whnf
      refine (hwr _).mono ?_
      rintro o T ⟨rfl, rfl⟩
      conv => whnf
      refine hK _ _ ?_
      clear hK hQ K
      refine awp_seq2 fun K hK hQ => ?_
      conv => whnf
      refine (told_fault _ _ (by decide) (by decide) _).mono ?_
      rintro o T ⟨rfl, rfl⟩
      conv => whnf
      intro b6 hb6
      conv => whnf
      refine ⟨_, _, St.upd_same _ _ _, ?_⟩
      conv => whnf
      rw [St.upd_upd]
      refine hK _ _ ?_
      clear hK hQ K
      refine awp_seq2 fun K hK hQ => ?_
      conv => whnf
      refine hK _ _ ?_
      clear hK hQ K
      have q6 := St.upd_same T b6 (.obj 29 [.int .i64 ((j + 1 : Nat) : Int), .int .i64 83])
      have hle6 := St.le_trans hle3 (St.le_upd' (St.le_refl T) hb6 (.obj 29 [.int .i64 ((j + 1 : Nat) : Int), .int .i64 83]))
      generalize T.upd b6 (.obj 29 [.int .i64 ((j + 1 : Nat) : Int), .int .i64 83]) = T6 at *
      refine awp_seq2 fun K hK hQ => ?_
      conv => whnf
      refine ⟨_, _, q6, ?_⟩
      conv => whnf
      refine ⟨_, _, q6, ?_⟩
      conv => whnf
      refine ⟨_, _, q6, ?_⟩
      conv => whnf
      intro _
      conv => whnf
      rw [show decide (((j + 1 : Nat) : Int) > ((rowsT l).length : Int)) = false from decide_eq_false (by rw [rowsT_len]; omega)]
      conv => whnf
      refine ⟨_, _, q6, ?_⟩
      conv => whnf
      rw [w1]
      refine ⟨_, ⟨by omega, hga⟩, ?_⟩
      generalize l[j] = v at *
      conv => whnf
      refine (hp _).mono ?_
      rintro o T ⟨rfl, rfl⟩
      conv => whnf
      refine (num_ok 83 _).mono ?_
      rintro o T ⟨rfl, rfl⟩
      conv => whnf
      refine hQ _ _ _ (by simp) ?_
      conv => whnf
      exact ⟨_, _, ⟨rfl, rfl⟩, hle6, AV.leS_refl _ _ _⟩
  · rw [decide_eq_false hz]
    conv => whnf
    refine hQ _ _ _ (by simp) ?_
    conv => whnf
    exact ⟨_, _, ⟨rfl, rfl⟩, hle3, AV.leS_refl _ _ _⟩
end Go.Proofs.YtdlgedpmbeafdaaGreatDoor.Aw
