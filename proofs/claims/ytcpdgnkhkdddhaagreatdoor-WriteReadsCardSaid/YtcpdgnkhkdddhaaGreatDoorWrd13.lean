/-
  Package hallmarkroom: the count of parts, walked.
  Package hallmarkroom: the count of a step's parts, walked.
  Package proof, walked: text's inner function.
  Package proof, walked: text.
  slices.Equal at the steps' lists, walked.
  A long region is walked in parts.
  proof.same, walked.
  proof.Print, walked.
  The laws' own small functions: num, told.
  hallmarkref8's comparisons at the same value twice.
  hallmarkref8.Same at the same step twice.
-/
import Derived.Test.YtcpdgnkhkdddhaaGreatDoorWrd12
import Derived.Test.YtcpdgnkhkdddhaaGreatDoorWrd6
set_option maxRecDepth 100000
set_option linter.unusedVariables false
set_option linter.unusedSimpArgs false
namespace Go.Proofs.YtcpdgnkhkdddhaaGreatDoor.Aw
open Go Go.RowKit
variable {G : Nat → Option (List AV)}

/-- What is left, once n parts more are counted. -/
def cnt (x n : Int) : Int := if 0 ≤ x then x - n else x
/-- What the count holds is in an int's reach, with room above. -/
def OkC (x : Int) : Prop := -9223372036854775808 ≤ x ∧ x ≤ 1000000000
theorem cnt_ok {x n : Int} (h : OkC x) (h0 : 0 ≤ n) (h1 : n ≤ 9223372036854775807) : OkC (cnt x n) := by
  unfold OkC cnt at *
  split <;> omega
def CntAt (S : St) (b : Nat) (x : Int) : Prop := S b = some (.obj 111 [.int .i64 x])
theorem CMany_ok (n : Int) (S : St) : Triple P (C G) 7 [.int .i64 n] S fun o S' => ∃ b, S b = none ∧ o = .ret (.ref b 0) ∧ S' = S.upd b (.obj 111 [.int .i64 n]) := by
  refine triple_of_awp (hT G) hm Tryz.func7 rfl (by decide +kernel) rfl (by decide +kernel) (by show 1 ≤ _; decide +kernel) rfl ?_
  conv => whnf
  intro b hb
  conv => whnf
  exact ⟨_, _, ⟨b, hb, rfl, rfl⟩, St.le_refl _, AV.leS_refl _ _ _⟩
theorem COk_ok {S : St} {b : Nat} {x : Int} (h : CntAt S b x) : Triple P (C G) 9 [.ref b 0] S fun o S' => o = .ret (.bool (decide (0 ≤ x))) ∧ S' = S := by
  unfold CntAt at h
  refine triple_of_awp (hT G) hm Tryz.func9 rfl (by decide +kernel) rfl (by decide +kernel) (by show 1 ≤ _; decide +kernel) rfl ?_
  conv => whnf
  refine ⟨_, _, h, ?_⟩
  conv => whnf
  exact ⟨_, _, ⟨rfl, rfl⟩, St.le_refl _, AV.leS_refl _ _ _⟩
theorem CAdd_ok {S : St} {b : Nat} {x : Int} (h : CntAt S b x) (hx : OkC x) (n : Int) (h0 : 0 ≤ n) (h1 : n ≤ 9223372036854775807) : Triple P (C G) 69 [.ref b 0, .int .i64 n] S fun o S' => (∃ r, o = .ret (.bool r)) ∧ S' = S.upd b (.obj 111 [.int .i64 (cnt x n)]) := by
  have hw : 0 ≤ x → IntKind.i64.wrap (x - n) = x - n := fun hp => wrap_i64 (by omega) (by unfold OkC at hx; omega)
  unfold CntAt at h
  unfold cnt
  by_cases hp : 0 ≤ x
  · rw [if_pos hp]
    have hw := hw hp
    refine triple_of_awp (hT G) hm Tryz.func69 rfl (by decide +kernel) rfl (by decide +kernel) (by show 2 ≤ _; decide +kernel) rfl ?_
    refine awp_seq2 fun K hK hQ => ?_
    conv => whnf
    refine hK _ _ ?_
    clear hK hQ K
    refine awp_seq2 fun K hK hQ => ?_
    conv => whnf
    refine ⟨_, _, h, ?_⟩
    conv => whnf
    refine split_of (fun _ => ?_) (fun hh => absurd hp (of_decide_eq_false hh))
    conv => whnf
    refine ⟨_, _, h, ?_⟩
    conv => whnf
    refine ⟨_, _, h, ?_⟩
    conv => whnf
    rw [hw]
    refine hK _ _ ?_
    clear hK hQ K
    conv => whnf
    refine ⟨_, _, St.upd_same _ _ _, ?_⟩
    conv => whnf
    exact ⟨_, _, ⟨⟨_, rfl⟩, rfl⟩, St.le_refl _, AV.leS_refl _ _ _⟩
  · rw [if_neg hp]
    refine triple_of_awp (hT G) hm Tryz.func69 rfl (by decide +kernel) rfl (by decide +kernel) (by show 2 ≤ _; decide +kernel) rfl ?_
    refine awp_seq2 fun K hK hQ => ?_
    conv => whnf
    refine hK _ _ ?_
    clear hK hQ K
    refine awp_seq2 fun K hK hQ => ?_
    conv => whnf
    refine ⟨_, _, h, ?_⟩
    conv => whnf
    refine split_of (fun hh => absurd (of_decide_eq_true hh) hp) (fun _ => ?_)
    conv => whnf
    refine hK _ _ ?_
    clear hK hQ K
    conv => whnf
    refine ⟨_, _, h, ?_⟩
    conv => whnf
    exact ⟨_, _, ⟨⟨_, rfl⟩, by rw [St.upd_id h]⟩, St.le_refl _, AV.leS_refl _ _ _⟩
def cntT (x : Int) (s : ByteArray) : Int := cnt (cnt x 1) s.size
theorem cntT_ok {x : Int} (h : OkC x) (s : ByteArray) (hs : s.size ≤ 9223372036854775807) : OkC (cntT x s) := cnt_ok (cnt_ok h (by omega) (by omega)) (by omega) (by omega)
theorem Text_c {S : St} {b : Nat} {x : Int} (h : CntAt S b x) (hx : OkC x) (s : ByteArray) (hs : s.size ≤ 9223372036854775807) : Triple P (C G) 75 [.ref b 0, .str s] S fun o S' => o = .ret (.tu []) ∧ S' = S.upd b (.obj 111 [.int .i64 (cntT x s)]) := by
  have a1 := CAdd_ok (G := G) h hx 1 (by omega) (by omega)
  have h1 : CntAt (S.upd b (.obj 111 [.int .i64 (cnt x 1)])) b (cnt x 1) := St.upd_same _ _ _
  have a2 := CAdd_ok (G := G) h1 (cnt_ok hx (by omega) (by omega)) s.size (by omega) (by omega)
  rw [St.upd_upd] at a2
  unfold cntT
  generalize cnt (cnt x 1) s.size = z at *
  refine triple_of_awp (hT G) hm Tryz.func75 rfl (by decide +kernel) rfl (by decide +kernel) (by show 2 ≤ _; decide +kernel) rfl ?_
  refine awp_seq2 fun K hK hQ => ?_
  conv => whnf
  refine a1.mono ?_
  rintro o T ⟨⟨r, rfl⟩, rfl⟩
  conv => whnf
  refine hK _ _ ?_
  clear hK hQ K
  conv => whnf
  refine a2.mono ?_
  rintro o T ⟨⟨r, rfl⟩, rfl⟩
  conv => whnf
  exact ⟨_, _, ⟨rfl, rfl⟩, St.le_refl _, AV.leS_refl _ _ _⟩
/-- Text by text, until too much is counted. -/
def cntL : Int → List ByteArray → Int
  | x, [] => x
  | x, s :: l => if 0 ≤ x then cntL (cntT x s) l else x
theorem Texts_c {S : St} {b : Nat} {x : Int} (h : CntAt S b x) (hx : OkC x) (l : List ByteArray) (hs : ∀ o ∈ l, ((fun s : ByteArray => s) o).size ≤ 9223372036854775807) : Triple P (C G) 76 [.ref b 0, .sl .any 1 (rowsS l)] S fun o S' => o = .ret (.tu []) ∧ S' = S.upd b (.obj 111 [.int .i64 (cntL x (l.map fun o => (fun s : ByteArray => s) o))]) := by
  refine triple_of_awp (hT G) hm Tryz.func76 rfl (by decide +kernel) rfl (by decide +kernel) (by show 2 ≤ _; decide +kernel) rfl ?_
  conv => whnf
  refine ⟨⟨Nat × Int, fun z => [(0, .ref b 0), (1, .sl .any 1 (rowsS l)), (4, .int .i64 (z.1 : Int))],
    fun z S' => S' = S.upd b (.obj 111 [.int .i64 z.2]) ∧ OkC z.2 ∧ z.1 ≤ l.length ∧ cntL z.2 ((l.map fun o => (fun s : ByteArray => s) o).drop z.1) = cntL x (l.map fun o => (fun s : ByteArray => s) o), fun z => l.length - z.1⟩,
    ⟨(0, x), ⟨rfl, ⟨rfl, rfl⟩, rfl, trivial⟩, _, St.leW_refl _, (St.upd_id h).symm, hx, by omega, rfl⟩, ?_⟩
  rintro ⟨i, y⟩ S' ⟨rfl, hy, hi, he⟩
  dsimp only at hy hi he
  have h' : CntAt (S.upd b (.obj 111 [.int .i64 y])) b y := St.upd_same _ _ _
  have hok := COk_ok (G := G) h'
  conv => whnf
  intro hlen
  conv => whnf
  by_cases hlt : i < l.length
  · rw [show decide ((i : Int) < ((rowsS l).length : Int)) = true from decide_eq_true (by rw [rowsS_len]; omega)]
    have hd : (l.map fun o => (fun s : ByteArray => s) o).drop i = (fun o => (fun s : ByteArray => s) o) l[i] :: (l.map fun o => (fun s : ByteArray => s) o).drop (i + 1) := by
      rw [List.drop_eq_getElem_cons (by simpa using hlt)]; simp
    rw [hd] at he
    simp only [cntL] at he
    have hsi := hs _ (List.getElem_mem hlt)
    have ga : (rowsS l)[(i : Int).toNat]? = some ([.str l[i]]) := by simp [rowsS, hlt]
    have htx := Text_c (G := G) h' hy ((fun o => (fun s : ByteArray => s) o) l[i]) hsi
    have hyt := cntT_ok hy ((fun o => (fun s : ByteArray => s) o) l[i]) hsi
    rw [St.upd_upd] at htx
    rw [rowsS_len] at hlen
    conv => whnf
    refine hok.mono ?_
    rintro o T ⟨rfl, rfl⟩
    conv => whnf
    refine split_of (fun hp => ?_) (fun hp => ?_)
    · have hp : 0 ≤ y := of_decide_eq_true hp
      rw [if_pos hp] at he
      have w1 : IntKind.i64.wrap ((i : Int) + 1) = ((i + 1 : Nat) : Int) := wrap_nat (by omega)
      dsimp only at htx hyt he
      generalize l[i] = e at *
      conv => whnf
      refine ⟨_, ⟨by omega, ga⟩, ?_⟩
      conv => whnf
      refine htx.mono ?_
      rintro o T ⟨rfl, rfl⟩
      conv => whnf
      exact ⟨(i + 1, _), ⟨rfl, ⟨rfl, rfl⟩, congrArg _ w1, trivial⟩, ⟨_, St.leW_refl _, rfl, hyt, hlt, he⟩, by show l.length - (i + 1) < l.length - i; omega⟩
    · have hp : ¬ 0 ≤ y := of_decide_eq_false hp
      rw [if_neg hp] at he
      conv => whnf
      exact ⟨_, _, ⟨rfl, by rw [he]⟩, St.le_refl _, AV.leS_refl _ _ _⟩
  · rw [show decide ((i : Int) < ((rowsS l).length : Int)) = false from decide_eq_false (by rw [rowsS_len]; omega)]
    have hd : (l.map fun o => (fun s : ByteArray => s) o).drop i = [] := List.drop_eq_nil_of_le (by simp; omega)
    rw [hd] at he
    conv => whnf
    exact ⟨_, _, ⟨rfl, by rw [← he]; rfl⟩, St.le_refl _, AV.leS_refl _ _ _⟩
theorem Ops_c {S : St} {b : Nat} {x : Int} (h : CntAt S b x) (hx : OkC x) (l : List (Int × ByteArray × Int)) (hs : ∀ o ∈ l, (o.2.1).size ≤ 9223372036854775807) : Triple P (C G) 68 [.ref b 0, .sl .any 3 (rowsO l)] S fun o S' => o = .ret (.tu []) ∧ S' = S.upd b (.obj 111 [.int .i64 (cntL x (l.map fun o => o.2.1))]) := by
  refine triple_of_awp (hT G) hm Tryz.func68 rfl (by decide +kernel) rfl (by decide +kernel) (by show 2 ≤ _; decide +kernel) rfl ?_
  conv => whnf
  refine ⟨⟨Nat × Int, fun z => [(0, .ref b 0), (1, .sl .any 3 (rowsO l)), (4, .int .i64 (z.1 : Int))],
    fun z S' => S' = S.upd b (.obj 111 [.int .i64 z.2]) ∧ OkC z.2 ∧ z.1 ≤ l.length ∧ cntL z.2 ((l.map fun o => o.2.1).drop z.1) = cntL x (l.map fun o => o.2.1), fun z => l.length - z.1⟩,
    ⟨(0, x), ⟨rfl, ⟨rfl, rfl⟩, rfl, trivial⟩, _, St.leW_refl _, (St.upd_id h).symm, hx, by omega, rfl⟩, ?_⟩
  rintro ⟨i, y⟩ S' ⟨rfl, hy, hi, he⟩
  dsimp only at hy hi he
  have h' : CntAt (S.upd b (.obj 111 [.int .i64 y])) b y := St.upd_same _ _ _
  have hok := COk_ok (G := G) h'
  conv => whnf
  intro hlen
  conv => whnf
  by_cases hlt : i < l.length
  · rw [show decide ((i : Int) < ((rowsO l).length : Int)) = true from decide_eq_true (by rw [rowsO_len]; omega)]
    have hd : (l.map fun o => o.2.1).drop i = (fun o => o.2.1) l[i] :: (l.map fun o => o.2.1).drop (i + 1) := by
      rw [List.drop_eq_getElem_cons (by simpa using hlt)]; simp
    rw [hd] at he
    simp only [cntL] at he
    have hsi := hs _ (List.getElem_mem hlt)
    have ga : (rowsO l)[(i : Int).toNat]? = some ([.int .i64 l[i].1, .str l[i].2.1, .int .i64 l[i].2.2]) := by simp [rowsO, hlt]
    have htx := Text_c (G := G) h' hy ((fun o => o.2.1) l[i]) hsi
    have hyt := cntT_ok hy ((fun o => o.2.1) l[i]) hsi
    rw [St.upd_upd] at htx
    rw [rowsO_len] at hlen
    conv => whnf
    refine hok.mono ?_
    rintro o T ⟨rfl, rfl⟩
    conv => whnf
    refine split_of (fun hp => ?_) (fun hp => ?_)
    · have hp : 0 ≤ y := of_decide_eq_true hp
      rw [if_pos hp] at he
      have w1 : IntKind.i64.wrap ((i : Int) + 1) = ((i + 1 : Nat) : Int) := wrap_nat (by omega)
      dsimp only at htx hyt he
      generalize l[i] = e at *
      conv => whnf
      refine ⟨_, ⟨by omega, ga⟩, ?_⟩
      conv => whnf
      refine htx.mono ?_
      rintro o T ⟨rfl, rfl⟩
      conv => whnf
      exact ⟨(i + 1, _), ⟨rfl, ⟨rfl, rfl⟩, congrArg _ w1, trivial⟩, ⟨_, St.leW_refl _, rfl, hyt, hlt, he⟩, by show l.length - (i + 1) < l.length - i; omega⟩
    · have hp : ¬ 0 ≤ y := of_decide_eq_false hp
      rw [if_neg hp] at he
      conv => whnf
      exact ⟨_, _, ⟨rfl, by rw [he]⟩, St.le_refl _, AV.leS_refl _ _ _⟩
  · rw [show decide ((i : Int) < ((rowsO l).length : Int)) = false from decide_eq_false (by rw [rowsO_len]; omega)]
    have hd : (l.map fun o => o.2.1).drop i = [] := List.drop_eq_nil_of_le (by simp; omega)
    rw [hd] at he
    conv => whnf
    exact ⟨_, _, ⟨rfl, by rw [← he]; rfl⟩, St.le_refl _, AV.leS_refl _ _ _⟩
end Go.Proofs.YtcpdgnkhkdddhaaGreatDoor.Aw

set_option maxRecDepth 100000
set_option linter.unusedVariables false
set_option linter.unusedSimpArgs false
namespace Go.Proofs.YtcpdgnkhkdddhaaGreatDoor.Aw
open Go Go.RowKit
variable {G : Nat → Option (List AV)}

def cntRow (x : Int) (ps : List (ByteArray × Int)) (bound : ByteArray) : Int := cntL (cntT x bound) (ps.map fun o => o.1)
theorem cntL_ok : ∀ (l : List ByteArray) {x : Int}, OkC x → (∀ s ∈ l, s.size ≤ 9223372036854775807) → OkC (cntL x l)
  | [], x, h, _ => h
  | s :: l, x, h, hs => by
    unfold cntL
    split
    · exact cntL_ok l (cntT_ok h s (hs s (by simp))) fun y hy => hs y (by simp [hy])
    · exact h
theorem Row_c {S : St} {b : Nat} {x : Int} (h : CntAt S b x) (hx : OkC x) (l : List (ByteArray × Int)) (bound : ByteArray) (hb : bound.size ≤ 9223372036854775807) (hs : ∀ o ∈ l, o.1.size ≤ 9223372036854775807) : Triple P (C G) 67 [.ref b 0, .ag [.sl .any 2 (rowsP l), .str bound]] S fun o S' => o = .ret (.tu []) ∧ S' = S.upd b (.obj 111 [.int .i64 (cntRow x l bound)]) := by
  refine triple_of_awp (hT G) hm Tryz.func67 rfl (by decide +kernel) rfl (by decide +kernel) (by show 2 ≤ _; decide +kernel) rfl ?_
  refine awp_seq2 fun K hK hQ => ?_
  conv => whnf
  intro b3 hb3
  conv => whnf
  refine hK _ _ ?_
  clear hK hQ K
  have hne : b ≠ b3 := St.ne_of hb3 h
  generalize hS1 : S.upd b3 (.obj 51 [.sl .any 2 (rowsP l), .str bound]) = S1
  have q3 : S1 b3 = some (.obj 51 [.sl .any 2 (rowsP l), .str bound]) := by rw [← hS1]; exact St.upd_same _ _ _
  have h1 : CntAt S1 b x := by rw [← hS1]; exact St.up hb3 h
  have htx := Text_c (G := G) h1 hx bound hb
  have hy0 := cntT_ok hx bound hb
  refine awp_seq2 fun K hK hQ => ?_
  conv => whnf
  refine ⟨_, _, q3, ?_⟩
  conv => whnf
  refine htx.mono ?_
  rintro o T ⟨rfl, rfl⟩
  conv => whnf
  refine hK _ _ ?_
  clear hK hQ K
  unfold cntRow
  generalize cntT x bound = x0 at *
  conv => whnf
  refine ⟨⟨Nat × Int, fun z => [(0, .ref b 0), (3, .ref b3 0), (4, .int .i64 (z.1 : Int))],
    fun z S' => S' = S1.upd b (.obj 111 [.int .i64 z.2]) ∧ OkC z.2 ∧ z.1 ≤ l.length ∧ cntL z.2 ((l.map fun o => o.1).drop z.1) = cntL x0 (l.map fun o => o.1), fun z => l.length - z.1⟩,
    ⟨(0, x0), ⟨rfl, rfl, rfl, trivial⟩, _, St.leW_refl _, rfl, hy0, by omega, rfl⟩, ?_⟩
  rintro ⟨i, y⟩ S' ⟨rfl, hy, hi, he⟩
  dsimp only at hy hi he
  have h' : CntAt (S1.upd b (.obj 111 [.int .i64 y])) b y := St.upd_same _ _ _
  have q' : (S1.upd b (.obj 111 [.int .i64 y])) b3 = some (.obj 51 [.sl .any 2 (rowsP l), .str bound]) := St.ov (Ne.symm hne) q3
  have hok := COk_ok (G := G) h'
  have hend : ∀ z : Int, St.le (S.upd b (.obj 111 [.int .i64 z])) (S1.upd b (.obj 111 [.int .i64 z])) := fun z => by
    rw [← hS1]
    exact St.le_upd2 (St.le_upd' (St.le_refl _) hb3 _) _ _
  conv => whnf
  refine ⟨_, _, q', ?_⟩
  conv => whnf
  intro hlen
  conv => whnf
  by_cases hlt : i < l.length
  · rw [show decide ((i : Int) < ((rowsP l).length : Int)) = true from decide_eq_true (by rw [rowsP_len]; omega)]
    have hd : (l.map fun o => o.1).drop i = (fun o : ByteArray × Int => o.1) l[i] :: (l.map fun o => o.1).drop (i + 1) := by
      rw [List.drop_eq_getElem_cons (by simpa using hlt)]; simp
    rw [hd] at he
    simp only [cntL] at he
    have hsi := hs _ (List.getElem_mem hlt)
    have ga : (rowsP l)[(i : Int).toNat]? = some ([.str l[i].1, .int .i64 l[i].2]) := by simp [rowsP, hlt]
    have htx := Text_c (G := G) h' hy l[i].1 hsi
    have hyt := cntT_ok hy l[i].1 hsi
    rw [St.upd_upd] at htx
    rw [rowsP_len] at hlen
    conv => whnf
    refine hok.mono ?_
    rintro o T ⟨rfl, rfl⟩
    conv => whnf
    refine split_of (fun hp => ?_) (fun hp => ?_)
    · have hp : 0 ≤ y := of_decide_eq_true hp
      rw [if_pos hp] at he
      have w1 : IntKind.i64.wrap ((i : Int) + 1) = ((i + 1 : Nat) : Int) := wrap_nat (by omega)
      generalize l[i] = e at *
      conv => whnf
      refine ⟨_, _, q', ?_⟩
      conv => whnf
      refine ⟨_, ⟨by omega, ga⟩, ?_⟩
      conv => whnf
      refine htx.mono ?_
      rintro o T ⟨rfl, rfl⟩
      conv => whnf
      exact ⟨(i + 1, _), ⟨rfl, rfl, congrArg _ w1, trivial⟩, ⟨_, St.leW_refl _, rfl, hyt, hlt, he⟩, by show l.length - (i + 1) < l.length - i; omega⟩
    · have hp : ¬ 0 ≤ y := of_decide_eq_false hp
      rw [if_neg hp] at he
      conv => whnf
      exact ⟨_, _, ⟨rfl, rfl⟩, by rw [← he]; exact hend _, AV.leS_refl _ _ _⟩
  · rw [show decide ((i : Int) < ((rowsP l).length : Int)) = false from decide_eq_false (by rw [rowsP_len]; omega)]
    have hd : (l.map fun o => o.1).drop i = [] := List.drop_eq_nil_of_le (by simp; omega)
    rw [hd] at he
    conv => whnf
    exact ⟨_, _, ⟨rfl, rfl⟩, by rw [← he]; exact hend _, AV.leS_refl _ _ _⟩
/-- A step's strings are within the reach of an int. -/
structure SzStep (v : StepV) : Prop where
  num : v.num.size ≤ 9223372036854775807
  ops : ∀ o ∈ v.ops, o.2.1.size ≤ 9223372036854775807
  pieces : ∀ p ∈ v.pieces, p.1.size ≤ 9223372036854775807
  bound : v.bound.size ≤ 9223372036854775807
  ids : ∀ x ∈ v.ids, x.size ≤ 9223372036854775807
  s7 : v.s7.size ≤ 9223372036854775807
  s8 : v.s8.size ≤ 9223372036854775807
  lits : v.lits.length ≤ 9223372036854775807
def cntS (x : Int) (v : StepV) : Int :=
  cntL (cnt (cntRow (cntL (cntT (cntT (cntT x v.num) v.s7) v.s8) (v.ops.map fun o => o.2.1)) v.pieces v.bound) v.lits.length) (v.ids.map fun o => (fun s : ByteArray => s) o)
theorem cntRow_ok {x : Int} (h : OkC x) (l : List (ByteArray × Int)) (bound : ByteArray) (hb : bound.size ≤ 9223372036854775807) (hs : ∀ o ∈ l, o.1.size ≤ 9223372036854775807) : OkC (cntRow x l bound) :=
  cntL_ok _ (cntT_ok h bound hb) fun s hs' => by
    obtain ⟨o, ho, rfl⟩ := List.mem_map.1 hs'
    exact hs o ho
theorem cntS_ok {x : Int} (h : OkC x) {v : StepV} (hv : SzStep v) : OkC (cntS x v) :=
  cntL_ok _ (cnt_ok (cntRow_ok (cntL_ok _ (cntT_ok (cntT_ok (cntT_ok h _ hv.num) _ hv.s7) _ hv.s8) (fun s hs => by
    obtain ⟨o, ho, rfl⟩ := List.mem_map.1 hs
    exact hv.ops o ho)) _ _ hv.bound hv.pieces) (by omega) (by have := hv.lits; omega)) (fun s hs => by
    obtain ⟨o, ho, rfl⟩ := List.mem_map.1 hs
    exact hv.ids o ho)
theorem Step_c {S : St} {b : Nat} {x : Int} (h : CntAt S b x) (hx : OkC x) (v : StepV) (hv : SzStep v) : Triple P (C G) 38 [.ref b 0, stepAV v] S fun o S' => o = .ret (.tu []) ∧ S' = S.upd b (.obj 111 [.int .i64 (cntS x v)]) := by
  refine triple_of_awp (hT G) hm Tryz.func38 rfl (by decide +kernel) rfl (by decide +kernel) (by show 2 ≤ _; decide +kernel) rfl ?_
  refine awp_seq2 fun K hK hQ => ?_
  conv => whnf
  intro b3 hb3
  conv => whnf
  refine hK _ _ ?_
  clear hK hQ K
  have hne : b ≠ b3 := St.ne_of hb3 h
  change awp _ _ _ _ (S.upd b3 (.obj 54 (stepR v))) _
  generalize hS1 : S.upd b3 (.obj 54 (stepR v)) = S1
  have q3 : S1 b3 = some (.obj 54 (stepR v)) := by rw [← hS1]; exact St.upd_same _ _ _
  have h1 : CntAt S1 b x := by rw [← hS1]; exact St.up hb3 h
  have hend : ∀ z : Int, St.le (S.upd b (.obj 111 [.int .i64 z])) (S1.upd b (.obj 111 [.int .i64 z])) := fun z => by
    rw [← hS1]
    exact St.le_upd2 (St.le_upd' (St.le_refl _) hb3 _) _ _
  have hc : ∀ z : Int, CntAt (S1.upd b (.obj 111 [.int .i64 z])) b z := fun z => St.upd_same _ _ _
  have hq : ∀ z : Int, (S1.upd b (.obj 111 [.int .i64 z])) b3 = some (.obj 54 (stepR v)) := fun z => St.ov (Ne.symm hne) q3
  have a0 := Text_c (G := G) h1 hx v.num hv.num
  have o0 := cntT_ok hx v.num hv.num
  have a1 := Text_c (G := G) (hc _) o0 v.s7 hv.s7
  have o1 := cntT_ok o0 v.s7 hv.s7
  have a2 := Text_c (G := G) (hc _) o1 v.s8 hv.s8
  have o2 := cntT_ok o1 v.s8 hv.s8
  have a3 := Ops_c (G := G) (hc _) o2 v.ops hv.ops
  have o3 : OkC (cntL (cntT (cntT (cntT x v.num) v.s7) v.s8) (v.ops.map fun o => o.2.1)) := cntL_ok _ o2 (fun s hs => by
    obtain ⟨o, ho, rfl⟩ := List.mem_map.1 hs
    exact hv.ops o ho)
  have a4 := Row_c (G := G) (hc _) o3 v.pieces v.bound hv.bound hv.pieces
  have o4 := cntRow_ok o3 v.pieces v.bound hv.bound hv.pieces
  have a5 := CAdd_ok (G := G) (hc _) o4 (v.lits.length : Int) (by omega) (by have := hv.lits; omega)
  have o5 := cnt_ok o4 (n := (v.lits.length : Int)) (by omega) (by have := hv.lits; omega)
  have a6 := Texts_c (G := G) (hc _) o5 v.ids hv.ids
  rw [St.upd_upd] at a1 a2 a3 a4 a5 a6
  unfold cntS
  generalize cntL (cnt (cntRow (cntL (cntT (cntT (cntT x v.num) v.s7) v.s8) (v.ops.map fun o => o.2.1)) v.pieces v.bound) v.lits.length) (v.ids.map fun o => (fun s : ByteArray => s) o) = z6 at *
  generalize cnt (cntRow (cntL (cntT (cntT (cntT x v.num) v.s7) v.s8) (v.ops.map fun o => o.2.1)) v.pieces v.bound) v.lits.length = z5 at *
  generalize cntRow (cntL (cntT (cntT (cntT x v.num) v.s7) v.s8) (v.ops.map fun o => o.2.1)) v.pieces v.bound = z4 at *
  generalize cntL (cntT (cntT (cntT x v.num) v.s7) v.s8) (v.ops.map fun o => o.2.1) = z3 at *
  generalize cntT (cntT (cntT x v.num) v.s7) v.s8 = z2 at *
  generalize cntT (cntT x v.num) v.s7 = z1 at *
  generalize cntT x v.num = z0 at *
  refine awp_seq2 fun K hK hQ => ?_
  conv => whnf
  refine ⟨_, _, q3, ?_⟩
  conv => whnf
  refine a0.mono ?_
  rintro o T ⟨rfl, rfl⟩
  conv => whnf
  refine hK _ _ ?_
  clear hK hQ K
  refine awp_seq2 fun K hK hQ => ?_
  conv => whnf
  refine ⟨_, _, hq _, ?_⟩
  conv => whnf
  refine a1.mono ?_
  rintro o T ⟨rfl, rfl⟩
  conv => whnf
  refine hK _ _ ?_
  clear hK hQ K
  refine awp_seq2 fun K hK hQ => ?_
  conv => whnf
  refine ⟨_, _, hq _, ?_⟩
  conv => whnf
  refine a2.mono ?_
  rintro o T ⟨rfl, rfl⟩
  conv => whnf
  refine hK _ _ ?_
  clear hK hQ K
  refine awp_seq2 fun K hK hQ => ?_
  conv => whnf
  refine ⟨_, _, hq _, ?_⟩
  conv => whnf
  refine a3.mono ?_
  rintro o T ⟨rfl, rfl⟩
  conv => whnf
  refine hK _ _ ?_
  clear hK hQ K
  refine awp_seq2 fun K hK hQ => ?_
  conv => whnf
  refine ⟨_, _, hq _, ?_⟩
  conv => whnf
  refine a4.mono ?_
  rintro o T ⟨rfl, rfl⟩
  conv => whnf
  refine hK _ _ ?_
  clear hK hQ K
  refine awp_seq2 fun K hK hQ => ?_
  conv => whnf
  refine ⟨_, _, hq _, ?_⟩
  conv => whnf
  intro _
  conv => whnf
  rw [rowsI_len]
  refine a5.mono ?_
  rintro o T ⟨⟨r, rfl⟩, rfl⟩
  conv => whnf
  refine hK _ _ ?_
  clear hK hQ K
  conv => whnf
  refine ⟨_, _, hq _, ?_⟩
  conv => whnf
  refine a6.mono ?_
  rintro o T ⟨rfl, rfl⟩
  conv => whnf
  exact ⟨_, _, ⟨rfl, rfl⟩, hend _, AV.leS_refl _ _ _⟩
end Go.Proofs.YtcpdgnkhkdddhaaGreatDoor.Aw

set_option maxRecDepth 100000
set_option linter.unusedVariables false
set_option linter.unusedSimpArgs false
namespace Go.Proofs.YtcpdgnkhkdddhaaGreatDoor.Aw
open Go Go.RowKit
variable {G : Nat → Option (List AV)}

/-- A variable that holds a list that grows. -/
structure TxAt (S₀ S : St) (b : Nat) (l : List ByteArray) (t : Nat) : Prop where
  le : St.le S₀ S
  new : S₀ b = none
  at_ : S b = some (.obj 52 [.sl (.acc t) 1 (rowsS l)])
  tip : TipOk S₀ S t 9 1 l.length
def Tx (S₀ S : St) (b : Nat) (l : List ByteArray) : Prop := ∃ t, TxAt S₀ S b l t
theorem say_ok {S₀ S : St} {b : Nat} {l : List ByteArray} (h : Tx S₀ S b l) (xs : List ByteArray) (hn : l.length + xs.length ≤ 100000000) (sh : Sh) : Triple P (C G) 88 [.sl sh 1 (rowsS xs), .ref b 0] S fun o S' => o = .ret (.tu []) ∧ Tx S₀ S' b (l ++ xs) := by
  obtain ⟨t, hat⟩ := h
  have hb := hat.at_
  refine triple_of_awp (hT G) hm Tryz.func88 rfl (by decide +kernel) rfl (by decide +kernel) (by show 2 ≤ _; decide +kernel) rfl ?_
  conv => whnf
  refine ⟨_, _, hb, ?_⟩
  conv => whnf
  cases xs with
  | nil =>
    conv => whnf
    refine ⟨⟨fun hl => ?_, ?_⟩, ?_⟩
    · rw [rowsS_len]; exact (hat.tip (by cases l <;> simp_all [rowsS])).1
    · show ((rowsS l).length + 0) * 16 ≤ _
      rw [rowsS_len]; omega
    conv => whnf
    refine ⟨_, _, hb, ?_⟩
    conv => whnf
    refine ⟨_, _, ⟨rfl, t, ?_⟩, St.le_refl _, AV.leS_refl _ _ _⟩
    rw [St.upd_id hb, List.append_nil]; exact hat
  | cons x xs =>
    conv => whnf
    refine ⟨⟨fun hl => ?_, ?_⟩, fun S4 c1 c2 b' c3 => ?_⟩
    · rw [rowsS_len]; exact (hat.tip (by cases l <;> simp_all [rowsS])).1
    · show ((rowsS l).length + (rowsS (x :: xs)).length) * 16 ≤ _
      rw [rowsS_len, rowsS_len]; simp at hn ⊢; omega
    have ha : AccStep S t 9 1 l.length (x :: xs).length b' (S4.upd b' (.tip 9 1 (l.length + (x :: xs).length))) := .inr ⟨by simp, S4, fun e => c1 (by rw [List.eq_nil_of_length_eq_zero e]; rfl), fun e => c2 (by cases l <;> simp_all [rowsS]), c3, rfl⟩
    obtain ⟨k1, k2⟩ := AccStep.tipOk hat.tip hat.le ha
    have hk := AccStep.other (fun hn => (hat.tip hn).1) ha hb (by intro n' e; cases e)
    have er : rowsS l ++ rowsS (x :: xs) = rowsS (l ++ (x :: xs)) := by simp [rowsS]
    rw [show ([AV.str x] :: List.map (fun s => [AV.str s]) xs) = rowsS (x :: xs) from rfl, er, rowsS_len, rowsS_len]
    conv => whnf
    refine ⟨_, _, hk, ?_⟩
    conv => whnf
    refine ⟨_, _, ⟨rfl, b', ?_⟩, St.le_refl _, AV.leS_refl _ _ _⟩
    exact ⟨St.le_upd k2 hat.new _, hat.new, St.upd_same _ _ _, TipOk.upd (by rw [List.length_append]; exact k1) hk _⟩
/-! ### text -/
def sumS (l : List ByteArray) : Nat := (l.map (·.size)).sum
theorem sumS_append (a b : List ByteArray) : sumS (a ++ b) = sumS a + sumS b := by simp [sumS]
theorem sumS_le {l : List ByteArray} {k : Nat} (h : ∀ x ∈ l, x.size ≤ k) : sumS l ≤ l.length * k := by
  induction l with
  | nil => simp [sumS]
  | cons x l ih =>
    have := ih (fun y hy => h y (by simp [hy]))
    have hx := h x (by simp)
    simp only [sumS, List.map_cons, List.sum_cons, List.length_cons, Nat.succ_mul] at this ⊢
    omega
theorem joinS_sum (l : List ByteArray) (sep : ByteArray) : (joinS l sep).size ≤ sumS l + l.length * sep.size := by
  have e : ∀ b : ByteArray, b.data.toList.length = b.size := fun b => by rw [Array.length_toList]; rfl
  have h1 : (joinS l sep).size = (Lib.join (l.map (·.data.toList)) sep.data.toList).length := by unfold joinS; simp [ByteArray.size]
  rw [h1]
  cases l with
  | nil => simp [Lib.join_nil]
  | cons x l =>
    rw [List.map_cons, Lib.join_cons, List.length_append, e]
    have ht : ∀ l : List ByteArray, (Lib.joinTail sep.data.toList (l.map (·.data.toList))).length ≤ sumS l + l.length * sep.size := by
      intro l
      induction l with
      | nil => simp [Lib.joinTail]
      | cons y l ih =>
        unfold Lib.joinTail at ih ⊢
        rw [List.map_cons, List.map_cons, List.flatten_cons, List.length_append, List.length_append, e, e, List.length_cons, Nat.succ_mul]
        simp only [sumS, List.map_cons, List.sum_cons] at ih ⊢
        omega
    have := ht l
    simp only [sumS, List.map_cons, List.sum_cons, List.length_cons, Nat.succ_mul] at this ⊢
    omega
def w1S : ByteArray := ⟨#[112, 115, 101, 117, 100, 111, 45, 66, 111, 111, 108, 101, 97, 110, 32, 112, 114, 111, 111, 102, 32, 118, 101, 114, 115, 105, 111, 110, 32, 50, 46, 48]⟩
def w8S : ByteArray := ⟨#[111, 117, 116, 112, 117, 116, 32, 78, 79, 78, 69]⟩
def w10S : ByteArray := ⟨#[101, 110, 100, 32, 112, 115, 101, 117, 100, 111, 45, 66, 111, 111, 108, 101, 97, 110, 32, 112, 114, 111, 111, 102]⟩
def textW (v : StepV) : List ByteArray :=
  if v.kind = 1 then [w1S] else if v.kind = 2 then [kF, v.num] else if v.kind = 3 then [kPol] ++ v.ops.map opT
  else if v.kind = 4 then [kRup, rowT v.pieces v.bound] ++ v.ids else if v.kind = 12 then ([kE] ++ v.ids) ++ [rowT v.pieces v.bound]
  else if v.kind = 5 then [kSoli] ++ litsT v.lits else if v.kind = 11 then [kSolx] ++ litsT v.lits else if v.kind = 6 then [kDel, ⟨#[105, 100]⟩] ++ v.ids
  else if v.kind = 7 then [kStar] else if v.kind = 8 then [w8S] else if v.kind = 9 then [kConc, endT v] else if v.kind = 10 then [w10S] else []
def textT (v : StepV) : ByteArray := joinS (textW v) spaceS
theorem Tx.new {S : St} {b : Nat} (hb : S b = none) : ∃ S3, St.leW S3 (S.upd b (.obj 52 [.nils])) ∧ Tx S S3 b [] := by
  have h1 := St.leW_upd (cs' := [.sl (.acc 0) 1 (rowsS [])]) (St.upd_same S b (.obj 52 [.nils])) ⟨rfl, trivial⟩
  rw [St.upd_upd] at h1
  exact ⟨_, h1, 0, St.le_upd' (St.le_refl _) hb _, hb, St.upd_same _ _ _, fun h => absurd h (by decide)⟩
theorem sumS_cons (x : ByteArray) (l : List ByteArray) : sumS (x :: l) = x.size + sumS l := by simp [sumS]
theorem sumS_nil : sumS [] = 0 := rfl
theorem opT_size (o : OpV) (h : okI o.2.2 ∧ o.2.1.size ≤ 10000000) : (opT o).size ≤ 10000025 := by
  have hl := litT_size o.2.2 h.1
  have hs := h.2
  unfold opT
  split
  · omega
  split
  · omega
  split
  · decide
  split
  · rw [ba_size_append]; show _ + 2 ≤ _; omega
  split
  · rw [ba_size_append]; show _ + 2 ≤ _; omega
  split
  · decide
  split
  · rw [ba_size_append]; show _ + 2 ≤ _; omega
  · decide
theorem endT_size {v : StepV} (h : OkStep v) : (endT v).size ≤ 40000000 := by
  have h1 := idT_size h.ids.2
  have h7 := h.s7
  have h8 := h.s8
  unfold endT
  split
  · decide
  split
  · decide
  split
  · rw [ba_size_append]; show 5 + _ ≤ _; omega
  split
  · rw [ba_size_append, ba_size_append]; show 4 + _ + _ ≤ _; omega
  split
  · rw [ba_size_append, ba_size_append, ba_size_append, ba_size_append]; show 7 + _ + _ + 1 + _ ≤ _; omega
  · decide
theorem rowT_size {ps : List (ByteArray × Int)} {bound : ByteArray} (h : OkRow ps bound) : (rowT ps bound).size ≤ 30000000000000 := by
  have hj := joinS_size (pieceT ps ++ [geS, bound, semiS]) spaceS (pieceT_size h) (m := 1) (by decide)
  have := h.1
  have hp := pieceT_len ps
  unfold rowT
  rw [List.length_append, hp] at hj
  simp only [List.length_cons, List.length_nil] at hj
  omega
set_option maxHeartbeats 1000000 in
theorem textW_bound {v : StepV} (h : OkStep v) : (textW v).length ≤ 2000000 ∧ sumS (textW v) ≤ 100000000000000 := by
  have hr := rowT_size h.row
  have he := endT_size h
  have ho : sumS (v.ops.map opT) ≤ (v.ops.map opT).length * 10000025 := sumS_le (fun x hx => by
    obtain ⟨o, ho, rfl⟩ := List.mem_map.1 hx
    exact opT_size o (h.ops.2 o ho))
  have hi : sumS v.ids ≤ v.ids.length * 10000000 := sumS_le h.ids.2
  have hl : sumS (litsT v.lits) ≤ (litsT v.lits).length * 23 := sumS_le (fun x hx => by
    unfold litsT at hx
    obtain ⟨z, hz, rfl⟩ := List.mem_map.1 hx
    exact litT_size z (h.lits.2 z hz))
  have hll : (litsT v.lits).length = v.lits.length := by simp [litsT]
  rw [List.length_map] at ho
  rw [hll] at hl
  have h1 := h.ops.1
  have h2 := h.ids.1
  have h3 := h.lits.1
  have h4 := h.num
  have e1 : w1S.size = 32 := rfl
  have e2 : kF.size = 1 := rfl
  have e3 : kPol.size = 3 := rfl
  have e4 : kRup.size = 3 := rfl
  have e5 : kE.size = 1 := rfl
  have e6 : kSoli.size = 4 := rfl
  have e7 : kSolx.size = 4 := rfl
  have e8 : kDel.size = 3 := rfl
  have e9 : kStar.size = 1 := rfl
  have e10 : w8S.size = 11 := rfl
  have e11 : kConc.size = 10 := rfl
  have e12 : w10S.size = 24 := rfl
  have e13 : (⟨#[105, 100]⟩ : ByteArray).size = 2 := rfl
  unfold textW
  by_cases k0 : v.kind = 1
  · rw [if_pos k0]; (simp only [sumS_append, sumS_cons, sumS_nil, List.length_append, List.length_cons, List.length_nil, List.length_map, hll]; constructor <;> omega)
  rw [if_neg k0]
  by_cases k1 : v.kind = 2
  · rw [if_pos k1]; (simp only [sumS_append, sumS_cons, sumS_nil, List.length_append, List.length_cons, List.length_nil, List.length_map, hll]; constructor <;> omega)
  rw [if_neg k1]
  by_cases k2 : v.kind = 3
  · rw [if_pos k2]; (simp only [sumS_append, sumS_cons, sumS_nil, List.length_append, List.length_cons, List.length_nil, List.length_map, hll]; constructor <;> omega)
  rw [if_neg k2]
  by_cases k3 : v.kind = 4
  · rw [if_pos k3]; (simp only [sumS_append, sumS_cons, sumS_nil, List.length_append, List.length_cons, List.length_nil, List.length_map, hll]; constructor <;> omega)
  rw [if_neg k3]
  by_cases k4 : v.kind = 12
  · rw [if_pos k4]; (simp only [sumS_append, sumS_cons, sumS_nil, List.length_append, List.length_cons, List.length_nil, List.length_map, hll]; constructor <;> omega)
  rw [if_neg k4]
  by_cases k5 : v.kind = 5
  · rw [if_pos k5]; (simp only [sumS_append, sumS_cons, sumS_nil, List.length_append, List.length_cons, List.length_nil, List.length_map, hll]; constructor <;> omega)
  rw [if_neg k5]
  by_cases k6 : v.kind = 11
  · rw [if_pos k6]; (simp only [sumS_append, sumS_cons, sumS_nil, List.length_append, List.length_cons, List.length_nil, List.length_map, hll]; constructor <;> omega)
  rw [if_neg k6]
  by_cases k7 : v.kind = 6
  · rw [if_pos k7]; (simp only [sumS_append, sumS_cons, sumS_nil, List.length_append, List.length_cons, List.length_nil, List.length_map, hll]; constructor <;> omega)
  rw [if_neg k7]
  by_cases k8 : v.kind = 7
  · rw [if_pos k8]; (simp only [sumS_append, sumS_cons, sumS_nil, List.length_append, List.length_cons, List.length_nil, List.length_map, hll]; constructor <;> omega)
  rw [if_neg k8]
  by_cases k9 : v.kind = 8
  · rw [if_pos k9]; (simp only [sumS_append, sumS_cons, sumS_nil, List.length_append, List.length_cons, List.length_nil, List.length_map, hll]; constructor <;> omega)
  rw [if_neg k9]
  by_cases k10 : v.kind = 9
  · rw [if_pos k10]; (simp only [sumS_append, sumS_cons, sumS_nil, List.length_append, List.length_cons, List.length_nil, List.length_map, hll]; constructor <;> omega)
  rw [if_neg k10]
  by_cases k11 : v.kind = 10
  · rw [if_pos k11]; (simp only [sumS_append, sumS_cons, sumS_nil, List.length_append, List.length_cons, List.length_nil, List.length_map, hll]; constructor <;> omega)
  rw [if_neg k11]
  exact ⟨by decide, by rw [sumS_nil]; exact Nat.zero_le _⟩
theorem textT_size {v : StepV} (h : OkStep v) : (textT v).size ≤ 140737488355328 := by
  have h1 := joinS_sum (textW v) spaceS
  obtain ⟨h2, h3⟩ := textW_bound h
  have e : spaceS.size = 1 := rfl
  rw [e, Nat.mul_one] at h1
  unfold textT
  omega
end Go.Proofs.YtcpdgnkhkdddhaaGreatDoor.Aw

set_option maxRecDepth 100000
set_option linter.unusedVariables false
set_option linter.unusedSimpArgs false
namespace Go.Proofs.YtcpdgnkhkdddhaaGreatDoor.Aw
open Go Go.RowKit
variable {G : Nat → Option (List AV)}

theorem Tx.more {S₀ S : St} {b bb : Nat} {l : List ByteArray} (h : Tx S₀ S b l) (hb : S bb = none) (o : Own) : Tx S₀ (S.upd bb o) b l := by
  obtain ⟨t, h⟩ := h
  have hk : ∀ x p, S x = some p → (S.upd bb o) x = some p := fun x p hx => by rw [St.upd_ne _ _ _ _ (St.ne_of hb hx)]; exact hx
  exact ⟨t, fun x p hx => hk _ _ (h.le x p hx), h.new, hk _ _ h.at_, h.tip.keep (hk _)⟩
theorem Tx.le {S₀ S : St} {b : Nat} {l : List ByteArray} (h : Tx S₀ S b l) : St.le S₀ S := by obtain ⟨t, h⟩ := h; exact h.le
theorem text_ok (hG : G10 G) (v : StepV) (h : OkStep v) (S : St) : Triple P (C G) 42 [stepAV v] S fun o S' => o = .ret (.str (textT v)) ∧ S' = S := by
  have hjoin := fun S => join_ok (G := G) (textW v) spaceS (by have := (textW_bound h).1; omega) (textT_size h) S
  have hrowt := fun S => rowText_ok hG v.pieces v.bound h.row S
  have hends := fun S => ends_ok (G := G) v h S
  have hlt := fun S => litTexts_ok hG v.lits h.lits.2 (by have := h.lits.1; omega) S
  have hop := fun o (ho : o ∈ v.ops) S => opText_ok hG o (h.ops.2 o ho).1 (by have := (h.ops.2 o ho).2; omega) S
  have m1 := h.ops.1
  have m2 := h.ids.1
  have m3 : (litsT v.lits).length ≤ 1000000 := by have := h.lits.1; simpa [litsT] using this
  clear h
  unfold textT
  unfold textW at *
  obtain ⟨kind, num, ops, pieces, bound, lits, ids, n6, s7, s8⟩ := v
  unfold stepAV at *
  dsimp only at *
  generalize rowT pieces bound = rt at *
  generalize endT _ = et at *
  generalize litsT lits = lt at *
  refine triple_of_awp (hT G) hm Tryz.func42 rfl (by decide +kernel) rfl (by decide +kernel) (by show 1 ≤ _; decide +kernel) rfl ?_
  refine awp_seq2 fun K hK hQ => ?_
  conv => whnf
  intro b1 hb1
  conv => whnf
  refine hK _ _ ?_
  clear hK hQ K
  have q1 := St.upd_same S b1 (.obj 54 [.int .i64 kind, .str num, .sl .any 3 (rowsO ops), .sl .any 2 (rowsP pieces), .str bound, .sl .any 1 (rowsI lits), .sl .any 1 (rowsS ids), .int .i64 n6, .str s7, .str s8])
  have hle := St.le_upd' (St.le_refl S) hb1 (.obj 54 [.int .i64 kind, .str num, .sl .any 3 (rowsO ops), .sl .any 2 (rowsP pieces), .str bound, .sl .any 1 (rowsI lits), .sl .any 1 (rowsS ids), .int .i64 n6, .str s7, .str s8])
  generalize S.upd b1 (.obj 54 [.int .i64 kind, .str num, .sl .any 3 (rowsO ops), .sl .any 2 (rowsP pieces), .str bound, .sl .any 1 (rowsI lits), .sl .any 1 (rowsS ids), .int .i64 n6, .str s7, .str s8]) = S1 at *
  refine awp_seq2 fun K hK hQ => ?_
  conv => whnf
  intro b3 hb3
  conv => whnf
  refine hK _ _ ?_
  clear hK hQ K
  obtain ⟨Sf, hwf, hxf⟩ := Tx.new hb3
  have hfresh : ∀ bb o, (S1.upd b3 (.obj 52 [.nils])) bb = none → Tx S1 (Sf.upd bb o) b3 [] ∧ St.leW (Sf.upd bb o) ((S1.upd b3 (.obj 52 [.nils])).upd bb o) := fun bb o hbb => ⟨hxf.more (St.leW_none hwf hbb) o, St.leW_over hwf bb o⟩
  have q13 : (S1.upd b3 (.obj 52 [.nils])) b1 = _ := St.up hb3 q1
  have qn := St.upd_same S1 b3 (.obj 52 [.nils])
  have hle3 := St.le_upd' (St.le_refl S1) hb3 (.obj 52 [.nils])
  generalize S1.upd b3 (.obj 52 [.nils]) = S2 at *
  refine awp_seq2 fun K hK hQ => ?_
  conv => whnf
  refine hK _ _ ?_
  clear hK hQ K
  refine awp_seq2 fun K hK hQ => ?_
  conv => whnf
  refine ⟨_, _, q13, ?_⟩
  conv => whnf
  refine split_of (fun hh => ?_) (fun hh => ?_)
  · have hh : kind = 1 := by simpa using hh
    rw [if_pos hh] at hjoin hK
    conv => whnf
    -- the first words: [w1S] the list, 1 how many
    intro bb hbb
    conv => whnf
    refine (Triple.weakS (say_ok (hfresh bb (.tip 9 1 1) hbb).1 ([w1S]) (by simp) _) (hfresh bb (.tip 9 1 1) hbb).2).mono ?_
    rintro o S' ⟨rfl, hx⟩
    rw [List.nil_append] at hx
    have q := hx.le _ _ q1
    conv => whnf
    refine hK _ _ ?_
    clear hK hQ K
    obtain ⟨t, hx⟩ := hx
    conv => whnf
    refine ⟨_, _, hx.at_, ?_⟩
    conv => whnf
    refine Triple.use (hjoin _) (by exact ⟨⟨rfl, rfl⟩, rfl, trivial⟩) ?_
    rintro o T ⟨rfl, rfl⟩
    conv => whnf
    exact ⟨_, _, ⟨rfl, rfl⟩, St.le_trans hle hx.le, AV.leS_refl _ _ _⟩
  have n1 : ¬ kind = 1 := by simpa using hh
  rw [if_neg n1] at hjoin hK
  conv => whnf
  refine split_of (fun hh => ?_) (fun hh => ?_)
  · have hh : kind = 2 := by simpa using hh
    rw [if_pos hh] at hjoin hK
    conv => whnf
    refine ⟨_, _, q13, ?_⟩
    conv => whnf
    -- the first words: [kF, num] the list, 2 how many
    intro bb hbb
    conv => whnf
    refine (Triple.weakS (say_ok (hfresh bb (.tip 9 1 2) hbb).1 ([kF, num]) (by simp) _) (hfresh bb (.tip 9 1 2) hbb).2).mono ?_
    rintro o S' ⟨rfl, hx⟩
    rw [List.nil_append] at hx
    have q := hx.le _ _ q1
    conv => whnf
    refine hK _ _ ?_
    clear hK hQ K
    obtain ⟨t, hx⟩ := hx
    conv => whnf
    refine ⟨_, _, hx.at_, ?_⟩
    conv => whnf
    refine Triple.use (hjoin _) (by exact ⟨⟨rfl, rfl⟩, rfl, trivial⟩) ?_
    rintro o T ⟨rfl, rfl⟩
    conv => whnf
    exact ⟨_, _, ⟨rfl, rfl⟩, St.le_trans hle hx.le, AV.leS_refl _ _ _⟩
  have n2 : ¬ kind = 2 := by simpa using hh
  rw [if_neg n2] at hjoin hK
  conv => whnf
  refine split_of (fun hh => ?_) (fun hh => ?_)
  · have hh : kind = 3 := by simpa using hh
    rw [if_pos hh] at hjoin hK
    conv => whnf
    -- the first words: [kPol] the list, 1 how many
    intro bb hbb
    conv => whnf
    refine (Triple.weakS (say_ok (hfresh bb (.tip 9 1 1) hbb).1 ([kPol]) (by simp) _) (hfresh bb (.tip 9 1 1) hbb).2).mono ?_
    rintro o S' ⟨rfl, hx⟩
    rw [List.nil_append] at hx
    have q := hx.le _ _ q1
    conv => whnf
    refine ⟨_, _, q, ?_⟩
    conv => whnf
    intro _
    conv => whnf
    refine ⟨⟨Nat, fun i => [(1, .ref b1 0), (3, .ref b3 0), (4, .fn (.func 88) [] [.ref b3 0]), (28, .sl .any 3 (rowsO ops)), (29, .int .i64 (ops.length : Int)), (30, .int .i64 (i : Int))],
      fun i T => Tx S1 T b3 ([kPol] ++ (ops.take i).map opT) ∧ i ≤ ops.length, fun i => ops.length - i⟩,
      ⟨0, ⟨rfl, rfl, rfl, ⟨rfl, rfl⟩, congrArg (AV.int .i64) (by rw [rowsO_len]), rfl, trivial⟩, _, St.leW_refl _, hx, by omega⟩, ?_⟩
    clear hx q
    rintro (i : Nat) T ⟨hx, hi⟩
    conv => whnf
    refine split_of (fun hlt => ?_) (fun hlt => ?_)
    · have hlt : i < ops.length := by have := of_decide_eq_true hlt; omega
      have hsn : (ops.take (i + 1)).map opT = (ops.take i).map opT ++ [opT ops[i]] := by
        have ht : ops.take (i + 1) = ops.take i ++ [ops[i]] := by simp [List.take_append_getElem]
        rw [ht, List.map_append]; rfl
      have hll : ((ops.take i).map opT).length = i := by simp; omega
      have hgr : (rowsO ops)[(i : Int).toNat]? = some [.int .i64 ops[i].1, .str ops[i].2.1, .int .i64 ops[i].2.2] := by simp [rowsO, hlt]
      have hopi := hop ops[i] (List.getElem_mem hlt)
      generalize ops[i] = op at *
      clear hK hQ
      conv => whnf
      refine ⟨_, ⟨by omega, hgr⟩, ?_⟩
      conv => whnf
      intro b6 hb6
      conv => whnf
      refine ⟨_, _, St.upd_same _ _ _, ?_⟩
      conv => whnf
      rw [St.upd_upd]
      refine ⟨_, _, St.upd_same _ _ _, ?_⟩
      conv => whnf
      refine (hopi _).mono ?_
      rintro o S3 ⟨rfl, rfl⟩
      conv => whnf
      intro bb2 hbb2
      conv => whnf
      refine (say_ok ((hx.more hb6 _).more hbb2 (.tip 9 1 1)) [opT op] (by simp at hll ⊢; omega) _).mono ?_
      rintro o S' ⟨rfl, hx2⟩
      have w1 : IntKind.i64.wrap ((i : Int) + 1) = ((i + 1 : Nat) : Int) := wrap_nat (by omega)
      conv => whnf
      refine ⟨i + 1, ⟨rfl, rfl, rfl, ⟨rfl, rfl⟩, rfl, congrArg _ w1, trivial⟩, ⟨_, St.leW_refl _, by rw [hsn, ← List.append_assoc]; exact hx2, by omega⟩, by show ops.length - (i + 1) < ops.length - i; omega⟩
    · have hlt : i = ops.length := by have := of_decide_eq_false hlt; omega
      subst hlt
      rw [List.take_length] at hx
      conv => whnf
      refine hK _ _ ?_
      clear hK hQ K
      obtain ⟨t, hx⟩ := hx
      conv => whnf
      refine ⟨_, _, hx.at_, ?_⟩
      conv => whnf
      refine Triple.use (hjoin _) (by exact ⟨⟨rfl, rfl⟩, rfl, trivial⟩) ?_
      rintro o T ⟨rfl, rfl⟩
      conv => whnf
      exact ⟨_, _, ⟨rfl, rfl⟩, St.le_trans hle hx.le, AV.leS_refl _ _ _⟩
  have n3 : ¬ kind = 3 := by simpa using hh
  rw [if_neg n3] at hjoin hK
  conv => whnf
  refine split_of (fun hh => ?_) (fun hh => ?_)
  · have hh : kind = 4 := by simpa using hh
    rw [if_pos hh] at hjoin hK
    conv => whnf
    refine ⟨_, _, q13, ?_⟩
    conv => whnf
    refine (hrowt _).mono ?_
    rintro o S3 ⟨rfl, rfl⟩
    conv => whnf
    -- the first words: [kRup, rt] the list, 2 how many
    intro bb hbb
    conv => whnf
    refine (Triple.weakS (say_ok (hfresh bb (.tip 9 1 2) hbb).1 ([kRup, rt]) (by simp) _) (hfresh bb (.tip 9 1 2) hbb).2).mono ?_
    rintro o S' ⟨rfl, hx⟩
    rw [List.nil_append] at hx
    have q := hx.le _ _ q1
    conv => whnf
    refine ⟨_, _, q, ?_⟩
    conv => whnf
    refine (say_ok hx ids (by simp; omega) _).mono ?_
    rintro o S' ⟨rfl, hx⟩
    have q := hx.le _ _ q1
    conv => whnf
    refine hK _ _ ?_
    clear hK hQ K
    obtain ⟨t, hx⟩ := hx
    conv => whnf
    refine ⟨_, _, hx.at_, ?_⟩
    conv => whnf
    refine Triple.use (hjoin _) (by exact ⟨⟨rfl, rfl⟩, rfl, trivial⟩) ?_
    rintro o T ⟨rfl, rfl⟩
    conv => whnf
    exact ⟨_, _, ⟨rfl, rfl⟩, St.le_trans hle hx.le, AV.leS_refl _ _ _⟩
  have n4 : ¬ kind = 4 := by simpa using hh
  rw [if_neg n4] at hjoin hK
  conv => whnf
  refine split_of (fun hh => ?_) (fun hh => ?_)
  · have hh : kind = 12 := by simpa using hh
    rw [if_pos hh] at hjoin hK
    conv => whnf
    -- the first words: [kE] the list, 1 how many
    intro bb hbb
    conv => whnf
    refine (Triple.weakS (say_ok (hfresh bb (.tip 9 1 1) hbb).1 ([kE]) (by simp) _) (hfresh bb (.tip 9 1 1) hbb).2).mono ?_
    rintro o S' ⟨rfl, hx⟩
    rw [List.nil_append] at hx
    have q := hx.le _ _ q1
    conv => whnf
    refine ⟨_, _, q, ?_⟩
    conv => whnf
    refine (say_ok hx ids (by simp; omega) _).mono ?_
    rintro o S' ⟨rfl, hx⟩
    have q := hx.le _ _ q1
    conv => whnf
    refine ⟨_, _, q, ?_⟩
    conv => whnf
    refine (hrowt _).mono ?_
    rintro o S3 ⟨rfl, rfl⟩
    conv => whnf
    intro bb2 hbb2
    conv => whnf
    refine (say_ok (hx.more hbb2 (.tip 9 1 1)) [rt] (by simp; omega) _).mono ?_
    rintro o S' ⟨rfl, hx⟩
    conv => whnf
    refine hK _ _ ?_
    clear hK hQ K
    obtain ⟨t, hx⟩ := hx
    conv => whnf
    refine ⟨_, _, hx.at_, ?_⟩
    conv => whnf
    refine Triple.use (hjoin _) (by exact ⟨⟨rfl, rfl⟩, rfl, trivial⟩) ?_
    rintro o T ⟨rfl, rfl⟩
    conv => whnf
    exact ⟨_, _, ⟨rfl, rfl⟩, St.le_trans hle hx.le, AV.leS_refl _ _ _⟩
  have n12 : ¬ kind = 12 := by simpa using hh
  rw [if_neg n12] at hjoin hK
  conv => whnf
  refine split_of (fun hh => ?_) (fun hh => ?_)
  · have hh : kind = 5 := by simpa using hh
    rw [if_pos hh] at hjoin hK
    conv => whnf
    -- the first words: [kSoli] the list, 1 how many
    intro bb hbb
    conv => whnf
    refine (Triple.weakS (say_ok (hfresh bb (.tip 9 1 1) hbb).1 ([kSoli]) (by simp) _) (hfresh bb (.tip 9 1 1) hbb).2).mono ?_
    rintro o S' ⟨rfl, hx⟩
    rw [List.nil_append] at hx
    have q := hx.le _ _ q1
    conv => whnf
    refine ⟨_, _, q, ?_⟩
    conv => whnf
    refine (hlt _).mono ?_
    rintro o S3 ⟨rfl, rfl⟩
    conv => whnf
    refine (say_ok hx lt (by simp; omega) _).mono ?_
    rintro o S' ⟨rfl, hx⟩
    conv => whnf
    refine hK _ _ ?_
    clear hK hQ K
    obtain ⟨t, hx⟩ := hx
    conv => whnf
    refine ⟨_, _, hx.at_, ?_⟩
    conv => whnf
    refine Triple.use (hjoin _) (by exact ⟨⟨rfl, rfl⟩, rfl, trivial⟩) ?_
    rintro o T ⟨rfl, rfl⟩
    conv => whnf
    exact ⟨_, _, ⟨rfl, rfl⟩, St.le_trans hle hx.le, AV.leS_refl _ _ _⟩
  have n5 : ¬ kind = 5 := by simpa using hh
  rw [if_neg n5] at hjoin hK
  conv => whnf
  refine split_of (fun hh => ?_) (fun hh => ?_)
  · have hh : kind = 11 := by simpa using hh
    rw [if_pos hh] at hjoin hK
    conv => whnf
    -- the first words: [kSolx] the list, 1 how many
    intro bb hbb
    conv => whnf
    refine (Triple.weakS (say_ok (hfresh bb (.tip 9 1 1) hbb).1 ([kSolx]) (by simp) _) (hfresh bb (.tip 9 1 1) hbb).2).mono ?_
    rintro o S' ⟨rfl, hx⟩
    rw [List.nil_append] at hx
    have q := hx.le _ _ q1
    conv => whnf
    refine ⟨_, _, q, ?_⟩
    conv => whnf
    refine (hlt _).mono ?_
    rintro o S3 ⟨rfl, rfl⟩
    conv => whnf
    refine (say_ok hx lt (by simp; omega) _).mono ?_
    rintro o S' ⟨rfl, hx⟩
    conv => whnf
    refine hK _ _ ?_
    clear hK hQ K
    obtain ⟨t, hx⟩ := hx
    conv => whnf
    refine ⟨_, _, hx.at_, ?_⟩
    conv => whnf
    refine Triple.use (hjoin _) (by exact ⟨⟨rfl, rfl⟩, rfl, trivial⟩) ?_
    rintro o T ⟨rfl, rfl⟩
    conv => whnf
    exact ⟨_, _, ⟨rfl, rfl⟩, St.le_trans hle hx.le, AV.leS_refl _ _ _⟩
  have n11 : ¬ kind = 11 := by simpa using hh
  rw [if_neg n11] at hjoin hK
  conv => whnf
  refine split_of (fun hh => ?_) (fun hh => ?_)
  · have hh : kind = 6 := by simpa using hh
    rw [if_pos hh] at hjoin hK
    conv => whnf
    -- the first words: [kDel, ⟨#[105, 100]⟩] the list, 2 how many
    intro bb hbb
    conv => whnf
    refine (Triple.weakS (say_ok (hfresh bb (.tip 9 1 2) hbb).1 ([kDel, ⟨#[105, 100]⟩]) (by simp) _) (hfresh bb (.tip 9 1 2) hbb).2).mono ?_
    rintro o S' ⟨rfl, hx⟩
    rw [List.nil_append] at hx
    have q := hx.le _ _ q1
    conv => whnf
    refine ⟨_, _, q, ?_⟩
    conv => whnf
    refine (say_ok hx ids (by simp; omega) _).mono ?_
    rintro o S' ⟨rfl, hx⟩
    have q := hx.le _ _ q1
    conv => whnf
    refine hK _ _ ?_
    clear hK hQ K
    obtain ⟨t, hx⟩ := hx
    conv => whnf
    refine ⟨_, _, hx.at_, ?_⟩
    conv => whnf
    refine Triple.use (hjoin _) (by exact ⟨⟨rfl, rfl⟩, rfl, trivial⟩) ?_
    rintro o T ⟨rfl, rfl⟩
    conv => whnf
    exact ⟨_, _, ⟨rfl, rfl⟩, St.le_trans hle hx.le, AV.leS_refl _ _ _⟩
  have n6 : ¬ kind = 6 := by simpa using hh
  rw [if_neg n6] at hjoin hK
  conv => whnf
  refine split_of (fun hh => ?_) (fun hh => ?_)
  · have hh : kind = 7 := by simpa using hh
    rw [if_pos hh] at hjoin hK
    conv => whnf
    -- the first words: [kStar] the list, 1 how many
    intro bb hbb
    conv => whnf
    refine (Triple.weakS (say_ok (hfresh bb (.tip 9 1 1) hbb).1 ([kStar]) (by simp) _) (hfresh bb (.tip 9 1 1) hbb).2).mono ?_
    rintro o S' ⟨rfl, hx⟩
    rw [List.nil_append] at hx
    have q := hx.le _ _ q1
    conv => whnf
    refine hK _ _ ?_
    clear hK hQ K
    obtain ⟨t, hx⟩ := hx
    conv => whnf
    refine ⟨_, _, hx.at_, ?_⟩
    conv => whnf
    refine Triple.use (hjoin _) (by exact ⟨⟨rfl, rfl⟩, rfl, trivial⟩) ?_
    rintro o T ⟨rfl, rfl⟩
    conv => whnf
    exact ⟨_, _, ⟨rfl, rfl⟩, St.le_trans hle hx.le, AV.leS_refl _ _ _⟩
  have n7 : ¬ kind = 7 := by simpa using hh
  rw [if_neg n7] at hjoin hK
  conv => whnf
  refine split_of (fun hh => ?_) (fun hh => ?_)
  · have hh : kind = 8 := by simpa using hh
    rw [if_pos hh] at hjoin hK
    conv => whnf
    -- the first words: [w8S] the list, 1 how many
    intro bb hbb
    conv => whnf
    refine (Triple.weakS (say_ok (hfresh bb (.tip 9 1 1) hbb).1 ([w8S]) (by simp) _) (hfresh bb (.tip 9 1 1) hbb).2).mono ?_
    rintro o S' ⟨rfl, hx⟩
    rw [List.nil_append] at hx
    have q := hx.le _ _ q1
    conv => whnf
    refine hK _ _ ?_
    clear hK hQ K
    obtain ⟨t, hx⟩ := hx
    conv => whnf
    refine ⟨_, _, hx.at_, ?_⟩
    conv => whnf
    refine Triple.use (hjoin _) (by exact ⟨⟨rfl, rfl⟩, rfl, trivial⟩) ?_
    rintro o T ⟨rfl, rfl⟩
    conv => whnf
    exact ⟨_, _, ⟨rfl, rfl⟩, St.le_trans hle hx.le, AV.leS_refl _ _ _⟩
  have n8 : ¬ kind = 8 := by simpa using hh
  rw [if_neg n8] at hjoin hK
  conv => whnf
  refine split_of (fun hh => ?_) (fun hh => ?_)
  · have hh : kind = 9 := by simpa using hh
    rw [if_pos hh] at hjoin hK
    conv => whnf
    refine ⟨_, _, q13, ?_⟩
    conv => whnf
    refine (hends _).mono ?_
    rintro o S3 ⟨rfl, rfl⟩
    conv => whnf
    -- the first words: [kConc, et] the list, 2 how many
    intro bb hbb
    conv => whnf
    refine (Triple.weakS (say_ok (hfresh bb (.tip 9 1 2) hbb).1 ([kConc, et]) (by simp) _) (hfresh bb (.tip 9 1 2) hbb).2).mono ?_
    rintro o S' ⟨rfl, hx⟩
    rw [List.nil_append] at hx
    have q := hx.le _ _ q1
    conv => whnf
    refine hK _ _ ?_
    clear hK hQ K
    obtain ⟨t, hx⟩ := hx
    conv => whnf
    refine ⟨_, _, hx.at_, ?_⟩
    conv => whnf
    refine Triple.use (hjoin _) (by exact ⟨⟨rfl, rfl⟩, rfl, trivial⟩) ?_
    rintro o T ⟨rfl, rfl⟩
    conv => whnf
    exact ⟨_, _, ⟨rfl, rfl⟩, St.le_trans hle hx.le, AV.leS_refl _ _ _⟩
  have n9 : ¬ kind = 9 := by simpa using hh
  rw [if_neg n9] at hjoin hK
  conv => whnf
  refine split_of (fun hh => ?_) (fun hh => ?_)
  · have hh : kind = 10 := by simpa using hh
    rw [if_pos hh] at hjoin hK
    conv => whnf
    -- the first words: [w10S] the list, 1 how many
    intro bb hbb
    conv => whnf
    refine (Triple.weakS (say_ok (hfresh bb (.tip 9 1 1) hbb).1 ([w10S]) (by simp) _) (hfresh bb (.tip 9 1 1) hbb).2).mono ?_
    rintro o S' ⟨rfl, hx⟩
    rw [List.nil_append] at hx
    have q := hx.le _ _ q1
    conv => whnf
    refine hK _ _ ?_
    clear hK hQ K
    obtain ⟨t, hx⟩ := hx
    conv => whnf
    refine ⟨_, _, hx.at_, ?_⟩
    conv => whnf
    refine Triple.use (hjoin _) (by exact ⟨⟨rfl, rfl⟩, rfl, trivial⟩) ?_
    rintro o T ⟨rfl, rfl⟩
    conv => whnf
    exact ⟨_, _, ⟨rfl, rfl⟩, St.le_trans hle hx.le, AV.leS_refl _ _ _⟩
  have n10 : ¬ kind = 10 := by simpa using hh
  rw [if_neg n10] at hjoin hK
  conv => whnf
  refine hK _ _ ?_
  clear hK hQ K
  conv => whnf
  refine ⟨_, _, qn, ?_⟩
  conv => whnf
  refine Triple.use (hjoin _) (by exact ⟨rfl, rfl, trivial⟩) ?_
  rintro o T ⟨rfl, rfl⟩
  conv => whnf
  exact ⟨_, _, ⟨rfl, rfl⟩, St.le_trans hle hle3, AV.leS_refl _ _ _⟩
end Go.Proofs.YtcpdgnkhkdddhaaGreatDoor.Aw

set_option maxRecDepth 100000
set_option linter.unusedVariables false
set_option linter.unusedSimpArgs false
namespace Go.Proofs.YtcpdgnkhkdddhaaGreatDoor.Aw
open Go Go.RowKit
variable {G : Nat → Option (List AV)}

theorem take_ext {α : Type} {a b : List α} {i : Nat} (ha : i < a.length) (hb : i < b.length) (h : a.take i = b.take i) (he : a[i] = b[i]) : a.take (i + 1) = b.take (i + 1) := by
  have h1 : a.take (i + 1) = a.take i ++ [a[i]] := by simp [List.take_append_getElem]
  have h2 : b.take (i + 1) = b.take i ++ [b[i]] := by simp [List.take_append_getElem]
  rw [h1, h2, h, he]
theorem equalS_ok (a b : List ByteArray) (hlen : a.length ≤ 1000000000) (S : St) : Triple P (C G) 100 [.sl .any 1 (rowsS a), .sl .any 1 (rowsS b)] S fun o S' => o = .ret (.bool (decide (a = b))) ∧ S' = S := by
  -- slices.Equal[[]string,string] function, rowsS rows, [.str a[i]] the row of x, [.str b[i]] the row of y, 1 cells of an element
  refine triple_of_awp (hT G) hm Tryz.func100 rfl (by decide +kernel) rfl (by decide +kernel) (by show 2 ≤ _; decide +kernel) rfl ?_
  refine awp_seq2 fun K hK hQ => ?_
  conv => whnf
  refine hK _ _ ?_
  clear hK hQ K
  refine awp_seq2 fun K hK hQ => ?_
  conv => whnf
  intro _
  conv => whnf
  intro _
  conv => whnf
  refine split_of (fun hne => ?_) (fun hne => ?_)
  · have hne : a.length ≠ b.length := by
      intro hh; rw [rowsS_len, rowsS_len, hh] at hne; simp at hne
    rw [decide_eq_false (fun e => hne (congrArg List.length e))] at hQ
    clear hK
    conv => whnf
    refine hQ _ _ _ (by simp) ?_
    conv => whnf
    exact ⟨_, _, ⟨rfl, rfl⟩, St.le_refl _, AV.leS_refl _ _ _⟩
  have hne : a.length = b.length := by
    by_cases hh : a.length = b.length
    · exact hh
    · exfalso; rw [rowsS_len, rowsS_len] at hne; simp at hne; omega
  conv => whnf
  refine hK _ _ ?_
  clear hK hQ K
  refine awp_seq2 fun K hK hQ => ?_
  conv => whnf
  intro _
  conv => whnf
  refine ⟨⟨Nat, fun i => [(0, .sl .any 1 (rowsS a)), (1, .sl .any 1 (rowsS b)), (12, .int .i64 (a.length : Int)), (13, .int .i64 (i : Int))], fun i S' => S' = S ∧ i ≤ a.length ∧ a.take i = b.take i, fun i => a.length - i⟩,
    ⟨0, ⟨⟨rfl, rfl⟩, ⟨rfl, rfl⟩, congrArg (AV.int .i64) (by rw [rowsS_len]), rfl, trivial⟩, _, St.leW_refl _, rfl, by omega, rfl⟩, ?_⟩
  rintro (i : Nat) S' ⟨rfl, hi, he⟩
  conv => whnf
  refine split_of (fun hlt => ?_) (fun hlt => ?_)
  · have hlt : i < a.length := by have := of_decide_eq_true hlt; omega
    have hltb : i < b.length := by omega
    have ga : (rowsS a)[(i : Int).toNat]? = some [.str a[i]] := by simp [rowsS, hlt]
    have gb : (rowsS b)[(i : Int).toNat]? = some [.str b[i]] := by simp [rowsS, hltb]
    conv => whnf
    refine ⟨[], (.free 0 (.free 1 (.free 2 (.free 3 (.free 4 (.free 5 (.free 6 (.free 7 (.free 8 .done))))))))), _, by decide +kernel, ?_, fun _ _ h => ⟨_, .inl rfl, h⟩⟩
    conv => whnf
    refine ⟨_, ⟨by omega, ga⟩, ?_⟩
    conv => whnf
    refine ⟨_, ⟨by omega, gb⟩, ?_⟩
    conv => whnf
    refine split_of (fun hx => ?_) (fun hx => ?_)
    · have hx : a[i] ≠ b[i] := by intro e; rw [e] at hx; simp at hx
      rw [decide_eq_false (fun e => hx (by subst e; rfl))] at hQ
      clear hK
      conv => whnf
      refine hQ _ _ _ (by simp) ?_
      conv => whnf
      exact ⟨_, _, ⟨rfl, rfl⟩, St.le_refl _, AV.leS_refl _ _ _⟩
    · have hx : a[i] = b[i] := by simpa using hx
      clear hK hQ
      have w1 : IntKind.i64.wrap ((i : Int) + 1) = ((i + 1 : Nat) : Int) := wrap_nat (by have := hlen; omega)
      conv => whnf
      exact ⟨i + 1, ⟨⟨rfl, rfl⟩, ⟨rfl, rfl⟩, rfl, congrArg _ w1, trivial⟩, ⟨_, St.leW_refl _, rfl, by omega, take_ext hlt hltb he hx⟩, by show a.length - (i + 1) < a.length - i; omega⟩
  · have hlt : i = a.length := by have := of_decide_eq_false hlt; omega
    subst hlt
    have hab : a = b := by rw [List.take_length, List.take_of_length_le (by omega)] at he; exact he
    rw [decide_eq_true hab] at hK
    conv => whnf
    refine hK _ _ ?_
    clear hK hQ K
    conv => whnf
    exact ⟨_, _, ⟨rfl, rfl⟩, St.le_refl _, AV.leS_refl _ _ _⟩
theorem equalI_ok (a b : List Int) (hlen : a.length ≤ 1000000000) (S : St) : Triple P (C G) 99 [.sl .any 1 (rowsI a), .sl .any 1 (rowsI b)] S fun o S' => o = .ret (.bool (decide (a = b))) ∧ S' = S := by
  -- slices.Equal[[]int,int] function, rowsI rows, [.int .i64 a[i]] the row of x, [.int .i64 b[i]] the row of y, 1 cells of an element
  refine triple_of_awp (hT G) hm Tryz.func99 rfl (by decide +kernel) rfl (by decide +kernel) (by show 2 ≤ _; decide +kernel) rfl ?_
  refine awp_seq2 fun K hK hQ => ?_
  conv => whnf
  refine hK _ _ ?_
  clear hK hQ K
  refine awp_seq2 fun K hK hQ => ?_
  conv => whnf
  intro _
  conv => whnf
  intro _
  conv => whnf
  refine split_of (fun hne => ?_) (fun hne => ?_)
  · have hne : a.length ≠ b.length := by
      intro hh; rw [rowsI_len, rowsI_len, hh] at hne; simp at hne
    rw [decide_eq_false (fun e => hne (congrArg List.length e))] at hQ
    clear hK
    conv => whnf
    refine hQ _ _ _ (by simp) ?_
    conv => whnf
    exact ⟨_, _, ⟨rfl, rfl⟩, St.le_refl _, AV.leS_refl _ _ _⟩
  have hne : a.length = b.length := by
    by_cases hh : a.length = b.length
    · exact hh
    · exfalso; rw [rowsI_len, rowsI_len] at hne; simp at hne; omega
  conv => whnf
  refine hK _ _ ?_
  clear hK hQ K
  refine awp_seq2 fun K hK hQ => ?_
  conv => whnf
  intro _
  conv => whnf
  refine ⟨⟨Nat, fun i => [(0, .sl .any 1 (rowsI a)), (1, .sl .any 1 (rowsI b)), (12, .int .i64 (a.length : Int)), (13, .int .i64 (i : Int))], fun i S' => S' = S ∧ i ≤ a.length ∧ a.take i = b.take i, fun i => a.length - i⟩,
    ⟨0, ⟨⟨rfl, rfl⟩, ⟨rfl, rfl⟩, congrArg (AV.int .i64) (by rw [rowsI_len]), rfl, trivial⟩, _, St.leW_refl _, rfl, by omega, rfl⟩, ?_⟩
  rintro (i : Nat) S' ⟨rfl, hi, he⟩
  conv => whnf
  refine split_of (fun hlt => ?_) (fun hlt => ?_)
  · have hlt : i < a.length := by have := of_decide_eq_true hlt; omega
    have hltb : i < b.length := by omega
    have ga : (rowsI a)[(i : Int).toNat]? = some [.int .i64 a[i]] := by simp [rowsI, hlt]
    have gb : (rowsI b)[(i : Int).toNat]? = some [.int .i64 b[i]] := by simp [rowsI, hltb]
    conv => whnf
    refine ⟨[], (.free 0 (.free 1 (.free 2 (.free 3 (.free 4 (.free 5 (.free 6 (.free 7 (.free 8 .done))))))))), _, by decide +kernel, ?_, fun _ _ h => ⟨_, .inl rfl, h⟩⟩
    conv => whnf
    refine ⟨_, ⟨by omega, ga⟩, ?_⟩
    conv => whnf
    refine ⟨_, ⟨by omega, gb⟩, ?_⟩
    conv => whnf
    refine split_of (fun hx => ?_) (fun hx => ?_)
    · have hx : a[i] ≠ b[i] := by intro e; rw [e] at hx; simp at hx
      rw [decide_eq_false (fun e => hx (by subst e; rfl))] at hQ
      clear hK
      conv => whnf
      refine hQ _ _ _ (by simp) ?_
      conv => whnf
      exact ⟨_, _, ⟨rfl, rfl⟩, St.le_refl _, AV.leS_refl _ _ _⟩
    · have hx : a[i] = b[i] := by simpa using hx
      clear hK hQ
      have w1 : IntKind.i64.wrap ((i : Int) + 1) = ((i + 1 : Nat) : Int) := wrap_nat (by have := hlen; omega)
      conv => whnf
      exact ⟨i + 1, ⟨⟨rfl, rfl⟩, ⟨rfl, rfl⟩, rfl, congrArg _ w1, trivial⟩, ⟨_, St.leW_refl _, rfl, by omega, take_ext hlt hltb he hx⟩, by show a.length - (i + 1) < a.length - i; omega⟩
  · have hlt : i = a.length := by have := of_decide_eq_false hlt; omega
    subst hlt
    have hab : a = b := by rw [List.take_length, List.take_of_length_le (by omega)] at he; exact he
    rw [decide_eq_true hab] at hK
    conv => whnf
    refine hK _ _ ?_
    clear hK hQ K
    conv => whnf
    exact ⟨_, _, ⟨rfl, rfl⟩, St.le_refl _, AV.leS_refl _ _ _⟩
theorem equalP_ok (a b : List (ByteArray × Int)) (hlen : a.length ≤ 1000000000) (S : St) : Triple P (C G) 98 [.sl .any 2 (rowsP a), .sl .any 2 (rowsP b)] S fun o S' => o = .ret (.bool (decide (a = b))) ∧ S' = S := by
  -- slices.Equal[[]hallmark/api.Piece,hallmark/api.Piece] function, rowsP rows, [.str a[i].1, .int .i64 a[i].2] the row of x, [.str b[i].1, .int .i64 b[i].2] the row of y, 2 cells of an element
  refine triple_of_awp (hT G) hm Tryz.func98 rfl (by decide +kernel) rfl (by decide +kernel) (by show 2 ≤ _; decide +kernel) rfl ?_
  refine awp_seq2 fun K hK hQ => ?_
  conv => whnf
  refine hK _ _ ?_
  clear hK hQ K
  refine awp_seq2 fun K hK hQ => ?_
  conv => whnf
  intro _
  conv => whnf
  intro _
  conv => whnf
  refine split_of (fun hne => ?_) (fun hne => ?_)
  · have hne : a.length ≠ b.length := by
      intro hh; rw [rowsP_len, rowsP_len, hh] at hne; simp at hne
    rw [decide_eq_false (fun e => hne (congrArg List.length e))] at hQ
    clear hK
    conv => whnf
    refine hQ _ _ _ (by simp) ?_
    conv => whnf
    exact ⟨_, _, ⟨rfl, rfl⟩, St.le_refl _, AV.leS_refl _ _ _⟩
  have hne : a.length = b.length := by
    by_cases hh : a.length = b.length
    · exact hh
    · exfalso; rw [rowsP_len, rowsP_len] at hne; simp at hne; omega
  conv => whnf
  refine hK _ _ ?_
  clear hK hQ K
  refine awp_seq2 fun K hK hQ => ?_
  conv => whnf
  intro _
  conv => whnf
  refine ⟨⟨Nat, fun i => [(0, .sl .any 2 (rowsP a)), (1, .sl .any 2 (rowsP b)), (12, .int .i64 (a.length : Int)), (13, .int .i64 (i : Int))], fun i S' => S' = S ∧ i ≤ a.length ∧ a.take i = b.take i, fun i => a.length - i⟩,
    ⟨0, ⟨⟨rfl, rfl⟩, ⟨rfl, rfl⟩, congrArg (AV.int .i64) (by rw [rowsP_len]), rfl, trivial⟩, _, St.leW_refl _, rfl, by omega, rfl⟩, ?_⟩
  rintro (i : Nat) S' ⟨rfl, hi, he⟩
  conv => whnf
  refine split_of (fun hlt => ?_) (fun hlt => ?_)
  · have hlt : i < a.length := by have := of_decide_eq_true hlt; omega
    have hltb : i < b.length := by omega
    have ga : (rowsP a)[(i : Int).toNat]? = some [.str a[i].1, .int .i64 a[i].2] := by simp [rowsP, hlt]
    have gb : (rowsP b)[(i : Int).toNat]? = some [.str b[i].1, .int .i64 b[i].2] := by simp [rowsP, hltb]
    conv => whnf
    refine ⟨[], (.free 0 (.free 1 (.free 2 (.free 3 (.free 4 (.free 5 (.free 6 (.free 7 (.free 8 .done))))))))), _, by decide +kernel, ?_, fun _ _ h => ⟨_, .inl rfl, h⟩⟩
    conv => whnf
    refine ⟨_, ⟨by omega, ga⟩, ?_⟩
    conv => whnf
    refine ⟨_, ⟨by omega, gb⟩, ?_⟩
    conv => whnf
    refine split_of (fun hx => ?_) (fun hx => ?_)
    · have hx : a[i] ≠ b[i] := by intro e; rw [e] at hx; simp at hx
      rw [decide_eq_false (fun e => hx (by subst e; rfl))] at hQ
      clear hK
      conv => whnf
      refine hQ _ _ _ (by simp) ?_
      conv => whnf
      exact ⟨_, _, ⟨rfl, rfl⟩, St.le_refl _, AV.leS_refl _ _ _⟩
    · have hx : a[i] = b[i] := by simp at hx; exact Prod.ext hx.1 hx.2
      clear hK hQ
      have w1 : IntKind.i64.wrap ((i : Int) + 1) = ((i + 1 : Nat) : Int) := wrap_nat (by have := hlen; omega)
      conv => whnf
      exact ⟨i + 1, ⟨⟨rfl, rfl⟩, ⟨rfl, rfl⟩, rfl, congrArg _ w1, trivial⟩, ⟨_, St.leW_refl _, rfl, by omega, take_ext hlt hltb he hx⟩, by show a.length - (i + 1) < a.length - i; omega⟩
  · have hlt : i = a.length := by have := of_decide_eq_false hlt; omega
    subst hlt
    have hab : a = b := by rw [List.take_length, List.take_of_length_le (by omega)] at he; exact he
    rw [decide_eq_true hab] at hK
    conv => whnf
    refine hK _ _ ?_
    clear hK hQ K
    conv => whnf
    exact ⟨_, _, ⟨rfl, rfl⟩, St.le_refl _, AV.leS_refl _ _ _⟩
theorem equalO_ok (a b : List OpV) (hlen : a.length ≤ 1000000000) (S : St) : Triple P (C G) 97 [.sl .any 3 (rowsO a), .sl .any 3 (rowsO b)] S fun o S' => o = .ret (.bool (decide (a = b))) ∧ S' = S := by
  -- slices.Equal[[]hallmark/api.Op,hallmark/api.Op] function, rowsO rows, [.int .i64 a[i].1, .str a[i].2.1, .int .i64 a[i].2.2] the row of x, [.int .i64 b[i].1, .str b[i].2.1, .int .i64 b[i].2.2] the row of y, 3 cells of an element
  refine triple_of_awp (hT G) hm Tryz.func97 rfl (by decide +kernel) rfl (by decide +kernel) (by show 2 ≤ _; decide +kernel) rfl ?_
  refine awp_seq2 fun K hK hQ => ?_
  conv => whnf
  refine hK _ _ ?_
  clear hK hQ K
  refine awp_seq2 fun K hK hQ => ?_
  conv => whnf
  intro _
  conv => whnf
  intro _
  conv => whnf
  refine split_of (fun hne => ?_) (fun hne => ?_)
  · have hne : a.length ≠ b.length := by
      intro hh; rw [rowsO_len, rowsO_len, hh] at hne; simp at hne
    rw [decide_eq_false (fun e => hne (congrArg List.length e))] at hQ
    clear hK
    conv => whnf
    refine hQ _ _ _ (by simp) ?_
    conv => whnf
    exact ⟨_, _, ⟨rfl, rfl⟩, St.le_refl _, AV.leS_refl _ _ _⟩
  have hne : a.length = b.length := by
    by_cases hh : a.length = b.length
    · exact hh
    · exfalso; rw [rowsO_len, rowsO_len] at hne; simp at hne; omega
  conv => whnf
  refine hK _ _ ?_
  clear hK hQ K
  refine awp_seq2 fun K hK hQ => ?_
  conv => whnf
  intro _
  conv => whnf
  refine ⟨⟨Nat, fun i => [(0, .sl .any 3 (rowsO a)), (1, .sl .any 3 (rowsO b)), (12, .int .i64 (a.length : Int)), (13, .int .i64 (i : Int))], fun i S' => S' = S ∧ i ≤ a.length ∧ a.take i = b.take i, fun i => a.length - i⟩,
    ⟨0, ⟨⟨rfl, rfl⟩, ⟨rfl, rfl⟩, congrArg (AV.int .i64) (by rw [rowsO_len]), rfl, trivial⟩, _, St.leW_refl _, rfl, by omega, rfl⟩, ?_⟩
  rintro (i : Nat) S' ⟨rfl, hi, he⟩
  conv => whnf
  refine split_of (fun hlt => ?_) (fun hlt => ?_)
  · have hlt : i < a.length := by have := of_decide_eq_true hlt; omega
    have hltb : i < b.length := by omega
    have ga : (rowsO a)[(i : Int).toNat]? = some [.int .i64 a[i].1, .str a[i].2.1, .int .i64 a[i].2.2] := by simp [rowsO, hlt]
    have gb : (rowsO b)[(i : Int).toNat]? = some [.int .i64 b[i].1, .str b[i].2.1, .int .i64 b[i].2.2] := by simp [rowsO, hltb]
    conv => whnf
    refine ⟨[], (.free 0 (.free 1 (.free 2 (.free 3 (.free 4 (.free 5 (.free 6 (.free 7 (.free 8 .done))))))))), _, by decide +kernel, ?_, fun _ _ h => ⟨_, .inl rfl, h⟩⟩
    conv => whnf
    refine ⟨_, ⟨by omega, ga⟩, ?_⟩
    conv => whnf
    refine ⟨_, ⟨by omega, gb⟩, ?_⟩
    conv => whnf
    refine split_of (fun hx => ?_) (fun hx => ?_)
    · have hx : a[i] ≠ b[i] := by intro e; rw [e] at hx; simp at hx
      rw [decide_eq_false (fun e => hx (by subst e; rfl))] at hQ
      clear hK
      conv => whnf
      refine hQ _ _ _ (by simp) ?_
      conv => whnf
      exact ⟨_, _, ⟨rfl, rfl⟩, St.le_refl _, AV.leS_refl _ _ _⟩
    · have hx : a[i] = b[i] := by simp at hx; exact Prod.ext hx.1 (Prod.ext hx.2.1 hx.2.2)
      clear hK hQ
      have w1 : IntKind.i64.wrap ((i : Int) + 1) = ((i + 1 : Nat) : Int) := wrap_nat (by have := hlen; omega)
      conv => whnf
      exact ⟨i + 1, ⟨⟨rfl, rfl⟩, ⟨rfl, rfl⟩, rfl, congrArg _ w1, trivial⟩, ⟨_, St.leW_refl _, rfl, by omega, take_ext hlt hltb he hx⟩, by show a.length - (i + 1) < a.length - i; omega⟩
  · have hlt : i = a.length := by have := of_decide_eq_false hlt; omega
    subst hlt
    have hab : a = b := by rw [List.take_length, List.take_of_length_le (by omega)] at he; exact he
    rw [decide_eq_true hab] at hK
    conv => whnf
    refine hK _ _ ?_
    clear hK hQ K
    conv => whnf
    exact ⟨_, _, ⟨rfl, rfl⟩, St.le_refl _, AV.leS_refl _ _ _⟩
end Go.Proofs.YtcpdgnkhkdddhaaGreatDoor.Aw

set_option maxRecDepth 100000
set_option linter.unusedVariables false
set_option linter.unusedSimpArgs false
namespace Go.Proofs.YtcpdgnkhkdddhaaGreatDoor.Aw
open Go Go.RowKit

section
variable {P : Program} {C : Cx} {ops : List Oper} {K : Env → St → Prop} {Qp : AV → St → Prop}
theorem aOps_append (l2 : List Oper) : ∀ (l1 : List Oper) (env : Env) (S : St), aOps P C ops (l1 ++ l2) env S K Qp = aOps P C ops l1 env S (fun e s => aOps P C ops l2 e s K Qp) Qp
  | [], env, S => rfl
  | o :: r, env, S => by simp only [List.cons_append, aOps, aOps_append l2 r]
theorem aOps_cut (n : Nat) {l : List Oper} {env : Env} {S : St} (h : ∀ K', (∀ env' S', aOps P C ops (l.drop n) env' S' K Qp → K' env' S') → aOps P C ops (l.take n) env S K' Qp) : aOps P C ops l env S K Qp := by
  rw [← List.take_append_drop n l, aOps_append]; exact h _ (fun _ _ h => h)
theorem awp_region {id : Nat} {os : Array Oper} {env : Env} {S : St} {Q : AExit → Env → St → Prop} (h : aOps P C os.toList os.toList env S (fun e s => Q .normal e s) (fun x s => Q (.panic x) [] s)) : awp P C (.region id os false) env S Q := by
  unfold awp
  exact h
end
end Go.Proofs.YtcpdgnkhkdddhaaGreatDoor.Aw

set_option maxRecDepth 100000
set_option linter.unusedVariables false
set_option linter.unusedSimpArgs false
namespace Go.Proofs.YtcpdgnkhkdddhaaGreatDoor.Aw
open Go Go.RowKit
variable {G : Nat → Option (List AV)}

theorem stepV_iff (a b : StepV) : a = b ↔ (a.kind = b.kind ∧ a.num = b.num ∧ a.n6 = b.n6 ∧ a.s7 = b.s7 ∧ a.s8 = b.s8 ∧ a.bound = b.bound ∧ a.ops = b.ops ∧ a.pieces = b.pieces ∧ a.lits = b.lits ∧ a.ids = b.ids) := by
  cases a; cases b
  simp only [StepV.mk.injEq]
  constructor
  · rintro ⟨h1, h2, h3, h4, h5, h6, h7, h8, h9, h10⟩; exact ⟨h1, h2, h8, h9, h10, h5, h3, h4, h6, h7⟩
  · rintro ⟨h1, h2, h8, h9, h10, h5, h3, h4, h6, h7⟩; exact ⟨h1, h2, h3, h4, h5, h6, h7, h8, h9, h10⟩
instance : DecidableEq StepV := fun a b => decidable_of_iff _ (stepV_iff a b).symm
/-- The lists of a step are not too long. -/
structure LenStep (v : StepV) : Prop where
  ops : v.ops.length ≤ 1000000000
  row : v.pieces.length ≤ 1000000000
  lits : v.lits.length ≤ 1000000000
  ids : v.ids.length ≤ 1000000000
theorem same_step_ok (v v' : StepV) (h : LenStep v) (S : St) : Triple P (C G) 45 [stepAV v, stepAV v'] S fun o S' => o = .ret (.bool (decide (v = v'))) ∧ S' = S := by
  have hO := fun S => equalO_ok (G := G) v.ops v'.ops h.ops S
  have hP := fun S => equalP_ok (G := G) v.pieces v'.pieces h.row S
  have hI := fun S => equalI_ok (G := G) v.lits v'.lits h.lits S
  have hS := fun S => equalS_ok (G := G) v.ids v'.ids h.ids S
  refine triple_of_awp (hT G) hm Tryz.func45 rfl (by decide +kernel) rfl (by decide +kernel) (by show 2 ≤ _; decide +kernel) rfl ?_
  refine awp_seq2 fun K hK hQ => ?_
  conv => whnf
  intro b2 hb2
  conv => whnf
  intro b3 hb3
  conv => whnf
  refine hK _ _ ?_
  clear hK hQ K
  have q2 : ((S.upd b2 (.obj 54 (stepR v))).upd b3 (.obj 54 (stepR v'))) b2 = some (.obj 54 (stepR v)) := St.up hb3 (St.upd_same _ _ _)
  have q3 : ((S.upd b2 (.obj 54 (stepR v))).upd b3 (.obj 54 (stepR v'))) b3 = some (.obj 54 (stepR v')) := St.upd_same _ _ _
  have hle : St.le S ((S.upd b2 (.obj 54 (stepR v))).upd b3 (.obj 54 (stepR v'))) := St.le_upd' (St.le_upd' (St.le_refl _) hb2 _) hb3 _
  refine awp_seq2 fun K hK hQ => ?_
  refine awp_region ?_
  refine aOps_cut 5 fun K' hK' => ?_
  conv => whnf
  refine ⟨_, _, q2, ?_⟩
  conv => whnf
  refine ⟨_, _, q3, ?_⟩
  conv => whnf
  by_cases hx : v.kind = v'.kind
  · have g0 := hx
    rw [show (v.kind == v'.kind) = true from by simpa using hx]
    refine hK' _ _ ?_
    clear hK' K'
    refine aOps_cut 7 fun K' hK' => ?_
    conv => whnf
    refine ⟨_, _, q2, ?_⟩
    conv => whnf
    refine ⟨_, _, q3, ?_⟩
    conv => whnf
    by_cases hx : v.num = v'.num
    · have g1 := hx
      rw [decide_eq_true hx]
      refine hK' _ _ ?_
      clear hK' K'
      refine aOps_cut 7 fun K' hK' => ?_
      conv => whnf
      refine ⟨_, _, q2, ?_⟩
      conv => whnf
      refine ⟨_, _, q3, ?_⟩
      conv => whnf
      by_cases hx : v.n6 = v'.n6
      · have g2 := hx
        rw [show (v.n6 == v'.n6) = true from by simpa using hx]
        refine hK' _ _ ?_
        clear hK' K'
        refine aOps_cut 7 fun K' hK' => ?_
        conv => whnf
        refine ⟨_, _, q2, ?_⟩
        conv => whnf
        refine ⟨_, _, q3, ?_⟩
        conv => whnf
        by_cases hx : v.s7 = v'.s7
        · have g3 := hx
          rw [decide_eq_true hx]
          refine hK' _ _ ?_
          clear hK' K'
          refine aOps_cut 7 fun K' hK' => ?_
          conv => whnf
          refine ⟨_, _, q2, ?_⟩
          conv => whnf
          refine ⟨_, _, q3, ?_⟩
          conv => whnf
          by_cases hx : v.s8 = v'.s8
          · have g4 := hx
            rw [decide_eq_true hx]
            refine hK' _ _ ?_
            clear hK' K'
            refine aOps_cut 9 fun K' hK' => ?_
            conv => whnf
            refine ⟨_, _, q2, ?_⟩
            conv => whnf
            refine ⟨_, _, q3, ?_⟩
            conv => whnf
            by_cases hx : v.bound = v'.bound
            · have g5 := hx
              rw [decide_eq_true hx]
              refine hK' _ _ ?_
              clear hK' K'
              refine aOps_cut 7 fun K' hK' => ?_
              conv => whnf
              refine ⟨_, _, q2, ?_⟩
              conv => whnf
              refine ⟨_, _, q3, ?_⟩
              conv => whnf
              refine (hO _).mono ?_
              rintro o T ⟨rfl, rfl⟩
              conv => whnf
              by_cases hx : v.ops = v'.ops
              · have g6 := hx
                rw [decide_eq_true hx]
                refine hK' _ _ ?_
                clear hK' K'
                refine aOps_cut 9 fun K' hK' => ?_
                conv => whnf
                refine ⟨_, _, q2, ?_⟩
                conv => whnf
                refine ⟨_, _, q3, ?_⟩
                conv => whnf
                refine (hP _).mono ?_
                rintro o T ⟨rfl, rfl⟩
                conv => whnf
                by_cases hx : v.pieces = v'.pieces
                · have g7 := hx
                  rw [decide_eq_true hx]
                  refine hK' _ _ ?_
                  clear hK' K'
                  refine aOps_cut 7 fun K' hK' => ?_
                  conv => whnf
                  refine ⟨_, _, q2, ?_⟩
                  conv => whnf
                  refine ⟨_, _, q3, ?_⟩
                  conv => whnf
                  refine (hI _).mono ?_
                  rintro o T ⟨rfl, rfl⟩
                  conv => whnf
                  by_cases hx : v.lits = v'.lits
                  · have g8 := hx
                    rw [decide_eq_true hx]
                    refine hK' _ _ ?_
                    clear hK' K'
                    refine aOps_cut 7 fun K' hK' => ?_
                    conv => whnf
                    refine ⟨_, _, q2, ?_⟩
                    conv => whnf
                    refine ⟨_, _, q3, ?_⟩
                    conv => whnf
                    refine (hS _).mono ?_
                    rintro o T ⟨rfl, rfl⟩
                    conv => whnf
                    by_cases hx : v.ids = v'.ids
                    · have g9 := hx
                      rw [decide_eq_true hx]
                      refine hK' _ _ ?_
                      clear hK' K'
                      refine aOps_cut 1 fun K' hK' => ?_
                      conv => whnf
                      refine hK' _ _ ?_
                      clear hK' K'
                      conv => whnf
                      refine hK _ _ ?_
                      clear hK hQ K
                      conv => whnf
                      exact ⟨_, _, ⟨by rw [decide_eq_true ((stepV_iff v v').2 ⟨g0, g1, g2, g3, g4, g5, g6, g7, g8, g9⟩)], rfl⟩, hle, AV.leS_refl _ _ _⟩
                    · rw [decide_eq_false hx]
                      refine hK' _ _ ?_
                      clear hK' K'
                      refine aOps_cut 1 fun K' hK' => ?_
                      conv => whnf
                      refine hK' _ _ ?_
                      clear hK' K'
                      conv => whnf
                      refine hK _ _ ?_
                      clear hK hQ K
                      conv => whnf
                      exact ⟨_, _, ⟨by rw [decide_eq_false (fun e => hx (by rw [stepV_iff] at e; exact e.2.2.2.2.2.2.2.2.2))], rfl⟩, hle, AV.leS_refl _ _ _⟩
                  · rw [decide_eq_false hx]
                    refine hK' _ _ ?_
                    clear hK' K'
                    refine aOps_cut 7 fun K' hK' => ?_
                    conv => whnf
                    refine hK' _ _ ?_
                    clear hK' K'
                    refine aOps_cut 1 fun K' hK' => ?_
                    conv => whnf
                    refine hK' _ _ ?_
                    clear hK' K'
                    conv => whnf
                    refine hK _ _ ?_
                    clear hK hQ K
                    conv => whnf
                    exact ⟨_, _, ⟨by rw [decide_eq_false (fun e => hx (by rw [stepV_iff] at e; exact e.2.2.2.2.2.2.2.2.1))], rfl⟩, hle, AV.leS_refl _ _ _⟩
                · rw [decide_eq_false hx]
                  refine hK' _ _ ?_
                  clear hK' K'
                  refine aOps_cut 7 fun K' hK' => ?_
                  conv => whnf
                  refine hK' _ _ ?_
                  clear hK' K'
                  refine aOps_cut 7 fun K' hK' => ?_
                  conv => whnf
                  refine hK' _ _ ?_
                  clear hK' K'
                  refine aOps_cut 1 fun K' hK' => ?_
                  conv => whnf
                  refine hK' _ _ ?_
                  clear hK' K'
                  conv => whnf
                  refine hK _ _ ?_
                  clear hK hQ K
                  conv => whnf
                  exact ⟨_, _, ⟨by rw [decide_eq_false (fun e => hx (by rw [stepV_iff] at e; exact e.2.2.2.2.2.2.2.1))], rfl⟩, hle, AV.leS_refl _ _ _⟩
              · rw [decide_eq_false hx]
                refine hK' _ _ ?_
                clear hK' K'
                refine aOps_cut 9 fun K' hK' => ?_
                conv => whnf
                refine hK' _ _ ?_
                clear hK' K'
                refine aOps_cut 7 fun K' hK' => ?_
                conv => whnf
                refine hK' _ _ ?_
                clear hK' K'
                refine aOps_cut 7 fun K' hK' => ?_
                conv => whnf
                refine hK' _ _ ?_
                clear hK' K'
                refine aOps_cut 1 fun K' hK' => ?_
                conv => whnf
                refine hK' _ _ ?_
                clear hK' K'
                conv => whnf
                refine hK _ _ ?_
                clear hK hQ K
                conv => whnf
                exact ⟨_, _, ⟨by rw [decide_eq_false (fun e => hx (by rw [stepV_iff] at e; exact e.2.2.2.2.2.2.1))], rfl⟩, hle, AV.leS_refl _ _ _⟩
            · rw [decide_eq_false hx]
              refine hK' _ _ ?_
              clear hK' K'
              refine aOps_cut 7 fun K' hK' => ?_
              conv => whnf
              refine hK' _ _ ?_
              clear hK' K'
              refine aOps_cut 9 fun K' hK' => ?_
              conv => whnf
              refine hK' _ _ ?_
              clear hK' K'
              refine aOps_cut 7 fun K' hK' => ?_
              conv => whnf
              refine hK' _ _ ?_
              clear hK' K'
              refine aOps_cut 7 fun K' hK' => ?_
              conv => whnf
              refine hK' _ _ ?_
              clear hK' K'
              refine aOps_cut 1 fun K' hK' => ?_
              conv => whnf
              refine hK' _ _ ?_
              clear hK' K'
              conv => whnf
              refine hK _ _ ?_
              clear hK hQ K
              conv => whnf
              exact ⟨_, _, ⟨by rw [decide_eq_false (fun e => hx (by rw [stepV_iff] at e; exact e.2.2.2.2.2.1))], rfl⟩, hle, AV.leS_refl _ _ _⟩
          · rw [decide_eq_false hx]
            refine hK' _ _ ?_
            clear hK' K'
            refine aOps_cut 9 fun K' hK' => ?_
            conv => whnf
            refine hK' _ _ ?_
            clear hK' K'
            refine aOps_cut 7 fun K' hK' => ?_
            conv => whnf
            refine hK' _ _ ?_
            clear hK' K'
            refine aOps_cut 9 fun K' hK' => ?_
            conv => whnf
            refine hK' _ _ ?_
            clear hK' K'
            refine aOps_cut 7 fun K' hK' => ?_
            conv => whnf
            refine hK' _ _ ?_
            clear hK' K'
            refine aOps_cut 7 fun K' hK' => ?_
            conv => whnf
            refine hK' _ _ ?_
            clear hK' K'
            refine aOps_cut 1 fun K' hK' => ?_
            conv => whnf
            refine hK' _ _ ?_
            clear hK' K'
            conv => whnf
            refine hK _ _ ?_
            clear hK hQ K
            conv => whnf
            exact ⟨_, _, ⟨by rw [decide_eq_false (fun e => hx (by rw [stepV_iff] at e; exact e.2.2.2.2.1))], rfl⟩, hle, AV.leS_refl _ _ _⟩
        · rw [decide_eq_false hx]
          refine hK' _ _ ?_
          clear hK' K'
          refine aOps_cut 7 fun K' hK' => ?_
          conv => whnf
          refine hK' _ _ ?_
          clear hK' K'
          refine aOps_cut 9 fun K' hK' => ?_
          conv => whnf
          refine hK' _ _ ?_
          clear hK' K'
          refine aOps_cut 7 fun K' hK' => ?_
          conv => whnf
          refine hK' _ _ ?_
          clear hK' K'
          refine aOps_cut 9 fun K' hK' => ?_
          conv => whnf
          refine hK' _ _ ?_
          clear hK' K'
          refine aOps_cut 7 fun K' hK' => ?_
          conv => whnf
          refine hK' _ _ ?_
          clear hK' K'
          refine aOps_cut 7 fun K' hK' => ?_
          conv => whnf
          refine hK' _ _ ?_
          clear hK' K'
          refine aOps_cut 1 fun K' hK' => ?_
          conv => whnf
          refine hK' _ _ ?_
          clear hK' K'
          conv => whnf
          refine hK _ _ ?_
          clear hK hQ K
          conv => whnf
          exact ⟨_, _, ⟨by rw [decide_eq_false (fun e => hx (by rw [stepV_iff] at e; exact e.2.2.2.1))], rfl⟩, hle, AV.leS_refl _ _ _⟩
      · rw [show (v.n6 == v'.n6) = false from by simpa using hx]
        refine hK' _ _ ?_
        clear hK' K'
        refine aOps_cut 7 fun K' hK' => ?_
        conv => whnf
        refine hK' _ _ ?_
        clear hK' K'
        refine aOps_cut 7 fun K' hK' => ?_
        conv => whnf
        refine hK' _ _ ?_
        clear hK' K'
        refine aOps_cut 9 fun K' hK' => ?_
        conv => whnf
        refine hK' _ _ ?_
        clear hK' K'
        refine aOps_cut 7 fun K' hK' => ?_
        conv => whnf
        refine hK' _ _ ?_
        clear hK' K'
        refine aOps_cut 9 fun K' hK' => ?_
        conv => whnf
        refine hK' _ _ ?_
        clear hK' K'
        refine aOps_cut 7 fun K' hK' => ?_
        conv => whnf
        refine hK' _ _ ?_
        clear hK' K'
        refine aOps_cut 7 fun K' hK' => ?_
        conv => whnf
        refine hK' _ _ ?_
        clear hK' K'
        refine aOps_cut 1 fun K' hK' => ?_
        conv => whnf
        refine hK' _ _ ?_
        clear hK' K'
        conv => whnf
        refine hK _ _ ?_
        clear hK hQ K
        conv => whnf
        exact ⟨_, _, ⟨by rw [decide_eq_false (fun e => hx (by rw [stepV_iff] at e; exact e.2.2.1))], rfl⟩, hle, AV.leS_refl _ _ _⟩
    · rw [decide_eq_false hx]
      refine hK' _ _ ?_
      clear hK' K'
      refine aOps_cut 7 fun K' hK' => ?_
      conv => whnf
      refine hK' _ _ ?_
      clear hK' K'
      refine aOps_cut 7 fun K' hK' => ?_
      conv => whnf
      refine hK' _ _ ?_
      clear hK' K'
      refine aOps_cut 7 fun K' hK' => ?_
      conv => whnf
      refine hK' _ _ ?_
      clear hK' K'
      refine aOps_cut 9 fun K' hK' => ?_
      conv => whnf
      refine hK' _ _ ?_
      clear hK' K'
      refine aOps_cut 7 fun K' hK' => ?_
      conv => whnf
      refine hK' _ _ ?_
      clear hK' K'
      refine aOps_cut 9 fun K' hK' => ?_
      conv => whnf
      refine hK' _ _ ?_
      clear hK' K'
      refine aOps_cut 7 fun K' hK' => ?_
      conv => whnf
      refine hK' _ _ ?_
      clear hK' K'
      refine aOps_cut 7 fun K' hK' => ?_
      conv => whnf
      refine hK' _ _ ?_
      clear hK' K'
      refine aOps_cut 1 fun K' hK' => ?_
      conv => whnf
      refine hK' _ _ ?_
      clear hK' K'
      conv => whnf
      refine hK _ _ ?_
      clear hK hQ K
      conv => whnf
      exact ⟨_, _, ⟨by rw [decide_eq_false (fun e => hx (by rw [stepV_iff] at e; exact e.2.1))], rfl⟩, hle, AV.leS_refl _ _ _⟩
  · rw [show (v.kind == v'.kind) = false from by simpa using hx]
    refine hK' _ _ ?_
    clear hK' K'
    refine aOps_cut 7 fun K' hK' => ?_
    conv => whnf
    refine hK' _ _ ?_
    clear hK' K'
    refine aOps_cut 7 fun K' hK' => ?_
    conv => whnf
    refine hK' _ _ ?_
    clear hK' K'
    refine aOps_cut 7 fun K' hK' => ?_
    conv => whnf
    refine hK' _ _ ?_
    clear hK' K'
    refine aOps_cut 7 fun K' hK' => ?_
    conv => whnf
    refine hK' _ _ ?_
    clear hK' K'
    refine aOps_cut 9 fun K' hK' => ?_
    conv => whnf
    refine hK' _ _ ?_
    clear hK' K'
    refine aOps_cut 7 fun K' hK' => ?_
    conv => whnf
    refine hK' _ _ ?_
    clear hK' K'
    refine aOps_cut 9 fun K' hK' => ?_
    conv => whnf
    refine hK' _ _ ?_
    clear hK' K'
    refine aOps_cut 7 fun K' hK' => ?_
    conv => whnf
    refine hK' _ _ ?_
    clear hK' K'
    refine aOps_cut 7 fun K' hK' => ?_
    conv => whnf
    refine hK' _ _ ?_
    clear hK' K'
    refine aOps_cut 1 fun K' hK' => ?_
    conv => whnf
    refine hK' _ _ ?_
    clear hK' K'
    conv => whnf
    refine hK _ _ ?_
    clear hK hQ K
    conv => whnf
    exact ⟨_, _, ⟨by rw [decide_eq_false (fun e => hx (by rw [stepV_iff] at e; exact e.1))], rfl⟩, hle, AV.leS_refl _ _ _⟩
end Go.Proofs.YtcpdgnkhkdddhaaGreatDoor.Aw

set_option maxRecDepth 100000
set_option linter.unusedVariables false
set_option linter.unusedSimpArgs false
namespace Go.Proofs.YtcpdgnkhkdddhaaGreatDoor.Aw
open Go Go.RowKit
variable {G : Nat → Option (List AV)}

def hasNL (s : ByteArray) : Bool := decide (0 ≤ Lib.indexByte s.data.toList 10)
theorem containsNL_ok (s : ByteArray) (S : St) : Triple P (C G) 44 [.str s, .str ⟨#[10]⟩] S fun o S' => o = .ret (.bool (hasNL s)) ∧ S' = S := by
  refine Triple.of_calls (x := .bool (hasNL s)) Tryz.func44 rfl (by decide +kernel) (fun w vs hg hr => ?_) ⟨rfl, rfl⟩
  obtain ⟨u, v, hv, r1, r2⟩ := RelL.two hr
  simp only [Rel] at r1 r2
  subst r1 r2
  rw [show vs = #[.string s, .string ⟨#[10]⟩] from arr_of_list hv]
  refine (Tryz.strings_Contains_one s 10 w).mono fun e w' he => ?_
  obtain ⟨rfl, rfl⟩ := he
  exact ⟨_, rfl, by simp only [Rel]; rfl, Below.refl _ _⟩
/-- proof.Print. -/
def printP (v : StepV) : ByteArray × Int := if (parseP (textT v)).2 = 0 ∧ hasNL (textT v) = false ∧ (parseP (textT v)).1 = v then (textT v, 0) else (ByteArray.empty, 83)
theorem Print_ok (hG : GS G) (hA : GAs G) (v : StepV) (h : OkStep v) (ht : (textT v).size ≤ 8999999) (hp' : LenStep (parseP (textT v)).1) (S : St) :
    Triple P (C G) 12 [stepAV v] S fun o S' => o = .ret (.tu [.str (printP v).1, .int .i64 (printP v).2]) ∧ S' = S := by
  have htx := fun S => text_ok hG.tab v h S
  have hpa := fun S => Parse_line_ok (G := G) hG hA (textT v) ht S
  have hc := fun S => containsNL_ok (G := G) (textT v) S
  have hsm := fun S => same_step_ok (G := G) (parseP (textT v)).1 v hp' S
  unfold printP
  generalize textT v = tx at *
  generalize hnl : hasNL tx = nl at *
  generalize (parseP tx).1 = v2 at *
  generalize (parseP tx).2 = e at *
  refine triple_of_awp (hT G) hm Tryz.func12 rfl (by decide +kernel) rfl (by decide +kernel) (by show 1 ≤ _; decide +kernel) rfl ?_
  refine awp_seq2 fun K hK hQ => ?_
  conv => whnf
  intro b1 hb1
  conv => whnf
  refine hK _ _ ?_
  clear hK hQ K
  have q1 := St.upd_same S b1 (.obj 54 (stepR v))
  have hle1 := St.le_upd' (St.le_refl S) hb1 (.obj 54 (stepR v))
  refine awp_seq2 fun K hK hQ => ?_
  conv => whnf
  refine ⟨_, _, q1, ?_⟩
  conv => whnf
  refine (htx _).mono ?_
  rintro o T ⟨rfl, rfl⟩
  conv => whnf
  refine hK _ _ ?_
  clear hK hQ K
  refine awp_seq2 fun K hK hQ => ?_
  conv => whnf
  refine (hpa _).mono ?_
  rintro o T ⟨rfl, rfl⟩
  conv => whnf
  intro b5 hb5
  conv => whnf
  refine ⟨_, _, St.upd_same _ _ _, ?_⟩
  conv => whnf
  rw [St.upd_upd]
  have q5 := St.upd_same (S.upd b1 (.obj 54 (stepR v))) b5 (.obj 54 (stepR v2))
  have q15 : ((S.upd b1 (.obj 54 (stepR v))).upd b5 (.obj 54 (stepR v2))) b1 = some (.obj 54 (stepR v)) := St.up hb5 q1
  have hle := St.le_trans hle1 (St.le_upd' (St.le_refl _) hb5 (.obj 54 (stepR v2)))
  by_cases he : e = 0
  · subst he
    cases nl with
    | true =>
      rw [if_neg (by simp)] at hQ
      conv => whnf
      refine (hc _).mono ?_
      rintro o T ⟨rfl, rfl⟩
      conv => whnf
      refine hQ _ _ _ (by simp) ?_
      conv => whnf
      exact ⟨_, _, ⟨rfl, rfl⟩, hle, AV.leS_refl _ _ _⟩
    | false =>
      by_cases hv : v2 = v
      · rw [if_pos ⟨rfl, rfl, hv⟩] at hK
        rw [decide_eq_true hv] at hsm
        conv => whnf
        refine (hc _).mono ?_
        rintro o T ⟨rfl, rfl⟩
        conv => whnf
        refine ⟨_, _, q5, ?_⟩
        conv => whnf
        refine ⟨_, _, q15, ?_⟩
        conv => whnf
        refine (hsm _).mono ?_
        rintro o T ⟨rfl, rfl⟩
        conv => whnf
        refine hK _ _ ?_
        clear hK hQ K
        conv => whnf
        exact ⟨_, _, ⟨rfl, rfl⟩, hle, AV.leS_refl _ _ _⟩
      · rw [if_neg (fun h => hv h.2.2)] at hQ
        rw [decide_eq_false hv] at hsm
        conv => whnf
        refine (hc _).mono ?_
        rintro o T ⟨rfl, rfl⟩
        conv => whnf
        refine ⟨_, _, q5, ?_⟩
        conv => whnf
        refine ⟨_, _, q15, ?_⟩
        conv => whnf
        refine (hsm _).mono ?_
        rintro o T ⟨rfl, rfl⟩
        conv => whnf
        refine hQ _ _ _ (by simp) ?_
        conv => whnf
        exact ⟨_, _, ⟨rfl, rfl⟩, hle, AV.leS_refl _ _ _⟩
  · rw [if_neg (fun h => he h.1)] at hQ
    conv => whnf
    refine split_of (fun _ => ?_) (fun hh => absurd (by simpa using hh) he)
    conv => whnf
    refine hQ _ _ _ (by simp) ?_
    conv => whnf
    exact ⟨_, _, ⟨rfl, rfl⟩, hle, AV.leS_refl _ _ _⟩
end Go.Proofs.YtcpdgnkhkdddhaaGreatDoor.Aw

set_option maxRecDepth 100000
set_option linter.unusedVariables false
set_option linter.unusedSimpArgs false
namespace Go.Proofs.YtcpdgnkhkdddhaaGreatDoor.Aw
open Go Go.RowKit
variable {G : Nat → Option (List AV)}

theorem num_ok (e : Int) (S : St) : Triple P (C G) 13 [.int .i64 e] S fun o S' => o = .ret (.int .i64 e) ∧ S' = S := by
  refine triple_of_awp (hT G) hm Tryz.func13 rfl (by decide +kernel) rfl (by decide +kernel) (by show 1 ≤ _; decide +kernel) rfl ?_
  conv => whnf
  exact ⟨_, _, ⟨rfl, rfl⟩, St.le_refl _, AV.leS_refl _ _ _⟩
theorem told_nil (S : St) : Triple P (C G) 20 [.nili] S fun o S' => o = .ret (.tu [.ag [.int .i64 0, .int .i64 0], .bool true]) ∧ S' = S := by
  refine triple_of_awp (hT G) hm Tryz.func20 rfl (by decide +kernel) rfl (by decide +kernel) (by show 1 ≤ _; decide +kernel) rfl ?_
  conv => whnf
  intro b hb
  conv => whnf
  refine ⟨_, _, St.upd_same _ _ _, ?_⟩
  conv => whnf
  refine ⟨_, _, St.upd_same _ _ _, ?_⟩
  conv => whnf
  refine ⟨_, _, ⟨rfl, rfl⟩, ?_, AV.leS_refl _ _ _⟩
  rw [St.upd_upd]; exact St.le_upd' (St.le_refl _) hb _
theorem told_fault (i c : Int) (h0 : 80 ≤ c) (h1 : c ≤ 83) (S : St) : Triple P (C G) 20 [.ifc 72 (.imm [.int .i64 2, .int .i64 i, .int .i64 c])] S fun o S' => o = .ret (.tu [.ag [.int .i64 i, .int .i64 c], .bool true]) ∧ S' = S := by
  refine triple_of_awp (hT G) hm Tryz.func20 rfl (by decide +kernel) rfl (by decide +kernel) (by show 1 ≤ _; decide +kernel) rfl ?_
  conv => whnf
  intro b hb
  conv => whnf
  refine split_of (fun h => absurd (of_decide_eq_true h) (by omega)) (fun h => ?_)
  conv => whnf
  refine split_of (fun h => absurd (of_decide_eq_true h) (by omega)) (fun h => ?_)
  conv => whnf
  refine ⟨[], (.free 0 (.free 1 (.free 2 (.free 3 (.free 4 (.free 5 (.free 6 (.free 7 (.free 8 (.one 9 (.free 10 .done) .none)))))))))), _, by decide +kernel, ?_, fun _ _ h => ⟨_, .inl rfl, h⟩⟩
  conv => whnf
  refine ⟨_, _, St.upd_same _ _ _, ?_⟩
  conv => whnf
  refine ⟨_, _, St.upd_same _ _ _, ?_⟩
  conv => whnf
  refine ⟨_, _, ⟨rfl, rfl⟩, ?_, AV.leS_refl _ _ _⟩
  rw [St.upd_upd]; exact St.le_upd' (St.le_refl _) hb _
end Go.Proofs.YtcpdgnkhkdddhaaGreatDoor.Aw

set_option maxRecDepth 100000
set_option linter.unusedVariables false
set_option linter.unusedSimpArgs false
namespace Go.Proofs.YtcpdgnkhkdddhaaGreatDoor.Aw
open Go Go.RowKit
variable {G : Nat → Option (List AV)}

theorem sameTexts_self (a : List ByteArray) (hlen : a.length ≤ 1000000000) (S : St) : Triple P (C G) 46 [.sl .any 1 (rowsS a), .sl .any 1 (rowsS a)] S fun o S' => o = .ret (.bool true) ∧ S' = S := by
  refine triple_of_awp (hT G) hm Tryz.func46 rfl (by decide +kernel) rfl (by decide +kernel) (by show 2 ≤ _; decide +kernel) rfl ?_
  conv => whnf
  intro _
  conv => whnf
  intro _
  conv => whnf
  refine split_of (fun hne => by simp at hne) (fun hne => ?_)
  conv => whnf
  refine ⟨⟨Nat, fun i => [(0, .sl .any 1 (rowsS a)), (1, .sl .any 1 (rowsS a)), (5, .int .i64 (i : Int))], fun i S' => S' = S ∧ i ≤ a.length, fun i => a.length - i⟩,
    ⟨0, ⟨⟨rfl, rfl⟩, ⟨rfl, rfl⟩, rfl, trivial⟩, _, St.leW_refl _, rfl, by omega⟩, ?_⟩
  rintro (i : Nat) S' ⟨rfl, hi⟩
  conv => whnf
  intro _
  conv => whnf
  refine split_of (fun hlt => ?_) (fun hlt => ?_)
  · have hlt : i < a.length := by have := of_decide_eq_true hlt; rw [rowsS_len] at this; omega
    have ga : (rowsS a)[(i : Int).toNat]? = some [.str a[i]] := by simp [rowsS, hlt]
    conv => whnf
    refine ⟨[], (.free 0 (.free 1 (.free 2 (.free 3 (.free 4 (.free 5 (.free 6 (.free 7 (.free 8 .done))))))))), _, by decide +kernel, ?_, fun _ _ h => ⟨_, .inl rfl, h⟩⟩
    conv => whnf
    refine ⟨_, ⟨by omega, ga⟩, ?_⟩
    conv => whnf
    refine ⟨_, ⟨by omega, ga⟩, ?_⟩
    conv => whnf
    refine split_of (fun hx => by simp at hx) (fun hx => ?_)
    have w1 : IntKind.i64.wrap ((i : Int) + 1) = ((i + 1 : Nat) : Int) := wrap_nat (by omega)
    conv => whnf
    exact ⟨i + 1, ⟨⟨rfl, rfl⟩, ⟨rfl, rfl⟩, congrArg _ w1, trivial⟩, ⟨_, St.leW_refl _, rfl, by omega⟩, by show a.length - (i + 1) < a.length - i; omega⟩
  · conv => whnf
    exact ⟨_, _, ⟨rfl, rfl⟩, St.le_refl _, AV.leS_refl _ _ _⟩
theorem SameRow_self (ps : List (ByteArray × Int)) (bound : ByteArray) (hlen : ps.length ≤ 1000000000) (S : St) : Triple P (C G) 47 [.ag [.sl .any 2 (rowsP ps), .str bound], .ag [.sl .any 2 (rowsP ps), .str bound]] S fun o S' => o = .ret (.bool true) ∧ S' = S := by
  refine triple_of_awp (hT G) hm Tryz.func47 rfl (by decide +kernel) rfl (by decide +kernel) (by show 2 ≤ _; decide +kernel) rfl ?_
  refine awp_seq2 fun K hK hQ => ?_
  conv => whnf
  intro b2 hb2
  conv => whnf
  intro b3 hb3
  conv => whnf
  refine hK _ _ ?_
  clear hK hQ K
  have q2 : ((S.upd b2 (.obj 51 [.sl .any 2 (rowsP ps), .str bound])).upd b3 (.obj 51 [.sl .any 2 (rowsP ps), .str bound])) b2 = some (.obj 51 [.sl .any 2 (rowsP ps), .str bound]) := St.up hb3 (St.upd_same _ _ _)
  have q3 : ((S.upd b2 (.obj 51 [.sl .any 2 (rowsP ps), .str bound])).upd b3 (.obj 51 [.sl .any 2 (rowsP ps), .str bound])) b3 = some (.obj 51 [.sl .any 2 (rowsP ps), .str bound]) := St.upd_same _ _ _
  have hle : St.le S ((S.upd b2 (.obj 51 [.sl .any 2 (rowsP ps), .str bound])).upd b3 (.obj 51 [.sl .any 2 (rowsP ps), .str bound])) := St.le_upd' (St.le_upd' (St.le_refl _) hb2 _) hb3 _
  generalize (S.upd b2 (.obj 51 [.sl .any 2 (rowsP ps), .str bound])).upd b3 (.obj 51 [.sl .any 2 (rowsP ps), .str bound]) = S1 at *
  refine awp_seq2 fun K hK hQ => ?_
  conv => whnf
  refine ⟨_, _, q2, ?_⟩
  conv => whnf
  intro _
  conv => whnf
  refine ⟨_, _, q3, ?_⟩
  conv => whnf
  intro _
  conv => whnf
  refine split_of (fun hne => by simp at hne) (fun hne => ?_)
  conv => whnf
  refine ⟨_, _, q2, ?_⟩
  conv => whnf
  refine ⟨_, _, q3, ?_⟩
  conv => whnf
  refine split_of (fun hne => by simp at hne) (fun hne => ?_)
  conv => whnf
  refine hK _ _ ?_
  clear hK hQ K
  conv => whnf
  refine ⟨⟨Nat, fun i => [(2, .ref b2 0), (3, .ref b3 0), (5, .int .i64 (i : Int))], fun i S' => S' = S1 ∧ i ≤ ps.length, fun i => ps.length - i⟩,
    ⟨0, ⟨rfl, rfl, rfl, trivial⟩, _, St.leW_refl _, rfl, by omega⟩, ?_⟩
  rintro (i : Nat) S' ⟨rfl, hi⟩
  conv => whnf
  refine ⟨_, _, q2, ?_⟩
  conv => whnf
  intro _
  conv => whnf
  refine split_of (fun hlt => ?_) (fun hlt => ?_)
  · have hlt : i < ps.length := by have := of_decide_eq_true hlt; rw [rowsP_len] at this; omega
    have ga : (rowsP ps)[(i : Int).toNat]? = some [.str ps[i].1, .int .i64 ps[i].2] := by simp [rowsP, hlt]
    conv => whnf
    refine ⟨[], (.free 0 (.free 1 (.free 2 (.free 3 (.free 4 (.free 5 (.free 6 (.free 7 (.free 8 (.free 9 (.free 10 .done))))))))))), _, by decide +kernel, ?_, fun _ _ h => ⟨_, .inl rfl, h⟩⟩
    conv => whnf
    refine ⟨_, _, q2, ?_⟩
    conv => whnf
    refine ⟨_, ⟨by omega, ga⟩, ?_⟩
    conv => whnf
    refine ⟨_, _, q3, ?_⟩
    conv => whnf
    refine ⟨_, ⟨by omega, ga⟩, ?_⟩
    conv => whnf
    refine split_of (fun hx => by simp at hx) (fun hx => ?_)
    have w1 : IntKind.i64.wrap ((i : Int) + 1) = ((i + 1 : Nat) : Int) := wrap_nat (by omega)
    conv => whnf
    exact ⟨i + 1, ⟨rfl, rfl, congrArg _ w1, trivial⟩, ⟨_, St.leW_refl _, rfl, by omega⟩, by show ps.length - (i + 1) < ps.length - i; omega⟩
  · conv => whnf
    exact ⟨_, _, ⟨rfl, rfl⟩, hle, AV.leS_refl _ _ _⟩
end Go.Proofs.YtcpdgnkhkdddhaaGreatDoor.Aw

set_option maxRecDepth 100000
set_option linter.unusedVariables false
set_option linter.unusedSimpArgs false
namespace Go.Proofs.YtcpdgnkhkdddhaaGreatDoor.Aw
open Go Go.RowKit
variable {G : Nat → Option (List AV)}

theorem Same_self (v : StepV) (h1 : v.ops.length ≤ 1000000000) (h2 : v.pieces.length ≤ 1000000000) (h3 : v.lits.length ≤ 1000000000) (h4 : v.ids.length ≤ 1000000000) (S : St) :
    Triple P (C G) 14 [stepAV v, stepAV v] S fun o S' => o = .ret (.bool true) ∧ S' = S := by
  have hTx := fun S => sameTexts_self (G := G) v.ids h4 S
  have hR := fun S => SameRow_self (G := G) v.pieces v.bound h2 S
  refine triple_of_awp (hT G) hm Tryz.func14 rfl (by decide +kernel) rfl (by decide +kernel) (by show 2 ≤ _; decide +kernel) rfl ?_
  refine awp_seq2 fun K hK hQ => ?_
  conv => whnf
  intro b2 hb2
  conv => whnf
  intro b3 hb3
  conv => whnf
  refine hK _ _ ?_
  clear hK hQ K
  have q2 : ((S.upd b2 (.obj 54 (stepR v))).upd b3 (.obj 54 (stepR v))) b2 = some (.obj 54 (stepR v)) := St.up hb3 (St.upd_same _ _ _)
  have q3 : ((S.upd b2 (.obj 54 (stepR v))).upd b3 (.obj 54 (stepR v))) b3 = some (.obj 54 (stepR v)) := St.upd_same _ _ _
  have hle : St.le S ((S.upd b2 (.obj 54 (stepR v))).upd b3 (.obj 54 (stepR v))) := St.le_upd' (St.le_upd' (St.le_refl _) hb2 _) hb3 _
  refine awp_seq2 fun K hK hQ => ?_
  refine awp_seq2 fun K1 hK1 hQ1 => ?_
  refine awp_region ?_
  refine aOps_cut 5 fun K' hK' => ?_
  conv => whnf
  refine ⟨_, _, q2, ?_⟩
  conv => whnf
  refine ⟨_, _, q3, ?_⟩
  conv => whnf
  try simp only [bne_self_eq_false, eq_self, decide_true, Bool.not_true]
  refine hK' _ _ ?_
  clear hK' K'
  refine aOps_cut 7 fun K' hK' => ?_
  conv => whnf
  refine ⟨_, _, q2, ?_⟩
  conv => whnf
  refine ⟨_, _, q3, ?_⟩
  conv => whnf
  try simp only [bne_self_eq_false, eq_self, decide_true, Bool.not_true]
  refine hK' _ _ ?_
  clear hK' K'
  refine aOps_cut 7 fun K' hK' => ?_
  conv => whnf
  refine ⟨_, _, q2, ?_⟩
  conv => whnf
  refine ⟨_, _, q3, ?_⟩
  conv => whnf
  try simp only [bne_self_eq_false, eq_self, decide_true, Bool.not_true]
  refine hK' _ _ ?_
  clear hK' K'
  refine aOps_cut 7 fun K' hK' => ?_
  conv => whnf
  refine ⟨_, _, q2, ?_⟩
  conv => whnf
  refine ⟨_, _, q3, ?_⟩
  conv => whnf
  try simp only [bne_self_eq_false, eq_self, decide_true, Bool.not_true]
  refine hK' _ _ ?_
  clear hK' K'
  refine aOps_cut 7 fun K' hK' => ?_
  conv => whnf
  refine ⟨_, _, q2, ?_⟩
  conv => whnf
  refine ⟨_, _, q3, ?_⟩
  conv => whnf
  try simp only [bne_self_eq_false, eq_self, decide_true, Bool.not_true]
  refine hK' _ _ ?_
  clear hK' K'
  refine aOps_cut 9 fun K' hK' => ?_
  conv => whnf
  refine ⟨_, _, q2, ?_⟩
  conv => whnf
  intro _
  conv => whnf
  refine ⟨_, _, q3, ?_⟩
  conv => whnf
  intro _
  conv => whnf
  try simp only [bne_self_eq_false, eq_self, decide_true, Bool.not_true]
  refine hK' _ _ ?_
  clear hK' K'
  refine aOps_cut 9 fun K' hK' => ?_
  conv => whnf
  refine ⟨_, _, q2, ?_⟩
  conv => whnf
  intro _
  conv => whnf
  refine ⟨_, _, q3, ?_⟩
  conv => whnf
  intro _
  conv => whnf
  try simp only [bne_self_eq_false, eq_self, decide_true, Bool.not_true]
  refine hK' _ _ ?_
  clear hK' K'
  refine aOps_cut 8 fun K' hK' => ?_
  conv => whnf
  refine ⟨_, _, q2, ?_⟩
  conv => whnf
  refine ⟨_, _, q3, ?_⟩
  conv => whnf
  refine (hTx _).mono ?_
  rintro o T ⟨rfl, rfl⟩
  conv => whnf
  try simp only [bne_self_eq_false, eq_self, decide_true, Bool.not_true]
  refine hK' _ _ ?_
  clear hK' K'
  refine aOps_cut 8 fun K' hK' => ?_
  conv => whnf
  refine ⟨_, _, q2, ?_⟩
  conv => whnf
  refine ⟨_, _, q3, ?_⟩
  conv => whnf
  refine (hR _).mono ?_
  rintro o T ⟨rfl, rfl⟩
  conv => whnf
  try simp only [bne_self_eq_false, eq_self, decide_true, Bool.not_true]
  refine hK' _ _ ?_
  clear hK' K'
  conv => whnf
  refine hK1 _ _ ?_
  clear hK1 hQ1 K1
  conv => whnf
  refine hK _ _ ?_
  clear hK hQ K
  refine awp_seq2 fun K hK hQ => ?_
  conv => whnf
  refine ⟨⟨Nat, fun i => [(2, .ref b2 0), (3, .ref b3 0), (5, .int .i64 (i : Int))], fun i S' => S' = (S.upd b2 (.obj 54 (stepR v))).upd b3 (.obj 54 (stepR v)) ∧ i ≤ v.ops.length, fun i => v.ops.length - i⟩,
    ⟨0, ⟨rfl, rfl, rfl, trivial⟩, _, St.leW_refl _, rfl, by omega⟩, ?_⟩
  rintro (i : Nat) S' ⟨rfl, hi⟩
  conv => whnf
  refine ⟨_, _, q2, ?_⟩
  conv => whnf
  intro _
  conv => whnf
  refine split_of (fun hlt => ?_) (fun hlt => ?_)
  · have hlt : i < v.ops.length := by have := of_decide_eq_true hlt; rw [rowsO_len] at this; omega
    have ga : (rowsO v.ops)[(i : Int).toNat]? = some [.int .i64 v.ops[i].1, .str v.ops[i].2.1, .int .i64 v.ops[i].2.2] := by simp [rowsO, hlt]
    conv => whnf
    refine ⟨[], (.free 0 (.free 1 (.free 2 (.free 3 (.free 4 (.free 5 (.free 6 (.free 7 (.free 8 (.free 9 (.free 10 .done))))))))))), _, by decide +kernel, ?_, fun _ _ h => ⟨_, .inl rfl, h⟩⟩
    conv => whnf
    refine ⟨_, _, q2, ?_⟩
    conv => whnf
    refine ⟨_, ⟨by omega, ga⟩, ?_⟩
    conv => whnf
    refine ⟨_, _, q3, ?_⟩
    conv => whnf
    refine ⟨_, ⟨by omega, ga⟩, ?_⟩
    conv => whnf
    refine split_of (fun hx => by simp at hx) (fun hx => ?_)
    have w1 : IntKind.i64.wrap ((i : Int) + 1) = ((i + 1 : Nat) : Int) := wrap_nat (by omega)
    conv => whnf
    exact ⟨i + 1, ⟨rfl, rfl, congrArg _ w1, trivial⟩, ⟨_, St.leW_refl _, rfl, by omega⟩, by show v.ops.length - (i + 1) < v.ops.length - i; omega⟩
  · conv => whnf
    refine hK _ _ ?_
    clear hK hQ K
    conv => whnf
    refine ⟨⟨Nat, fun i => [(2, .ref b2 0), (3, .ref b3 0), (6, .int .i64 (i : Int))], fun i S' => S' = (S.upd b2 (.obj 54 (stepR v))).upd b3 (.obj 54 (stepR v)) ∧ i ≤ v.lits.length, fun i => v.lits.length - i⟩,
      ⟨0, ⟨rfl, rfl, rfl, trivial⟩, _, St.leW_refl _, rfl, by omega⟩, ?_⟩
    rintro (i : Nat) S' ⟨rfl, hi⟩
    conv => whnf
    refine ⟨_, _, q2, ?_⟩
    conv => whnf
    intro _
    conv => whnf
    refine split_of (fun hlt => ?_) (fun hlt => ?_)
    · have hlt : i < v.lits.length := by have := of_decide_eq_true hlt; rw [rowsI_len] at this; omega
      have ga : (rowsI v.lits)[(i : Int).toNat]? = some [.int .i64 v.lits[i]] := by simp [rowsI, hlt]
      conv => whnf
      refine ⟨[], (.free 0 (.free 1 (.free 2 (.free 3 (.free 4 (.free 5 (.free 6 (.free 7 (.free 8 (.free 9 (.free 10 .done))))))))))), _, by decide +kernel, ?_, fun _ _ h => ⟨_, .inl rfl, h⟩⟩
      conv => whnf
      refine ⟨_, _, q2, ?_⟩
      conv => whnf
      refine ⟨_, ⟨by omega, ga⟩, ?_⟩
      conv => whnf
      refine ⟨_, _, q3, ?_⟩
      conv => whnf
      refine ⟨_, ⟨by omega, ga⟩, ?_⟩
      conv => whnf
      refine split_of (fun hx => by simp at hx) (fun hx => ?_)
      have w1 : IntKind.i64.wrap ((i : Int) + 1) = ((i + 1 : Nat) : Int) := wrap_nat (by omega)
      conv => whnf
      exact ⟨i + 1, ⟨rfl, rfl, congrArg _ w1, trivial⟩, ⟨_, St.leW_refl _, rfl, by omega⟩, by show v.lits.length - (i + 1) < v.lits.length - i; omega⟩
    · conv => whnf
      exact ⟨_, _, ⟨rfl, rfl⟩, hle, AV.leS_refl _ _ _⟩
end Go.Proofs.YtcpdgnkhkdddhaaGreatDoor.Aw
