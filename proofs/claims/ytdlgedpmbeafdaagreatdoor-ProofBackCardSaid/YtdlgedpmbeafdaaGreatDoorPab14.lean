/-
  Plain: the words of a text that joins words by blanks.
  Plain: a literal that is read is written as it stood; the words that are read are of plain bytes.
  Plain: what a parsed line's parts say of its words.
  Plain: a parsed line's text is its words joined by blanks.
  Plain: a line that parses is written so that it parses again, to the same step.
  hallmarklaw8.ProofAgain, walked: it answers true.
-/
import Derived.Test.YtdlgedpmbeafdaaGreatDoorPab13
set_option maxRecDepth 100000
set_option linter.unusedVariables false
set_option linter.unusedSimpArgs false
namespace Go.Proofs.YtdlgedpmbeafdaaGreatDoor.Aw
open Go Go.RowKit

def GoodB (c : UInt8) : Prop := 33 ≤ c.toNat ∧ c.toNat ≤ 126
def GoodL (w : List UInt8) : Prop := w ≠ [] ∧ ∀ c ∈ w, GoodB c
theorem dec_at {s : ByteArray} {pre r : List UInt8} {c : UInt8} (h : s.data.toList = pre ++ c :: r) (hc : c.toNat < 128) : pre.length < s.size ∧ Utf8.decode s pre.length = (c.toNat, 1) := by
  have hl : s.size = s.data.toList.length := by simp
  have hp : pre.length < s.size := by rw [hl, h]; simp
  have hg : s[pre.length]'hp = c := by
    have h1 : s.data.toList[pre.length]? = some c := by rw [h]; simp
    have h2 : s[pre.length]'hp = s.data.toList[pre.length]'(by rw [← hl]; exact hp) := by simp [ByteArray.getElem_eq_getElem_data]
    rw [h2]
    rw [List.getElem?_eq_getElem (by rw [← hl]; exact hp)] at h1
    exact Option.some.inj h1
  refine ⟨hp, ?_⟩
  rw [decode_ascii s pre.length hp (by rw [hg]; exact hc), hg]
theorem good_blank {c : UInt8} (h : GoodB c) : blankR c.toNat = false := by
  unfold GoodB at h
  simp [blankR]
  omega
theorem spans_run {s : ByteArray} (a f : Nat) (acc : List (Nat × Nat)) : ∀ (w pre r : List UInt8), s.data.toList = pre ++ (w ++ r) → (∀ c ∈ w, GoodB c) →
    Lib.spansFromP blankR s (f + w.length) pre.length (some a) acc = Lib.spansFromP blankR s f (pre.length + w.length) (some a) acc
  | [], pre, r, _, _ => rfl
  | c :: w, pre, r, h, hw => by
    have hc := hw c (by simp)
    obtain ⟨hp, hd⟩ := dec_at (r := w ++ r) (c := c) (by simpa using h) (by unfold GoodB at hc; omega)
    have ih := spans_run a f acc w (pre ++ [c]) r (by simpa using h) (fun d hd => hw d (by simp [hd]))
    have e1 : f + (c :: w).length = (f + w.length) + 1 := by simp; omega
    rw [e1]
    conv => lhs; unfold Lib.spansFromP
    rw [if_pos hp, hd]
    simp only [good_blank hc, Bool.false_eq_true, if_false]
    rw [show pre.length + 1 = (pre ++ [c]).length by simp, ih]
    congr 1
    simp; omega
theorem join_len_cons (w x : List UInt8) (ws : List (List UInt8)) : (Lib.join (w :: x :: ws) [32]) = w ++ 32 :: Lib.join (x :: ws) [32] := by
  simp [Lib.join, List.intercalate]
theorem fields_join {s : ByteArray} : ∀ (ws : List (List UInt8)) (pre : List UInt8) (f : Nat) (acc : List (Nat × Nat)), (∀ w ∈ ws, GoodL w) → s.data.toList = pre ++ Lib.join ws [32] → (Lib.join ws [32]).length ≤ f →
    (Lib.closeSpans s (Lib.spansFromP blankR s f pre.length none acc)).map (fun x => (s.extract x.1 x.2).data.toList) = acc.map (fun x => (s.extract x.1 x.2).data.toList) ++ ws
  | [], pre, f, acc, _, h, _ => by
    have hl : s.size = pre.length := by
      have : s.size = s.data.toList.length := by simp
      rw [this, h]; simp [Lib.join_nil]
    rw [Lib.spansFromP_end _ _ _ _ _ _ (by omega)]
    simp [Lib.closeSpans]
  | w :: ws, pre, f, acc, hg, h, hf => by
    obtain ⟨hne, hw⟩ := hg w (by simp)
    obtain ⟨c, cs, rfl⟩ := List.exists_cons_of_ne_nil hne
    have hsz : s.size = s.data.toList.length := by simp
    obtain ⟨tl, htl⟩ : ∃ tl, Lib.join ((c :: cs) :: ws) [32] = (c :: cs) ++ tl ∧ ((ws = [] ∧ tl = []) ∨ ∃ x xs, ws = x :: xs ∧ tl = 32 :: Lib.join (x :: xs) [32]) := by
      cases ws with
      | nil => exact ⟨[], by simp [Lib.join_one], .inl ⟨rfl, rfl⟩⟩
      | cons x xs => exact ⟨_, join_len_cons _ _ _, .inr ⟨x, xs, rfl, rfl⟩⟩
    obtain ⟨hj, hcase⟩ := htl
    rw [hj] at h hf
    have hc := hw c (by simp)
    obtain ⟨hp, hd⟩ := dec_at (r := cs ++ tl) (c := c) (by simpa using h) (by unfold GoodB at hc; omega)
    obtain ⟨g, rfl⟩ : ∃ g, f = g + cs.length + 1 := ⟨f - cs.length - 1, by simp at hf; omega⟩
    have hrun := spans_run (s := s) pre.length g acc cs (pre ++ [c]) tl (by simpa using h) (fun d hd => hw d (by simp [hd]))
    have e0 : Lib.spansFromP blankR s (g + cs.length + 1) pre.length none acc = Lib.spansFromP blankR s g ((pre ++ [c]).length + cs.length) (some pre.length) acc := by
      rw [← hrun]
      conv => lhs; unfold Lib.spansFromP
      rw [if_pos hp, hd]
      simp only [good_blank hc, Bool.false_eq_true, if_false]
      rw [show pre.length + 1 = (pre ++ [c]).length by simp]
    rw [e0]
    have e1 : (pre ++ [c]).length + cs.length = (pre ++ c :: cs).length := by simp; omega
    rw [e1]
    rcases hcase with ⟨rfl, rfl⟩ | ⟨x, xs, rfl, rfl⟩
    · have hend : s.size = (pre ++ c :: cs).length := by rw [hsz, h]; simp
      rw [Lib.spansFromP_end _ _ _ _ _ _ (by omega)]
      simp only [Lib.closeSpans, List.map_append, List.map_cons, List.map_nil]
      rw [Lib.extract_data, h, hend]
      simp
    · obtain ⟨hp2, hd2⟩ := dec_at (s := s) (pre := pre ++ c :: cs) (r := Lib.join (x :: xs) [32]) (c := 32) (by rw [h]; simp) (by decide)
      obtain ⟨g2, rfl⟩ : ∃ g2, g = g2 + 1 := ⟨g - 1, by simp at hf; omega⟩
      conv => lhs; unfold Lib.spansFromP
      rw [if_pos hp2, hd2]
      have hb : blankR (32 : UInt8).toNat = true := rfl
      simp only [hb, if_true]
      have ih := fields_join (s := s) (x :: xs) (pre ++ c :: cs ++ [32]) g2 (acc ++ [(pre.length, (pre ++ c :: cs).length)]) (fun w hw => hg w (by simp only [List.mem_cons] at hw ⊢; exact .inr hw)) (by rw [h]; simp) (by simp at hf ⊢; omega)
      rw [show (pre ++ c :: cs).length + 1 = (pre ++ c :: cs ++ [32]).length by simp only [List.length_append, List.length_cons, List.length_nil], ih]
      simp only [List.map_append, List.map_cons, List.map_nil, List.append_assoc]
      rw [Lib.extract_data, h]
      simp
theorem wordsL_join (ws : List ByteArray) (h : ∀ w ∈ ws, GoodL w.data.toList) : wordsL (joinS ws spaceS) = ws := by
  apply maps_inj
  unfold wordsL Lib.goFieldsP Lib.spansOfP
  have := fields_join (s := joinS ws spaceS) (ws.map (·.data.toList)) [] (joinS ws spaceS).size [] (fun w hw => by
    obtain ⟨y, hy, rfl⟩ := List.mem_map.1 hw
    exact h y hy) (by simp [joinS]; rfl) (by simp [joinS, ByteArray.size]; exact Nat.le_refl _)
  rw [List.map_map]
  exact this
end Go.Proofs.YtdlgedpmbeafdaaGreatDoor.Aw

set_option maxRecDepth 100000
set_option linter.unusedVariables false
set_option linter.unusedSimpArgs false
namespace Go.Proofs.YtdlgedpmbeafdaaGreatDoor.Aw
open Go Go.RowKit

theorem decV_pos : ∀ (d : List UInt8) (c : UInt8), digitB c = true → c ≠ 48 → 1 ≤ decV (c :: d) := by
  intro d c hc h0
  have h1 : c.toNat ≠ 48 := fun e => h0 (UInt8.toNat_inj.1 (by rw [e]; rfl))
  unfold digitB at hc
  simp at hc
  have key : ∀ (l : List UInt8) (n : Nat), 1 ≤ n → 1 ≤ l.foldl (fun n c => 10 * n + (c.toNat - 48)) n := by
    intro l
    induction l with
    | nil => intro n hn; exact hn
    | cons x l ih => intro n hn; exact ih (10 * n + (x.toNat - 48)) (by omega)
  unfold decV
  exact key d (10 * 0 + (c.toNat - 48)) (by omega)
theorem digit_back {c : UInt8} (h : digitB c = true) : UInt8.ofNat (48 + (c.toNat - 48)) = c := by
  unfold digitB at h
  simp at h
  rw [show 48 + (c.toNat - 48) = c.toNat by omega]
  exact UInt8.ofNat_toNat
/-- A numeral with no zero ahead is how its number is written. -/
theorem decDigits_decV : ∀ (n : Nat) (d : List UInt8), d.length = n → d ≠ [] → (∀ c ∈ d, digitB c = true) → d.head? ≠ some 48 ∨ d = [48] → Lib.decDigits (decV d) = d
  | 0, d, hn, hne, _, _ => absurd (List.eq_nil_of_length_eq_zero hn) hne
  | n + 1, d, hn, hne, hd, hh => by
    obtain ⟨d, c, rfl⟩ : ∃ i c, d = i ++ [c] := ⟨d.dropLast, d.getLast hne, (List.dropLast_concat_getLast hne).symm⟩
    have hc := hd c (by simp)
    have hcb := hc
    unfold digitB at hcb
    simp at hcb
    rw [decV_snoc]
    by_cases he : d = []
    · subst he
      rw [Lib.decDigits, dif_pos (by simp [decV]; omega)]
      simp only [decV, List.foldl_nil, List.nil_append, Nat.mul_zero, Nat.zero_add]
      rw [digit_back hc]
    · obtain ⟨x, xs, rfl⟩ := List.exists_cons_of_ne_nil he
      have hh' : (x :: xs).head? ≠ some 48 := by
        rcases hh with h | h
        · simpa using h
        · simp at h
      have hx : x ≠ 48 := fun e => hh' (by rw [e]; rfl)
      have hp := decV_pos xs x (hd x (by simp)) hx
      have ih := decDigits_decV n (x :: xs) (by simpa using hn) (by simp) (fun y hy => hd y (List.mem_append_left _ hy)) (.inl hh')
      rw [Lib.decDigits, dif_neg (by omega), show (10 * decV (x :: xs) + (c.toNat - 48)) / 10 = decV (x :: xs) by omega, show (10 * decV (x :: xs) + (c.toNat - 48)) % 10 = c.toNat - 48 by omega,
        ih, digit_back hc]
/-! ### A number too great for Small's short way -/
theorem parseUint10_ge : ∀ (l : List UInt8) (acc u : Nat), Lib.parseUint10 acc l = .ok u → acc * 10 ^ l.length ≤ u
  | [], acc, u, h => by
    simp only [Lib.parseUint10, Lib.NumEnd.ok.injEq] at h
    simp [h]
  | c :: r, acc, u, h => by
    simp only [Lib.parseUint10] at h
    split at h
    · split at h
      · cases h
      · split at h
        · cases h
        · have := parseUint10_ge r _ u h
          rw [List.length_cons, Nat.pow_succ]
          have h2 : acc * 10 * 10 ^ r.length ≤ (acc * 10 + (c.toNat - 48)) * 10 ^ r.length := Nat.mul_le_mul_right _ (by omega)
          have h3 : acc * (10 ^ r.length * 10) = acc * 10 * 10 ^ r.length := by rw [Nat.mul_comm (10 ^ r.length) 10, Nat.mul_assoc]
          omega
    · cases h
theorem decDigits_head (u : Nat) (h : 1 ≤ u) : ∃ c r, Lib.decDigits u = c :: r ∧ 49 ≤ c.toNat ∧ c.toNat ≤ 57 := by
  induction u using Nat.strongRecOn with
  | _ u ih =>
    rw [Lib.decDigits]
    by_cases h10 : u < 10
    · rw [dif_pos h10]
      refine ⟨_, _, rfl, ?_, ?_⟩
      · have : (UInt8.ofNat (48 + u)).toNat = 48 + u := by simp; omega
        omega
      · have : (UInt8.ofNat (48 + u)).toNat = 48 + u := by simp; omega
        omega
    · rw [dif_neg h10]
      obtain ⟨c, r, e, h1, h2⟩ := ih (u / 10) (by omega) (by omega)
      exact ⟨c, r ++ [UInt8.ofNat (48 + u % 10)], by rw [e]; rfl, h1, h2⟩
theorem atoi_far {c : UInt8} {r : List UInt8} {v : Int} (h1 : 49 ≤ c.toNat) (h2 : c.toNat ≤ 57) (hr : 18 ≤ r.length) (h : Lib.atoiAll (c :: r) = .ok v) : 1073741824 < v := by
  have hn : ¬ (c.toNat = 43 ∨ c.toNat = 45) := by omega
  have hn2 : ¬ c.toNat = 45 := by omega
  unfold Lib.atoiAll at h
  simp only [if_neg hn] at h
  split at h
  · cases h
  · cases h
  · rename_i u hu
    simp only [hn2, not_false_eq_true, true_and, false_and, if_false] at h
    split at h
    · cases h
    · simp only [Lib.NumEnd.ok.injEq] at h
      unfold Lib.parseMag at hu
      rw [if_neg (by simp)] at hu
      simp only [Lib.parseUint10] at hu
      rw [if_pos (by omega)] at hu
      split at hu
      · cases hu
      · split at hu
        · cases hu
        · have := parseUint10_ge r _ u hu
          have hp : 10 ^ 18 ≤ 10 ^ r.length := Nat.pow_le_pow_right (by omega) hr
          have h3 : 1 * 10 ^ r.length ≤ (0 * 10 + (c.toNat - 48)) * 10 ^ r.length := Nat.mul_le_mul_right _ (by omega)
          have h4 : (10 : Nat) ^ 18 = 1000000000000000000 := by decide
          omega
theorem atoi_neg {r : List UInt8} {v : Int} (h : Lib.atoiAll (45 :: r) = .ok v) : v ≤ 0 := by
  unfold Lib.atoiAll at h
  simp only at h
  split at h
  · cases h
  · cases h
  · rename_i u hu
    split at h
    · cases h
    · split at h
      · cases h
      · simp only [Lib.NumEnd.ok.injEq] at h
        rw [if_pos (by decide)] at h
        omega
theorem textK_pre (l : List Nat) (pre : List UInt8) : ∀ k, ∃ t, textK l pre k = pre ++ t
  | 0 => ⟨[], by simp [textK]⟩
  | k + 1 => by
    obtain ⟨t, ht⟩ := textK_pre l pre k
    exact ⟨t ++ _, by rw [textK, ht, List.append_assoc]⟩
theorem small_far {z : Int} (hz : ¬ near z) (h2 : (smallV z).2 = true) (h1 : 1 ≤ (smallV z).1) : 1073741824 < (smallV z).1 := by
  unfold smallV at h1 h2 ⊢
  rw [if_neg hz] at h1 h2 ⊢
  by_cases h3 : 3 < (limbs z.natAbs).length
  · rw [if_pos h3] at h2; cases h2
  · rw [if_neg h3] at h1 h2 ⊢
    by_cases hneg : z < 0
    · obtain ⟨t, ht⟩ := textK_pre (limbs z.natAbs) [45] (limbs z.natAbs).length
      have e : textF (decide (z < 0)) (limbs z.natAbs) = 45 :: t := by
        unfold textF
        rw [if_pos (by simpa using hneg), ht]; rfl
      rw [e] at h1 h2 ⊢
      cases ha : Lib.atoiAll (45 :: t) with
      | ok v =>
        rw [ha] at h1
        have := atoi_neg ha
        dsimp only at h1
        omega
      | range => rw [ha] at h2; cases h2
      | _ => rw [ha] at h2; cases h2
    · have hbig : 1000000000000000000 ≤ z.natAbs := by unfold near at hz; omega
      have hv := valL_limbs z.natAbs
      have hlt := limbs_lt z.natAbs
      have e : decide (z < 0) = false := by simpa using hneg
      rw [e] at h1 h2 ⊢
      generalize limbs z.natAbs = l at *
      match l, h3, hv, hlt with
      | [], _, hv, _ => simp [valL] at hv; omega
      | [a], _, hv, hlt =>
        have := hlt a (by simp)
        simp [valL] at hv; omega
      | [a, b], _, hv, hlt =>
        have := hlt a (by simp)
        have := hlt b (by simp)
        simp [valL] at hv; omega
      | [a, b, c], _, hv, hlt =>
        have ha := hlt a (by simp)
        have hb := hlt b (by simp)
        have hc : 1 ≤ c := by simp [valL] at hv; omega
        obtain ⟨d, r, hd, d1, d2⟩ := decDigits_head c hc
        have et : textF false [a, b, c] = d :: (r ++ ((Lib.repeatL [48] (9 - (Lib.itoa (b : Int)).length) ++ Lib.itoa (b : Int)) ++ (Lib.repeatL [48] (9 - (Lib.itoa (a : Int)).length) ++ Lib.itoa (a : Int)))) := by
          unfold textF
          simp only [textK, List.length_cons, List.length_nil, Nat.zero_add, List.getD_cons_succ, List.getD_cons_zero, Bool.false_eq_true, if_false, if_true, List.nil_append, List.append_assoc]
          rw [show Lib.itoa ((c : Nat) : Int) = d :: r from by rw [Lib.itoa_nonneg, hd]]
          simp
        rw [et] at h1 h2 ⊢
        have hlen : 18 ≤ (r ++ ((Lib.repeatL [48] (9 - (Lib.itoa (b : Int)).length) ++ Lib.itoa (b : Int)) ++ (Lib.repeatL [48] (9 - (Lib.itoa (a : Int)).length) ++ Lib.itoa (a : Int)))).length := by
          simp only [List.length_append, Lib.repeatL_length, List.length_singleton, Nat.mul_one]
          omega
        generalize (r ++ ((Lib.repeatL [48] (9 - (Lib.itoa (b : Int)).length) ++ Lib.itoa (b : Int)) ++ (Lib.repeatL [48] (9 - (Lib.itoa (a : Int)).length) ++ Lib.itoa (a : Int)))) = rr at *
        cases hat : Lib.atoiAll (d :: rr) with
        | ok v => exact atoi_far d1 d2 hlen hat
        | range => rw [hat] at h2; cases h2
        | _ => rw [hat] at h2; cases h2
      | a :: b :: c :: d :: l, h3, _, _ => simp at h3
/-! ### Literals -/
theorem hasPrefix_one {l : List UInt8} {c : UInt8} (h : Lib.hasPrefix l [c] = true) : ∃ r, l = c :: r ∧ Lib.trimPrefix l [c] = r := by
  cases l with
  | nil => simp [Lib.hasPrefix, List.isPrefixOf] at h
  | cons d r =>
    have : d = c := by
      simp [Lib.hasPrefix, List.isPrefixOf] at h
      exact h.symm
    subst this
    exact ⟨r, rfl, by unfold Lib.trimPrefix; rw [if_pos h]; rfl⟩
theorem trimPrefix_no {l p : List UInt8} (h : Lib.hasPrefix l p = false) : Lib.trimPrefix l p = l := by
  unfold Lib.trimPrefix
  rw [if_neg (by rw [h]; decide)]
theorem digitB_good {c : UInt8} (h : digitB c = true) : GoodB c := by
  unfold digitB at h
  simp at h
  unfold GoodB
  omega
theorem parseI_good {l : List UInt8} (h : (parseI l).isSome = true) : GoodL l := by
  unfold parseI at h
  dsimp only at h
  split at h
  · cases h
  · rename_i hn
    have h1 : Lib.trimPrefix l [45] ≠ [] := fun e => hn (.inl e)
    have h2 : (Lib.trimPrefix l [45]).all digitB = true := by
      cases hb : (Lib.trimPrefix l [45]).all digitB
      · exact absurd (.inr (.inr hb)) hn
      · rfl
    cases hp : Lib.hasPrefix l [45] with
    | true =>
      obtain ⟨r, rfl, hr⟩ := hasPrefix_one hp
      rw [hr] at h1 h2
      refine ⟨by simp, fun c hc => ?_⟩
      rcases List.mem_cons.1 hc with rfl | hc
      · unfold GoodB; decide
      · exact digitB_good (List.all_eq_true.1 h2 c hc)
    | false =>
      rw [trimPrefix_no hp] at h1 h2
      exact ⟨h1, fun c hc => digitB_good (List.all_eq_true.1 h2 c hc)⟩
theorem isNumV_good {l : List UInt8} {low : Int} (h : isNumV l low = true) : GoodL l := by
  unfold isNumV at h
  simp only [Bool.and_eq_true] at h
  exact parseI_good h.1
/-- The text of a size that is no zero. -/
theorem parseI_pos {l : List UInt8} {z : Int} (h : parseI l = some z) (hz : 1 ≤ z) : l = Lib.itoa z := by
  unfold parseI at h
  dsimp only at h
  split at h
  · cases h
  · rename_i hn
    have h1 : Lib.trimPrefix l [45] ≠ [] := fun e => hn (.inl e)
    have h2 : (Lib.trimPrefix l [45]).all digitB = true := by
      cases hb : (Lib.trimPrefix l [45]).all digitB
      · exact absurd (.inr (.inr hb)) hn
      · rfl
    cases hp : Lib.hasPrefix l [45] with
    | true =>
      rw [hp] at h
      simp only [if_true, Option.some.injEq] at h
      omega
    | false =>
      rw [hp] at h
      rw [trimPrefix_no hp] at h h1 h2 hn
      simp only [Bool.false_eq_true, if_false, Option.some.injEq] at h
      have h3 : l.head? ≠ some 48 ∨ l = [48] := by
        by_cases hl : l = [48]
        · exact .inr hl
        · exact .inl fun e => hn (.inr (.inl ⟨e, hl⟩))
      rw [← h, Lib.itoa_nonneg, decDigits_decV _ l rfl h1 (List.all_eq_true.1 h2) h3]
theorem litV_back (w : ByteArray) (h : litV w.data.toList ≠ 0) : litT (litV w.data.toList) = w ∧ GoodL w.data.toList ∧ -1073741824 ≤ litV w.data.toList ∧ litV w.data.toList ≤ 1073741824 := by
  generalize hw : w.data.toList = l at *
  unfold litV at h
  dsimp only at h
  split at h
  · exact absurd rfl h
  · rename_i hn
    have a1 : Lib.hasPrefix (Lib.trimPrefix l [126]) [120] = true := by
      cases hb : Lib.hasPrefix (Lib.trimPrefix l [126]) [120]
      · exact absurd (.inl hb) hn
      · rfl
    have a2 : (parseI (Lib.trimPrefix (Lib.trimPrefix l [126]) [120])).isSome = true := by
      cases hb : (parseI (Lib.trimPrefix (Lib.trimPrefix l [126]) [120])).isSome
      · exact absurd (.inr (.inl hb)) hn
      · rfl
    obtain ⟨d, hd1, hd2⟩ := hasPrefix_one a1
    rw [hd2] at a2
    obtain ⟨z, hz⟩ := Option.isSome_iff_exists.1 a2
    have hl : litV l = if Lib.hasPrefix l [126] then -(smallV z).1 else (smallV z).1 := by
      unfold litV
      dsimp only
      rw [if_neg hn, hd2, hz]; rfl
    rw [hd2, hz] at hn
    simp only [Option.getD_some] at hn
    have a3 : (smallV z).2 = true := by
      cases hb : (smallV z).2
      · exact absurd (.inr (.inr (.inl hb))) hn
      · rfl
    have a4 : ¬ (smallV z).1 < 1 := fun hb => hn (.inr (.inr (.inr (.inl hb))))
    have a5 : ¬ 1073741824 < (smallV z).1 := fun hb => hn (.inr (.inr (.inr (.inr hb))))
    have hnear : near z := by
      by_cases hq : near z
      · exact hq
      · exact absurd (small_far hq a3 (by omega)) a5
    have hs : (smallV z).1 = z := by unfold smallV; rw [if_pos hnear]
    rw [hs] at a4 a5 hl
    have hdz := parseI_pos hz (by omega)
    have hgd := parseI_good (l := d) (by rw [hz]; rfl)
    cases hp : Lib.hasPrefix l [126] with
    | true =>
      obtain ⟨r, rfl, hr⟩ := hasPrefix_one hp
      rw [hr] at hd1
      subst hd1
      rw [hl, hp]
      simp only [if_true]
      refine ⟨?_, ⟨by simp, fun c hc => ?_⟩, by omega, by omega⟩
      · apply bytes_inj
        rw [hw]
        unfold litT
        rw [if_pos (by omega), show IntKind.i64.wrap (0 - -z) = z by rw [show 0 - -z = z by omega]; exact wrap_i64 (by omega) (by omega)]
        simp [itoaS, hdz]
      · rcases List.mem_cons.1 hc with rfl | hc
        · unfold GoodB; decide
        · rcases List.mem_cons.1 hc with rfl | hc
          · unfold GoodB; decide
          · exact hgd.2 c hc
    | false =>
      rw [trimPrefix_no hp] at hd1
      subst hd1
      rw [hl, hp]
      simp only [Bool.false_eq_true, if_false]
      refine ⟨?_, ⟨by simp, fun c hc => ?_⟩, by omega, by omega⟩
      · apply bytes_inj
        rw [hw]
        unfold litT
        rw [if_neg (by omega)]
        simp [itoaS, hdz]
      · rcases List.mem_cons.1 hc with rfl | hc
        · unfold GoodB; decide
        · exact hgd.2 c hc
end Go.Proofs.YtdlgedpmbeafdaaGreatDoor.Aw

set_option maxRecDepth 100000
set_option linter.unusedVariables false
set_option linter.unusedSimpArgs false
namespace Go.Proofs.YtdlgedpmbeafdaaGreatDoor.Aw
open Go Go.RowKit

def J (ws : List ByteArray) : ByteArray := joinS ws spaceS
theorem J_data (ws : List ByteArray) : (J ws).data.toList = Lib.join (ws.map (·.data.toList)) [32] := by simp [J, joinS]; rfl
theorem J_one (w : ByteArray) : J [w] = w := by
  apply bytes_inj
  rw [J_data]
  simp [Lib.join_one]
theorem joinTail_app (sep : List UInt8) (a b : List (List UInt8)) : Lib.joinTail sep (a ++ b) = Lib.joinTail sep a ++ Lib.joinTail sep b := by simp [Lib.joinTail]
theorem joinTail_flat (sep : List UInt8) : ∀ lls : List (List (List UInt8)), (∀ l ∈ lls, l ≠ []) → Lib.joinTail sep (lls.map (Lib.join · sep)) = Lib.joinTail sep lls.flatten
  | [], _ => rfl
  | l :: lls, h => by
    have ih := joinTail_flat sep lls fun x hx => h x (by simp [hx])
    obtain ⟨x, r, rfl⟩ := List.exists_cons_of_ne_nil (h l (by simp))
    rw [List.flatten_cons, joinTail_app, ← ih]
    simp [Lib.joinTail, Lib.join_cons]
theorem join_flat (sep : List UInt8) (lls : List (List (List UInt8))) (h : ∀ l ∈ lls, l ≠ []) : Lib.join (lls.map (Lib.join · sep)) sep = Lib.join lls.flatten sep := by
  cases lls with
  | nil => rfl
  | cons l lls =>
    obtain ⟨x, r, rfl⟩ := List.exists_cons_of_ne_nil (h l (by simp))
    rw [List.map_cons, Lib.join_cons, joinTail_flat sep lls fun y hy => h y (by simp [hy]), List.flatten_cons, List.cons_append, Lib.join_cons x r, Lib.join_cons x (r ++ lls.flatten), joinTail_app, List.append_assoc]
theorem J_flat (lls : List (List ByteArray)) (h : ∀ l ∈ lls, l ≠ []) : J (lls.map J) = J lls.flatten := by
  apply bytes_inj
  rw [J_data, J_data]
  have e1 : (lls.map J).map (·.data.toList) = (lls.map (fun l => l.map (·.data.toList))).map (Lib.join · [32]) := by
    rw [List.map_map, List.map_map]
    apply List.map_congr_left
    intro l _
    exact J_data l
  rw [e1, join_flat [32] _ (fun l hl => by
    obtain ⟨y, hy, rfl⟩ := List.mem_map.1 hl
    simpa using h y hy), List.map_flatten]
abbrev GoodW (w : ByteArray) : Prop := GoodL w.data.toList
instance (c : UInt8) : Decidable (GoodB c) := inferInstanceAs (Decidable (_ ∧ _))
theorem good_of (w : ByteArray) (h : (decide (w.data.toList ≠ []) && w.data.toList.all fun c => decide (GoodB c)) = true) : GoodW w := by
  simp only [Bool.and_eq_true, decide_eq_true_eq, List.all_eq_true] at h
  exact h
/-! ### Numbers, ids, literals -/
theorem numG_inv {low : Int} {l rest : List ByteArray} {x : ByteArray} (h : numG low l = (x, 0, rest)) : l = x :: rest ∧ GoodW x := by
  cases l with
  | nil => simp [numG] at h
  | cons w l =>
    simp only [numG] at h
    split at h
    · rename_i hw
      simp only [Prod.mk.injEq, true_and] at h
      obtain ⟨rfl, rfl⟩ := h
      exact ⟨rfl, isNumV_good hw⟩
    · simp at h
theorem exactG_inv : ∀ {l xs rest : List ByteArray}, exactG l xs = (rest, 0) → l = xs ++ rest
  | l, [], rest, h => by
    cases l <;> simpa [exactG] using h
  | [], x :: xs, rest, h => by simp [exactG] at h
  | w :: l, x :: xs, rest, h => by
    unfold exactG at h
    split at h
    · rename_i hw
      rw [hw, exactG_inv h]; rfl
    · simp at h
theorem idsG_inv : ∀ {ws ids ids' rest : List ByteArray}, idsG ws ids = (ids', 0, rest) → rest = [] ∧ ids' = ids ++ ws ∧ ∀ w ∈ ws, GoodW w
  | [], ids, ids', rest, h => by
    simp [idsG] at h
    simp [h.1, h.2]
  | w :: l, ids, ids', rest, h => by
    unfold idsG at h
    split at h
    · rename_i hw
      obtain ⟨h1, h2, h3⟩ := idsG_inv h
      refine ⟨h1, by rw [h2]; simp, fun x hx => ?_⟩
      rcases List.mem_cons.1 hx with rfl | hx
      · exact isNumV_good hw
      · exact h3 x hx
    · simp at h
theorem litsG_inv : ∀ {ws : List ByteArray} {ls ls' : List Int} {rest : List ByteArray}, litsG ws ls = (ls', 0, rest) → rest = [] ∧ ∃ q, ls' = ls ++ q ∧ litsT q = ws ∧ (∀ w ∈ ws, GoodW w) ∧ ∀ z ∈ q, okI z
  | [], ls, ls', rest, h => by
    simp [litsG] at h
    exact ⟨h.2, [], by simp [h.1], rfl, by simp, by simp⟩
  | w :: l, ls, ls', rest, h => by
    unfold litsG at h
    split at h
    · simp at h
    · rename_i hw
      obtain ⟨h1, q, h2, h3, h4, h5⟩ := litsG_inv h
      obtain ⟨b1, b2, b3, b4⟩ := litV_back w hw
      refine ⟨h1, litV w.data.toList :: q, by rw [h2]; simp, ?_, fun x hx => ?_, fun z hz => ?_⟩
      · simp only [litsT, List.map_cons] at h3 ⊢
        rw [b1, h3]
      · rcases List.mem_cons.1 hx with rfl | hx
        · exact b2
        · exact h4 x hx
      · rcases List.mem_cons.1 hz with rfl | hz
        · unfold okI; omega
        · exact h5 z hz
/-! ### Rows -/
theorem pieceG_inv : ∀ (ws : List ByteArray) (p p' : List (ByteArray × Int)) (rest : List ByteArray), pieceG ws p = (p', 0, rest) →
    ∃ q r, p' = p ++ q ∧ rest = geS :: r ∧ ws = pieceT q ++ rest ∧ (∀ w ∈ pieceT q, GoodW w) ∧ ∀ x ∈ q, okI x.2 ∧ x.1 ∈ ws
  | [], p, p', rest, h => by simp [pieceG] at h
  | [w], p, p', rest, h => by
    unfold pieceG at h
    split at h
    · rename_i hw
      simp only [Prod.mk.injEq, true_and] at h
      exact ⟨[], [], by simp [h.1], by rw [← h.2, hw], by simp [pieceT, h.2], by simp [pieceT], by simp⟩
    · split at h <;> simp at h
  | w :: x :: l, p, p', rest, h => by
    unfold pieceG at h
    split at h
    · rename_i hw
      simp only [Prod.mk.injEq, true_and] at h
      exact ⟨[], x :: l, by simp [h.1], by rw [← h.2, hw], by simp [pieceT, h.2], by simp [pieceT], by simp⟩
    · split at h
      · rename_i hn
        split at h
        · simp at h
        · rename_i hx
          obtain ⟨q, r, h1, h2, h3, h4, h5⟩ := pieceG_inv l _ p' rest h
          obtain ⟨b1, b2, b3, b4⟩ := litV_back x hx
          refine ⟨(w, litV x.data.toList) :: q, r, by rw [h1]; simp, h2, ?_, fun y hy => ?_, fun y hy => ?_⟩
          · simp only [pieceT, List.flatMap_cons, b1] at h3 ⊢
            rw [h3]; rfl
          · simp only [pieceT, List.flatMap_cons, b1, List.cons_append, List.nil_append, List.mem_cons] at hy
            rcases hy with rfl | rfl | hy
            · exact isNumV_good hn
            · exact b2
            · exact h4 y hy
          · rcases List.mem_cons.1 hy with rfl | hy
            · exact ⟨by unfold okI; dsimp only; omega, by simp⟩
            · exact ⟨(h5 y hy).1, by simp [(h5 y hy).2]⟩
      · simp at h
theorem rowG_inv {ws rest : List ByteArray} {v v' : StepV} (h : rowG ws v = (0, rest, v')) : ∃ q b, v' = { v with pieces := v.pieces ++ q, bound := b } ∧ ws = (pieceT q ++ [geS, b, semiS]) ++ rest ∧ (∀ w ∈ pieceT q ++ [geS, b, semiS], GoodW w) ∧ ∀ x ∈ q, okI x.2 ∧ x.1 ∈ ws := by
  unfold rowG at h
  rcases hp : pieceG ws v.pieces with ⟨p', e, rest'⟩
  rw [hp] at h
  dsimp only at h
  split at h
  · rename_i he
    subst he
    obtain ⟨q, r, h1, h2, h3, h4, h5⟩ := pieceG_inv _ _ _ _ hp
    subst h2
    rw [List.tail_cons] at h
    unfold boundG at h
    rcases hn : numG (-1) r with ⟨b, e2, r2⟩
    rw [hn] at h
    dsimp only at h
    split at h
    · rename_i he2
      subst he2
      obtain ⟨n1, n2⟩ := numG_inv hn
      rcases hx : exactG r2 [semiS] with ⟨r3, e3⟩
      rw [hx] at h
      simp only [Prod.mk.injEq] at h
      obtain ⟨rfl, rfl, rfl⟩ := h
      have hx' := exactG_inv hx
      refine ⟨q, b, by rw [h1], by rw [h3, n1, hx']; simp, fun w hw => ?_, h5⟩
      simp only [List.mem_append, List.mem_cons, List.not_mem_nil, or_false] at hw
      rcases hw with hw | rfl | rfl | rfl
      · exact h4 w hw
      · exact good_of _ (by decide)
      · exact n2
      · exact good_of _ (by decide)
    · rename_i he2
      simp only [Prod.mk.injEq] at h
      exact absurd h.1 he2
  · rename_i he
    simp only [Prod.mk.injEq] at h
    exact absurd h.1 he
/-! ### Operations -/
def starS : ByteArray := ⟨#[42]⟩
def dS : ByteArray := ⟨#[100]⟩
def wS : ByteArray := ⟨#[119]⟩
def opW (o : OpV) : List ByteArray :=
  if o.1 = 1 then [o.2.1] else if o.1 = 2 then [litT o.2.2] else if o.1 = 3 then [plusS] else if o.1 = 4 then [o.2.1, starS] else if o.1 = 5 then [o.2.1, dS] else if o.1 = 6 then [sS] else if o.1 = 7 then [litT o.2.2, wS] else [⟨#[]⟩]
theorem opW_ne (o : OpV) : opW o ≠ [] := by
  unfold opW
  repeat' split
  all_goals simp
theorem J_two (a b : ByteArray) : J [a, b] = a ++ ((⟨#[32]⟩ : ByteArray) ++ b) := by
  apply bytes_inj
  rw [J_data]
  simp [Lib.join, List.intercalate]
theorem opT_J (o : OpV) : opT o = J (opW o) := by
  unfold opT opW
  repeat' split
  all_goals first
    | rw [J_one]
    | (rw [J_two]; rfl)
    | rfl
  all_goals rfl
theorem behindN_inv {l rest : List ByteArray} {k : Int} (h : behindG tbN l 1 = (k, rest)) : (k = 1 ∧ l = rest) ∨ (k = 4 ∧ l = starS :: rest) ∨ (k = 5 ∧ l = dS :: rest) := by
  cases l with
  | nil => simp [behindG] at h; exact .inl ⟨h.1.symm, h.2.symm⟩
  | cons w l =>
    unfold behindG tbN at h
    simp only [List.find?_cons, List.find?_nil] at h
    by_cases h1 : (⟨#[42]⟩ : ByteArray) = w
    · simp [h1] at h
      exact .inr (.inl ⟨h.1.symm, by rw [← h1, h.2]; rfl⟩)
    · by_cases h2 : (⟨#[100]⟩ : ByteArray) = w
      · simp [h1, h2] at h
        exact .inr (.inr ⟨h.1.symm, by rw [← h2, h.2]; rfl⟩)
      · simp [h1, h2] at h
        exact .inl ⟨h.1.symm, h.2⟩
theorem behindL_inv {l rest : List ByteArray} {k : Int} (h : behindG tbL l 2 = (k, rest)) : (k = 2 ∧ l = rest) ∨ (k = 7 ∧ l = wS :: rest) := by
  cases l with
  | nil => simp [behindG] at h; exact .inl ⟨h.1.symm, h.2.symm⟩
  | cons w l =>
    unfold behindG tbL at h
    simp only [List.find?_cons, List.find?_nil] at h
    by_cases h1 : (⟨#[119]⟩ : ByteArray) = w
    · simp [h1] at h
      exact .inr ⟨h.1.symm, by rw [← h1, h.2]; rfl⟩
    · simp [h1] at h
      exact .inl ⟨h.1.symm, h.2⟩
theorem opG_inv {ws rest : List ByteArray} {o : OpV} (h : opG ws = (o, 0, rest)) : ws = opW o ++ rest ∧ (∀ w ∈ opW o, GoodW w) ∧ okI o.2.2 ∧ (o.2.1 = ByteArray.empty ∨ o.2.1 ∈ ws) := by
  cases ws with
  | nil => simp [opG] at h
  | cons w l =>
    unfold opG at h
    dsimp only at h
    have ok0 : okI 0 := ⟨by decide, by decide⟩
    split at h
    · rename_i hw
      simp only [Prod.mk.injEq, true_and] at h
      obtain ⟨rfl, rfl⟩ := h
      exact ⟨by rw [hw]; rfl, fun x hx => by
        obtain rfl : x = plusS := by simpa [opW] using hx
        exact good_of _ (by decide), ok0, .inl rfl⟩
    split at h
    · rename_i hw
      simp only [Prod.mk.injEq, true_and] at h
      obtain ⟨rfl, rfl⟩ := h
      exact ⟨by rw [hw]; rfl, fun x hx => by
        obtain rfl : x = sS := by simpa [opW] using hx
        exact good_of _ (by decide), ok0, .inl rfl⟩
    split at h
    · rename_i hw
      have hg : GoodW w := isNumV_good hw
      rcases hb : behindG tbN l 1 with ⟨k, r2⟩
      rw [hb] at h
      simp only [Prod.mk.injEq, true_and] at h
      obtain ⟨rfl, rfl⟩ := h
      rcases behindN_inv hb with ⟨k1, k2⟩ | ⟨k1, k2⟩ | ⟨k1, k2⟩
      · rw [k1, k2]
        exact ⟨rfl, fun x hx => by
          obtain rfl : x = w := by simpa [opW] using hx
          exact hg, ok0, .inr (by simp)⟩
      · rw [k1, k2]
        exact ⟨rfl, fun x hx => by
          have : x = w ∨ x = starS := by simpa [opW] using hx
          rcases this with rfl | rfl
          · exact hg
          · exact good_of _ (by decide), ok0, .inr (by simp)⟩
      · rw [k1, k2]
        exact ⟨rfl, fun x hx => by
          have : x = w ∨ x = dS := by simpa [opW] using hx
          rcases this with rfl | rfl
          · exact hg
          · exact good_of _ (by decide), ok0, .inr (by simp)⟩
    split at h
    · simp at h
    split at h
    · rename_i hw
      obtain ⟨b1, b2, b3, b4⟩ := litV_back w (by omega)
      have ok1 : okI (litV w.data.toList) := by unfold okI; omega
      rcases hb : behindG tbL l 2 with ⟨k, r2⟩
      rw [hb] at h
      simp only [Prod.mk.injEq, true_and] at h
      obtain ⟨rfl, rfl⟩ := h
      rcases behindL_inv hb with ⟨k1, k2⟩ | ⟨k1, k2⟩
      · rw [k1, k2]
        exact ⟨by simp [opW, b1], fun x hx => by
          obtain rfl : x = w := by simpa [opW, b1] using hx
          exact b2, ok1, .inl rfl⟩
      · rw [k1, k2]
        exact ⟨by simp [opW, b1], fun x hx => by
          have : x = w ∨ x = wS := by simpa [opW, b1] using hx
          rcases this with rfl | rfl
          · exact b2
          · exact good_of _ (by decide), ok1, .inl rfl⟩
    split at h
    · rename_i hw
      obtain ⟨b1, b2, b3, b4⟩ := litV_back w (by omega)
      have ok1 : okI (litV w.data.toList) := by unfold okI; omega
      simp only [Prod.mk.injEq, true_and] at h
      obtain ⟨rfl, rfl⟩ := h
      exact ⟨by simp [opW, b1], fun x hx => by
        obtain rfl : x = w := by simpa [opW, b1] using hx
        exact b2, ok1, .inl rfl⟩
    · simp at h
theorem polF_inv : ∀ (f : Nat) (ws : List ByteArray) (ops ops' : List OpV), polF f ws ops = (ops', 0, []) →
    ∃ q, ops' = ops ++ q ∧ ws = q.flatMap opW ∧ (∀ w ∈ ws, GoodW w) ∧ ∀ o ∈ q, okI o.2.2 ∧ (o.2.1 = ByteArray.empty ∨ o.2.1 ∈ ws)
  | 0, ws, ops, ops', h => by
    simp only [polF, Prod.mk.injEq, true_and] at h
    obtain ⟨rfl, rfl⟩ := h
    exact ⟨[], by simp, rfl, by simp, by simp⟩
  | f + 1, ws, ops, ops', h => by
    unfold polF at h
    split at h
    · rcases ho : opG ws with ⟨o, e, rest⟩
      rw [ho] at h
      dsimp only at h
      split at h
      · rename_i he
        subst he
        obtain ⟨o1, o2, o3, o4⟩ := opG_inv ho
        obtain ⟨q, h1, h2, h3, h4⟩ := polF_inv f _ _ _ h
        refine ⟨o :: q, by rw [h1]; simp, by rw [o1, h2]; rfl, fun w hw => ?_, fun y hy => ?_⟩
        · rw [o1] at hw
          rcases List.mem_append.1 hw with hw | hw
          · exact o2 w hw
          · exact h3 w hw
        · rcases List.mem_cons.1 hy with rfl | hy
          · exact ⟨o3, o4⟩
          · exact ⟨(h4 y hy).1, (h4 y hy).2.imp id fun hm => by rw [o1]; exact List.mem_append_right _ hm⟩
      · rename_i he
        simp only [Prod.mk.injEq] at h
        exact absurd h.2.1 he
    · simp only [Prod.mk.injEq, true_and] at h
      obtain ⟨rfl, rfl⟩ := h
      exact ⟨[], by simp, rfl, by simp, by simp⟩
/-! ### Conclusions -/
theorem idG_inv {ws rest : List ByteArray} {v v' : StepV} (h : idG ws v = (0, rest, v')) : (v' = v ∧ rest = ws) ∨ ∃ x, ws = colonS :: x :: rest ∧ GoodW x ∧ v' = { v with ids := [x] } := by
  unfold idG at h
  split at h
  · rename_i hc
    obtain ⟨l, rfl⟩ : ∃ l, ws = colonS :: l := by
      cases ws with
      | nil => simp at hc
      | cons a l => exact ⟨l, by simp at hc; rw [hc]⟩
    rw [List.tail_cons] at h
    rcases hn : numG 1 l with ⟨x, e, r⟩
    rw [hn] at h
    dsimp only at h
    split at h
    · rename_i he
      subst he
      obtain ⟨n1, n2⟩ := numG_inv hn
      simp only [Prod.mk.injEq, true_and] at h
      obtain ⟨rfl, rfl⟩ := h
      exact .inr ⟨x, by rw [n1], n2, rfl⟩
    · rename_i he
      simp only [Prod.mk.injEq] at h
      exact absurd h.1 he
  · simp only [Prod.mk.injEq, true_and] at h
    exact .inl ⟨h.2.symm, h.1.symm⟩
end Go.Proofs.YtdlgedpmbeafdaaGreatDoor.Aw

set_option maxRecDepth 100000
set_option linter.unusedVariables false
set_option linter.unusedSimpArgs false
namespace Go.Proofs.YtdlgedpmbeafdaaGreatDoor.Aw
open Go Go.RowKit

structure RT (ws : List ByteArray) (v : StepV) : Prop where
  good : ∀ w ∈ ws, GoodW w
  text : textT v = J ws
  ok : OkStep v
theorem good_all (ws : List ByteArray) (h : (ws.all fun w => decide (w.data.toList ≠ []) && w.data.toList.all fun c => decide (GoodB c)) = true) : ∀ w ∈ ws, GoodW w := fun w hw => good_of w (List.all_eq_true.1 h w hw)
theorem good_cons {w : ByteArray} {l : List ByteArray} (h1 : GoodW w) (h2 : ∀ x ∈ l, GoodW x) : ∀ x ∈ w :: l, GoodW x := fun x hx => by
  rcases List.mem_cons.1 hx with rfl | hx
  · exact h1
  · exact h2 x hx
theorem okS {v : StepV} (h1 : v.ops.length ≤ 1000000 := by simp [zeroV]) (h2 : ∀ o ∈ v.ops, okI o.2.2 ∧ o.2.1.size ≤ 10000000 := by simp [zeroV]) (h3 : v.pieces.length ≤ 1000000 := by simp [zeroV]) (h4 : ∀ p ∈ v.pieces, okI p.2 ∧ p.1.size ≤ 10000000 := by simp [zeroV]) (h5 : v.bound.size ≤ 10000000 := by simp [zeroV])
    (h6 : v.lits.length ≤ 1000000 := by simp [zeroV]) (h7 : ∀ z ∈ v.lits, okI z := by simp [zeroV]) (h8 : v.ids.length ≤ 1000000 := by simp [zeroV]) (h9 : ∀ x ∈ v.ids, x.size ≤ 10000000 := by simp [zeroV]) (h10 : v.num.size ≤ 10000000 := by simp [zeroV]) (h11 : v.s7.size ≤ 10000000 := by simp [zeroV]) (h12 : v.s8.size ≤ 10000000 := by simp [zeroV]) : OkStep v :=
  ⟨⟨h1, h2⟩, ⟨h3, h4, h5⟩, ⟨h6, h7⟩, ⟨h8, h9⟩, h10, h11, h12⟩
theorem singles_J (l : List ByteArray) : (l.map fun x => [x]).map J = l := by
  rw [List.map_map]
  conv => rhs; rw [← List.map_id l]
  exact List.map_congr_left fun x _ => J_one x
theorem singles_flat (l : List ByteArray) : (l.map fun x => [x]).flatten = l := by
  induction l with
  | nil => rfl
  | cons x l ih => simp [ih]
theorem rowT_J (ps : List (ByteArray × Int)) (b : ByteArray) : rowT ps b = J (pieceT ps ++ [geS, b, semiS]) := rfl
theorem fix_rt {k : Int} {w : ByteArray} {xs l : List ByteArray} {v : StepV} (h : fixG k xs l zeroV = (0, [], v)) : l = xs ∧ v = { zeroV with kind := k } := by
  unfold fixG at h
  rcases hx : exactG l xs with ⟨r, e⟩
  rw [hx] at h
  simp only [Prod.mk.injEq] at h
  obtain ⟨rfl, rfl, rfl⟩ := h
  exact ⟨by rw [exactG_inv hx, List.append_nil], rfl⟩
theorem count_rt {l : List ByteArray} {v : StepV} (hs : ∀ w ∈ l, w.size ≤ 10000000) (h : countG l zeroV = (0, [], v)) : RT (kF :: l) v := by
  unfold countG at h
  rcases hx : numG 0 l with ⟨x, e, r⟩
  rw [hx] at h
  simp only [Prod.mk.injEq] at h
  obtain ⟨rfl, rfl, rfl⟩ := h
  obtain ⟨rfl, hg⟩ := numG_inv hx
  exact ⟨good_cons (good_of _ (by decide)) (good_cons hg (by simp)), by simp [textT, textW, J], okS (h10 := hs x (by simp))⟩
theorem flat_len (q : List OpV) : q.length ≤ (q.flatMap opW).length := by
  induction q with
  | nil => simp
  | cons o q ih =>
    have : 1 ≤ (opW o).length := List.length_pos_iff.2 (opW_ne o)
    rw [List.flatMap_cons, List.length_append, List.length_cons]; omega
theorem pol_text (q : List OpV) : J ([kPol] ++ q.map opT) = J (kPol :: q.flatMap opW) := by
  have := J_flat ([kPol] :: q.map opW) (fun l hl => by
    rcases List.mem_cons.1 hl with rfl | hl
    · simp
    · obtain ⟨o, _, rfl⟩ := List.mem_map.1 hl
      exact opW_ne o)
  rw [List.map_cons, J_one, List.map_map, List.flatten_cons, ← List.flatMap_def] at this
  rw [show (q.map opT) = q.map (J ∘ opW) from List.map_congr_left fun o _ => opT_J o]
  exact this
theorem pol_rt {l : List ByteArray} {v : StepV} (hl : l.length ≤ 1000000) (hs : ∀ w ∈ l, w.size ≤ 10000000) (h : polG l zeroV = (0, [], v)) : RT (kPol :: l) v := by
  unfold polG at h
  rcases hx : polF (l.length + 2) l zeroV.ops with ⟨ops, e, r⟩
  rw [hx] at h
  simp only [Prod.mk.injEq] at h
  obtain ⟨rfl, rfl, rfl⟩ := h
  obtain ⟨q, h1, h2, h3, h4⟩ := polF_inv _ _ _ _ hx
  have h1 : ops = q := by simpa [zeroV] using h1
  subst h1
  refine ⟨good_cons (good_of _ (by decide)) h3, ?_, okS (h1 := ?_) (h2 := ?_)⟩
  · rw [h2, ← pol_text]
    simp [textT, textW, J]
  · have := flat_len ops
    rw [← h2] at this
    show ops.length ≤ _
    omega
  · intro o ho
    refine ⟨(h4 o ho).1, ?_⟩
    rcases (h4 o ho).2 with h | h
    · rw [h]; decide
    · exact hs _ h
theorem row_fit {q : List (ByteArray × Int)} {b : ByteArray} {ws rest : List ByteArray} (hl : ws.length ≤ 1000000) (hs : ∀ w ∈ ws, w.size ≤ 10000000) (h2 : ws = (pieceT q ++ [geS, b, semiS]) ++ rest) (h4 : ∀ x ∈ q, okI x.2 ∧ x.1 ∈ ws) :
    q.length ≤ 1000000 ∧ (∀ p ∈ q, okI p.2 ∧ p.1.size ≤ 10000000) ∧ b.size ≤ 10000000 := by
  refine ⟨?_, fun p hp => ⟨(h4 p hp).1, hs _ (h4 p hp).2⟩, hs _ (by rw [h2]; simp)⟩
  have := pieceT_len q
  have h3 := congrArg List.length h2
  simp at h3
  omega
theorem rup_rt {l : List ByteArray} {v : StepV} (hl : l.length ≤ 1000000) (hs : ∀ w ∈ l, w.size ≤ 10000000) (h : rupG l zeroV = (0, [], v)) : RT (kRup :: l) v := by
  unfold rupG at h
  rcases hx : rowG l { zeroV with kind := 4 } with ⟨e, r, v1⟩
  rw [hx] at h
  dsimp only at h
  split at h
  · rename_i he
    subst he
    obtain ⟨q, b, h1, h2, h3, h4⟩ := rowG_inv hx
    obtain ⟨k1, k2, k3⟩ := row_fit hl hs h2 h4
    subst h1
    unfold withIds at h
    rcases hi : idsG r zeroV.ids with ⟨ids, e2, r2⟩
    dsimp only at h
    rw [hi] at h
    simp only [Prod.mk.injEq] at h
    obtain ⟨rfl, rfl, rfl⟩ := h
    obtain ⟨_, i2, i3⟩ := idsG_inv hi
    have i2 : ids = r := by simpa [zeroV] using i2
    subst i2
    have hsub : ∀ w ∈ ids, w ∈ l := fun w hw => by rw [h2]; exact List.mem_append_right _ hw
    refine ⟨good_cons (good_of _ (by decide)) (fun w hw => ?_), ?_, okS (h3 := by simpa [zeroV] using k1) (h4 := by simpa [zeroV] using k2) (h5 := k3) (h8 := ?_) (h9 := fun x hx => hs x (hsub x hx))⟩
    · rw [h2] at hw
      rcases List.mem_append.1 hw with hw | hw
      · exact h3 w hw
      · exact i3 w hw
    · have := J_flat ([kRup] :: (pieceT q ++ [geS, b, semiS]) :: ids.map fun x => [x]) (fun y hy => by
        simp only [List.mem_cons, List.mem_map] at hy
        rcases hy with rfl | rfl | ⟨x, _, rfl⟩ <;> simp)
      rw [List.map_cons, List.map_cons, J_one, singles_J, List.flatten_cons, List.flatten_cons, singles_flat, ← rowT_J] at this
      rw [h2]
      refine Eq.trans ?_ this
      simp [textT, textW, J, zeroV]
    · have := congrArg List.length h2
      simp at this
      show ids.length ≤ _
      omega
  · rename_i he
    simp only [Prod.mk.injEq] at h
    exact absurd h.1 he
theorem sol_rt {k : Int} {w : ByteArray} (hk : (k = 5 ∧ w = kSoli) ∨ (k = 11 ∧ w = kSolx)) {l : List ByteArray} {v : StepV} (hl : l.length ≤ 1000000) (h : solG k l zeroV = (0, [], v)) : RT (w :: l) v := by
  unfold solG at h
  rcases hx : litsG l zeroV.lits with ⟨ls, e, r⟩
  rw [hx] at h
  simp only [Prod.mk.injEq] at h
  obtain ⟨rfl, rfl, rfl⟩ := h
  obtain ⟨_, q, h1, h2, h3, h4⟩ := litsG_inv hx
  have h1 : ls = q := by simpa [zeroV] using h1
  subst h1
  refine ⟨good_cons ?_ h3, ?_, okS (h6 := ?_) (h7 := h4)⟩
  · rcases hk with ⟨_, rfl⟩ | ⟨_, rfl⟩ <;> exact good_of _ (by decide)
  · rcases hk with ⟨rfl, rfl⟩ | ⟨rfl, rfl⟩ <;> simp [textT, textW, J, h2]
  · have := congrArg List.length h2
    simp [litsT] at this
    show ls.length ≤ _
    omega
theorem same_rt {l : List ByteArray} {v : StepV} (hl : l.length ≤ 1000000) (hs : ∀ w ∈ l, w.size ≤ 10000000) (h : sameG l zeroV = (0, [], v)) : RT (kE :: l) v := by
  unfold sameG at h
  rcases hn : numG 1 l with ⟨x, e, r⟩
  rw [hn] at h
  dsimp only at h
  split at h
  · rename_i he
    subst he
    obtain ⟨rfl, hg⟩ := numG_inv hn
    obtain ⟨q, b, h1, h2, h3, h4⟩ := rowG_inv h
    rw [List.append_nil] at h2
    obtain ⟨k1, k2, k3⟩ := row_fit (rest := []) (by simp at hl; omega) (fun w hw => hs w (by simp [hw])) (by rw [List.append_nil]; exact h2) h4
    subst h1
    refine ⟨good_cons (good_of _ (by decide)) (good_cons hg (by rw [h2]; exact h3)), ?_, okS (h3 := by simpa [zeroV] using k1) (h4 := by simpa [zeroV] using k2) (h5 := k3) (h9 := fun y hy => by
      obtain rfl : y = x := by simpa using hy
      exact hs y (by simp))⟩
    have := J_flat [[kE], [x], pieceT q ++ [geS, b, semiS]] (fun y hy => by
        simp only [List.mem_cons, List.not_mem_nil, or_false] at hy
        rcases hy with rfl | rfl | rfl <;> simp)
    simp only [List.map_cons, List.map_nil, J_one, List.flatten_cons, List.flatten_nil, ← rowT_J, List.append_nil] at this
    rw [h2]
    refine Eq.trans ?_ this
    simp [textT, textW, J, zeroV]
  · rename_i he
    simp only [Prod.mk.injEq] at h
    exact absurd h.1 he
theorem del_rt {l : List ByteArray} {v : StepV} (hl : l.length ≤ 1000000) (hs : ∀ w ∈ l, w.size ≤ 10000000) (h : delG l zeroV = (0, [], v)) : RT (kDel :: l) v := by
  unfold delG at h
  rcases hx : exactG l idWords with ⟨r, e⟩
  rw [hx] at h
  dsimp only at h
  split at h
  · rename_i he
    subst he
    have hl2 := exactG_inv hx
    rcases hn : numG 1 r with ⟨x, e, r2⟩
    rw [hn] at h
    dsimp only at h
    split at h
    · rename_i he
      subst he
      obtain ⟨rfl, hg⟩ := numG_inv hn
      unfold withIds at h
      rcases hi : idsG r2 [x] with ⟨ids, e2, r3⟩
      rw [hi] at h
      simp only [Prod.mk.injEq] at h
      obtain ⟨rfl, rfl, rfl⟩ := h
      obtain ⟨_, i2, i3⟩ := idsG_inv hi
      subst hl2
      have i2 : ids = x :: r2 := by simpa using i2
      subst i2
      refine ⟨good_cons (good_of _ (by decide)) (fun w hw => ?_), ?_, okS (h8 := by simp at hl ⊢; omega) (h9 := fun y hy => hs y (List.mem_append_right _ hy))⟩
      · rcases List.mem_append.1 hw with hw | hw
        · exact good_all idWords (by decide) w hw
        · exact good_cons hg i3 w hw
      · simp [textT, textW, J, zeroV, idWords]
    · rename_i he
      simp only [Prod.mk.injEq] at h
      exact absurd h.1 he
  · rename_i he
    simp only [Prod.mk.injEq] at h
    exact absurd h.1 he
theorem J_cons (a b : ByteArray) (l : List ByteArray) : J (a :: b :: l) = a ++ ((⟨#[32]⟩ : ByteArray) ++ J (b :: l)) := by
  apply bytes_inj
  rw [J_data]
  simp only [List.map_cons, join_len_cons, ByteArray.data_append, Array.toList_append, J_data]
  rfl
theorem concl_text (v : StepV) (hv : v.kind = 9) (l : List ByteArray) (hl : l ≠ []) (h : endT v = J l) : textT v = J (kConc :: l) := by
  have := J_flat [[kConc], l] (fun y hy => by
    simp only [List.mem_cons, List.not_mem_nil, or_false] at hy
    rcases hy with rfl | rfl
    · simp
    · exact hl)
  simp only [List.map_cons, List.map_nil, J_one, List.flatten_cons, List.flatten_nil, List.append_nil, List.singleton_append] at this
  rw [← this, ← h]
  simp [textT, textW, J, hv]
theorem concl_rt {l : List ByteArray} {v : StepV} (hs : ∀ w ∈ l, w.size ≤ 10000000) (h : conclG l zeroV = (0, [], v)) : RT (kConc :: l) v := by
  cases l with
  | nil => simp [conclG] at h
  | cons w l =>
    unfold conclG at h
    dsimp only at h
    split at h
    · rename_i hw
      simp only [Prod.mk.injEq, true_and] at h
      obtain ⟨rfl, rfl⟩ := h
      subst hw
      exact ⟨good_all _ (by decide), concl_text _ rfl _ (by simp) (by rw [J_one]; rfl), okS⟩
    split at h
    · rename_i hw
      simp only [Prod.mk.injEq, true_and] at h
      obtain ⟨rfl, rfl⟩ := h
      subst hw
      exact ⟨good_all _ (by decide), concl_text _ rfl _ (by simp) (by rw [J_one]; rfl), okS⟩
    split at h
    · rename_i hw
      subst hw
      rcases idG_inv h with ⟨rfl, rfl⟩ | ⟨x, rfl, hg, rfl⟩
      · exact ⟨good_all _ (by decide), concl_text _ rfl _ (by simp) (by rw [J_one]; rfl), okS⟩
      · exact ⟨good_cons (good_of _ (by decide)) (good_cons (good_of _ (by decide)) (good_cons (good_of _ (by decide)) (good_cons hg (by simp)))), concl_text _ rfl _ (by simp) (by
          rw [J_cons, J_two]
          apply bytes_inj
          simp [endT, idT, zeroV, unsatS, colonS]), okS (h9 := fun y hy => by
          obtain rfl : y = x := by simpa using hy
          exact hs y (by simp))⟩
    split at h
    · rename_i hw
      subst hw
      unfold allG at h
      rcases hn : numG 0 l with ⟨n, e, r⟩
      rw [hn] at h
      dsimp only at h
      split at h
      · rename_i he
        subst he
        obtain ⟨rfl, hg⟩ := numG_inv hn
        split at h
        · simp at h
        · rename_i hr
          rcases idG_inv h with ⟨_, h2⟩ | ⟨x, rfl, hg2, rfl⟩
          · exact absurd h2.symm hr
          · exact ⟨good_cons (good_of _ (by decide)) (good_cons (good_of _ (by decide)) (good_cons hg (good_cons (good_of _ (by decide)) (good_cons hg2 (by simp))))), concl_text _ rfl _ (by simp) (by
              rw [J_cons, J_cons, J_two]
              apply bytes_inj
              simp [endT, idT, zeroV, allS, colonS]), okS (h9 := fun y hy => by
              obtain rfl : y = x := by simpa using hy
              exact hs y (by simp)) (h12 := hs n (by simp))⟩
      · rename_i he
        simp only [Prod.mk.injEq] at h
        exact absurd h.1 he
    split at h
    · rename_i hw
      subst hw
      unfold boundsG at h
      rcases hn : numG (-1) l with ⟨n, e, r⟩
      rw [hn] at h
      dsimp only at h
      split at h
      · rename_i he
        subst he
        obtain ⟨rfl, hg⟩ := numG_inv hn
        unfold upG at h
        rcases hi : idG r { zeroV with kind := 9, n6 := 5, s7 := n } with ⟨e2, r2, v2⟩
        rw [hi] at h
        dsimp only at h
        split at h
        · rename_i he2
          subst he2
          rcases hn2 : numG (-1) r2 with ⟨n2, e3, r3⟩
          rw [hn2] at h
          simp only [Prod.mk.injEq] at h
          obtain ⟨rfl, rfl, rfl⟩ := h
          obtain ⟨rfl, hg3⟩ := numG_inv hn2
          rcases idG_inv hi with ⟨rfl, rfl⟩ | ⟨x, rfl, hg2, rfl⟩
          · exact ⟨good_cons (good_of _ (by decide)) (good_cons (good_of _ (by decide)) (good_cons hg (good_cons hg3 (by simp)))), concl_text _ rfl _ (by simp) (by
              rw [J_cons, J_two]
              apply bytes_inj
              simp [endT, idT, zeroV, boundsS]), okS (h11 := hs n (by simp)) (h12 := hs n2 (by simp))⟩
          · exact ⟨good_cons (good_of _ (by decide)) (good_cons (good_of _ (by decide)) (good_cons hg (good_cons (good_of _ (by decide)) (good_cons hg2 (good_cons hg3 (by simp)))))), concl_text _ rfl _ (by simp) (by
              rw [J_cons, J_cons, J_cons, J_two]
              apply bytes_inj
              simp [endT, idT, zeroV, boundsS, colonS]), okS (h9 := fun y hy => by
              obtain rfl : y = x := by simpa using hy
              exact hs y (by simp)) (h11 := hs n (by simp)) (h12 := hs n2 (by simp))⟩
        · rename_i he2
          simp only [Prod.mk.injEq] at h
          exact absurd h.1 he2
      · rename_i he
        simp only [Prod.mk.injEq] at h
        exact absurd h.1 he
    · simp at h
end Go.Proofs.YtdlgedpmbeafdaaGreatDoor.Aw

set_option maxRecDepth 100000
set_option linter.unusedVariables false
set_option linter.unusedSimpArgs false
namespace Go.Proofs.YtdlgedpmbeafdaaGreatDoor.Aw
open Go Go.RowKit

theorem finG_inv {r : RetG} {v : StepV} (h : finG r = (v, 0)) : r = (0, [], v) := by
  obtain ⟨e, l, v'⟩ := r
  unfold finG at h
  simp only [Prod.mk.injEq] at h
  obtain ⟨rfl, h⟩ := h
  split at h
  · rename_i he
    split at h
    · rename_i hl
      rw [he, hl]
    · simp at h
  · rename_i he
    exact absurd h he
theorem parse_text {ws : List ByteArray} {v : StepV} (hl : ws.length ≤ 1000000) (hs : ∀ w ∈ ws, w.size ≤ 10000000) (h : parseW ws = (v, 0)) : RT ws v ∨ v = { zeroV with kind := 7 } := by
  cases ws with
  | nil =>
    simp only [parseW, Prod.mk.injEq] at h
    exact .inr h.1.symm
  | cons w l =>
    have hl' : l.length ≤ 1000000 := by simp at hl; omega
    have hs' : ∀ x ∈ l, x.size ≤ 10000000 := fun x hx => hs x (by simp [hx])
    unfold parseW at h
    dsimp only at h
    cases ht : tabG w with
    | none => rw [ht] at h; simp at h
    | some f =>
      rw [ht] at h
      have h := finG_inv h
      unfold tabG at ht
      by_cases k1 : w = kHead
      · rw [if_pos k1] at ht; cases ht; subst k1
        obtain ⟨rfl, rfl⟩ := fix_rt (w := kHead) h
        exact .inl ⟨good_all _ (by decide), by decide +kernel, okS⟩
      rw [if_neg k1] at ht
      by_cases k1 : w = kF
      · rw [if_pos k1] at ht; cases ht; subst k1
        exact .inl (count_rt hs' h)
      rw [if_neg k1] at ht
      by_cases k1 : w = kPol
      · rw [if_pos k1] at ht; cases ht; subst k1
        exact .inl (pol_rt hl' hs' h)
      rw [if_neg k1] at ht
      by_cases k1 : w = kRup
      · rw [if_pos k1] at ht; cases ht; subst k1
        exact .inl (rup_rt hl' hs' h)
      rw [if_neg k1] at ht
      by_cases k1 : w = kSoli
      · rw [if_pos k1] at ht; cases ht; subst k1
        exact .inl (sol_rt (.inl ⟨rfl, rfl⟩) hl' h)
      rw [if_neg k1] at ht
      by_cases k1 : w = kSolx
      · rw [if_pos k1] at ht; cases ht; subst k1
        exact .inl (sol_rt (.inr ⟨rfl, rfl⟩) hl' h)
      rw [if_neg k1] at ht
      by_cases k1 : w = kE
      · rw [if_pos k1] at ht; cases ht; subst k1
        exact .inl (same_rt hl' hs' h)
      rw [if_neg k1] at ht
      by_cases k1 : w = kDel
      · rw [if_pos k1] at ht; cases ht; subst k1
        exact .inl (del_rt hl' hs' h)
      rw [if_neg k1] at ht
      by_cases k1 : w = kStar
      · rw [if_pos k1] at ht; cases ht; subst k1
        simp only [noteG, Prod.mk.injEq, true_and] at h
        exact .inr h.symm
      rw [if_neg k1] at ht
      by_cases k1 : w = kOut
      · rw [if_pos k1] at ht; cases ht; subst k1
        obtain ⟨rfl, rfl⟩ := fix_rt (w := kOut) h
        exact .inl ⟨good_all _ (by decide), by decide +kernel, okS⟩
      rw [if_neg k1] at ht
      by_cases k1 : w = kConc
      · rw [if_pos k1] at ht; cases ht; subst k1
        exact .inl (concl_rt hs' h)
      rw [if_neg k1] at ht
      by_cases k1 : w = kEnd
      · rw [if_pos k1] at ht; cases ht; subst k1
        obtain ⟨rfl, rfl⟩ := fix_rt (w := kEnd) h
        exact .inl ⟨good_all _ (by decide), by decide +kernel, okS⟩
      rw [if_neg k1] at ht
      cases ht
theorem spans_sum (p : Nat → Bool) (s : ByteArray) : ∀ (f pos : Nat) (st : Option Nat) (acc : List (Nat × Nat)), (∀ a, st = some a → a ≤ pos) →
    ((Lib.closeSpans s (Lib.spansFromP p s f pos st acc)).map fun x => x.2 - x.1).sum ≤ (acc.map fun x => x.2 - x.1).sum + (s.size - st.getD pos)
  | 0, pos, st, acc, h => by
    simp only [Lib.spansFromP, Lib.closeSpans]
    cases st <;> simp
  | f + 1, pos, st, acc, h => by
    unfold Lib.spansFromP
    split
    · rename_i hp
      split
      · cases st with
        | none =>
          refine Nat.le_trans (spans_sum p s f _ none acc (fun a e => by cases e)) ?_
          simp only [Option.getD_none]; omega
        | some a =>
          have ha := h a rfl
          refine Nat.le_trans (spans_sum p s f _ none _ (fun a e => by cases e)) ?_
          simp only [Option.getD_none, Option.getD_some, List.map_append, List.map_cons, List.map_nil, List.sum_append, List.sum_cons, List.sum_nil]; omega
      · cases st with
        | none =>
          refine Nat.le_trans (spans_sum p s f _ (some pos) acc (fun a e => by cases e; omega)) ?_
          simp only [Option.getD_none, Option.getD_some]; omega
        | some a =>
          have ha := h a rfl
          refine Nat.le_trans (spans_sum p s f _ (some a) acc (fun b e => by cases e; omega)) ?_
          simp only [Option.getD_some]; omega
    · simp only [Lib.closeSpans]
      cases st <;> simp
theorem wordsL_sum (s : ByteArray) : sumS (wordsL s) ≤ s.size := by
  unfold wordsL Lib.goFieldsP Lib.spansOfP sumS
  have h := spans_sum blankR s s.size 0 none [] (fun a e => by cases e)
  simp only [List.map_nil, List.sum_nil, Option.getD_none, Nat.sub_zero, Nat.zero_add] at h
  refine Nat.le_trans ?_ h
  generalize Lib.closeSpans s (Lib.spansFromP blankR s s.size 0 none []) = l
  induction l with
  | nil => simp
  | cons x l ih =>
    simp only [List.map_cons, List.sum_cons]
    have : (s.extract x.1 x.2).size ≤ x.2 - x.1 := by rw [ByteArray.size_extract]; omega
    omega
theorem joinTail_no : ∀ (ls : List (List UInt8)), (∀ l ∈ ls, GoodL l) → ∀ c ∈ Lib.joinTail [32] ls, c ≠ 10
  | [], _, c, hc => by simp [Lib.joinTail] at hc
  | l :: ls, h, c, hc => by
    have hc : c = 32 ∨ c ∈ l ∨ c ∈ Lib.joinTail [32] ls := by simpa [Lib.joinTail, or_assoc] using hc
    rcases hc with rfl | hc | hc
    · decide
    · have := (h l (by simp)).2 c hc
      intro e; subst e
      unfold GoodB at this; revert this; decide
    · exact joinTail_no ls (fun x hx => h x (by simp [hx])) c hc
theorem J_no (ws : List ByteArray) (h : ∀ w ∈ ws, GoodW w) : hasNL (J ws) = false := by
  apply hasNL_of
  rw [J_data]
  cases ws with
  | nil => simp [Lib.join_nil]
  | cons w ws =>
    intro c hc
    rw [List.map_cons, Lib.join_cons] at hc
    rcases List.mem_append.1 hc with hc | hc
    · have := (h w (by simp)).2 c hc
      intro e; subst e
      unfold GoodB at this; revert this; decide
    · exact joinTail_no _ (fun l hl => by
        obtain ⟨y, hy, rfl⟩ := List.mem_map.1 hl
        exact h y (by simp [hy])) c hc
theorem parseP_star : parseP kStar = ({ zeroV with kind := 7 }, 0) := by
  have h1 : wordsL kStar = [kStar] := by
    have := wordsL_join [kStar] (good_all _ (by decide))
    rwa [show joinS [kStar] spaceS = kStar from J_one kStar] at this
  unfold parseP
  rw [h1]
  decide +kernel
theorem parse_again {s : ByteArray} (hsz : s.size ≤ 400000) (h : (parseP s).2 = 0) :
    parseP (textT (parseP s).1) = ((parseP s).1, 0) ∧ hasNL (textT (parseP s).1) = false ∧ (textT (parseP s).1).size ≤ 2 * s.size + 2 ∧ OkStep (parseP s).1 := by
  have hw : parseW (wordsL s) = ((parseP s).1, 0) := by
    unfold parseP at h ⊢
    split
    · rename_i he
      exact Prod.ext rfl he
    · rename_i he
      rw [if_neg he] at h
      exact absurd h he
  have hl := wordsL_len s
  have hsum := wordsL_sum s
  generalize (parseP s).1 = v at *
  rcases parse_text (by omega) (fun w hw => Nat.le_trans (wordsL_size s w hw) (by omega)) hw with hr | rfl
  · obtain ⟨r1, r2, r3⟩ := hr
    rw [r2]
    refine ⟨?_, J_no _ r1, ?_, r3⟩
    · unfold parseP
      rw [show wordsL (J (wordsL s)) = wordsL s from wordsL_join _ r1, hw]
      rfl
    · have := joinS_sum (wordsL s) spaceS
      have e : spaceS.size = 1 := rfl
      rw [e] at this
      unfold J
      omega
  · have e : textT { zeroV with kind := 7 } = kStar := by decide +kernel
    rw [e]
    exact ⟨parseP_star, by decide +kernel, by show 1 ≤ _; omega, okS⟩
/-- A log that is read is written, step by step, and no longer than so. -/
theorem log_again {ls : List ByteArray} {l : List StepV} (hsz : ∀ s ∈ ls, s.size ≤ 400000) (h : readL ls [] = (l, none)) : l.length = ls.length ∧ (∀ v ∈ l, OkStep v ∧ (textT v).size ≤ 8999999 ∧ printP v = (textT v, 0)) ∧ sumS (l.map textT) ≤ 2 * sumS ls + 2 * ls.length := by
  obtain ⟨h1, h2⟩ := readL_none ls [] (by rw [h])
  rw [h] at h1
  simp only [List.nil_append] at h1
  subst h1
  refine ⟨by simp, fun v hv => ?_, ?_⟩
  · obtain ⟨s, hs, rfl⟩ := List.mem_map.1 hv
    obtain ⟨a, b, c, d⟩ := parse_again (hsz s hs) (h2 s hs)
    have := hsz s hs
    exact ⟨d, by omega, printP_of a b⟩
  · clear h
    induction ls with
    | nil => simp [sumS]
    | cons s ls ih =>
      have ih := ih (fun x hx => hsz x (by simp [hx])) (fun x hx => h2 x (by simp [hx]))
      obtain ⟨a, b, c, d⟩ := parse_again (hsz s (by simp)) (h2 s (by simp))
      simp only [sumS, List.map_cons, List.sum_cons, List.length_cons] at ih ⊢
      omega
end Go.Proofs.YtdlgedpmbeafdaaGreatDoor.Aw

set_option maxRecDepth 100000
set_option linter.unusedVariables false
set_option linter.unusedSimpArgs false
namespace Go.Proofs.YtdlgedpmbeafdaaGreatDoor.Aw
open Go Go.RowKit
variable {G : Nat → Option (List AV)}

theorem nlL_sum : ∀ l : List UInt8, ((nlL l).map List.length).sum + (nlL l).length = l.length + 1
  | [] => rfl
  | c :: r => by
    have ih := nlL_sum r
    unfold nlL
    split
    · simp only [List.map_cons, List.sum_cons, List.length_nil, List.length_cons]; omega
    · obtain ⟨y, ys, hy⟩ := List.exists_cons_of_ne_nil (nlL_ne r)
      rw [hy] at ih ⊢
      simp only [List.map_cons, List.sum_cons, List.length_cons] at ih ⊢
      omega
theorem take_sum (l : List Nat) (n : Nat) : (l.take n).sum ≤ l.sum := by
  conv => rhs; rw [← List.take_append_drop n l, List.sum_append]
  omega
theorem linesOf_sum (s : ByteArray) : sumS (linesOf s) ≤ s.size := by
  have h := linesOf_data s
  have h1 : (((linesOf s).map (·.data.toList)).map List.length).sum = ((trimL (nlL s.data.toList)).map List.length).sum := by rw [h]
  have e1 : sumS (linesOf s) = (((linesOf s).map (·.data.toList)).map List.length).sum := by
    unfold sumS
    rw [List.map_map]
    congr 1
  rw [e1, h1]
  have h2 := nlL_sum s.data.toList
  have e2 : s.data.toList.length = s.size := by simp
  have hne := List.length_pos_iff.2 (nlL_ne s.data.toList)
  have h3 : ((trimL (nlL s.data.toList)).map List.length).sum ≤ ((nlL s.data.toList).map List.length).sum := by
    unfold trimL
    split
    · rw [List.map_take]; exact take_sum _ _
    · exact Nat.le_refl _
  omega
theorem logB_len (l : List ByteArray) : (logB l).length = sumS l + l.length := by
  induction l with
  | nil => rfl
  | cons x l ih =>
    have e : logB (x :: l) = (x.data.toList ++ [10]) ++ logB l := rfl
    rw [e, List.length_append, ih]
    simp [sumS]
    omega
theorem lawAgain_ok {m : Int} (hM : G 1 = some [.int .i64 m]) (hG : GS G) (hA : GAs G) (s : ByteArray) (S : St) :
    Triple P (C G) 5 [.str s] S fun o S' => o = .ret (.bool true) ∧ S' = S := by
  have hkn := fun S => known_ok (G := G) hG hA S
  refine triple_of_awp (hT G) hm Tryz.func5 rfl (by decide +kernel) rfl (by decide +kernel) (by show 1 ≤ _; decide +kernel) rfl ?_
  refine awp_seq2 fun K hK hQ => ?_
  conv => whnf
  refine hK _ _ ?_
  clear hK hQ K
  refine awp_seq2 fun K hK hQ => ?_
  conv => whnf
  refine (hkn _).mono ?_
  rintro o T ⟨rfl, rfl⟩
  conv => whnf
  refine hK _ _ ?_
  clear hK hQ K
  refine awp_seq2 fun K hK hQ => ?_
  conv => whnf
  refine split_of (fun hbig => ?_) (fun hbig => ?_)
  · conv => whnf
    refine hQ _ _ _ (by simp) ?_
    conv => whnf
    exact ⟨_, _, ⟨rfl, rfl⟩, St.le_refl _, AV.leS_refl _ _ _⟩
  have hs : s.size < 400001 := by have := of_decide_eq_false hbig; omega
  conv => whnf
  refine hK _ _ ?_
  clear hK hQ K
  have hsmall : ∀ x ∈ linesOf s, x.size ≤ 400000 := fun x hx => Nat.le_trans (linesOf_size s x hx) (by omega)
  have hrd := fun S => Read_ok (G := G) hM hG hA s (by omega) (fun x hx => Nat.le_trans (hsmall x hx) (by omega)) S
  have hln := fun S => lines_ok (G := G) hM s (by omega) S
  have hlen := linesOf_len s
  have hsum := linesOf_sum s
  generalize linesOf s = ls at *
  rcases hr : readL ls [] with ⟨st, _ | ⟨k, c⟩⟩
  · rw [hr] at hrd
    dsimp only [readAV] at hrd
    obtain ⟨a1, a2, a3⟩ := log_again hsmall hr
    have hz : ∀ v ∈ st, (printP v).2 = 0 := fun v hv => by rw [(a2 v hv).2.2]
    have hwr := fun S => Write_ok (G := G) hG hA st (by omega) (fun v hv => ⟨(a2 v hv).1, (a2 v hv).2.1⟩) S
    have hnone := writeL_all st [] 0 hz
    obtain ⟨w1, w2⟩ := written_read hnone
    have wsz : (⟨(writeL st [] 0).1.toArray⟩ : ByteArray).size < 100000001 := by
      rw [(writeL_none st [] 0 hnone).2, List.nil_append]
      have e := logB_len (st.map textT)
      rw [List.length_map] at e
      have : (⟨(logB (st.map textT)).toArray⟩ : ByteArray).size = (logB (st.map textT)).length := by simp [ByteArray.size]
      rw [this, e]
      omega
    have hrd2 := fun S => Read_ok (G := G) hM hG hA ⟨(writeL st [] 0).1.toArray⟩ wsz (fun x hx => by
      rw [w1] at hx
      obtain ⟨v, hv, rfl⟩ := List.mem_map.1 hx
      exact (a2 v hv).2.1) S
    rw [w2] at hrd2
    dsimp only [readAV] at hrd2
    rcases hwl : writeL st [] 0 with ⟨B, r⟩
    rw [hwl] at hwr hrd2 hnone
    dsimp only at hnone
    subst hnone
    dsimp only [writeAV] at hwr hrd2
    generalize (⟨B.toArray⟩ : ByteArray) = tx at *
    have hsm := fun S => sameSteps_self (G := G) st (by omega) (fun v hv => by
      obtain ⟨x, hx, rfl⟩ : ∃ x ∈ ls, (parseP x).1 = v := by
        have := (readL_none ls [] (by rw [hr])).1
        rw [hr] at this
        simp only [List.nil_append] at this
        rw [this] at hv
        obtain ⟨x, hx, e⟩ := List.mem_map.1 hv
        exact ⟨x, hx, e⟩
      exact parseP_len _ (Nat.le_trans (hsmall x hx) (by omega))) S
    refine awp_seq2 fun K hK hQ => ?_
    conv => whnf
    refine (hrd _).mono ?_
    rintro o T ⟨rfl, rfl⟩
    conv => whnf
    refine hK _ _ ?_
    clear hK hQ K
    refine awp_seq2 fun K hK hQ => ?_
    conv => whnf
    refine hK _ _ ?_
    clear hK hQ K
    refine awp_seq2 fun K hK hQ => ?_
    conv => whnf
    refine (hwr _).mono ?_
    rintro o T ⟨rfl, rfl⟩
    conv => whnf
    refine hK _ _ ?_
    clear hK hQ K
    refine awp_seq2 fun K hK hQ => ?_
    conv => whnf
    refine (hrd2 _).mono ?_
    rintro o T ⟨rfl, rfl⟩
    conv => whnf
    refine hK _ _ ?_
    clear hK hQ K
    refine awp_seq2 fun K hK hQ => ?_
    conv => whnf
    refine (hwr _).mono ?_
    rintro o T ⟨rfl, rfl⟩
    conv => whnf
    refine hK _ _ ?_
    clear hK hQ K
    refine awp_seq2 fun K hK hQ => ?_
    refine awp_region ?_
    refine aOps_cut 11 fun K' hK' => ?_
    conv => whnf
    refine hK' _ _ ?_
    clear hK' K'
    refine aOps_cut 5 fun K' hK' => ?_
    conv => whnf
    refine (hsm _).mono ?_
    rintro o T ⟨rfl, rfl⟩
    conv => whnf
    refine hK' _ _ ?_
    clear hK' K'
    refine aOps_cut 5 fun K' hK' => ?_
    conv => whnf
    rw [show decide (tx = tx) = true from decide_eq_true rfl]
    refine hK' _ _ ?_
    clear hK' K'
    refine aOps_cut 3 fun K' hK' => ?_
    conv => whnf
    intro _
    conv => whnf
    refine hK' _ _ ?_
    clear hK' K'
    conv => whnf
    refine (hln _).mono ?_
    rintro o T ⟨rfl, rfl⟩
    conv => whnf
    intro _
    conv => whnf
    rw [show (((rowsT st).length : Int) == ((rowsS ls).length : Int)) = true from by rw [rowsT_len, rowsS_len, a1]; exact beq_self_eq_true _]
    refine hK _ _ ?_
    clear hK hQ K
    conv => whnf
    exact ⟨_, _, ⟨rfl, rfl⟩, St.le_refl _, AV.leS_refl _ _ _⟩
  · rw [hr] at hrd
    dsimp only [readAV] at hrd
    refine awp_seq2 fun K hK hQ => ?_
    conv => whnf
    refine (hrd _).mono ?_
    rintro o T ⟨rfl, rfl⟩
    conv => whnf
    refine hK _ _ ?_
    clear hK hQ K
    refine awp_seq2 fun K hK hQ => ?_
    conv => whnf
    refine hQ _ _ _ (by simp) ?_
    conv => whnf
    exact ⟨_, _, ⟨rfl, rfl⟩, St.le_refl _, AV.leS_refl _ _ _⟩
end Go.Proofs.YtdlgedpmbeafdaaGreatDoor.Aw
