/-
  The abstract walk is sound: operations that leave the world as it is. No condition.
-/
import Derived.Test.YtikkoaoibomofaaGreatDoorAwE
import Derived.Laws.IdiomStrings
set_option linter.unusedVariables false
set_option linter.unusedSimpArgs false
namespace Go.Proofs.YtikkoaoibomofaaGreatDoor.Aw
open Go Go.RowKit

section
variable {P : Program} {C : Cx}
theorem aUn_sound {w : World} {rd} {op : UnOp} {p : AV} {x : Value} (hx : Rel w rd p x) {K : AV → Prop} (h : aUn op p K) : ∃ z v, K z ∧ Rel w rd z v ∧ (Op.unary op x).run P w = .ok v w := by
  unfold aUn at h
  split at h
  · simp only [Rel] at hx; subst hx
    exact ⟨_, _, h, by simp only [Rel]; rfl, by simp [Op.unary, Op.intArith]⟩
  · simp only [Rel] at hx; subst hx
    exact ⟨_, _, h, by simp only [Rel]; rfl, by simp [Op.unary]⟩
  · exact h.elim
theorem isU8_of (hT : TyOk P C) {te : TypeId} (h : isU8 C te = true) : P.underlying te = some (.int .u8) ∧ (C.T te).size = 1 := by
  unfold isU8 at h
  split at h
  · rename_i hk
    exact ⟨und_int hT hk, (Nat.eq_of_beq_eq_true h).symm⟩
  · cases h
theorem RelL_bytes (w : World) (rd) : ∀ l : List UInt8, RelL w rd (l.map fun b => [AV.int .u8 (b.toNat : Int)]).flatten (l.map fun b => Value.int .u8 b.toNat)
  | [] => by simp [RelL]
  | b :: l => by
    have := RelL_bytes w rd l
    simp only [List.map_cons, List.flatten_cons, List.cons_append, List.nil_append, RelL, Rel]
    exact ⟨_, _, rfl, rfl, this⟩
theorem RelL_bytes_inv (w : World) (rd) : ∀ (l : List UInt8) (vs : List Value), RelL w rd (l.map fun b => [AV.int .u8 (b.toNat : Int)]).flatten vs → vs = l.map fun b => Value.int .u8 b.toNat
  | [], vs, h => by simpa [RelL] using h
  | b :: l, vs, h => by
    simp only [List.map_cons, List.flatten_cons, List.cons_append, List.nil_append, RelL, Rel] at h
    obtain ⟨u, us, rfl, rfl, h2⟩ := h
    rw [RelL_bytes_inv w rd l us h2]; rfl
theorem rowsB_len (s : ByteArray) : (rowsB s).length = s.size := by
  unfold rowsB; rw [List.length_map, Array.length_toList]; rfl
theorem rowsB_one (s : ByteArray) : ∀ r ∈ rowsB s, r.length = 1 := by
  intro r hr
  unfold rowsB at hr
  obtain ⟨b, _, rfl⟩ := List.mem_map.1 hr
  rfl
theorem aConv_sound (hT : TyOk P C) {w : World} {S : St} (hg : Good C w S) {src dst : TypeId} {p : AV} {x : Value} (hx : Rel w (rdOf S) p x) {K : AV → Prop} (h : aConv C src dst p S K) :
    ∃ z v w', K z ∧ Rel w' (rdOf S) z v ∧ Good C w' S ∧ Adv w S w' S ∧ (convert src dst x).run P w = .ok v w' := by
  unfold aConv at h
  split at h
  · rename_i h1 h2
    simp only [Rel] at hx; subst hx
    exact ⟨_, _, w, h, by simp only [Rel]; rfl, hg, Adv.refl w S, by simp [convert, run_underlying (und_int hT h1), run_underlying (und_int hT h2), Conv.intToInt]⟩
  · rename_i h1 h2
    simp only [Rel] at hx; subst hx
    exact ⟨_, _, w, h, by simp only [Rel]; rfl, hg, Adv.refl w S, by simp [convert, run_underlying (und_str hT h1), run_underlying (und_str hT h2)]⟩
  · rename_i te s h1 h2
    rw [when_iff] at h
    obtain ⟨hu8, hlim, h⟩ := h
    obtain ⟨hu, hsz⟩ := isU8_of hT hu8
    simp only [Rel] at hx; subst hx
    have hrun := run_bytes_of_string (P := P) w src dst te s (und_str hT h1) (und_slice hT h2) hu
    have hge := grownCap_ge w s.size 0 te
    have hcm := grownCap_le_maxLen w s.size 0 te (by simp only [maxLen]; omega)
    generalize hcap : grownCap w s.size 0 te = cap at *
    have hadv : Adv w S (w.drew.alloc (.cells (bytesRow s cap) te ((bytesRow s cap).size, (bytesRow s cap).size + 1))) S := (Adv.refl w S).drew.trans (Adv.alloc (w := w.drew) _ hg.1.fresh)
    have hb : (w.drew.alloc (.cells (bytesRow s cap) te ((bytesRow s cap).size, (bytesRow s cap).size + 1))).heap[w.heap.size]? = some (.cells (bytesRow s cap) te ((bytesRow s cap).size, (bytesRow s cap).size + 1)) := heap_alloc_new w.drew _
    refine ⟨_, _, _, h, ?_, hg.mk (hg.1.drew.alloc _) hadv, hadv, hrun⟩
    simp only [Rel]
    refine .inr ⟨w.heap.size, 0, cap, by rw [rowsB_len], by rw [rowsB_len]; exact hge, hcm, trivial, ?_⟩
    refine RelRows.of_cells (rowsB_one s) (RelL_bytes _ _ _) (fun i v hv => ?_) (fun u hu => ?_) (fun i hi => ?_)
    · rw [Nat.zero_add, cell_of_row _ _ i _ te _ hb]
      have hi : i < (s.data.toList.map fun b => Value.int .u8 (b.toNat : Int)).length := by
        rcases Nat.lt_or_ge i (s.data.toList.map fun b => Value.int .u8 (b.toNat : Int)).length with h | h
        · exact h
        · rw [List.getElem?_eq_none h] at hv; cases hv
      unfold bytesRow
      rw [Array.getElem?_append_left (by simpa using hi)]
      simpa using hv
    · obtain ⟨_, _, rfl⟩ := List.mem_map.1 hu; rfl
    · simp only [rdOf, hg.1.fresh]
  · rename_i te sh k es h1 h2
    rw [when_iff, Bool.and_eq_true] at h
    obtain ⟨⟨hu8, hk1⟩, s, rfl, h⟩ := h
    have hk1 := Nat.eq_of_beq_eq_true hk1
    subst hk1
    obtain ⟨hu, hsz⟩ := isU8_of hT hu8
    refine ⟨_, .string s, w, h, by simp only [Rel], hg, Adv.refl w S, ?_⟩
    simp only [Rel] at hx
    rcases hx with ⟨_, he, rfl⟩ | ⟨b, off, cap, rfl, k1, k2, k3, k4⟩
    · have hs0 : s = ByteArray.empty := by
        have := congrArg List.length he
        rw [rowsB_len] at this
        have h0 : s.data.size = 0 := this
        cases s with
        | mk d => exact congrArg ByteArray.mk (Array.eq_empty_of_size_eq_zero h0)
      rw [run_convert_bytes_string w src dst te none 0 0 (und_slice hT h1) hu (und_str hT h2), hs0]
      rfl
    · obtain ⟨vs, m1, m2, m3, m4, m5⟩ := RelRows.cells k4
      have hvs := RelL_bytes_inv _ _ _ _ m1
      have hrun := run_convert_bytes_back (P := P) w src dst te ⟨b, off, none⟩ cap s.data.toList (und_slice hT h1) hu (und_str hT h2) (fun j hj => by
        rw [Addr.add_lit]
        refine m2 j _ ?_
        rw [hvs, List.getElem?_map, List.getElem?_eq_getElem hj]; rfl)
      rw [rowsB_len]
      have : s.data.toList.length = s.size := by rw [Array.length_toList]; rfl
      rw [this] at hrun
      simpa using hrun
  · rename_i te h1 h2
    rw [when_iff] at h
    obtain ⟨hu8, h⟩ := h
    obtain ⟨hu, hsz⟩ := isU8_of hT hu8
    simp only [Rel] at hx; subst hx
    refine ⟨_, .string ByteArray.empty, w, h, by simp only [Rel], hg, Adv.refl w S, ?_⟩
    rw [run_convert_bytes_string w src dst te none 0 0 (und_slice hT h1) hu (und_str hT h2)]
    rfl
  · exact h.elim
theorem fieldOf_some (hT : TyOk P C) {t : TypeId} {f off : Nat} {ft : TypeId} (h : fieldOf C t f = some (off, ft)) : ∃ fa fld, P.underlying t = some (.struct fa) ∧ fa[f]? = some fld ∧ fld.offset = off ∧ fld.type = ft := by
  unfold fieldOf at h
  split at h
  · rename_i fs hk
    obtain ⟨fa, hu, he⟩ := und_struct hT hk
    rw [← he] at h
    simp only [List.getElem?_map, Option.map_eq_some_iff, Prod.mk.injEq] at h
    obtain ⟨fld, h1, h2, h3⟩ := h
    exact ⟨fa, fld, hu, by simpa using h1, h2, h3⟩
  · cases h
theorem aFieldAddr_sound (hT : TyOk P C) {w : World} {rd} {t : TypeId} {f : Nat} {p : AV} {x : Value} (hx : Rel w rd p x) {K : AV → Prop} (h : aFieldAddr C t p f K) : ∃ z v, K z ∧ Rel w rd z v ∧ (Instr.fieldAt t x f).run P w = .ok v w := by
  unfold aFieldAddr at h
  split at h
  · rename_i off ft hf
    obtain ⟨fa, fld, hu, hfa, rfl, rfl⟩ := fieldOf_some hT hf
    rw [when_iff] at h
    obtain ⟨hk, h⟩ := h
    simp only [Bool.and_eq_true] at hk
    obtain ⟨hk, hp⟩ := hk
    have hpos : (C.T fld.type).size ≠ 0 := by
      have := Nat.le_of_ble_eq_true hp
      omega
    split at h
    · simp only [Rel] at hx; subst hx
      refine ⟨_, _, h, by simp only [Rel]; rfl, ?_⟩
      simp [Instr.fieldAt, run_underlying hu, hfa, Instr.sureAddr, fieldPlace, run_size hT hk, hpos, Addr.add_lit]
    · simp only [Rel] at hx
      obtain ⟨b, o, rfl, hr⟩ := hx
      refine ⟨_, .pointer (some ⟨b, o + fld.offset, none⟩), h, ?_, ?_⟩
      · simp only [Rel]
        exact ⟨b, o + fld.offset, rfl, RelAt.drop hr _⟩
      · simp [Instr.fieldAt, run_underlying hu, hfa, Instr.sureAddr, fieldPlace, run_size hT hk, hpos, Addr.add_lit]
    · exact h.elim
  · exact h.elim
theorem aField_sound (hT : TyOk P C) {w : World} {rd} {t : TypeId} {f : Nat} {p : AV} {x : Value} (hx : Rel w rd p x) {K : AV → Prop} (h : aField C t p f K) : ∃ z v, K z ∧ Rel w rd z v ∧ (Instr.field t x f).run P w = .ok v w := by
  unfold aField at h
  split at h
  · rename_i off ft xs hf
    obtain ⟨fa, fld, hu, hfa, rfl, rfl⟩ := fieldOf_some hT hf
    rw [when_iff] at h
    obtain ⟨hk, h⟩ := h
    simp only [Rel] at hx
    obtain ⟨cs, rfl, h1, h2⟩ := hx
    obtain ⟨z, v, k1, k2, k3⟩ := aPart_part hT hk h1 h2 h
    exact ⟨z, v, k1, k3, by simp [Instr.field, run_underlying hu, hfa, asAgg, k2]⟩
  · exact h.elim
theorem aIndexAddr_sound (hT : TyOk P C) {w : World} {rd} {t : TypeId} {p q : AV} {x y : Value} (hx : Rel w rd p x) (hy : Rel w rd q y) {K : AV → Prop} (h : aIndexAddr C t p q K) : ∃ z v, K z ∧ Rel w rd z v ∧ (Instr.indexAt t x y).run P w = .ok v w := by
  unfold aIndexAddr at h
  split at h
  · rename_i e sh k es kk n hk
    rw [when_iff] at h
    obtain ⟨hke, r, ⟨h0, hr⟩, h⟩ := h
    simp only [Bool.and_eq_true] at hke
    obtain ⟨hke, hsz⟩ := hke
    have hsz := Nat.eq_of_beq_eq_true hsz
    simp only [Rel] at hx hy
    subst hy
    have hlt : n.toNat < es.length := by
      rcases Nat.lt_or_ge n.toNat es.length with h' | h'
      · exact h'
      · rw [List.getElem?_eq_none h'] at hr; cases hr
    rcases hx with ⟨_, rfl, _⟩ | ⟨b, off, cap, rfl, h1, h2, h3, h4⟩
    · simp at hlt
    · have hrow := RelRows.get h4 n.toNat r hr
      refine ⟨_, .pointer (some ⟨b, off + n.toNat * k, none⟩), h, ?_, ?_⟩
      · simp only [Rel]; exact ⟨b, _, rfl, hrow.2⟩
      · have h0n : 0 ≤ n ∧ n < (es.length : Int) := ⟨h0, by omega⟩
        simp [Instr.indexAt, asIntOf, run_underlying (und_slice hT hk), h0n, run_size hT hke, hsz, Addr.add_lit]
  · rename_i e b off m cap kk n hk
    rw [when_iff] at h
    obtain ⟨hke, h0, h⟩ := h
    simp only [Rel] at hx hy
    subst hx; subst hy
    refine ⟨_, .pointer (some ⟨b, off + n.toNat * (C.T e).size, none⟩), h, by simp only [Rel], ?_⟩
    simp [Instr.indexAt, asIntOf, run_underlying (und_slice hT hk), h0, run_size hT hke, Addr.add_lit]
  · exact h.elim
theorem aIndex_sound (hT : TyOk P C) {w : World} {rd} {t : TypeId} {p q : AV} {x y : Value} (hx : Rel w rd p x) (hy : Rel w rd q y) {K : AV → Prop} (h : aIndex C t p q K) : ∃ z v, K z ∧ Rel w rd z v ∧ (Instr.index t x y).run P w = .ok v w := by
  unfold aIndex at h
  split at h
  · rename_i s kk n hk
    obtain ⟨⟨h0, h1⟩, h⟩ := h
    simp only [Rel] at hx hy
    subst hx; subst hy
    refine ⟨_, .int .u8 (byteAt s n.toNat), h, by simp only [Rel], ?_⟩
    have hlt : n.toNat < s.size := by omega
    have hg : s[n.toNat]? = some s[n.toNat] := by simp [hlt]
    have hb : ((s[n.toNat].toNat : Nat) : Int) = byteAt s n.toNat := by
      unfold byteAt
      have hl : n.toNat < s.data.toList.length := by simpa using hlt
      rw [List.getD_eq_getElem?_getD, List.getElem?_eq_getElem hl]
      rfl
    simp [Instr.index, asIntOf, run_underlying (und_str hT hk), h0, hg, hb]
  · exact h.elim
theorem run_sliceBounds (w : World) {S0 : Bool} {len cap : Nat} {lo hi : Option Value} {l h : Int}
    (hl : lo = none ∧ l = 0 ∨ ∃ k, lo = some (.int k l)) (hh : hi = none ∧ h = len ∨ ∃ k, hi = some (.int k h)) (h0 : 0 ≤ l) (h1 : l ≤ h) (h2 : h ≤ cap) :
    (Instr.sliceBounds S0 len cap lo hi none).run P w = .ok (l.toNat, h.toNat, cap) w := by
  have hh0 : 0 ≤ h := by omega
  have hlh : l ≤ (h.toNat : Int) := by omega
  rcases hl with ⟨rfl, rfl⟩ | ⟨k, rfl⟩ <;> rcases hh with ⟨rfl, rfl⟩ | ⟨k', rfl⟩ <;> simp [Instr.sliceBounds, Instr.sliceBound, asIntOf, h0, h2, hlh, hh0]
  all_goals (try omega)
theorem optN_sound {w : World} {rd} {d : Nat} {p : Option AV} {x : Option Value} (h : p = none ∧ x = none ∨ ∃ a v, p = some a ∧ x = some v ∧ Rel w rd a v) {l : Int} (hl : optN d p = some l) :
    x = none ∧ l = d ∨ ∃ k, x = some (.int k l) := by
  rcases h with ⟨rfl, rfl⟩ | ⟨a, v, rfl, rfl, hr⟩
  · simp only [optN, Option.some.injEq] at hl
    exact .inl ⟨rfl, hl.symm⟩
  · cases a <;> simp only [optN, Option.some.injEq, reduceCtorEq] at hl
    subst hl
    simp only [Rel] at hr
    exact .inr ⟨_, by rw [hr]⟩
def OptRel (w : World) (rd : Nat → Nat → Prop) (p : Option AV) (x : Option Value) : Prop := p = none ∧ x = none ∨ ∃ a v, p = some a ∧ x = some v ∧ Rel w rd a v
theorem aSlice_sound (hT : TyOk P C) {w : World} {rd} {t : TypeId} {p : AV} {x : Value} (hx : Rel w rd p x) {lo hi mx : Option AV} {vlo vhi vmx : Option Value} (hlo : OptRel w rd lo vlo) (hhi : OptRel w rd hi vhi) (hmx : OptRel w rd mx vmx)
    {K : AV → Prop} (h : aSlice C t p lo hi mx K) : ∃ z v, K z ∧ Rel w rd z v ∧ (Instr.sliceAt t x vlo vhi vmx).run P w = .ok v w := by
  unfold aSlice at h
  split at h
  · -- a string
    rename_i s hk
    have hu := und_str hT hk
    simp only [Rel] at hx; subst hx
    obtain rfl : vmx = none := by rcases hmx with ⟨_, rfl⟩ | ⟨_, _, h, _⟩; rfl; cases h
    split at h
    · rename_i l h' hl hh
      obtain ⟨⟨h0, h1, h2⟩, h⟩ := h
      have hb := run_sliceBounds (P := P) (S0 := false) (len := s.size) (cap := s.size) w (optN_sound hlo hl) (optN_sound hhi hh) h0 h1 h2
      exact ⟨_, _, h, by simp only [Rel]; rfl, by simp [Instr.sliceAt, Instr.slice, run_underlying hu, hb]⟩
    · exact h.elim
  · -- a slice
    rename_i e sh k es hk
    have hu := und_slice hT hk
    obtain rfl : vmx = none := by rcases hmx with ⟨_, rfl⟩ | ⟨_, _, h, _⟩; rfl; cases h
    rw [when_iff] at h
    obtain ⟨hke, h⟩ := h
    simp only [Bool.and_eq_true] at hke
    obtain ⟨hke, hsz⟩ := hke
    have hsz := Nat.eq_of_beq_eq_true hsz
    split at h
    · rename_i l h' hl hh
      obtain ⟨⟨h0, h1, h2⟩, h⟩ := h
      simp only [Rel] at hx
      have elen : ((es.take h'.toNat).drop l.toNat).length = h'.toNat - l.toNat := by
        rw [List.length_drop, List.length_take]; omega
      rcases hx with ⟨hmn, rfl, rfl⟩ | ⟨b, off, cap, rfl, k1, k2, k3, k4⟩
      · have hb := run_sliceBounds (P := P) (S0 := true) (len := 0) (cap := 0) w (optN_sound hlo hl) (optN_sound hhi hh) h0 h1 (by simpa using h2)
        simp only [List.length_nil] at h2
        have e1 : l = 0 := by omega
        have e2 : h' = 0 := by omega
        subst e1; subst e2
        refine ⟨_, .slice none 0 0, h, ?_, by simp [Instr.sliceAt, Instr.slice, run_underlying hu, hb, run_size hT hke]⟩
        simp only [Rel]; exact .inl ⟨by cases sh <;> simp_all [Sh.mayNil, Sh.less], by simp, trivial⟩
      · have hb := run_sliceBounds (P := P) (S0 := true) (len := es.length) (cap := cap) w (optN_sound hlo hl) (optN_sound hhi hh) h0 h1 (by omega)
        have hrows : RelRows w rd k b (off + l.toNat * k) ((es.take h'.toNat).drop l.toNat) := RelRows.drop (RelRows.take k4 _) _
        by_cases hc : cap = l.toNat
        · have hz : h'.toNat - l.toNat = 0 := by omega
          have hnil : (es.take h'.toNat).drop l.toNat = [] := List.eq_nil_of_length_eq_zero (by rw [elen, hz])
          refine ⟨_, .slice (some ⟨b, off, none⟩) (h'.toNat - l.toNat) (cap - l.toNat), h, ?_, by rw [hc] at hb ⊢; simp [Instr.sliceAt, Instr.slice, run_underlying hu, hb, run_size hT hke]⟩
          rw [hnil]
          simp only [Rel]
          refine .inr ⟨b, off, cap - l.toNat, by rw [hz]; rfl, by simp, by omega, ?_, by simp [RelRows]⟩
          cases sh <;> simp [ShOk, Sh.less]
        · refine ⟨_, .slice (some ⟨b, off + l.toNat * k, none⟩) (h'.toNat - l.toNat) (cap - l.toNat), h, ?_, by simp [Instr.sliceAt, Instr.slice, run_underlying hu, hb, run_size hT hke, hc, hsz, Addr.add_lit]⟩
          simp only [Rel]
          refine .inr ⟨b, off + l.toNat * k, cap - l.toNat, by rw [elen], by rw [elen]; omega, by omega, ?_, hrows⟩
          cases sh <;> simp [ShOk, Sh.less]
    · exact h.elim
  · -- [:0:0]
    rename_i e sh k es m hk
    have hu := und_slice hT hk
    rw [when_iff] at h
    obtain ⟨hke, h⟩ := h
    simp only [Bool.and_eq_true] at hke
    obtain ⟨hke, hsz⟩ := hke
    split at h
    · rename_i k1 k2
      obtain rfl : vlo = none := by rcases hlo with ⟨_, h⟩ | ⟨_, _, h, _⟩; exact h; cases h
      obtain ⟨v, rfl, hv⟩ : ∃ v, vmx = some v ∧ Rel w rd (.int k2 0) v := by
        rcases hmx with ⟨h, _⟩ | ⟨a, v, h, h', h''⟩
        · cases h
        · cases h; exact ⟨v, h', h''⟩
      obtain ⟨v', rfl, hv'⟩ : ∃ v, vhi = some v ∧ Rel w rd (.int k1 0) v := by
        rcases hhi with ⟨h, _⟩ | ⟨a, v, h, h', h''⟩
        · cases h
        · cases h; exact ⟨v, h', h''⟩
      simp only [Rel] at hv hv'; subst hv; subst hv'
      have hb : ∀ len cap : Nat, (Instr.sliceBounds true len cap none (some (.int k1 0)) (some (.int k2 0))).run P w = .ok (0, 0, 0) w := fun len cap => by
        simp [Instr.sliceBounds, Instr.sliceBound, asIntOf]
      simp only [Rel] at hx
      rcases hx with ⟨hmn, rfl, rfl⟩ | ⟨b, off, cap, rfl, k1, k2, k3, k4⟩
      · exact ⟨_, .slice none 0 0, h, by cases sh <;> simp_all [Rel, Sh.mayNil], by simp [Instr.sliceAt, Instr.slice, run_underlying hu, hb, run_size hT hke]⟩
      · refine ⟨_, .slice (some ⟨b, off, none⟩) 0 0, h, ?_, by simp [Instr.sliceAt, Instr.slice, run_underlying hu, hb, run_size hT hke]⟩
        cases sh <;> simp only [Rel] <;> exact .inr ⟨b, off, 0, rfl, by simp, by simp, by simp [ShOk], by simp [RelRows]⟩
    · exact h.elim
  · -- a row that may be written
    rename_i e b off n cap hk
    have hu := und_slice hT hk
    obtain rfl : vmx = none := by rcases hmx with ⟨_, rfl⟩ | ⟨_, _, h, _⟩; rfl; cases h
    rw [when_iff] at h
    obtain ⟨hke, h⟩ := h
    split at h
    · rename_i l h' hl hh
      obtain ⟨⟨h0, h1, h2⟩, h⟩ := h
      simp only [Rel] at hx; subst hx
      have hb := run_sliceBounds (P := P) (S0 := true) (len := n) (cap := cap) w (optN_sound hlo hl) (optN_sound hhi hh) h0 h1 h2
      refine ⟨_, _, h, by simp only [Rel]; rfl, ?_⟩
      by_cases hc : cap = l.toNat
      · have hbq : Nat.beq cap l.toNat = true := by rw [hc]; exact Nat.beq_refl _
        rw [hbq]
        rw [hc] at hb ⊢
        simp [Instr.sliceAt, Instr.slice, run_underlying hu, hb, run_size hT hke]
      · have hbq : Nat.beq cap l.toNat = false := by
          cases e : Nat.beq cap l.toNat with
          | false => rfl
          | true => exact absurd (Nat.eq_of_beq_eq_true e) hc
        rw [hbq]
        simp [Instr.sliceAt, Instr.slice, run_underlying hu, hb, run_size hT hke, hc, Addr.add_lit]
    · exact h.elim
  · -- nil
    rename_i e hk
    have hu := und_slice hT hk
    obtain rfl : vmx = none := by rcases hmx with ⟨_, rfl⟩ | ⟨_, _, h, _⟩; rfl; cases h
    rw [when_iff] at h
    obtain ⟨hke, h⟩ := h
    simp only [Rel] at hx; subst hx
    split at h
    · rename_i l h' hl hh
      obtain ⟨⟨rfl, rfl⟩, h⟩ := h
      have hb := run_sliceBounds (P := P) (S0 := true) (len := 0) (cap := 0) w (optN_sound hlo hl) (optN_sound hhi hh) (Int.le_refl _) (Int.le_refl _) (by simp)
      exact ⟨_, .slice none 0 0, h, by simp only [Rel], by simp [Instr.sliceAt, Instr.slice, run_underlying hu, hb, run_size hT hke]⟩
    · exact h.elim
  · rename_i e m hk
    have hu := und_slice hT hk
    rw [when_iff] at h
    obtain ⟨hke, h⟩ := h
    simp only [Rel] at hx; subst hx
    split at h
    · rename_i k1 k2
      obtain rfl : vlo = none := by rcases hlo with ⟨_, h⟩ | ⟨_, _, h, _⟩; exact h; cases h
      obtain ⟨v, rfl, hv⟩ : ∃ v, vmx = some v ∧ Rel w rd (.int k2 0) v := by
        rcases hmx with ⟨h, _⟩ | ⟨a, v, h, h', h''⟩
        · cases h
        · cases h; exact ⟨v, h', h''⟩
      obtain ⟨v', rfl, hv'⟩ : ∃ v, vhi = some v ∧ Rel w rd (.int k1 0) v := by
        rcases hhi with ⟨h, _⟩ | ⟨a, v, h, h', h''⟩
        · cases h
        · cases h; exact ⟨v, h', h''⟩
      simp only [Rel] at hv hv'; subst hv; subst hv'
      have hb : ∀ len cap : Nat, (Instr.sliceBounds true len cap none (some (.int k1 0)) (some (.int k2 0))).run P w = .ok (0, 0, 0) w := fun len cap => by
        simp [Instr.sliceBounds, Instr.sliceBound, asIntOf]
      exact ⟨_, .slice none 0 0, h, by simp only [Rel], by simp [Instr.sliceAt, Instr.slice, run_underlying hu, hb, run_size hT hke]⟩
    · exact h.elim
  · exact h.elim
theorem aLen_sound (hT : TyOk P C) {w : World} {S : St} (hi : Inv w S) {t ty : TypeId} {p : AV} {x : Value} (hx : Rel w (rdOf S) p x) {K : AV → Prop} (h : aLen C t p S K) : ∃ z v, K z ∧ Rel w (rdOf S) z v ∧ (Builtin.len_ #[t] ty #[x]).run P w = .ok v w := by
  unfold aLen at h
  split at h
  · rename_i s hk
    simp only [Rel] at hx; subst hx
    exact ⟨_, _, h, by simp only [Rel]; rfl, by simp [Builtin.len_, run_underlying (und_str hT hk), goInt]⟩
  · rename_i e sh k es hk
    simp only [Rel] at hx
    rcases hx with ⟨hmn, rfl, rfl⟩ | ⟨b, off, cap, rfl, k1, k2, k3, k4⟩
    · exact ⟨_, _, h (by simp), by simp only [Rel]; rfl, by simp [Builtin.len_, run_underlying (und_slice hT hk), goInt]⟩
    · refine ⟨_, _, h (by simp only [maxLen] at k2; omega), by simp only [Rel]; rfl, by simp [Builtin.len_, run_underlying (und_slice hT hk), goInt]⟩
  · rename_i e hk
    simp only [Rel] at hx; subst hx
    exact ⟨_, _, h, by simp only [Rel]; rfl, by simp [Builtin.len_, run_underlying (und_slice hT hk), goInt]⟩
  · rename_i e b off m cap hk
    simp only [Rel] at hx; subst hx
    exact ⟨_, _, h, by simp only [Rel]; rfl, by simp [Builtin.len_, run_underlying (und_slice hT hk), goInt]⟩
  · rename_i k e hk
    simp only [Rel] at hx; subst hx
    exact ⟨_, _, h, by simp only [Rel]; rfl, by simp [Builtin.len_, run_underlying (und_map hT hk), goInt]⟩
  · rename_i k e r hk
    obtain ⟨es, hS, h⟩ := h
    simp only [Rel] at hx; subst hx
    obtain ⟨ms, c, h1, h2, _⟩ := hi r _ hS
    have hlen : es.length = ms.size := by simpa using RelL.length h2
    refine ⟨_, .int .i64 (es.length : Int), h, by simp only [Rel], ?_⟩
    have hgo : (getObj r).run P w = .ok (.map ms c) w := by simp [getObj, Sem.run, h1]
    simp [Builtin.len_, run_underlying (und_map hT hk), goInt, hgo, hlen]
  · exact h.elim
end
end Go.Proofs.YtikkoaoibomofaaGreatDoor.Aw
