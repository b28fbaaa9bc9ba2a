/-
  Contracts of the library's string functions in the abstract walk's words.
-/
import Derived.Test.YtikkoaoibomofaaGreatDoorAwT
import Derived.Test.YtikkoaoibomofaaGreatDoorAwL
import Derived.Test.YtikkoaoibomofaaGreatDoorShelf
import Derived.Lib.AppendIntMem
set_option maxRecDepth 100000
set_option linter.unusedVariables false
namespace Go.Proofs.YtikkoaoibomofaaGreatDoor.Aw
open Go Go.RowKit

noncomputable abbrev P : Program := Tryz.prog
noncomputable abbrev C (G : Nat → Option (List AV)) : Cx := ⟨Tt, G, Et⟩
theorem hT (G : Nat → Option (List AV)) : TyOk P (C G) := ⟨Tt_ok, Et_ok⟩
theorem hm : P.follows .mixedOrders = true := by kernel_rfl
def rowsS (l : List ByteArray) : List (List AV) := l.map fun s => [.str s]
variable {G : Nat → Option (List AV)}

theorem glob_cell {w : World} {S : St} (hg : Good (C G) w S) {g : Nat} {k : IntKind} {m : Int} (h : G g = some [.int k m]) : w.cell? ⟨g, 0, none⟩ = some (.int k m) := by
  obtain ⟨_, _, h3, _⟩ := hg.2 g _ h
  simp only [RelAt] at h3
  obtain ⟨⟨v, ⟨_, h4, _⟩, h5⟩, _⟩ := h3
  simp only [Rel] at h5
  subst h5
  exact h4
theorem RelL_ints {w : World} {rd} {k : IntKind} : ∀ {l : List Int} {vs : List Value}, RelL w rd (l.map (AV.int k)) vs → vs = l.map (Value.int k)
  | [], vs, h => by simpa [RelL] using h
  | n :: l, vs, h => by
    simp only [List.map_cons, RelL, Rel] at h
    obtain ⟨u, us, rfl, rfl, h2⟩ := h
    rw [RelL_ints h2]; rfl
/-- A table of whole numbers among the program's variables. -/
theorem glob_tab {w : World} {S : St} (hg : Good (C G) w S) {g : Nat} {k : IntKind} {l : List Int} (h : G g = some (l.map (AV.int k))) {name : String} (hn : P.globalNamed name = some g) : Lib.TabIs P w name k l := by
  obtain ⟨_, _, h3, e, h4⟩ := hg.2 g _ h
  obtain ⟨vs, k1, k2, k3, k4⟩ := RelAt.cells h3
  have hvs := RelL_ints k1
  subst hvs
  unfold Lib.TabIs World.var?
  rw [hn]
  simp only [Option.bind_some]
  unfold World.shape? at h4
  split at h4
  · rename_i cs e' f hb
    simp only [Option.some.injEq, Prod.mk.injEq, List.length_map] at h4
    rw [hb]
    simp only [Option.some.injEq]
    apply Array.ext'
    apply List.ext_getElem?
    intro i
    by_cases hi : i < l.length
    · have hc := k2 i (.int k l[i]) (by simp [hi])
      rw [cell_of_row w g (0 + i) cs e' f hb] at hc
      simp only [Nat.zero_add] at hc
      simp [hc, hi]
    · rw [List.getElem?_eq_none (by simp; omega), List.getElem?_eq_none (by simp; omega)]
  · cases h4
/-- The table that strconv reads. -/
def G10 (G : Nat → Option (List AV)) : Prop := G 3 = some (Lib.pow10Tab.map (AV.int .u64))
def itoaS (n : Int) : ByteArray := ⟨(Lib.itoa n).toArray⟩
theorem itoa_ok (hG : G10 G) (n : Int) (h0 : -9223372036854775808 ≤ n) (h1 : n ≤ 9223372036854775807) (S : St) :
    Triple P (C G) 84 [.int .i64 n] S fun o S' => o = .ret (.str (itoaS n)) ∧ S' = S := by
  refine Triple.of_calls (x := .str (itoaS n)) Tryz.func84 rfl (by decide +kernel) (fun w vs hg hr => ?_) ⟨rfl, rfl⟩
  obtain ⟨v, hv, r1⟩ := RelL.one hr
  simp only [Rel] at r1
  subst r1
  have hvs : vs = #[.int .i64 n] := arr_of_list hv
  rw [hvs]
  refine (Tryz.strconv_Itoa n h0 h1 w (glob_tab hg hG (by kernel_rfl))).mono fun e w' he => ?_
  obtain ⟨rfl, k, os, rfl⟩ := he
  exact ⟨_, rfl, by simp only [Rel]; rfl, Lib.below_grow _ w (Nat.le_refl _) k os⟩
theorem itoa_some (hG : G10 G) (n : Int) (h0 : -9223372036854775808 ≤ n) (h1 : n ≤ 9223372036854775807) (S : St) :
    Triple P (C G) 84 [.int .i64 n] S fun o S' => ∃ v, o = .ret (.str v) ∧ S' = S := (itoa_ok hG n h0 h1 S).mono fun o S' h => ⟨_, h⟩
def splitS (s sep : ByteArray) : List ByteArray := Lib.splitB sep 0 (Lib.countB s sep) s
theorem splitS_len (s sep : ByteArray) (h1 : 1 ≤ sep.size) : (splitS s sep).length = Lib.countB s sep + 1 := Lib.splitB_all sep h1 0 _ s rfl
theorem splitS_le (s sep : ByteArray) (h1 : 1 ≤ sep.size) : (splitS s sep).length ≤ s.size + 1 := by
  have := Lib.countB_le sep h1 s.size s (Nat.le_refl _)
  rw [splitS_len s sep h1]; omega
theorem RelL_strs (w : World) (rd) : ∀ l : List ByteArray, RelL w rd (rowsS l).flatten (l.map Value.string)
  | [] => by simp [rowsS, RelL]
  | s :: l => by
    have := RelL_strs w rd l
    simp only [rowsS, List.map_cons, List.flatten_cons, List.singleton_append] at this ⊢
    simp only [RelL, Rel]
    exact ⟨_, _, rfl, rfl, this⟩
theorem rowsS_len (l : List ByteArray) : (rowsS l).length = l.length := by simp [rowsS]
theorem rowsS_one (l : List ByteArray) : ∀ e ∈ rowsS l, e.length = 1 := by
  intro e he
  simp only [rowsS, List.mem_map] at he
  obtain ⟨s, _, rfl⟩ := he
  rfl
theorem Below.alloc' (w : World) (o : Obj) : Below w.heap.size w (w.alloc o) := ⟨rfl, rfl, rfl, by simp, fun b hb => heap_alloc_lt w o hb⟩
theorem split_ok {m : Int} (hG : G 0 = some [.int .i64 m]) (s sep : ByteArray) (hs : s.size < 4294967281) (h1 : 1 ≤ sep.size) (S : St) :
    Triple P (C G) 8 [.str s, .str sep] S fun o S' => o = .ret (.sl .full 1 (rowsS (splitS s sep))) ∧ S' = S := by
  refine Triple.of_calls (x := .sl .full 1 (rowsS (splitS s sep))) Tryz.func8 rfl (by decide +kernel) (fun w vs hg hr => ?_) ⟨rfl, rfl⟩
  obtain ⟨u, v, hv, r1, r2⟩ := RelL.two hr
  simp only [Rel] at r1 r2
  subst r1 r2
  have hvs : vs = #[.string s, .string sep] := by
    have := congrArg List.toArray hv
    simpa using this
  rw [hvs]
  refine (Tryz.strings_Split s sep m w hs (glob_cell hg hG) h1).mono fun e w' he => ?_
  obtain ⟨rfl, rfl⟩ := he
  refine ⟨_, rfl, ?_, Below.alloc' w _⟩
  have hb : (w.alloc (.cells ((splitS s sep).map Value.string).toArray 9)).heap[w.heap.size]? = some (.cells ((splitS s sep).map Value.string).toArray 9 (0, 0)) := heap_alloc_new w _
  have hl := splitS_le s sep h1
  simp only [Rel]
  refine .inr ⟨w.heap.size, 0, (splitS s sep).length, by rw [rowsS_len, splitS_len s sep h1], by rw [rowsS_len]; exact Nat.le_refl _, by simp only [maxLen]; omega, by rw [rowsS_len]; rfl, ?_⟩
  refine RelRows.of_cells (rowsS_one _) (RelL_strs _ _ _) (fun i v hv => ?_) (fun u hu => ?_) (fun i hi => ?_)
  · have := cell_of_row _ _ i _ 9 (0, 0) hb
    rw [Nat.zero_add]
    exact this.trans (by simpa using hv)
  · obtain ⟨x, _, rfl⟩ := List.mem_map.1 hu; rfl
  · simp only [rdOf, hg.1.fresh]

theorem clone_nn (rows : List ByteArray) (hl : rows.length ≤ 1000000000) (S : St) :
    Triple P (C G) 9 [.sl .nn 1 (rowsS rows)] S fun o S' => ∃ b, S b = none ∧ o = .ret (.sl (.own b) 1 (rowsS rows)) ∧ S' = S.upd b (.tip 9 1 rows.length) := by
  refine triple_of_awp (hT G) hm Tryz.func9 rfl (by decide +kernel) rfl (by decide +kernel) (by show 1 ≤ _; decide +kernel) rfl ?_
  conv => whnf
  intro b0 hb0
  conv => whnf
  refine ⟨⟨St.upd_same _ _ _, by show _ * 16 ≤ _; simp [rowsS]; omega⟩, ?_⟩
  conv => whnf
  intro b hb
  conv => whnf
  rw [St.del_upd hb0] at hb ⊢
  exact ⟨_, _, ⟨b, hb, rfl, rfl⟩, by simp [rowsS]; exact St.le_refl _, AV.leS_refl _ _ _⟩
theorem clone_ok (rows : List ByteArray) (hl : rows.length ≤ 1000000000) (S : St) :
    Triple P (C G) 9 [.sl .nn 1 (rowsS rows)] S fun o S' => o = .ret (.sl .any 1 (rowsS rows)) ∧ S' = S :=
  (clone_nn rows hl S).lessen fun o S' ⟨b, hb, ho, hS⟩ => ⟨_, _, ⟨rfl, rfl⟩, by rw [hS]; exact St.le_upd' (St.le_refl _) hb _, by rw [ho]; exact ⟨rfl, rfl⟩⟩
def sepNL : ByteArray := ⟨#[10]⟩
def linesOf (s : ByteArray) : List ByteArray :=
  let l := splitS s sepNL
  if l[l.length - 1]? = some ⟨#[]⟩ then l.take (l.length - 1) else l
set_option maxHeartbeats 1000000 in
theorem lines_own {m : Int} (hG : G 0 = some [.int .i64 m]) (s : ByteArray) (hs : s.size < 400001) (S : St) :
    Triple P (C G) 5 [.str s] S fun o S' => ∃ b, S b = none ∧ o = .ret (.sl (.own b) 1 (rowsS (linesOf s))) ∧ S' = S.upd b (.tip 9 1 (linesOf s).length) := by
  refine triple_of_awp (hT G) hm Tryz.func5 rfl (by decide +kernel) rfl (by decide +kernel) (by show 1 ≤ _; decide +kernel) rfl ?_
  conv => whnf
  refine (split_ok hG s sepNL (by omega) (by decide) S).mono ?_
  rintro o S' ⟨rfl, rfl⟩
  conv => whnf
  intro hlen
  have hl1 := splitS_len s sepNL (by decide)
  have hl2 := splitS_le s sepNL (by decide)
  have w1 : IntKind.i64.wrap (((rowsS (splitS s sepNL)).length : Int) - 1) = (((splitS s sepNL).length - 1 : Nat) : Int) := by
    rw [rowsS_len, wrap_i64 (by omega) (by omega)]; omega
  obtain ⟨x, hx⟩ : ∃ x, (splitS s sepNL)[(splitS s sepNL).length - 1]? = some x := ⟨_, List.getElem?_eq_getElem (by omega)⟩
  conv => whnf
  rw [w1]
  refine ⟨[.str x], ⟨by omega, by simp [rowsS, hx]⟩, ?_⟩
  conv => whnf
  refine split_of (fun h => ?_) (fun h => ?_)
  · have h : x = (⟨#[]⟩ : ByteArray) := by simpa using h
    subst h
    have hlo : linesOf s = (splitS s sepNL).take ((splitS s sepNL).length - 1) := by unfold linesOf; rw [if_pos hx]
    conv => whnf
    intro hlen'
    conv => whnf
    rw [w1]
    refine ⟨⟨by omega, by omega, by rw [rowsS_len]; omega⟩, ?_⟩
    conv => whnf
    have e1 : List.drop (0 : Int).toNat (List.take (((splitS s sepNL).length - 1 : Nat) : Int).toNat (rowsS (splitS s sepNL))) = rowsS (linesOf s) := by
      rw [hlo]; simp [rowsS, List.map_take]
    refine ((clone_nn (linesOf s) (by rw [hlo]; simp; omega) S').args (by exact ⟨⟨rfl, rfl, e1⟩, trivial⟩)).mono ?_
    rintro o S'' ⟨b, hb, rfl, rfl⟩
    conv => whnf
    exact ⟨_, _, ⟨b, hb, rfl, rfl⟩, St.le_refl _, AV.leS_refl _ _ _⟩
  · have h : ¬ x = (⟨#[]⟩ : ByteArray) := by simpa using h
    have hlo : linesOf s = splitS s sepNL := by
      unfold linesOf; rw [if_neg (by rw [hx]; simpa using h)]
    conv => whnf
    refine ((clone_nn (linesOf s) (by rw [hlo]; omega) S').args (by exact ⟨⟨rfl, rfl, by rw [hlo]⟩, trivial⟩)).mono ?_
    rintro o S'' ⟨b, hb, rfl, rfl⟩
    conv => whnf
    exact ⟨_, _, ⟨b, hb, rfl, rfl⟩, St.le_refl _, AV.leS_refl _ _ _⟩
theorem lines_ok {m : Int} (hG : G 0 = some [.int .i64 m]) (s : ByteArray) (hs : s.size < 400001) (S : St) :
    Triple P (C G) 5 [.str s] S fun o S' => o = .ret (.sl .any 1 (rowsS (linesOf s))) ∧ S' = S :=
  (lines_own hG s hs S).lessen fun o S' ⟨b, hb, ho, hS⟩ => ⟨_, _, ⟨rfl, rfl⟩, by rw [hS]; exact St.le_upd' (St.le_refl _) hb _, by rw [ho]; exact ⟨rfl, rfl⟩⟩
end Go.Proofs.YtikkoaoibomofaaGreatDoor.Aw
