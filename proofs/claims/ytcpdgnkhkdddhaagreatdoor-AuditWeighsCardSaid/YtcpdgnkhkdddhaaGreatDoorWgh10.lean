/-
  strings.Builder, walked at the model's grain where the abstract walk has no operation: copyCheck, String.
  Package big, walked: Text, Small.
  Package big, walked: Small. And strconv.Atoi.
  Package proof, walked: isNumber, literal.
  Package hallmarkref1, walked: size, made, Of, sizes, Cmp, Sign, Small, Parse: a whole number's value says it all.
  Plain: big.Int's Small tells no small number of a great one; prefixes of one byte.
-/
import Derived.Test.YtcpdgnkhkdddhaaGreatDoorWgh9
import Derived.Lib.FrozenHead
import Derived.Lib.ItoaMem
import Derived.Lib.AtoiErrMem
set_option maxRecDepth 100000
set_option linter.unusedVariables false
set_option linter.unusedSimpArgs false
namespace Go.Proofs.YtcpdgnkhkdddhaaGreatDoor.Aw
open Go Go.RowKit
variable {G : Nat → Option (List AV)}

/-- A row that is the walk's own was written. -/
theorem good_row {w w' : World} {S : St} {b : Nat} {e : TypeId} {cells cells' : List AV} {old cs : Array Value} (hg : Good (C G) w S) (hS : S b = some (.obj e cells)) (hb : w.heap[b]? = some (.cells old e (0, 0)))
    (h1 : w'.os = w.os) (h2 : w'.tape = w.tape) (h3 : w'.output = w.output) (h4 : w'.heap.size = w.heap.size) (ho : ∀ x, x ≠ b → w'.heap[x]? = w.heap[x]?) (hb' : w'.heap[b]? = some (.cells cs e (0, 0))) (hsz : cs.size = old.size)
    (hr : RelL w (rdOf S) cells' cs.toList) (hone : ∀ v ∈ cs.toList, v.oneCell' = true) : Good (C G) w' (S.upd b (.obj e cells')) ∧ Adv w S w' (S.upd b (.obj e cells')) := by
  have hadv : Adv w S w' (S.upd b (.obj e cells')) := by
    refine ⟨h1, h2, h3, by omega, fun x hx hn => ?_, fun x off hx hr => ?_, fun x e' n hx => ?_⟩
    · have hne : x ≠ b := St.ne_of' hn hS
      exact ⟨by rw [St.upd_ne _ _ _ _ hne]; exact hn, ho x hne⟩
    · have hne : x ≠ b := by rintro rfl; simp only [rdOf, hS] at hr
      refine ⟨by simp only [rdOf, St.upd_ne _ _ _ _ hne]; exact hr, cell_of_block (ho x hne) off⟩
    · by_cases hne : x = b
      · subst hne
        simp only [World.shape?, hb] at hx
        simp only [World.shape?, hb']
        simpa [hsz] using hx
      · rw [shape_of_block (ho x hne)]; exact hx
  refine ⟨hg.mk (fun x o hx => ?_) hadv, hadv⟩
  by_cases hxb : x = b
  · subst hxb
    rw [St.upd_same] at hx
    cases hx
    exact ⟨cs, hb', RelL.mono hadv _ _ hr, hone⟩
  · rw [St.upd_ne _ _ _ _ hxb] at hx
    exact OwnOk.mono hadv (ho x hxb) (hg.1 x o hx)
theorem setCell_row {w : World} {b : Nat} {e : TypeId} {old : Array Value} (hb : w.heap[b]? = some (.cells old e (0, 0))) (v : Value) :
    (w.setCell ⟨b, 0, none⟩ v).heap[b]? = some (.cells (old.setIfInBounds 0 v) e (0, 0)) ∧ ∀ x, x ≠ b → (w.setCell ⟨b, 0, none⟩ v).heap[x]? = w.heap[x]? := by
  refine ⟨?_, fun x hx => ?_⟩
  · simp [World.setCell, Array.getElem?_modify, hb]
  · simp [World.setCell, Array.getElem?_modify, Ne.symm hx]

theorem copyCheck_used (b : Nat) (w : World) (h0 : w.cell? ⟨b, 0, none⟩ = some (.pointer (some ⟨b, 0, none⟩))) :
    Calls P 104 #[.pointer (some ⟨b, 0, none⟩)] w fun e w' => e = .returned (.tuple #[]) ∧ w' = w := by
  obtain ⟨j, hj, _⟩ := Option.map_eq_some_iff.1 (show (P.info? 132).map (·.size) = some 2 by kernel_rfl)
  have mixed : P.follows .mixedOrders = true := hm
  have hnp := Lib.run_neq_ptr_same w ⟨b, 0, none⟩ (Tryz.underlying130) hj
  go_enter Tryz.func104, Tryz.ntmps104
  go_wp2
  go_end0
  exact ⟨rfl, rfl⟩
theorem copyCheck_fresh (b : Nat) (w : World) (h0 : w.cell? ⟨b, 0, none⟩ = some (.pointer none)) (hsh : w.shape? b = some (132, 2)) (hfz : w.frozen? ⟨b, 0, none⟩ = false) :
    Calls P 104 #[.pointer (some ⟨b, 0, none⟩)] w fun e w' => e = .returned (.tuple #[]) ∧ w' = w.setCell ⟨b, 0, none⟩ (.pointer (some ⟨b, 0, none⟩)) := by
  obtain ⟨j, hj, hjs⟩ := Option.map_eq_some_iff.1 (show (P.info? 132).map (·.size) = some 2 by kernel_rfl)
  have mixed : P.follows .mixedOrders = true := hm
  have hto := Lib.run_to_unsafe w ⟨b, 0, none⟩ (Tryz.underlying130) (Tryz.underlying216) hj (by rw [hjs]; decide) hsh (Nat.zero_lt_succ 1)
  have hfrom := Lib.run_from_unsafe w ⟨b, 0, none⟩ (Tryz.underlying216) (Tryz.underlying130) hj hsh (by kernel_rfl)
  have hne := run_callFunc_extern (P := P) (args := #[.pointer (some ⟨b, 0, none⟩)]) (w := w) Tryz.func132 (by kernel_rfl) (by kernel_rfl) (by kernel_rfl) (e := Extern.AbiNoEscape.same) (by kernel_rfl)
  rw [Lib.run_noEscape] at hne
  go_enter Tryz.func104, Tryz.ntmps104
  go_wp2
  go_end0
  exact ⟨rfl, rfl⟩
theorem String_raw (b g cap : Nat) (p : Value) (cur : Array Value) (l : List UInt8) (h0 : l ≠ []) (w : World) (hb : w.heap[b]? = some (.cells #[p, .slice (some ⟨g, 0, none⟩) l.length cap] 132 (0, 0)))
    (hg : w.heap[g]? = some (.cells cur 5 (0, 0))) (hn : l.length ≤ cap) (hc : cap ≤ maxLen) (hcs : cur.size = cap) (hcell : ∀ j x, l[j]? = some x → w.cell? ((⟨g, 0, none⟩ : Addr).add j) = some (.int .u8 x.toNat)) :
    Calls P 66 #[.pointer (some ⟨b, 0, none⟩)] w fun e w' => e = .returned (.string ⟨l.toArray⟩) ∧ w' = w.drew.freeze ⟨g, 0, none⟩ l.length := by
  have hl0 : l.length ≠ 0 := by simpa using h0
  have c1 : w.drew.cell? ⟨b, 1, none⟩ = some (.slice (some ⟨g, 0, none⟩) l.length cap) := by
    rw [Lib.cell_of_heap (show w.drew.heap[b]? = _ from hb)]; rfl
  have hSD : (Builtin.unsafeSliceData_ #[102] 197 #[.slice (some ⟨g, 0, none⟩) l.length cap]).run P w.drew = .ok (.pointer (some ⟨g, 0, none⟩)) w.drew :=
    Lib.run_unsafeSliceData_row _ _ _ _ _ _ (by omega)
  have hUS : (Builtin.unsafeString_ #[197, 3] 9 #[.pointer (some ⟨g, 0, none⟩), .int .i64 l.length]).run P w.drew = .ok (.string ⟨l.toArray⟩) (w.drew.freeze ⟨g, 0, none⟩ l.length) :=
    Lib.run_unsafeString_row w.drew _ _ _ 5 (Tryz.underlying197) (by kernel_rfl) g cur.size (by simp only [World.shape?, show w.drew.heap[g]? = _ from hg]) l h0 (by omega) (by unfold maxLen at hc; omega) hcell
  have mixed : P.follows .mixedOrders = true := hm
  go_enter Tryz.func66, Tryz.ntmps66
  go_wp2
  go_region_o
  all_goals (go_wp2; go_ret; exact ⟨rfl, rfl⟩)
theorem String_none (b : Nat) (p : Value) (w : World) (hb : w.heap[b]? = some (.cells #[p, .slice none 0 0] 132 (0, 0))) :
    Calls P 66 #[.pointer (some ⟨b, 0, none⟩)] w fun e w' => e = .returned (.string ⟨#[]⟩) ∧ w' = w.drew := by
  have c1 : w.drew.cell? ⟨b, 1, none⟩ = some (.slice none 0 0) := by
    rw [Lib.cell_of_heap (show w.drew.heap[b]? = _ from hb)]; rfl
  have hUS : (Builtin.unsafeString_ #[197, 3] 9 #[.pointer none, .int .i64 0]).run P w.drew = .ok (.string .empty) w.drew := Lib.run_unsafeString_none w.drew _ _ _ none
  have hSD : (Builtin.unsafeSliceData_ #[102] 197 #[.slice none 0 0]).run P w.drew = .ok (.pointer none) w.drew := rfl
  have mixed : P.follows .mixedOrders = true := hm
  go_enter Tryz.func66, Tryz.ntmps66
  go_wp2
  go_region_o
  all_goals (go_wp2; go_ret; exact ⟨rfl, rfl⟩)
/-! ### In the abstract walk's words -/
theorem Triple.of_callsW {C : Cx} {f : FuncId} {fn : Func} {c : Code} (hf : P.funcs[f]? = some fn) (hb : fn.body = some c) (hname : (fn.name == "runtime.NumGoroutine") = false) {args : List AV} {S : St} {Q : Out → St → Prop}
    (h : ∀ (w : World) (vs : Array Value), Good C w S → RelL w (rdOf S) args vs.toList → Calls P f vs w fun e w' => ∃ v x S', e = .returned v ∧ Rel w' (rdOf S') x v ∧ Good C w' S' ∧ Adv w S w' S' ∧ Q (.ret x) S') : Triple P C f args S Q := by
  refine ⟨fun w vs _ hg hr => .inl ⟨?_, (h w vs hg hr).mono fun e w' he => ?_⟩⟩
  · have hno : ¬ fn.name = "runtime.NumGoroutine" := by simpa using hname
    simp [callFunc, hf, hno, hb]
  · obtain ⟨v, x, S', rfl, hv, h1, h2, h3⟩ := he
    exact ⟨.ret x, S', hv, h1, h2, h3⟩
theorem RelL.pair {w : World} {rd} {x y : AV} {cs : Array Value} (h : RelL w rd [x, y] cs.toList) : ∃ u v, cs = #[u, v] ∧ Rel w rd x u ∧ Rel w rd y v := by
  obtain ⟨u, v, hv, h1, h2⟩ := RelL.two h
  exact ⟨u, v, arr_of_list hv, h1, h2⟩
theorem copyCheck_ok {S : St} {b : Nat} {p s : AV} (hS : S b = some (.obj 132 [p, s])) (hp : p = .nilp ∨ p = .ref b 0) :
    Triple P (C G) 104 [.ref b 0] S fun o S' => o = .ret (.tu []) ∧ S' = S.upd b (.obj 132 [.ref b 0, s]) := by
  refine Triple.of_callsW Tryz.func104 rfl (by decide +kernel) (fun w vs hg hr => ?_)
  obtain ⟨v, hv, r1⟩ := RelL.one hr
  simp only [Rel] at r1
  subst r1
  rw [show vs = #[.pointer (some ⟨b, 0, none⟩)] from arr_of_list hv]
  obtain ⟨cs, k1, k2, k3⟩ := hg.1 b _ hS
  obtain ⟨u, z, rfl, hu, hz⟩ := RelL.pair k2
  rcases hp with rfl | rfl
  · simp only [Rel] at hu
    subst hu
    refine (copyCheck_fresh b w (by rw [Lib.cell_of_heap k1]; rfl) (by simp [World.shape?, k1]) (by simp [World.frozen?, k1])).mono fun e w' he => ?_
    obtain ⟨rfl, rfl⟩ := he
    obtain ⟨r1, r2⟩ := setCell_row k1 (.pointer (some ⟨b, 0, none⟩))
    obtain ⟨g1, g2⟩ := good_row (w' := w.setCell ⟨b, 0, none⟩ (.pointer (some ⟨b, 0, none⟩))) (cells' := [.ref b 0, s]) hg hS k1 rfl rfl rfl (by simp [World.setCell]) r2 r1 (by simp) (by simp only [RelL, Rel]; exact ⟨_, _, rfl, rfl, _, _, rfl, hz, rfl⟩) (by
      intro v hv
      simp only [Array.toList_setIfInBounds, List.set_cons_zero, List.mem_cons, List.not_mem_nil, or_false] at hv
      rcases hv with rfl | rfl
      · rfl
      · exact k3 v (by simp))
    exact ⟨_, .tu [], _, rfl, by simp only [Rel]; exact ⟨_, rfl, rfl⟩, g1, g2, rfl, rfl⟩
  · simp only [Rel] at hu
    subst hu
    refine (copyCheck_used b w (by rw [Lib.cell_of_heap k1]; rfl)).mono fun e w' he => ?_
    obtain ⟨rfl, rfl⟩ := he
    have hs : S.upd b (.obj 132 [.ref b 0, s]) = S := by
      funext x
      by_cases hx : x = b
      · subst hx; rw [St.upd_same, hS]
      · rw [St.upd_ne _ _ _ _ hx]
    refine ⟨_, .tu [], S, rfl, by simp only [Rel]; exact ⟨_, rfl, rfl⟩, hg, Adv.refl _ _, rfl, hs.symm⟩
def rowsL (l : List UInt8) : List (List AV) := l.map fun b => [.int .u8 (b.toNat : Int)]
@[simp] theorem rowsL_len (l : List UInt8) : (rowsL l).length = l.length := by simp [rowsL]
theorem rowsB_L (s : ByteArray) : rowsB s = rowsL s.data.toList := rfl
theorem adv_freeze {w : World} {S : St} {t : Nat} {o : Own} (hS : S t = some o) (k : Nat) : Adv w S (w.freeze ⟨t, 0, none⟩ k) (S.del t) := by
  have ho : ∀ x, x ≠ t → (w.freeze ⟨t, 0, none⟩ k).heap[x]? = w.heap[x]? := fun x hx => by
    unfold World.freeze; split
    · rfl
    · simp [Array.getElem?_modify, Ne.symm hx]
  have hc : ∀ x off, (w.freeze ⟨t, 0, none⟩ k).cell? ⟨x, off, none⟩ = w.cell? ⟨x, off, none⟩ := fun x off => by
    by_cases hx : x = t
    · subst hx
      unfold World.freeze; split
      · rfl
      · simp only [World.cell?, Array.getElem?_modify, if_true]
        cases w.heap[x]? with
        | none => rfl
        | some z => cases z <;> rfl
    · exact cell_of_block (ho x hx) off
  refine ⟨?_, ?_, ?_, ?_, fun x hx hn => ?_, fun x off hx hr => ⟨?_, hc x off⟩, fun x e' n hx => ?_⟩
  · unfold World.freeze; split <;> rfl
  · unfold World.freeze; split <;> rfl
  · unfold World.freeze; split <;> rfl
  · unfold World.freeze; split <;> simp
  · have hne : x ≠ t := St.ne_of' hn hS
    exact ⟨by rw [St.del_ne _ _ _ hne]; exact hn, ho x hne⟩
  · by_cases hx' : x = t
    · subst hx'; simp only [rdOf, St.del_same]
    · simp only [rdOf, St.del_ne _ _ _ hx']; exact hr
  · by_cases hx' : x = t
    · subst hx'
      unfold World.freeze; split
      · exact hx
      · simp only [World.shape?, Array.getElem?_modify, if_true] at hx ⊢
        cases hz : w.heap[x]? with
        | none => rw [hz] at hx; exact hx
        | some z => rw [hz] at hx; cases z <;> exact hx
    · rw [shape_of_block (ho x hx')]; exact hx
theorem good_freeze {w : World} {S : St} {t : Nat} {o : Own} (hg : Good (C G) w S) (hS : S t = some o) (k : Nat) : Good (C G) (w.freeze ⟨t, 0, none⟩ k) (S.del t) := by
  have hadv := adv_freeze (w := w) hS k
  refine hg.mk (fun x p hx => ?_) hadv
  have hne : x ≠ t := fun e => by subst e; rw [St.del_same] at hx; cases hx
  rw [St.del_ne _ _ _ hne] at hx
  refine OwnOk.mono hadv ?_ (hg.1 x p hx)
  unfold World.freeze; split
  · rfl
  · simp [Array.getElem?_modify, Ne.symm hne]
theorem St.del_le (S : St) (b : Nat) : St.le (S.del b) S := fun x o h => by
  by_cases hx : x = b
  · subst hx; rw [St.del_same] at h; cases h
  · rwa [St.del_ne _ _ _ hx] at h
/-- A builder that the walk has laid itself. -/
structure BldOk (S₀ S : St) (b : Nat) (s : List UInt8) : Prop where
  le : St.le S₀ S
  new : S₀ b = none
  at_ : ∃ p t, (p = .nilp ∨ p = .ref b 0) ∧ S b = some (.obj 132 [p, .sl (.acc t) 1 (rowsL s)]) ∧ (s ≠ [] → S t = some (.tip 5 1 s.length) ∧ S₀ t = none ∧ t ≠ b)
theorem St.le_del' {S₀ S : St} {b : Nat} (h : St.le S₀ S) (hb : S₀ b = none) : St.le S₀ (S.del b) := fun x o hx => by
  rw [St.del_ne _ _ _ (St.ne_of hb hx)]; exact h x o hx
theorem String_ok {S₀ S : St} {b : Nat} {s : List UInt8} (h : BldOk S₀ S b s) : Triple P (C G) 66 [.ref b 0] S fun o S' => o = .ret (.str ⟨s.toArray⟩) ∧ St.le S₀ S' := by
  obtain ⟨p, t, hp, hS, ht⟩ := h.at_
  refine Triple.of_callsW Tryz.func66 rfl (by decide +kernel) (fun w vs hg hr => ?_)
  obtain ⟨v, hv, r1⟩ := RelL.one hr
  simp only [Rel] at r1
  subst r1
  rw [show vs = #[.pointer (some ⟨b, 0, none⟩)] from arr_of_list hv]
  obtain ⟨cs, k1, k2, k3⟩ := hg.1 b _ hS
  obtain ⟨u, z, rfl, hu, hz⟩ := RelL.pair k2
  by_cases hs : s = []
  · subst hs
    simp only [Rel] at hz
    have hz : z = .slice none 0 0 := by
      rcases hz with ⟨_, _, h⟩ | ⟨b', off, cap, _, _, _, h, _⟩
      · exact h.acc
      · exact absurd h.1 (by simp)
    subst hz
    refine (String_none b u w k1).mono fun e w' he => ?_
    obtain ⟨rfl, rfl⟩ := he
    exact ⟨_, .str ⟨#[]⟩, S, rfl, by simp only [Rel], hg.drew, (Adv.refl w S).drew, rfl, h.le⟩
  · obtain ⟨h1, h2, h3⟩ := ht hs
    have hl0 : s.length ≠ 0 := by simpa using hs
    simp only [Rel] at hz
    obtain ⟨b', off, cap, rfl, q1, q2, ⟨q3, rfl, rfl, q4⟩, q5⟩ : ∃ b' off cap, z = .slice (some ⟨b', off, none⟩) (rowsL s).length cap ∧ (rowsL s).length ≤ cap ∧ cap ≤ maxLen ∧ ShOk w (.acc t) 1 b' off (rowsL s).length cap ∧ RelRows w (rdOf S) 1 b' off (rowsL s) := by
      rcases hz with ⟨_, h, _⟩ | h
      · exact absurd (by simpa [rowsL] using h) hs
      · exact h
    rw [rowsL_len] at *
    obtain ⟨cur, cap', m1, m2, m3, m4, m5⟩ := hg.1 t _ h1
    have hcap : cap' = cap := by
      obtain ⟨e', q4⟩ := q4
      simp only [World.shape?, m1, Option.some.injEq, Prod.mk.injEq] at q4
      omega
    subst hcap
    refine (String_raw b t cap' u cur s hs w k1 m1 q1 q2 (by omega) (fun j x hx => ?_)).mono fun e w' he => ?_
    · obtain ⟨g1, g2⟩ := RelRows.get q5 j [.int .u8 (x.toNat : Int)] (by simp [rowsL, hx])
      obtain ⟨v, ⟨g3, g4, g5⟩, g6⟩ := RelAt.get g2 0 _ rfl
      simp only [Rel] at g6
      subst g6
      by_cases hj : j = 0
      · subst hj; simpa [Addr.add] using g4
      · simpa [Addr.add, hj] using g4
    · obtain ⟨rfl, rfl⟩ := he
      have e1 : Good (C G) w.drew (S.del b) := hg.drew.shrink (St.del_le S b)
      have hS' : (S.del b) t = some (.tip 5 1 s.length) := by rw [St.del_ne _ _ _ h3]; exact h1
      refine ⟨_, .str ⟨s.toArray⟩, (S.del b).del t, rfl, by simp only [Rel], good_freeze e1 hS' _, ((Adv.refl w S).drew.trans (Adv.shrink (St.del_le S b))).trans (adv_freeze hS' _), rfl, St.le_del' (St.le_del' h.le h.new) h2⟩
theorem rowsL_ne {l : List UInt8} (h : l ≠ []) : rowsL l ≠ [] := by cases l <;> simp_all [rowsL]
theorem rowsL_append (a b : List UInt8) : rowsL a ++ rowsL b = rowsL (a ++ b) := by simp [rowsL]
theorem BldOk.step {S₀ S S' S'' : St} {b t t' : Nat} {s x : List UInt8} (h1 : St.le S₀ S) (h2 : S₀ b = none) (ht : s ≠ [] → S t = some (.tip 5 1 s.length) ∧ S₀ t = none ∧ t ≠ b) {q : AV} (hS : S b = some (.obj 132 [.ref b 0, q]))
    (ha : AccStep S t 5 1 s.length x.length t' S') (hS'' : S'' = S'.upd b (.obj 132 [.ref b 0, .sl (.acc t') 1 (rowsL (s ++ x))])) : BldOk S₀ S'' b (s ++ x) := by
  subst hS''
  rcases ha with ⟨e1, rfl, rfl⟩ | ⟨e1, S₁, c1, c2, c3, rfl⟩
  · have hx : x = [] := List.eq_nil_of_length_eq_zero e1
    subst hx
    rw [List.append_nil]
    refine ⟨St.le_upd h1 h2 _, h2, .ref b 0, t', .inr rfl, St.upd_same _ _ _, fun hs => ?_⟩
    obtain ⟨k1, k2, k3⟩ := ht hs
    exact ⟨by rw [St.upd_ne _ _ _ _ k3]; exact k1, k2, k3⟩
  · have hle : St.le S₀ S₁ ∧ S₁ b = S b := by
      by_cases hs : s = []
      · subst hs
        rw [c1 rfl]; exact ⟨h1, rfl⟩
      · obtain ⟨k1, k2, k3⟩ := ht hs
        have hl : 0 < s.length := by cases s <;> simp_all
        rw [c2 hl]
        exact ⟨St.le_del' h1 k2, St.del_ne _ _ _ (Ne.symm k3)⟩
    have hb' : b ≠ t' := fun e => by subst e; rw [hle.2, hS] at c3; cases c3
    have h0 : S₀ t' = none := by
      cases e : S₀ t' with
      | none => rfl
      | some o => rw [hle.1 _ _ e] at c3; cases c3
    refine ⟨St.le_upd (St.le_upd hle.1 h0 _) h2 _, h2, .ref b 0, t', .inr rfl, St.upd_same _ _ _, fun hs => ⟨?_, h0, Ne.symm hb'⟩⟩
    rw [St.upd_ne _ _ _ _ (Ne.symm hb'), St.upd_same, List.length_append]
theorem AccStep.keep {S S' : St} {b t t' n m k : Nat} {e : TypeId} {o : Own} (hS : S b = some o) (ht : 0 < n → t ≠ b) (ha : AccStep S t e k n m t' S') : S' b = some o := by
  rcases ha with ⟨e1, rfl, rfl⟩ | ⟨e1, S₁, c1, c2, c3, rfl⟩
  · exact hS
  · have : S₁ b = some o := by
      by_cases hn : n = 0
      · rw [c1 hn]; exact hS
      · rw [c2 (by omega), St.del_ne _ _ _ (Ne.symm (ht (by omega)))]; exact hS
    rw [St.upd_ne _ _ _ _ (fun e => by rw [e, c3] at this; cases this)]; exact this
theorem BldOk.used {S₀ S : St} {b t : Nat} {s : List UInt8} (h1 : St.le S₀ S) (h2 : S₀ b = none) (ht : s ≠ [] → S t = some (.tip 5 1 s.length) ∧ S₀ t = none ∧ t ≠ b) (o : Own) :
    St.le S₀ (S.upd b o) ∧ (s ≠ [] → (S.upd b o) t = some (.tip 5 1 s.length) ∧ S₀ t = none ∧ t ≠ b) :=
  ⟨St.le_upd h1 h2 _, fun hs => by obtain ⟨k1, k2, k3⟩ := ht hs; exact ⟨by rw [St.upd_ne _ _ _ _ k3]; exact k1, k2, k3⟩⟩
theorem WriteString_ok {S₀ S : St} {b : Nat} {s : List UInt8} (h : BldOk S₀ S b s) (x : ByteArray) (hx : s.length + x.size ≤ 140737488355328) : Triple P (C G) 65 [.ref b 0, .str x] S fun o S' => o = .ret (.tu [.int .i64 (x.size : Int), .nili]) ∧ BldOk S₀ S' b (s ++ x.data.toList) := by
  obtain ⟨p, t, hp, hS, ht⟩ := h.at_
  have hcc := copyCheck_ok (G := G) hS hp
  obtain ⟨h1, ht1⟩ := BldOk.used h.le h.new ht (.obj 132 [.ref b 0, .sl (.acc t) 1 (rowsL s)])
  have hxl : x.data.toList.length = x.size := by rw [Array.length_toList]; rfl
  refine triple_of_awp (hT G) hm Tryz.func65 rfl (by decide +kernel) rfl (by decide +kernel) (by show 2 ≤ _; decide +kernel) rfl ?_
  conv => whnf
  refine hcc.mono ?_
  rintro o S' ⟨rfl, rfl⟩
  have hS1 := St.upd_same S b (.obj 132 [.ref b 0, .sl (.acc t) 1 (rowsL s)])
  generalize S.upd b (.obj 132 [.ref b 0, .sl (.acc t) 1 (rowsL s)]) = S1 at *
  conv => whnf
  refine ⟨_, _, hS1, ?_⟩
  conv => whnf
  refine ⟨⟨fun hl => ?_, ?_⟩, fun t' S2 ha => ?_⟩
  · have : s ≠ [] := by intro e; subst e; simp at hl
    rw [rowsL_len]; exact (ht1 this).1
  · show ((rowsL s).length + (rowsB x).length) * 1 ≤ _
    rw [rowsL_len, rowsB_L, rowsL_len, hxl]; omega
  rw [rowsL_len, rowsB_L, rowsL_len] at ha
  have hk := AccStep.keep hS1 (fun hn => (ht1 (by intro e; subst e; simp at hn)).2.2) ha
  have hst := BldOk.step (S'' := S2.upd b (.obj 132 [.ref b 0, .sl (.acc t') 1 (rowsL (s ++ x.data.toList))])) h1 h.new ht1 hS1 ha rfl
  rw [rowsB_L, rowsL_append]
  conv => whnf
  refine ⟨_, _, hk, ?_⟩
  conv => whnf
  exact ⟨_, _, ⟨rfl, hst⟩, St.le_refl _, AV.leS_refl _ _ _⟩
theorem WriteByte_ok {S₀ S : St} {b : Nat} {s : List UInt8} (h : BldOk S₀ S b s) (c : UInt8) (hx : s.length + 1 ≤ 140737488355328) : Triple P (C G) 223 [.ref b 0, .int .u8 (c.toNat : Int)] S fun o S' => o = .ret .nili ∧ BldOk S₀ S' b (s ++ [c]) := by
  obtain ⟨p, t, hp, hS, ht⟩ := h.at_
  have hcc := copyCheck_ok (G := G) hS hp
  obtain ⟨h1, ht1⟩ := BldOk.used h.le h.new ht (.obj 132 [.ref b 0, .sl (.acc t) 1 (rowsL s)])
  generalize hcv : (c.toNat : Int) = cv
  refine triple_of_awp (hT G) hm Tryz.func223 rfl (by decide +kernel) rfl (by decide +kernel) (by show 2 ≤ _; decide +kernel) rfl ?_
  conv => whnf
  refine hcc.mono ?_
  rintro o S' ⟨rfl, rfl⟩
  have hS1 := St.upd_same S b (.obj 132 [.ref b 0, .sl (.acc t) 1 (rowsL s)])
  generalize S.upd b (.obj 132 [.ref b 0, .sl (.acc t) 1 (rowsL s)]) = S1 at *
  conv => whnf
  refine ⟨_, _, hS1, ?_⟩
  conv => whnf
  intro bb hbb
  have hle2 : St.le S1 (S1.upd bb (.tip 5 1 1)) := St.le_upd' (St.le_refl _) hbb _
  have h2 : St.le S₀ (S1.upd bb (.tip 5 1 1)) := St.le_trans h1 hle2
  have ht2 : s ≠ [] → (S1.upd bb (.tip 5 1 1)) t = some (.tip 5 1 s.length) ∧ S₀ t = none ∧ t ≠ b := fun hs => by obtain ⟨k1, k2, k3⟩ := ht1 hs; exact ⟨hle2 _ _ k1, k2, k3⟩
  have hS2 := hle2 _ _ hS1
  conv => whnf
  refine ⟨⟨fun hl => ?_, ?_⟩, fun S3 c1 c2 t' c3 => ?_⟩
  · have : s ≠ [] := by intro e; subst e; exact hl rfl
    rw [rowsL_len]; exact (ht2 this).1
  · show ((rowsL s).length + 1) * 1 ≤ _
    rw [rowsL_len]; omega
  have ha : AccStep (S1.upd bb (.tip 5 1 1)) t 5 1 s.length [c].length t' (S3.upd t' (.tip 5 1 (s.length + [c].length))) := .inr ⟨by simp, S3, fun e => c1 (by rw [List.eq_nil_of_length_eq_zero e]; rfl), fun e => c2 (rowsL_ne (by intro e'; subst e'; simp at e)), c3, rfl⟩
  have hk := AccStep.keep hS2 (fun hn => (ht2 (by intro e; subst e; simp at hn)).2.2) ha
  have hst := BldOk.step (S'' := (S3.upd t' (.tip 5 1 (s.length + [c].length))).upd b (.obj 132 [.ref b 0, .sl (.acc t') 1 (rowsL (s ++ [c]))])) h2 h.new ht2 hS2 ha rfl
  have er : rowsL s ++ [[.int .u8 cv]] = rowsL (s ++ [c]) := by rw [← hcv]; simp [rowsL]
  rw [er, rowsL_len]
  conv => whnf
  refine ⟨_, _, hk, ?_⟩
  conv => whnf
  exact ⟨_, _, ⟨rfl, hst⟩, St.le_refl _, AV.leS_refl _ _ _⟩
end Go.Proofs.YtcpdgnkhkdddhaaGreatDoor.Aw

set_option maxRecDepth 100000
set_option linter.unusedVariables false
set_option linter.unusedSimpArgs false
namespace Go.Proofs.YtcpdgnkhkdddhaaGreatDoor.Aw
open Go Go.RowKit
variable {G : Nat → Option (List AV)}

theorem nDigits_le : ∀ (k u : Nat), u < 10 ^ (k + 1) → Lib.nDigits u ≤ k + 1
  | 0, u, h => by rw [Lib.nDigits_small (by simpa using h)]; exact Nat.le_refl _
  | k + 1, u, h => by
    by_cases hu : u < 10
    · rw [Lib.nDigits_small hu]; omega
    · rw [Lib.nDigits_big hu]
      have := nDigits_le k (u / 10) (by rw [Nat.pow_succ] at h; omega)
      omega
theorem itoaS_list (n : Int) : (itoaS n).data.toList = Lib.itoa n := by simp [itoaS]
theorem itoaS_size (n : Int) : (itoaS n).size = (Lib.itoa n).length := by rw [← itoaS_list]; rfl
theorem itoa_len9 {d : Nat} (h : d < 1000000000) : (Lib.itoa (d : Int)).length ≤ 9 := by
  rw [Lib.itoa_nonneg, Lib.decDigits_length]; exact nDigits_le 8 d h
def repS (s : ByteArray) (c : Nat) : ByteArray := ⟨(Lib.repeatL s.data.toList c).toArray⟩
theorem repeat_ok (s : ByteArray) (c : Nat) (hc : c ≤ 1000000000) (hl : s.size * c ≤ 140737488355328) (S : St) : Triple P (C G) 224 [.str s, .int .i64 (c : Int)] S fun o S' => o = .ret (.str (repS s c)) ∧ S' = S := by
  refine Triple.of_calls (x := .str (repS s c)) Tryz.func224 rfl (by decide +kernel) (fun w vs hg hr => ?_) ⟨rfl, rfl⟩
  obtain ⟨u, v, hv, r1, r2⟩ := RelL.two hr
  simp only [Rel] at r1 r2
  subst r1 r2
  rw [show vs = #[.string s, .int .i64 (c : Int)] from arr_of_list hv]
  refine (Tryz.strings_Repeat s c w (by omega) hl).mono fun e w' he => ?_
  obtain ⟨rfl, hb⟩ := he
  exact ⟨_, rfl, by simp only [Rel]; rfl, hb⟩

/-! ### The builder, its buffer not yet laid -/
def BldW (S₀ S : St) (b : Nat) (s : List UInt8) : Prop := St.le S₀ S ∧ ∃ S1, St.leW S1 S ∧ BldOk S₀ S1 b s
theorem BldOk.w {S₀ S : St} {b : Nat} {s : List UInt8} (h : BldOk S₀ S b s) : BldW S₀ S b s := ⟨h.le, S, St.leW_refl _, h⟩
theorem BldW.string {S₀ S : St} {b : Nat} {s : List UInt8} (h : BldW S₀ S b s) : Triple P (C G) 66 [.ref b 0] S fun o S' => o = .ret (.str ⟨s.toArray⟩) ∧ St.le S₀ S' := by
  obtain ⟨_, S1, h1, h2⟩ := h
  exact Triple.weakS (String_ok h2) h1
theorem BldW.write {S₀ S : St} {b : Nat} {s : List UInt8} (h : BldW S₀ S b s) (x : ByteArray) (hx : s.length + x.size ≤ 140737488355328) : Triple P (C G) 65 [.ref b 0, .str x] S fun o S' => o = .ret (.tu [.int .i64 (x.size : Int), .nili]) ∧ BldW S₀ S' b (s ++ x.data.toList) := by
  obtain ⟨_, S1, h1, h2⟩ := h
  refine (Triple.weakS (WriteString_ok h2 x hx) h1).mono ?_
  rintro o S' ⟨rfl, h3⟩
  exact ⟨rfl, h3.w⟩
theorem BldW.byte {S₀ S : St} {b : Nat} {s : List UInt8} (h : BldW S₀ S b s) (c : UInt8) (hx : s.length + 1 ≤ 140737488355328) : Triple P (C G) 223 [.ref b 0, .int .u8 (c.toNat : Int)] S fun o S' => o = .ret .nili ∧ BldW S₀ S' b (s ++ [c]) := by
  obtain ⟨_, S1, h1, h2⟩ := h
  refine (Triple.weakS (WriteByte_ok h2 c hx) h1).mono ?_
  rintro o S' ⟨rfl, h3⟩
  exact ⟨rfl, h3.w⟩
/-- A fresh builder. -/
theorem BldW.new {S : St} {b : Nat} (hb : S b = none) : BldW S (S.upd b (.obj 132 [.nilp, .nils])) b [] := by
  have h1 := St.leW_upd (cs' := [.nilp, .sl (.acc 0) 1 (rowsL [])]) (St.upd_same S b (.obj 132 [.nilp, .nils])) ⟨rfl, rfl, trivial⟩
  rw [St.upd_upd] at h1
  exact ⟨St.le_upd' (St.le_refl _) hb _, _, h1, St.le_upd' (St.le_refl _) hb _, hb, .nilp, 0, .inl rfl, St.upd_same _ _ _, fun h => absurd rfl h⟩
theorem St.leW_over {S1 S : St} (h : St.leW S1 S) (x : Nat) (o : Own) : St.leW (S1.upd x o) (S.upd x o) := fun b => by
  by_cases hb : b = x
  · subst hb; rw [St.upd_same, St.upd_same]; exact .inl rfl
  · rw [St.upd_ne _ _ _ _ hb, St.upd_ne _ _ _ _ hb]; exact h b
theorem St.leW_del {S1 S : St} (h : St.leW S1 S) (x : Nat) : St.leW (S1.del x) (S.del x) := fun b => by
  by_cases hb : b = x
  · subst hb; rw [St.del_same, St.del_same]; exact .inl rfl
  · rw [St.del_ne _ _ _ hb, St.del_ne _ _ _ hb]; exact h b
theorem St.le_over {S₀ S : St} (h : St.le S₀ S) (x : Nat) (o : Own) : St.le (S₀.upd x o) (S.upd x o) := fun b p hp => by
  by_cases hb : b = x
  · subst hb; rw [St.upd_same] at hp ⊢; exact hp
  · rw [St.upd_ne _ _ _ _ hb] at hp ⊢; exact h b p hp
theorem St.le_dels {S₀ S : St} (h : St.le S₀ S) (x : Nat) : St.le (S₀.del x) (S.del x) := fun b p hp => by
  by_cases hb : b = x
  · subst hb; rw [St.del_same] at hp; cases hp
  · rw [St.del_ne _ _ _ hb] at hp ⊢; exact h b p hp
/-- Another block is laid, or turned. -/
theorem BldW.over {S₀ S : St} {b x : Nat} {s : List UInt8} (h : BldW S₀ S b s) (hx : S x = none ∨ ∃ o, S₀ x = some o) (o : Own) : BldW (S₀.upd x o) (S.upd x o) b s := by
  obtain ⟨h0, S1, h1, h2⟩ := h
  obtain ⟨p, t, hp, hS, ht⟩ := h2.at_
  have hbx : b ≠ x := by
    rintro rfl
    rcases hx with hx | ⟨o, hx⟩
    · rw [St.leW_none h1 hx] at hS; cases hS
    · rw [h2.new] at hx; cases hx
  have htx : s ≠ [] → t ≠ x := by
    rintro hs rfl
    obtain ⟨k1, k2, k3⟩ := ht hs
    rcases hx with hx | ⟨o, hx⟩
    · rw [St.leW_none h1 hx] at k1; cases k1
    · rw [k2] at hx; cases hx
  refine ⟨St.le_over h0 x o, _, St.leW_over h1 x o, St.le_over h2.le x o, by rw [St.upd_ne _ _ _ _ hbx]; exact h2.new, p, t, hp, by rw [St.upd_ne _ _ _ _ hbx]; exact hS, fun hs => ?_⟩
  obtain ⟨k1, k2, k3⟩ := ht hs
  rw [St.upd_ne _ _ _ _ (htx hs), St.upd_ne _ _ _ _ (htx hs)]
  exact ⟨k1, k2, k3⟩
theorem BldW.del {S₀ S : St} {b x : Nat} {s : List UInt8} (h : BldW S₀ S b s) (hx : ∃ o, S₀ x = some o) : BldW (S₀.del x) (S.del x) b s := by
  obtain ⟨h0, S1, h1, h2⟩ := h
  obtain ⟨p, t, hp, hS, ht⟩ := h2.at_
  obtain ⟨o, hx⟩ := hx
  have hbx : b ≠ x := by
    rintro rfl
    rw [h2.new] at hx; cases hx
  have htx : s ≠ [] → t ≠ x := by
    rintro hs rfl
    obtain ⟨k1, k2, k3⟩ := ht hs
    rw [k2] at hx; cases hx
  refine ⟨St.le_dels h0 x, _, St.leW_del h1 x, St.le_dels h2.le x, by rw [St.del_ne _ _ _ hbx]; exact h2.new, p, t, hp, by rw [St.del_ne _ _ _ hbx]; exact hS, fun hs => ?_⟩
  obtain ⟨k1, k2, k3⟩ := ht hs
  rw [St.del_ne _ _ _ (htx hs), St.del_ne _ _ _ (htx hs)]
  exact ⟨k1, k2, k3⟩
/-- A whole number's text, limb by limb from the top. -/
def textK (l : List Nat) (pre : List UInt8) : Nat → List UInt8
  | 0 => pre
  | k + 1 => textK l pre k ++ ((if k = 0 then [] else Lib.repeatL [48] (9 - (Lib.itoa ((l.getD (l.length - 1 - k) 0 : Nat) : Int)).length)) ++ Lib.itoa ((l.getD (l.length - 1 - k) 0 : Nat) : Int))
def textF (neg : Bool) (l : List Nat) : List UInt8 := textK l (if neg then [45] else []) l.length
theorem textK_len (l : List Nat) (pre : List UInt8) (hd : ∀ d ∈ l, d < 1000000000) (hp : pre.length ≤ 1) : ∀ k, (textK l pre k).length ≤ 1 + 18 * k
  | 0 => by simpa [textK] using hp
  | k + 1 => by
    have := textK_len l pre hd hp k
    have h9 : (Lib.itoa ((l.getD (l.length - 1 - k) 0 : Nat) : Int)).length ≤ 9 := by
      refine itoa_len9 ?_
      simp only [List.getD]
      cases h : l[l.length - 1 - k]? with
      | none => simp
      | some d => exact hd d (List.mem_of_getElem? h)
    simp only [textK, List.length_append]
    split
    · simp only [List.length_nil]; omega
    · rw [Lib.repeatL_length]; simp only [List.length_cons, List.length_nil]; omega
theorem St.upd_id {S : St} {x : Nat} {o : Own} (h : S x = some o) : S.upd x o = S := by
  funext y
  by_cases hy : y = x
  · subst hy; rw [St.upd_same, h]
  · rw [St.upd_ne _ _ _ _ hy]
theorem Text_far (hG : G10 G) (neg : Bool) (l : List Nat) (hl0 : l ≠ []) (hd : ∀ d ∈ l, d < 1000000000) (hl : l.length ≤ 1000000) (S : St) :
    Triple P (C G) 213 [farAV neg l] S fun o S' => o = .ret (.str ⟨(textF neg l).toArray⟩) ∧ S' = S := by
  refine triple_of_awp (hT G) hm Tryz.func213 rfl (by decide +kernel) rfl (by decide +kernel) (by show 1 ≤ _; decide +kernel) rfl ?_
  refine awp_seq2 fun K hK hQ => ?_
  conv => whnf
  intro b1 hb1
  conv => whnf
  refine hK _ _ ?_
  clear hK hQ K
  refine awp_seq2 fun K hK hQ => ?_
  conv => whnf
  refine ⟨_, _, St.upd_same _ _ _, ?_⟩
  conv => whnf
  intro c hc
  have hc := hc (rowsU_ne hl0); subst hc
  conv => whnf
  refine hK _ _ ?_
  clear hK hQ K
  refine awp_seq2 fun K hK hQ => ?_
  conv => whnf
  intro b3 hb3
  conv => whnf
  refine hK _ _ ?_
  clear hK hQ K
  have k1 := St.upd_same S b1 (.obj 292 [.int .i64 0, .bool neg, .sl .any 1 (rowsU l)])
  have hnew := BldW.new hb3
  have hle01 : St.le S (S.upd b1 (.obj 292 [.int .i64 0, .bool neg, .sl .any 1 (rowsU l)])) := St.le_upd' (St.le_refl _) hb1 _
  generalize S.upd b1 (.obj 292 [.int .i64 0, .bool neg, .sl .any 1 (rowsU l)]) = S1 at *
  generalize S1.upd b3 (.obj 132 [.nilp, .nils]) = S2 at *
  refine awp_seq2 fun K hK hQ => ?_
  conv => whnf
  refine ⟨_, _, hnew.1 _ _ k1, ?_⟩
  conv => whnf
  refine split_of (fun hneg => ?_) (fun hneg => ?_)
  · subst hneg
    conv => whnf
    refine (hnew.byte 45 (by simp)).mono ?_
    rintro o S3 ⟨rfl, h3⟩
    conv => whnf
    refine hK _ _ ?_
    clear hK hQ K
    -- S3, h3 : BldW S1 S3 b3 pre; k1 : S1 b1 = ..
    have hk1 := h3.1 _ _ k1
    refine awp_seq2 fun K hK hQ => ?_
    conv => whnf
    refine ⟨_, _, hk1, ?_⟩
    conv => whnf
    refine (Backward_ok l _).mono ?_
    rintro o S' ⟨bs, hbs, rfl, rfl⟩
    have h4 := h3.over (.inl hbs) (.obj 290 [.sl .any 1 (rowsU l)])
    conv => whnf
    intro l0 R hl0
    have h5 := h4.over (.inl hl0) (.lp R .ready)
    have nl : bs ≠ l0 := (St.ne_upd hl0).symm
    have n1 : b1 ≠ bs := St.ne_of hbs hk1
    have n2 : b1 ≠ l0 := St.ne_of hl0 (St.ov n1 hk1)
    have f1 : ((S1.upd bs (.obj 290 [.sl .any 1 (rowsU l)])).upd l0 (.lp R .ready)) b1 = some (.obj 292 [.int .i64 0, .bool true, .sl .any 1 (rowsU l)]) := St.ov n2 (St.ov n1 k1)
    have fb : ((S1.upd bs (.obj 290 [.sl .any 1 (rowsU l)])).upd l0 (.lp R .ready)) bs = some (.obj 290 [.sl .any 1 (rowsU l)]) := St.ov nl (St.upd_same _ _ _)
    have fl : ((S1.upd bs (.obj 290 [.sl .any 1 (rowsU l)])).upd l0 (.lp R .ready)) l0 = some (.lp R .ready) := St.upd_same _ _ _
    have le1 : St.le S1 (((S1.upd bs (.obj 290 [.sl .any 1 (rowsU l)])).upd l0 (.lp R .ready)).del l0) := by
      have nb : S1 bs = none := by
        cases e : S1 bs with
        | none => rfl
        | some o => rw [h3.1 _ _ e] at hbs; cases hbs
      have n0 : S1 l0 = none := by
        cases e : S1 l0 with
        | none => rfl
        | some o => rw [St.ov (St.ne_of nb e) (h3.1 _ _ e)] at hl0; cases hl0
      exact St.le_del' (St.le_upd (St.le_upd (St.le_refl _) nb _) n0 _) n0
    generalize ((S1.upd bs (.obj 290 [.sl .any 1 (rowsU l)])).upd l0 (.lp R .ready)) = S0 at *
    refine (Backward1_ok l (by omega) bs l0 _ (fun k S' => BldW S0 S' b3 (textK l [45] k)) _ h5 (fun k S' _ h => h.1 _ _ fb) (fun k S' hk2 hI K hK => ?_)).mono ?_
    · refine ⟨⟨hI.1 _ _ fl, rfl⟩, ?_⟩
      conv => whnf
      refine ⟨hI.1 _ _ fl, ?_⟩
      have hI1 := hI.over (.inr ⟨_, fl⟩) (.lp R .busy)
      have f1' : (S0.upd l0 (.lp R .busy)) b1 = some (.obj 292 [.int .i64 0, .bool true, .sl .any 1 (rowsU l)]) := St.ov n2 f1
      have fl' := St.upd_same S0 l0 (.lp R .busy)
      have hS0 : (S0.upd l0 (.lp R .busy)).upd l0 (.lp R .ready) = S0 := by rw [St.upd_upd]; exact St.upd_id fl
      have edd : l.getD (l.length - 1 - k) 0 = l[l.length - 1 - k] := by simp only [List.getD]; rw [List.getElem?_eq_getElem (by omega)]; rfl
      have hdd := hd _ (List.getElem_mem (show l.length - 1 - k < l.length by omega))
      have htl := textK_len l [45] hd (by simp) k
      have hnx : textK l [45] (k + 1) = textK l [45] k ++ ((if k = 0 then [] else Lib.repeatL [48] (9 - (Lib.itoa ((l[l.length - 1 - k] : Nat) : Int)).length)) ++ Lib.itoa ((l[l.length - 1 - k] : Nat) : Int)) := by rw [← edd]; rfl
      generalize l[l.length - 1 - k] = d at *
      generalize textK l [45] k = tk at *
      rw [hnx] at hK
      have h9 := itoa_len9 hdd
      have wd : IntKind.i64.wrap (d : Int) = (d : Int) := wrap_i64 (by omega) (by omega)
      conv => whnf
      rw [wd]
      refine (itoa_ok hG (d : Int) (by omega) (by omega) _).mono ?_
      rintro o S4 ⟨rfl, rfl⟩
      conv => whnf
      refine ⟨_, _, hI1.1 _ _ f1', ?_⟩
      conv => whnf
      intro _
      conv => whnf
      have wl : IntKind.i64.wrap (((rowsU l).length : Int) - 1) = (l.length : Int) - 1 := by rw [rowsU_len, wrap_i64 (by omega) (by omega)]
      rw [wl]
      refine split_of (fun hlt => ?_) (fun hlt => ?_)
      · have hk0 : k ≠ 0 := by have := of_decide_eq_true hlt; omega
        rw [if_neg hk0] at hK
        conv => whnf
        have e9 : IntKind.i64.wrap (9 - ((itoaS (d : Int)).size : Int)) = ((9 - (Lib.itoa (d : Int)).length : Nat) : Int) := by rw [itoaS_size, wrap_i64 (by omega) (by omega)]; omega
        rw [e9]
        refine (repeat_ok _ (9 - (Lib.itoa (d : Int)).length) (by omega) (by show 1 * _ ≤ _; omega) _).mono ?_
        rintro o S4 ⟨rfl, rfl⟩
        conv => whnf
        have er : (repS ⟨#[48]⟩ (9 - (Lib.itoa (d : Int)).length)).data.toList = Lib.repeatL [48] (9 - (Lib.itoa (d : Int)).length) := by simp [repS]
        have erl : (repS ⟨#[48]⟩ (9 - (Lib.itoa (d : Int)).length)).size = 9 - (Lib.itoa (d : Int)).length := by
          show (repS ⟨#[48]⟩ (9 - (Lib.itoa (d : Int)).length)).data.toList.length = _
          rw [er, Lib.repeatL_length]; simp
        refine (hI1.write (repS ⟨#[48]⟩ (9 - (Lib.itoa (d : Int)).length)) (by rw [erl]; omega)).mono ?_
        rintro o S4 ⟨rfl, hI2⟩
        rw [er] at hI2
        conv => whnf
        refine (hI2.write (itoaS (d : Int)) (by rw [List.length_append, Lib.repeatL_length, itoaS_size]; simp; omega)).mono ?_
        rintro o S5 ⟨rfl, hI3⟩
        rw [itoaS_list, List.append_assoc] at hI3
        conv => whnf
        refine ⟨hI3.1 _ _ fl', ?_⟩
        conv => whnf
        have hI4 := hI3.over (.inr ⟨_, fl'⟩) (.lp R .ready)
        rw [hS0] at hI4
        exact hK _ hI4
      · have hk0 : k = 0 := by have := of_decide_eq_false hlt; omega
        rw [if_pos hk0, List.nil_append] at hK
        conv => whnf
        refine (hI1.write (itoaS (d : Int)) (by rw [itoaS_size]; omega)).mono ?_
        rintro o S5 ⟨rfl, hI3⟩
        rw [itoaS_list] at hI3
        conv => whnf
        refine ⟨hI3.1 _ _ fl', ?_⟩
        conv => whnf
        have hI4 := hI3.over (.inr ⟨_, fl'⟩) (.lp R .ready)
        rw [hS0] at hI4
        exact hK _ hI4
    · rintro o S' ⟨⟨x, rfl⟩, h6⟩
      refine ⟨⟨_, rfl⟩, .ready, h6.1 _ _ fl, ?_⟩
      have h7 := h6.del ⟨_, fl⟩
      conv => whnf
      refine hK _ _ ?_
      clear hK hQ K
      conv => whnf
      refine h7.string.mono ?_
      rintro o S'' ⟨rfl, h8⟩
      conv => whnf
      exact ⟨_, _, ⟨rfl, rfl⟩, St.le_trans hle01 (St.le_trans le1 h8), AV.leS_refl _ _ _⟩
  · subst hneg
    conv => whnf
    refine hK _ _ ?_
    clear hK hQ K
    have h3 := hnew
    -- S3, h3 : BldW S1 S3 b3 pre; k1 : S1 b1 = ..
    have hk1 := h3.1 _ _ k1
    refine awp_seq2 fun K hK hQ => ?_
    conv => whnf
    refine ⟨_, _, hk1, ?_⟩
    conv => whnf
    refine (Backward_ok l _).mono ?_
    rintro o S' ⟨bs, hbs, rfl, rfl⟩
    have h4 := h3.over (.inl hbs) (.obj 290 [.sl .any 1 (rowsU l)])
    conv => whnf
    intro l0 R hl0
    have h5 := h4.over (.inl hl0) (.lp R .ready)
    have nl : bs ≠ l0 := (St.ne_upd hl0).symm
    have n1 : b1 ≠ bs := St.ne_of hbs hk1
    have n2 : b1 ≠ l0 := St.ne_of hl0 (St.ov n1 hk1)
    have f1 : ((S1.upd bs (.obj 290 [.sl .any 1 (rowsU l)])).upd l0 (.lp R .ready)) b1 = some (.obj 292 [.int .i64 0, .bool false, .sl .any 1 (rowsU l)]) := St.ov n2 (St.ov n1 k1)
    have fb : ((S1.upd bs (.obj 290 [.sl .any 1 (rowsU l)])).upd l0 (.lp R .ready)) bs = some (.obj 290 [.sl .any 1 (rowsU l)]) := St.ov nl (St.upd_same _ _ _)
    have fl : ((S1.upd bs (.obj 290 [.sl .any 1 (rowsU l)])).upd l0 (.lp R .ready)) l0 = some (.lp R .ready) := St.upd_same _ _ _
    have le1 : St.le S1 (((S1.upd bs (.obj 290 [.sl .any 1 (rowsU l)])).upd l0 (.lp R .ready)).del l0) := by
      have nb : S1 bs = none := by
        cases e : S1 bs with
        | none => rfl
        | some o => rw [h3.1 _ _ e] at hbs; cases hbs
      have n0 : S1 l0 = none := by
        cases e : S1 l0 with
        | none => rfl
        | some o => rw [St.ov (St.ne_of nb e) (h3.1 _ _ e)] at hl0; cases hl0
      exact St.le_del' (St.le_upd (St.le_upd (St.le_refl _) nb _) n0 _) n0
    generalize ((S1.upd bs (.obj 290 [.sl .any 1 (rowsU l)])).upd l0 (.lp R .ready)) = S0 at *
    refine (Backward1_ok l (by omega) bs l0 _ (fun k S' => BldW S0 S' b3 (textK l [] k)) _ h5 (fun k S' _ h => h.1 _ _ fb) (fun k S' hk2 hI K hK => ?_)).mono ?_
    · refine ⟨⟨hI.1 _ _ fl, rfl⟩, ?_⟩
      conv => whnf
      refine ⟨hI.1 _ _ fl, ?_⟩
      have hI1 := hI.over (.inr ⟨_, fl⟩) (.lp R .busy)
      have f1' : (S0.upd l0 (.lp R .busy)) b1 = some (.obj 292 [.int .i64 0, .bool false, .sl .any 1 (rowsU l)]) := St.ov n2 f1
      have fl' := St.upd_same S0 l0 (.lp R .busy)
      have hS0 : (S0.upd l0 (.lp R .busy)).upd l0 (.lp R .ready) = S0 := by rw [St.upd_upd]; exact St.upd_id fl
      have edd : l.getD (l.length - 1 - k) 0 = l[l.length - 1 - k] := by simp only [List.getD]; rw [List.getElem?_eq_getElem (by omega)]; rfl
      have hdd := hd _ (List.getElem_mem (show l.length - 1 - k < l.length by omega))
      have htl := textK_len l [] hd (by simp) k
      have hnx : textK l [] (k + 1) = textK l [] k ++ ((if k = 0 then [] else Lib.repeatL [48] (9 - (Lib.itoa ((l[l.length - 1 - k] : Nat) : Int)).length)) ++ Lib.itoa ((l[l.length - 1 - k] : Nat) : Int)) := by rw [← edd]; rfl
      generalize l[l.length - 1 - k] = d at *
      generalize textK l [] k = tk at *
      rw [hnx] at hK
      have h9 := itoa_len9 hdd
      have wd : IntKind.i64.wrap (d : Int) = (d : Int) := wrap_i64 (by omega) (by omega)
      conv => whnf
      rw [wd]
      refine (itoa_ok hG (d : Int) (by omega) (by omega) _).mono ?_
      rintro o S4 ⟨rfl, rfl⟩
      conv => whnf
      refine ⟨_, _, hI1.1 _ _ f1', ?_⟩
      conv => whnf
      intro _
      conv => whnf
      have wl : IntKind.i64.wrap (((rowsU l).length : Int) - 1) = (l.length : Int) - 1 := by rw [rowsU_len, wrap_i64 (by omega) (by omega)]
      rw [wl]
      refine split_of (fun hlt => ?_) (fun hlt => ?_)
      · have hk0 : k ≠ 0 := by have := of_decide_eq_true hlt; omega
        rw [if_neg hk0] at hK
        conv => whnf
        have e9 : IntKind.i64.wrap (9 - ((itoaS (d : Int)).size : Int)) = ((9 - (Lib.itoa (d : Int)).length : Nat) : Int) := by rw [itoaS_size, wrap_i64 (by omega) (by omega)]; omega
        rw [e9]
        refine (repeat_ok _ (9 - (Lib.itoa (d : Int)).length) (by omega) (by show 1 * _ ≤ _; omega) _).mono ?_
        rintro o S4 ⟨rfl, rfl⟩
        conv => whnf
        have er : (repS ⟨#[48]⟩ (9 - (Lib.itoa (d : Int)).length)).data.toList = Lib.repeatL [48] (9 - (Lib.itoa (d : Int)).length) := by simp [repS]
        have erl : (repS ⟨#[48]⟩ (9 - (Lib.itoa (d : Int)).length)).size = 9 - (Lib.itoa (d : Int)).length := by
          show (repS ⟨#[48]⟩ (9 - (Lib.itoa (d : Int)).length)).data.toList.length = _
          rw [er, Lib.repeatL_length]; simp
        refine (hI1.write (repS ⟨#[48]⟩ (9 - (Lib.itoa (d : Int)).length)) (by rw [erl]; omega)).mono ?_
        rintro o S4 ⟨rfl, hI2⟩
        rw [er] at hI2
        conv => whnf
        refine (hI2.write (itoaS (d : Int)) (by rw [List.length_append, Lib.repeatL_length, itoaS_size]; simp; omega)).mono ?_
        rintro o S5 ⟨rfl, hI3⟩
        rw [itoaS_list, List.append_assoc] at hI3
        conv => whnf
        refine ⟨hI3.1 _ _ fl', ?_⟩
        conv => whnf
        have hI4 := hI3.over (.inr ⟨_, fl'⟩) (.lp R .ready)
        rw [hS0] at hI4
        exact hK _ hI4
      · have hk0 : k = 0 := by have := of_decide_eq_false hlt; omega
        rw [if_pos hk0, List.nil_append] at hK
        conv => whnf
        refine (hI1.write (itoaS (d : Int)) (by rw [itoaS_size]; omega)).mono ?_
        rintro o S5 ⟨rfl, hI3⟩
        rw [itoaS_list] at hI3
        conv => whnf
        refine ⟨hI3.1 _ _ fl', ?_⟩
        conv => whnf
        have hI4 := hI3.over (.inr ⟨_, fl'⟩) (.lp R .ready)
        rw [hS0] at hI4
        exact hK _ hI4
    · rintro o S' ⟨⟨x, rfl⟩, h6⟩
      refine ⟨⟨_, rfl⟩, .ready, h6.1 _ _ fl, ?_⟩
      have h7 := h6.del ⟨_, fl⟩
      conv => whnf
      refine hK _ _ ?_
      clear hK hQ K
      conv => whnf
      refine h7.string.mono ?_
      rintro o S'' ⟨rfl, h8⟩
      conv => whnf
      exact ⟨_, _, ⟨rfl, rfl⟩, St.le_trans hle01 (St.le_trans le1 h8), AV.leS_refl _ _ _⟩
end Go.Proofs.YtcpdgnkhkdddhaaGreatDoor.Aw

set_option maxRecDepth 100000
set_option linter.unusedVariables false
set_option linter.unusedSimpArgs false
namespace Go.Proofs.YtcpdgnkhkdddhaaGreatDoor.Aw
open Go Go.RowKit
variable {G : Nat → Option (List AV)}

/-- A variable of type error among the program's. -/
def GErr (G : Nat → Option (List AV)) (g : Nat) : Prop := G g = some [.nili] ∨ ∃ te, G g = some [.ifc te .top]
theorem glob_err {w : World} {S : St} (hg : Good (C G) w S) {g : Nat} (h : GErr G g) : ∃ ev, w.cell? ⟨g, 0, none⟩ = some ev ∧ (ev = .nilIface ∨ ∃ te pe, ev = .iface te pe) := by
  rcases h with h | ⟨te, h⟩
  · obtain ⟨_, _, h3, _⟩ := hg.2 g _ h
    simp only [RelAt] at h3
    obtain ⟨⟨v, ⟨_, h4, _⟩, h5⟩, _⟩ := h3
    simp only [Rel] at h5
    exact ⟨v, h4, .inl h5⟩
  · obtain ⟨_, _, h3, _⟩ := hg.2 g _ h
    simp only [RelAt] at h3
    obtain ⟨⟨v, ⟨_, h4, _⟩, h5⟩, _⟩ := h3
    simp only [Rel] at h5
    obtain ⟨y, h5, _⟩ := h5
    exact ⟨v, h4, .inr ⟨te, y, h5⟩⟩
/-- What strconv's package variables hold. -/
structure GS (G : Nat → Option (List AV)) : Prop where
  tab : G10 G
  esyn : GErr G 7
  eran : GErr G 8
def atoiAV (s : ByteArray) : AV := match Lib.atoiAll s.data.toList with
  | .ok v => .tu [.int .i64 v, .nili]
  | .range => .tu [.int .i64 (Lib.atoiSat s.data.toList), .ifc 326 .top]
  | _ => .tu [.int .i64 0, .ifc 326 .top]
theorem atoi_ok (hG : GS G) (s : ByteArray) (hl : s.size ≤ 281474976710656) (S : St) : Triple P (C G) 212 [.str s] S fun o S' => o = .ret (atoiAV s) ∧ S' = S := by
  refine Triple.of_calls (x := atoiAV s) Tryz.func212 rfl (by decide +kernel) (fun w vs hg hr => ?_) ⟨rfl, rfl⟩
  obtain ⟨v, hv, r1⟩ := RelL.one hr
  simp only [Rel] at r1
  subst r1
  rw [show vs = #[.string s] from arr_of_list hv]
  unfold atoiAV
  cases h : Lib.atoiAll s.data.toList with
  | ok u =>
    refine (Tryz.strconv_Atoi_ok s (by omega) u h w).mono fun e w' he => ?_
    obtain ⟨rfl, hw⟩ := he
    refine ⟨_, rfl, by simp only [Rel, RelL]; exact ⟨_, rfl, _, _, rfl, rfl, _, _, rfl, rfl, rfl⟩, ?_⟩
    rcases hw with rfl | ⟨t, rfl⟩
    · exact Below.refl _ _
    · exact Lib.bytesWorld_below w 5 t
  | range =>
    obtain ⟨ev, h1, h2⟩ := glob_err hg hG.eran
    refine (Tryz.strconv_Atoi_range s hl h ev w h1 h2).mono fun e w' he => ?_
    obtain ⟨N, rfl, _, _, hb⟩ := he
    exact ⟨_, rfl, by simp only [Rel, RelL]; exact ⟨_, rfl, _, _, rfl, rfl, _, _, rfl, ⟨_, rfl, trivial⟩, rfl⟩, hb⟩
  | _ =>
    obtain ⟨ev, h1, h2⟩ := glob_err hg hG.esyn
    refine (Tryz.strconv_Atoi_bad s hl (fun v hv => by rw [h] at hv; cases hv) (fun hv => by rw [h] at hv; cases hv) ev w h1 h2).mono fun e w' he => ?_
    obtain ⟨N, rfl, _, _, hb⟩ := he
    exact ⟨_, rfl, by simp only [Rel, RelL]; exact ⟨_, rfl, _, _, rfl, rfl, _, _, rfl, ⟨_, rfl, trivial⟩, rfl⟩, hb⟩
/-- big.Int's Small. -/
def smallV (z : Int) : Int × Bool :=
  if near z then (z, true) else if 3 < (limbs z.natAbs).length then (0, false) else
  match Lib.atoiAll (textF (decide (z < 0)) (limbs z.natAbs)) with
  | .ok v => (v, true)
  | _ => (0, false)
theorem Small_ok (hG : GS G) (z : Int) (S : St) : Triple P (C G) 205 [bigAV z] S fun o S' => o = .ret (.tu [.int .i64 (smallV z).1, .bool (smallV z).2]) ∧ S' = S := by
  unfold smallV
  by_cases h : near z
  · rw [bigAV_near h, if_pos h]
    refine triple_of_awp (hT G) hm Tryz.func205 rfl (by decide +kernel) rfl (by decide +kernel) (by show 1 ≤ _; decide +kernel) rfl ?_
    conv => whnf
    intro b hb
    conv => whnf
    refine ⟨_, _, St.upd_same _ _ _, ?_⟩
    conv => whnf
    refine ⟨_, _, St.upd_same _ _ _, ?_⟩
    conv => whnf
    exact ⟨_, _, ⟨rfl, rfl⟩, St.le_upd' (St.le_refl _) hb _, AV.leS_refl _ _ _⟩
  · have hp := far_pos h
    have hl0 := limbs_ne (n := z.natAbs) (by omega)
    have ht := fun hl S => Text_far (G := G) hG.tab (decide (z < 0)) (limbs z.natAbs) hl0 (limbs_lt _) hl S
    have hlen : ∀ k, (limbs z.natAbs).length = k → (textF (decide (z < 0)) (limbs z.natAbs)).length ≤ 1 + 18 * k := fun k hk => by
      subst hk; exact textK_len _ _ (limbs_lt _) (by split <;> simp) _
    rw [bigAV_far h, if_neg h]
    generalize limbs z.natAbs = l at *
    generalize decide (z < 0) = neg at *
    refine triple_of_awp (hT G) hm Tryz.func205 rfl (by decide +kernel) rfl (by decide +kernel) (by show 1 ≤ _; decide +kernel) rfl ?_
    conv => whnf
    intro b hb
    conv => whnf
    refine ⟨_, _, St.upd_same _ _ _, ?_⟩
    conv => whnf
    intro c hc
    have hc := hc (rowsU_ne hl0); subst hc
    conv => whnf
    refine ⟨_, _, St.upd_same _ _ _, ?_⟩
    conv => whnf
    intro _
    conv => whnf
    refine split_of (fun h3 => ?_) (fun h3 => ?_)
    · have h3 : 3 < l.length := by have := of_decide_eq_true h3; rw [rowsU_len] at this; omega
      rw [if_pos h3]
      conv => whnf
      exact ⟨_, _, ⟨rfl, rfl⟩, St.le_upd' (St.le_refl _) hb _, AV.leS_refl _ _ _⟩
    · have h3 : ¬ 3 < l.length := by have := of_decide_eq_false h3; rw [rowsU_len] at this; omega
      rw [if_neg h3]
      have ht := ht (by omega)
      have hlen := hlen _ rfl
      generalize textF neg l = tx at *
      conv => whnf
      refine ⟨_, _, St.upd_same _ _ _, ?_⟩
      conv => whnf
      refine (ht _).mono ?_
      rintro o S' ⟨rfl, rfl⟩
      conv => whnf
      have ha := atoi_ok hG ⟨tx.toArray⟩ (by show tx.toArray.size ≤ _; simp; omega) (S.upd b (.obj 292 [.int .i64 0, .bool neg, .sl .any 1 (rowsU l)]))
      unfold atoiAV at ha
      have el : (⟨tx.toArray⟩ : ByteArray).data.toList = tx := by simp
      rw [el] at ha
      generalize Lib.atoiSat tx = sat at *
      cases hat : Lib.atoiAll tx with
      | ok v =>
        rw [hat] at ha
        refine ha.mono ?_
        rintro o S' ⟨rfl, rfl⟩
        conv => whnf
        exact ⟨_, _, ⟨rfl, rfl⟩, St.le_upd' (St.le_refl _) hb _, AV.leS_refl _ _ _⟩
      | range =>
        rw [hat] at ha
        refine ha.mono ?_
        rintro o S' ⟨rfl, rfl⟩
        conv => whnf
        exact ⟨_, _, ⟨rfl, rfl⟩, St.le_upd' (St.le_refl _) hb _, AV.leS_refl _ _ _⟩
      | _ =>
        rw [hat] at ha
        refine ha.mono ?_
        rintro o S' ⟨rfl, rfl⟩
        conv => whnf
        exact ⟨_, _, ⟨rfl, rfl⟩, St.le_upd' (St.le_refl _) hb _, AV.leS_refl _ _ _⟩
end Go.Proofs.YtcpdgnkhkdddhaaGreatDoor.Aw

set_option maxRecDepth 100000
set_option linter.unusedVariables false
set_option linter.unusedSimpArgs false
namespace Go.Proofs.YtcpdgnkhkdddhaaGreatDoor.Aw
open Go Go.RowKit
variable {G : Nat → Option (List AV)}

theorem trimPrefix_len (l p : List UInt8) : (Lib.trimPrefix l p).length ≤ l.length := by
  unfold Lib.trimPrefix
  split <;> simp
theorem okZ_parse (l : List UInt8) {k : Nat} (hl : l.length ≤ k) : okZ ((parseI l).getD 0) k := by
  unfold okZ
  refine limbs_len _ _ ?_
  have h1 : ((parseI l).getD 0).natAbs < 10 ^ l.length := by
    unfold parseI
    simp only []
    split
    · exact Nat.pow_pos (by decide)
    · rename_i h
      have hd : (Lib.trimPrefix l [45]).all digitB = true := by
        cases hh : (Lib.trimPrefix l [45]).all digitB with
        | true => rfl
        | false => exact absurd (Or.inr (Or.inr hh)) h
      have := decV_lt _ hd
      have h2 := Nat.pow_le_pow_right (n := 10) (by decide) (trimPrefix_len l [45])
      simp only [Option.getD_some]
      split <;> simp <;> omega
  refine Nat.lt_of_lt_of_le h1 ?_
  rw [show (1000000000 : Nat) = 10 ^ 9 by decide, ← Nat.pow_mul]
  exact Nat.pow_le_pow_right (by decide) (by omega)
/-- proof.isNumber. -/
def isNumV (l : List UInt8) (low : Int) : Bool := (parseI l).isSome && (decide (low < 0) || decide (low ≤ (parseI l).getD 0))
theorem isNumber_ok (s : ByteArray) (hs : s.size ≤ 9000000) (low : Int) (h0 : -9223372036854775808 ≤ low) (h1 : low ≤ 9223372036854775807) (S : St) :
    Triple P (C G) 193 [.str s, .int .i64 low] S fun o S' => o = .ret (.bool (isNumV s.data.toList low)) ∧ S' = S := by
  have hp := fun S => Parse_ok (G := G) s (by omega) S
  have hsl : s.data.toList.length = s.size := by rw [Array.length_toList]; rfl
  have hz := okZ_parse s.data.toList (k := 9000000) (by omega)
  have hz2 : okZ low 9000000 := by
    unfold okZ
    refine Nat.le_trans (limbs_len 3 _ (by omega)) (by decide)
  have ho := fun S => Of_ok (G := G) low h0 h1 S
  unfold isNumV
  generalize hpi : parseI s.data.toList = pz at *
  have hcmp := fun S => Cmp_ok (G := G) (pz.getD 0) low hz hz2 S
  have hsg : decide (bSign (pz.getD 0 - low) ≥ 0) = decide (low ≤ pz.getD 0) := by
    unfold bSign
    by_cases h : pz.getD 0 - low < 0
    · simp [h]; omega
    · rw [if_neg h]
      by_cases h' : pz.getD 0 - low = 0
      · simp [h']; omega
      · rw [if_neg h']; simp; omega
  generalize hzz : pz.getD 0 = z at *
  rw [← hsg]
  clear hsg
  generalize pz.isSome = f at *
  by_cases hx : near z
  · rw [bigAV_near hx] at *
    by_cases hl : near low
    · rw [bigAV_near hl] at *
      refine triple_of_awp (hT G) hm Tryz.func193 rfl (by decide +kernel) rfl (by decide +kernel) (by show 2 ≤ _; decide +kernel) rfl ?_
      conv => whnf
      refine (hp _).mono ?_
      rintro o S' ⟨rfl, rfl⟩
      conv => whnf
      intro b5 hb5
      conv => whnf
      refine ⟨_, _, St.upd_same _ _ _, ?_⟩
      conv => whnf
      refine ⟨[8, 9], (.free 0 (.free 1 (.free 2 (.free 3 (.free 4 (.free 5 (.free 6 (.free 7 (.free 8 (.free 9 (.free 10 (.free 11 (.free 12 (.free 13 .done)))))))))))))), _, by decide +kernel, ?_, fun _ _ h => ⟨_, .inl rfl, h⟩⟩
      cases f with
      | false =>
        conv => whnf
        exact ⟨_, _, ⟨rfl, rfl⟩, by rw [St.upd_upd]; exact St.le_upd' (St.le_refl _) hb5 _, AV.leS_refl _ _ _⟩
      | true =>
        conv => whnf
        cases hd : decide (low < 0) with
        | true =>
          rw [hd] at *
          conv => whnf
          exact ⟨_, _, ⟨rfl, rfl⟩, by rw [St.upd_upd]; exact St.le_upd' (St.le_refl _) hb5 _, AV.leS_refl _ _ _⟩
        | false =>
          rw [hd] at *
          conv => whnf
          refine ⟨_, _, St.upd_same _ _ _, ?_⟩
          conv => whnf
          refine ⟨nearAV low, (ho _).mono ?_, ?_⟩
          · rintro o S' ⟨rfl, rfl⟩; exact ⟨rfl, rfl⟩
          conv => whnf
          refine ⟨.int .i64 (bSign (z - low)), (hcmp _).mono ?_, ?_⟩
          · rintro o S' ⟨rfl, rfl⟩; exact ⟨rfl, rfl⟩
          conv => whnf
          exact ⟨_, _, ⟨rfl, rfl⟩, by rw [St.upd_upd]; exact St.le_upd' (St.le_refl _) hb5 _, AV.leS_refl _ _ _⟩
    · rw [bigAV_far hl] at *
      refine triple_of_awp (hT G) hm Tryz.func193 rfl (by decide +kernel) rfl (by decide +kernel) (by show 2 ≤ _; decide +kernel) rfl ?_
      conv => whnf
      refine (hp _).mono ?_
      rintro o S' ⟨rfl, rfl⟩
      conv => whnf
      intro b5 hb5
      conv => whnf
      refine ⟨_, _, St.upd_same _ _ _, ?_⟩
      conv => whnf
      refine ⟨[8, 9], (.free 0 (.free 1 (.free 2 (.free 3 (.free 4 (.free 5 (.free 6 (.free 7 (.free 8 (.free 9 (.free 10 (.free 11 (.free 12 (.free 13 .done)))))))))))))), _, by decide +kernel, ?_, fun _ _ h => ⟨_, .inl rfl, h⟩⟩
      cases f with
      | false =>
        conv => whnf
        exact ⟨_, _, ⟨rfl, rfl⟩, by rw [St.upd_upd]; exact St.le_upd' (St.le_refl _) hb5 _, AV.leS_refl _ _ _⟩
      | true =>
        conv => whnf
        cases hd : decide (low < 0) with
        | true =>
          rw [hd] at *
          conv => whnf
          exact ⟨_, _, ⟨rfl, rfl⟩, by rw [St.upd_upd]; exact St.le_upd' (St.le_refl _) hb5 _, AV.leS_refl _ _ _⟩
        | false =>
          rw [hd] at *
          conv => whnf
          refine ⟨_, _, St.upd_same _ _ _, ?_⟩
          conv => whnf
          refine ⟨farAV (decide (low < 0)) (limbs low.natAbs), (ho _).mono ?_, ?_⟩
          · rintro o S' ⟨rfl, rfl⟩; exact ⟨rfl, rfl⟩
          conv => whnf
          refine ⟨.int .i64 (bSign (z - low)), (hcmp _).mono ?_, ?_⟩
          · rintro o S' ⟨rfl, rfl⟩; exact ⟨rfl, rfl⟩
          conv => whnf
          exact ⟨_, _, ⟨rfl, rfl⟩, by rw [St.upd_upd]; exact St.le_upd' (St.le_refl _) hb5 _, AV.leS_refl _ _ _⟩
  · rw [bigAV_far hx] at *
    by_cases hl : near low
    · rw [bigAV_near hl] at *
      refine triple_of_awp (hT G) hm Tryz.func193 rfl (by decide +kernel) rfl (by decide +kernel) (by show 2 ≤ _; decide +kernel) rfl ?_
      conv => whnf
      refine (hp _).mono ?_
      rintro o S' ⟨rfl, rfl⟩
      conv => whnf
      intro b5 hb5
      conv => whnf
      refine ⟨_, _, St.upd_same _ _ _, ?_⟩
      conv => whnf
      refine ⟨[8, 9], (.free 0 (.free 1 (.free 2 (.free 3 (.free 4 (.free 5 (.free 6 (.free 7 (.free 8 (.free 9 (.free 10 (.free 11 (.free 12 (.free 13 .done)))))))))))))), _, by decide +kernel, ?_, fun _ _ h => ⟨_, .inl rfl, h⟩⟩
      cases f with
      | false =>
        conv => whnf
        exact ⟨_, _, ⟨rfl, rfl⟩, by rw [St.upd_upd]; exact St.le_upd' (St.le_refl _) hb5 _, AV.leS_refl _ _ _⟩
      | true =>
        conv => whnf
        cases hd : decide (low < 0) with
        | true =>
          rw [hd] at *
          conv => whnf
          exact ⟨_, _, ⟨rfl, rfl⟩, by rw [St.upd_upd]; exact St.le_upd' (St.le_refl _) hb5 _, AV.leS_refl _ _ _⟩
        | false =>
          rw [hd] at *
          conv => whnf
          refine ⟨_, _, St.upd_same _ _ _, ?_⟩
          conv => whnf
          refine ⟨nearAV low, (ho _).mono ?_, ?_⟩
          · rintro o S' ⟨rfl, rfl⟩; exact ⟨rfl, rfl⟩
          conv => whnf
          refine ⟨.int .i64 (bSign (z - low)), (hcmp _).mono ?_, ?_⟩
          · rintro o S' ⟨rfl, rfl⟩; exact ⟨rfl, rfl⟩
          conv => whnf
          exact ⟨_, _, ⟨rfl, rfl⟩, by rw [St.upd_upd]; exact St.le_upd' (St.le_refl _) hb5 _, AV.leS_refl _ _ _⟩
    · rw [bigAV_far hl] at *
      refine triple_of_awp (hT G) hm Tryz.func193 rfl (by decide +kernel) rfl (by decide +kernel) (by show 2 ≤ _; decide +kernel) rfl ?_
      conv => whnf
      refine (hp _).mono ?_
      rintro o S' ⟨rfl, rfl⟩
      conv => whnf
      intro b5 hb5
      conv => whnf
      refine ⟨_, _, St.upd_same _ _ _, ?_⟩
      conv => whnf
      refine ⟨[8, 9], (.free 0 (.free 1 (.free 2 (.free 3 (.free 4 (.free 5 (.free 6 (.free 7 (.free 8 (.free 9 (.free 10 (.free 11 (.free 12 (.free 13 .done)))))))))))))), _, by decide +kernel, ?_, fun _ _ h => ⟨_, .inl rfl, h⟩⟩
      cases f with
      | false =>
        conv => whnf
        exact ⟨_, _, ⟨rfl, rfl⟩, by rw [St.upd_upd]; exact St.le_upd' (St.le_refl _) hb5 _, AV.leS_refl _ _ _⟩
      | true =>
        conv => whnf
        cases hd : decide (low < 0) with
        | true =>
          rw [hd] at *
          conv => whnf
          exact ⟨_, _, ⟨rfl, rfl⟩, by rw [St.upd_upd]; exact St.le_upd' (St.le_refl _) hb5 _, AV.leS_refl _ _ _⟩
        | false =>
          rw [hd] at *
          conv => whnf
          refine ⟨_, _, St.upd_same _ _ _, ?_⟩
          conv => whnf
          refine ⟨farAV (decide (low < 0)) (limbs low.natAbs), (ho _).mono ?_, ?_⟩
          · rintro o S' ⟨rfl, rfl⟩; exact ⟨rfl, rfl⟩
          conv => whnf
          refine ⟨.int .i64 (bSign (z - low)), (hcmp _).mono ?_, ?_⟩
          · rintro o S' ⟨rfl, rfl⟩; exact ⟨rfl, rfl⟩
          conv => whnf
          exact ⟨_, _, ⟨rfl, rfl⟩, by rw [St.upd_upd]; exact St.le_upd' (St.le_refl _) hb5 _, AV.leS_refl _ _ _⟩
/-- proof.literal. -/
def litV (l : List UInt8) : Int :=
  let s1 := Lib.trimPrefix l [126]
  let s2 := Lib.trimPrefix s1 [120]
  let z := (parseI s2).getD 0
  if Lib.hasPrefix s1 [120] = false ∨ (parseI s2).isSome = false ∨ (smallV z).2 = false ∨ (smallV z).1 < 1 ∨ 1073741824 < (smallV z).1 then 0
  else if Lib.hasPrefix l [126] then -(smallV z).1 else (smallV z).1
theorem cutPrefix_list (l p : List UInt8) (S : St) : Triple P (C G) 204 [.str ⟨l.toArray⟩, .str ⟨p.toArray⟩] S fun o S' =>
    o = .ret (.tu [.str ⟨(Lib.trimPrefix l p).toArray⟩, .bool (Lib.hasPrefix l p)]) ∧ S' = S := by
  have h := CutPrefix_ok (G := G) ⟨l.toArray⟩ ⟨p.toArray⟩ S
  simpa only [List.toList_toArray] using h
theorem parse_list (l : List UInt8) (hl : l.length ≤ 1000000000) (S : St) : Triple P (C G) 201 [.str ⟨l.toArray⟩] S fun o S' =>
    o = .ret (.tu [bigAV ((parseI l).getD 0), .int .i64 (if (parseI l).isSome then 0 else 10)]) ∧ S' = S := by
  have h := Parse_ok (G := G) ⟨l.toArray⟩ (by show Array.size _ ≤ _; simpa using hl) S
  simpa only [List.toList_toArray] using h
theorem literal_list (hG : GS G) (l : List UInt8) (hs : l.length ≤ 9000000) (S : St) : Triple P (C G) 194 [.str ⟨l.toArray⟩] S fun o S' => o = .ret (.int .i64 (litV l)) ∧ S' = S := by
  have h1 := trimPrefix_len l [126]
  have h2 := trimPrefix_len (Lib.trimPrefix l [126]) [120]
  have hp := fun S => parse_list (G := G) (Lib.trimPrefix (Lib.trimPrefix l [126]) [120]) (by omega) S
  have hsm := fun S => Small_ok hG ((parseI (Lib.trimPrefix (Lib.trimPrefix l [126]) [120])).getD 0) S
  have c1 := fun S => cutPrefix_list (G := G) l [126] S
  have c2 := fun S => cutPrefix_list (G := G) (Lib.trimPrefix l [126]) [120] S
  unfold litV
  simp only []
  generalize hneg : Lib.hasPrefix l [126] = neg at *
  generalize hokx : Lib.hasPrefix (Lib.trimPrefix l [126]) [120] = okx at *
  generalize hs1 : Lib.trimPrefix l [126] = s1 at *
  generalize hs2 : Lib.trimPrefix s1 [120] = s2 at *
  generalize (parseI s2).isSome = f at *
  generalize (parseI s2).getD 0 = z at *
  generalize (smallV z).1 = v at *
  generalize (smallV z).2 = sm at *
  by_cases hz : near z
  · rw [bigAV_near hz] at *
    refine triple_of_awp (hT G) hm Tryz.func194 rfl (by decide +kernel) rfl (by decide +kernel) (by show 1 ≤ _; decide +kernel) rfl ?_
    refine awp_seq2 fun K hK hQ => ?_
    conv => whnf
    refine hK _ _ ?_
    clear hK hQ K
    refine awp_seq2 fun K hK hQ => ?_
    conv => whnf
    refine (c1 _).mono ?_
    rintro o S' ⟨rfl, rfl⟩
    conv => whnf
    refine hK _ _ ?_
    clear hK hQ K
    refine awp_seq2 fun K hK hQ => ?_
    conv => whnf
    refine (c2 _).mono ?_
    rintro o S' ⟨rfl, rfl⟩
    conv => whnf
    refine hK _ _ ?_
    clear hK hQ K
    refine awp_seq2 fun K hK hQ => ?_
    conv => whnf
    refine (hp _).mono ?_
    rintro o S' ⟨rfl, rfl⟩
    conv => whnf
    intro b6 hb6
    conv => whnf
    refine ⟨_, _, St.upd_same _ _ _, ?_⟩
    conv => whnf
    refine hK _ _ ?_
    clear hK hQ K
    refine awp_seq2 fun K hK hQ => ?_
    conv => whnf
    refine ⟨_, _, St.upd_same _ _ _, ?_⟩
    conv => whnf
    refine (hsm _).mono ?_
    rintro o S' ⟨rfl, rfl⟩
    conv => whnf
    refine hK _ _ ?_
    clear hK hQ K
    have hle : St.le S' ((S'.upd b6 (.obj 292 [.int .i64 0, .bool false, .nils])).upd b6 (.obj 292 [.int .i64 z, .bool false, .nils])) := by rw [St.upd_upd]; exact St.le_upd' (St.le_refl _) hb6 _
    cases okx with
    | false => conv => whnf
               exact ⟨_, _, ⟨by rw [if_pos (.inl rfl)], rfl⟩, hle, AV.leS_refl _ _ _⟩
    | true =>
      cases f with
      | false => conv => whnf
                 exact ⟨_, _, ⟨by rw [if_pos (.inr (.inl rfl))], rfl⟩, hle, AV.leS_refl _ _ _⟩
      | true =>
        cases sm with
        | false => conv => whnf
                   exact ⟨_, _, ⟨by rw [if_pos (.inr (.inr (.inl rfl)))], rfl⟩, hle, AV.leS_refl _ _ _⟩
        | true =>
          conv => whnf
          refine split_of (fun h1 => ?_) (fun h1 => ?_)
          · conv => whnf
            have h1 := of_decide_eq_true h1
            exact ⟨_, _, ⟨by rw [if_pos (.inr (.inr (.inr (.inl h1))))], rfl⟩, hle, AV.leS_refl _ _ _⟩
          · have h1 := of_decide_eq_false h1
            conv => whnf
            refine split_of (fun h2 => ?_) (fun h2 => ?_)
            · have h2 := of_decide_eq_true h2
              conv => whnf
              exact ⟨_, _, ⟨by rw [if_pos (.inr (.inr (.inr (.inr h2))))], rfl⟩, hle, AV.leS_refl _ _ _⟩
            · have h2 := of_decide_eq_false h2
              have hn : ¬ (true = false ∨ true = false ∨ true = false ∨ v < 1 ∨ 1073741824 < v) := by simp; omega
              cases neg with
              | true => conv => whnf
                        exact ⟨_, _, ⟨by rw [if_neg hn, if_pos rfl, wrap_i64 (by omega) (by omega)]; simp, rfl⟩, hle, AV.leS_refl _ _ _⟩
              | false => conv => whnf
                         exact ⟨_, _, ⟨by rw [if_neg hn, if_neg (by simp)], rfl⟩, hle, AV.leS_refl _ _ _⟩
  · rw [bigAV_far hz] at *
    refine triple_of_awp (hT G) hm Tryz.func194 rfl (by decide +kernel) rfl (by decide +kernel) (by show 1 ≤ _; decide +kernel) rfl ?_
    refine awp_seq2 fun K hK hQ => ?_
    conv => whnf
    refine hK _ _ ?_
    clear hK hQ K
    refine awp_seq2 fun K hK hQ => ?_
    conv => whnf
    refine (c1 _).mono ?_
    rintro o S' ⟨rfl, rfl⟩
    conv => whnf
    refine hK _ _ ?_
    clear hK hQ K
    refine awp_seq2 fun K hK hQ => ?_
    conv => whnf
    refine (c2 _).mono ?_
    rintro o S' ⟨rfl, rfl⟩
    conv => whnf
    refine hK _ _ ?_
    clear hK hQ K
    refine awp_seq2 fun K hK hQ => ?_
    conv => whnf
    refine (hp _).mono ?_
    rintro o S' ⟨rfl, rfl⟩
    conv => whnf
    intro b6 hb6
    conv => whnf
    refine ⟨_, _, St.upd_same _ _ _, ?_⟩
    conv => whnf
    refine hK _ _ ?_
    clear hK hQ K
    refine awp_seq2 fun K hK hQ => ?_
    conv => whnf
    refine ⟨_, _, St.upd_same _ _ _, ?_⟩
    conv => whnf
    refine (hsm _).mono ?_
    rintro o S' ⟨rfl, rfl⟩
    conv => whnf
    refine hK _ _ ?_
    clear hK hQ K
    have hle : St.le S' ((S'.upd b6 (.obj 292 [.int .i64 0, .bool false, .nils])).upd b6 (.obj 292 [.int .i64 0, .bool (decide (z < 0)), .sl .any 1 (rowsU (limbs z.natAbs))])) := by rw [St.upd_upd]; exact St.le_upd' (St.le_refl _) hb6 _
    cases okx with
    | false => conv => whnf
               exact ⟨_, _, ⟨by rw [if_pos (.inl rfl)], rfl⟩, hle, AV.leS_refl _ _ _⟩
    | true =>
      cases f with
      | false => conv => whnf
                 exact ⟨_, _, ⟨by rw [if_pos (.inr (.inl rfl))], rfl⟩, hle, AV.leS_refl _ _ _⟩
      | true =>
        cases sm with
        | false => conv => whnf
                   exact ⟨_, _, ⟨by rw [if_pos (.inr (.inr (.inl rfl)))], rfl⟩, hle, AV.leS_refl _ _ _⟩
        | true =>
          conv => whnf
          refine split_of (fun h1 => ?_) (fun h1 => ?_)
          · conv => whnf
            have h1 := of_decide_eq_true h1
            exact ⟨_, _, ⟨by rw [if_pos (.inr (.inr (.inr (.inl h1))))], rfl⟩, hle, AV.leS_refl _ _ _⟩
          · have h1 := of_decide_eq_false h1
            conv => whnf
            refine split_of (fun h2 => ?_) (fun h2 => ?_)
            · have h2 := of_decide_eq_true h2
              conv => whnf
              exact ⟨_, _, ⟨by rw [if_pos (.inr (.inr (.inr (.inr h2))))], rfl⟩, hle, AV.leS_refl _ _ _⟩
            · have h2 := of_decide_eq_false h2
              have hn : ¬ (true = false ∨ true = false ∨ true = false ∨ v < 1 ∨ 1073741824 < v) := by simp; omega
              cases neg with
              | true => conv => whnf
                        exact ⟨_, _, ⟨by rw [if_neg hn, if_pos rfl, wrap_i64 (by omega) (by omega)]; simp, rfl⟩, hle, AV.leS_refl _ _ _⟩
              | false => conv => whnf
                         exact ⟨_, _, ⟨by rw [if_neg hn, if_neg (by simp)], rfl⟩, hle, AV.leS_refl _ _ _⟩
theorem literal_ok (hG : GS G) (s : ByteArray) (hs : s.size ≤ 9000000) (S : St) : Triple P (C G) 194 [.str s] S fun o S' => o = .ret (.int .i64 (litV s.data.toList)) ∧ S' = S := by
  have hsl : s.data.toList.length = s.size := by rw [Array.length_toList]; rfl
  have h := literal_list hG s.data.toList (by omega) S
  rwa [Array.toArray_toList] at h
end Go.Proofs.YtcpdgnkhkdddhaaGreatDoor.Aw

set_option maxRecDepth 100000
set_option linter.unusedVariables false
set_option linter.unusedSimpArgs false
namespace Go.Proofs.YtcpdgnkhkdddhaaGreatDoor.Aw
open Go Go.RowKit
variable {G : Nat → Option (List AV)}

def rowsN (l : List Nat) : List (List AV) := l.map fun (d : Nat) => [AV.int .i64 (d : Int)]
@[simp] theorem rowsN_len (l : List Nat) : (rowsN l).length = l.length := by simp [rowsN]
/-- A whole number as the reference keeps it. -/
def refI (z : Int) : AV := .ag [.bool (decide (z < 0)), .sl .any 1 (rowsN (limbs z.natAbs))]
theorem rowsN_take (l : List Nat) (n : Nat) : (rowsN l).take n = rowsN (l.take n) := by simp [rowsN, List.map_take]
/-- hallmarkref1.size. -/
theorem rsize_ok (l : List Nat) (S : St) : Triple P (C G) 192 [.sl .any 1 (rowsN l)] S fun o S' => o = .ret (.sl .any 1 (rowsN (trimZ l))) ∧ S' = S := by
  refine triple_of_awp (hT G) hm Tryz.func192 rfl (by decide +kernel) rfl (by decide +kernel) (by show 1 ≤ _; decide +kernel) rfl ?_
  conv => whnf
  intro hlen
  rw [rowsN_len] at hlen
  conv => whnf
  refine ⟨⟨Nat, fun n => [(0, .sl .any 1 (rowsN l)), (3, .int .i64 (n : Int))], fun n S' => S' = S ∧ n ≤ l.length ∧ trimZ (l.take n) = trimZ l, fun n => n⟩,
    ⟨l.length, ⟨⟨rfl, rfl⟩, congrArg (AV.int .i64) (by rw [rowsN_len]), trivial⟩, _, St.leW_refl _, rfl, by omega, by rw [List.take_length]⟩, ?_⟩
  rintro (n : Nat) S' ⟨rfl, hn, ht⟩
  cases n with
  | zero =>
    conv => whnf
    refine ⟨⟨by decide, by omega, by rw [rowsN_len]; omega⟩, ?_⟩
    conv => whnf
    refine ⟨_, _, ⟨rfl, rfl⟩, St.le_refl _, ?_⟩
    rw [← ht]
    exact AV.leS_refl _ _ _
  | succ k =>
    have hk : k < l.length := by omega
    have w1 : IntKind.i64.wrap (((k + 1 : Nat) : Int) - 1) = (k : Int) := by rw [wrap_i64 (by omega) (by omega)]; omega
    have ga : (rowsN l)[(k : Int).toNat]? = some [.int .i64 ((l[k] : Nat) : Int)] := by simp [rowsN, hk]
    have hd : l.take (k + 1) = l.take k ++ [l[k]] := by rw [List.take_succ_eq_append_getElem hk]
    rw [hd] at ht
    by_cases hz : l[k] = 0
    · rw [hz] at ga ht
      rw [trimZ_zero] at ht
      conv => whnf
      rw [show decide (((k + 1 : Nat) : Int) > 0) = true from decide_eq_true (by omega)]
      conv => whnf
      rw [w1]
      refine ⟨_, ⟨by omega, ga⟩, ?_⟩
      conv => whnf
      rw [w1]
      exact ⟨k, ⟨⟨rfl, rfl⟩, rfl, trivial⟩, ⟨_, St.leW_refl _, rfl, by omega, ht⟩, by show k < k + 1; omega⟩
    · rw [trimZ_pos _ hz] at ht
      generalize hgk : l[k] = d at *
      conv => whnf
      rw [show decide (((k + 1 : Nat) : Int) > 0) = true from decide_eq_true (by omega)]
      conv => whnf
      rw [w1]
      refine ⟨_, ⟨by omega, ga⟩, ?_⟩
      conv => whnf
      rw [show ((d : Int) == 0) = false from beq_false_of_ne (by omega)]
      conv => whnf
      refine ⟨⟨by decide, by omega, by rw [rowsN_len]; omega⟩, ?_⟩
      conv => whnf
      refine ⟨_, _, ⟨rfl, rfl⟩, St.le_refl _, ?_⟩
      rw [← ht, ← hd, ← rowsN_take]
      exact AV.leS_refl _ _ _
theorem refI_made {neg : Bool} {l : List Nat} (hd : ∀ d ∈ l, d < 1000000000) : AV.ag [.bool (neg && decide (0 < (trimZ l).length)), .sl .any 1 (rowsN (trimZ l))] = refI (if neg then -(valL l : Int) else (valL l : Int)) := by
  rw [trim_limbs hd]
  unfold refI
  have h0 : 0 < (limbs (valL l)).length ↔ 0 < valL l := by
    constructor
    · intro h
      rcases Nat.eq_zero_or_pos (valL l) with e | e
      · rw [e] at h; simp [limbs_zero] at h
      · exact e
    · intro h; exact List.length_pos_iff.2 (limbs_ne h)
  cases neg with
  | false => simp
  | true =>
    simp only [Bool.true_and, if_true, Int.natAbs_neg, Int.natAbs_natCast]
    congr 2
    congr 1
    rw [decide_eq_decide, h0]
    omega
/-- hallmarkref1.made. -/
theorem made1_ok (neg : Bool) (l : List Nat) (hd : ∀ d ∈ l, d < 1000000000) (S : St) : Triple P (C G) 172 [.bool neg, .sl .any 1 (rowsN l)] S fun o S' => o = .ret (refI (if neg then -(valL l : Int) else (valL l : Int))) ∧ S' = S := by
  have hs := fun S => rsize_ok (G := G) l S
  rw [← refI_made hd]
  generalize trimZ l = r at *
  refine triple_of_awp (hT G) hm Tryz.func172 rfl (by decide +kernel) rfl (by decide +kernel) (by show 2 ≤ _; decide +kernel) rfl ?_
  conv => whnf
  intro b4 hb4
  conv => whnf
  refine (hs _).mono ?_
  rintro o T ⟨rfl, rfl⟩
  conv => whnf
  cases neg with
  | false =>
    conv => whnf
    refine ⟨_, _, St.upd_same _ _ _, ?_⟩
    conv => whnf
    refine ⟨_, _, St.upd_same _ _ _, ?_⟩
    conv => whnf
    exact ⟨_, _, ⟨rfl, rfl⟩, by rw [St.upd_upd]; exact St.le_upd' (St.le_refl _) hb4 _, AV.leS_refl _ _ _⟩
  | true =>
    conv => whnf
    intro _
    conv => whnf
    refine ⟨_, _, St.upd_same _ _ _, ?_⟩
    conv => whnf
    refine ⟨_, _, St.upd_same _ _ _, ?_⟩
    conv => whnf
    refine ⟨_, _, ⟨rfl, rfl⟩, by rw [St.upd_upd]; exact St.le_upd' (St.le_refl _) hb4 _, ?_⟩
    have e : decide (((rowsN r).length : Int) > 0) = (true && decide (0 < r.length)) := by
      rw [rowsN_len, Bool.true_and, decide_eq_decide]; omega
    rw [e]
    exact AV.leS_refl _ _ _
theorem Sign1_ok (z : Int) (S : St) : Triple P (C G) 139 [refI z] S fun o S' => o = .ret (.int .i64 (if z = 0 then 0 else if z < 0 then -1 else 1)) ∧ S' = S := by
  have h0 : (limbs z.natAbs).length = 0 ↔ z = 0 := by
    constructor
    · intro h
      by_cases hz : z = 0
      · exact hz
      · exact absurd (List.eq_nil_of_length_eq_zero h) (limbs_ne (by omega))
    · intro h; subst h; rfl
  unfold refI
  by_cases hz : z = 0
  · subst hz
    refine triple_of_awp (hT G) hm Tryz.func139 rfl (by decide +kernel) rfl (by decide +kernel) (by show 1 ≤ _; decide +kernel) rfl ?_
    conv => whnf
    intro b hb
    conv => whnf
    refine ⟨_, _, St.upd_same _ _ _, ?_⟩
    conv => whnf
    intro _
    conv => whnf
    exact ⟨_, _, ⟨rfl, rfl⟩, St.le_upd' (St.le_refl _) hb _, AV.leS_refl _ _ _⟩
  · have hne : ((limbs z.natAbs).length : Int) ≠ 0 := by
      intro h; exact hz (h0.1 (by omega))
    rw [if_neg hz]
    generalize limbs z.natAbs = l at *
    by_cases hn : z < 0
    · rw [if_pos hn, decide_eq_true hn]
      refine triple_of_awp (hT G) hm Tryz.func139 rfl (by decide +kernel) rfl (by decide +kernel) (by show 1 ≤ _; decide +kernel) rfl ?_
      conv => whnf
      intro b hb
      conv => whnf
      refine ⟨_, _, St.upd_same _ _ _, ?_⟩
      conv => whnf
      intro _
      conv => whnf
      rw [show (((rowsN l).length : Int) == 0) = false from by rw [rowsN_len]; exact beq_false_of_ne hne]
      conv => whnf
      refine ⟨_, _, St.upd_same _ _ _, ?_⟩
      conv => whnf
      exact ⟨_, _, ⟨rfl, rfl⟩, St.le_upd' (St.le_refl _) hb _, AV.leS_refl _ _ _⟩
    · rw [if_neg hn, decide_eq_false hn]
      refine triple_of_awp (hT G) hm Tryz.func139 rfl (by decide +kernel) rfl (by decide +kernel) (by show 1 ≤ _; decide +kernel) rfl ?_
      conv => whnf
      intro b hb
      conv => whnf
      refine ⟨_, _, St.upd_same _ _ _, ?_⟩
      conv => whnf
      intro _
      conv => whnf
      rw [show (((rowsN l).length : Int) == 0) = false from by rw [rowsN_len]; exact beq_false_of_ne hne]
      conv => whnf
      refine ⟨_, _, St.upd_same _ _ _, ?_⟩
      conv => whnf
      exact ⟨_, _, ⟨rfl, rfl⟩, St.le_upd' (St.le_refl _) hb _, AV.leS_refl _ _ _⟩
def cmpN (x y : Nat) : Int := if x < y then -1 else if y < x then 1 else 0
theorem rsizes_ok (x y : Nat) (S : St) : Triple P (C G) 191 [.sl .any 1 (rowsN (limbs x)), .sl .any 1 (rowsN (limbs y))] S fun o S' => o = .ret (.int .i64 (cmpN x y)) ∧ S' = S := by
  have hxv := valL_limbs x
  have hyv := valL_limbs y
  have hxd := limbs_lt x
  have hyd := limbs_lt y
  have hlo : (limbs y).length < (limbs x).length → y < x := limbs_longer
  have hlo2 : (limbs x).length < (limbs y).length → x < y := limbs_longer
  have heq : limbs x = limbs y → x = y := fun h => by rw [← hxv, ← hyv, h]
  generalize limbs x = a at *
  generalize limbs y = b at *
  unfold cmpN
  refine triple_of_awp (hT G) hm Tryz.func191 rfl (by decide +kernel) rfl (by decide +kernel) (by show 2 ≤ _; decide +kernel) rfl ?_
  conv => whnf
  intro hla
  conv => whnf
  intro hlb
  rw [rowsN_len] at hla hlb
  conv => whnf
  refine split_of (fun h => ?_) (fun h => ?_)
  · have h : a.length ≠ b.length := by
      intro hh; rw [rowsN_len, rowsN_len, hh] at h; simp at h
    conv => whnf
    intro _
    conv => whnf
    intro _
    conv => whnf
    refine split_of (fun h2 => ?_) (fun h2 => ?_)
    · have h2 := of_decide_eq_true h2
      rw [rowsN_len, rowsN_len] at h2
      have := hlo2 (by omega)
      rw [if_pos this]
      conv => whnf
      exact ⟨_, _, ⟨rfl, rfl⟩, St.le_refl _, AV.leS_refl _ _ _⟩
    · have h2 := of_decide_eq_false h2
      rw [rowsN_len, rowsN_len] at h2
      have := hlo (by omega)
      rw [if_neg (by omega), if_pos this]
      conv => whnf
      exact ⟨_, _, ⟨rfl, rfl⟩, St.le_refl _, AV.leS_refl _ _ _⟩
  · have h : a.length = b.length := by
      by_cases hh : a.length = b.length
      · exact hh
      · exfalso; rw [rowsN_len, rowsN_len] at h; simp at h; omega
    conv => whnf
    intro _
    conv => whnf
    have hw0 : IntKind.i64.wrap (((rowsN a).length : Int) - 1) = (a.length : Int) - 1 := by rw [rowsN_len, wrap_i64 (by omega) (by omega)]
    refine ⟨⟨Nat, fun i => [(0, .sl .any 1 (rowsN a)), (1, .sl .any 1 (rowsN b)), (5, .int .i64 ((i : Int) - 1))], fun i S' => S' = S ∧ i ≤ a.length ∧ a.drop i = b.drop i, fun i => i⟩,
      ⟨a.length, ⟨⟨rfl, rfl⟩, ⟨rfl, rfl⟩, congrArg _ hw0, trivial⟩, _, St.leW_refl _, rfl, by omega, by rw [List.drop_of_length_le (by omega), List.drop_of_length_le (by omega)]⟩, ?_⟩
    rintro (i : Nat) S' ⟨rfl, hi, he⟩
    conv => whnf
    refine split_of (fun hlt => ?_) (fun hlt => ?_)
    · have hlt : 1 ≤ i := by have := of_decide_eq_true hlt; omega
      obtain ⟨k, rfl⟩ : ∃ k, i = k + 1 := ⟨i - 1, by omega⟩
      have hka : k < a.length := by omega
      have hkb : k < b.length := by omega
      have ek : (((k + 1 : Nat) : Int) - 1) = (k : Int) := by omega
      have ga : (rowsN a)[(((k + 1 : Nat) : Int) - 1).toNat]? = some [.int .i64 ((a[k] : Nat) : Int)] := by rw [ek]; simp [rowsN, hka]
      have gb : (rowsN b)[(((k + 1 : Nat) : Int) - 1).toNat]? = some [.int .i64 ((b[k] : Nat) : Int)] := by rw [ek]; simp [rowsN, hkb]
      have w1 : IntKind.i64.wrap (((k + 1 : Nat) : Int) - 1 - 1) = (k : Int) - 1 := by rw [wrap_i64 (by omega) (by omega)]; omega
      have v1 : a[k] < b[k] → x < y := fun h4 => by have := valL_cmp hxd hyd h hka he h4; omega
      have v2 : b[k] < a[k] → y < x := fun h4 => by have := valL_cmp hyd hxd h.symm hkb he.symm h4; omega
      have v3 : a[k] = b[k] → a.drop k = b.drop k := fun h4 => by rw [List.drop_eq_getElem_cons hka, List.drop_eq_getElem_cons hkb, h4, he]
      generalize a[k] = p at *
      generalize b[k] = q at *
      conv => whnf
      refine ⟨[], (.free 0 (.free 1 (.free 2 (.free 3 (.free 4 (.free 5 (.free 6 (.free 7 (.free 8 .done))))))))), _, by decide +kernel, ?_, fun _ _ h => ⟨_, .inl rfl, h⟩⟩
      conv => whnf
      refine ⟨_, ⟨by omega, ga⟩, ?_⟩
      conv => whnf
      refine ⟨_, ⟨by omega, gb⟩, ?_⟩
      conv => whnf
      refine split_of (fun h2 => ?_) (fun h2 => ?_)
      · have h2 := of_decide_eq_true h2
        rw [if_pos (v1 (by omega))]
        conv => whnf
        exact ⟨_, _, ⟨rfl, rfl⟩, St.le_refl _, AV.leS_refl _ _ _⟩
      · have h2 := of_decide_eq_false h2
        conv => whnf
        refine ⟨[], (.free 0 (.free 1 (.free 2 (.free 3 (.free 4 (.free 5 (.free 6 (.free 7 (.free 8 .done))))))))), _, by decide +kernel, ?_, fun _ _ h => ⟨_, .inl rfl, h⟩⟩
        conv => whnf
        refine ⟨_, ⟨by omega, ga⟩, ?_⟩
        conv => whnf
        refine ⟨_, ⟨by omega, gb⟩, ?_⟩
        conv => whnf
        refine split_of (fun h3 => ?_) (fun h3 => ?_)
        · have h3 := of_decide_eq_true h3
          have := v2 (by omega)
          rw [if_neg (by omega), if_pos this]
          conv => whnf
          exact ⟨_, _, ⟨rfl, rfl⟩, St.le_refl _, AV.leS_refl _ _ _⟩
        · have h3 := of_decide_eq_false h3
          conv => whnf
          exact ⟨k, ⟨⟨rfl, rfl⟩, ⟨rfl, rfl⟩, congrArg _ w1, trivial⟩, ⟨_, St.leW_refl _, rfl, by omega, v3 (by omega)⟩, by show k < k + 1; omega⟩
    · have hlt : i = 0 := by have := of_decide_eq_false hlt; omega
      subst hlt
      have := heq (by simpa using he)
      rw [if_neg (by omega), if_neg (by omega)]
      conv => whnf
      exact ⟨_, _, ⟨rfl, rfl⟩, St.le_refl _, AV.leS_refl _ _ _⟩
def cmpI (x y : Int) : Int := if x < y then -1 else if y < x then 1 else 0
theorem Cmp1_ok (x y : Int) (S : St) : Triple P (C G) 168 [refI x, refI y] S fun o S' => o = .ret (.int .i64 (cmpI x y)) ∧ S' = S := by
  have hs := fun S => rsizes_ok (G := G) x.natAbs y.natAbs S
  have hwn : IntKind.i64.wrap (0 - cmpN x.natAbs y.natAbs) = - cmpN x.natAbs y.natAbs := by
    unfold cmpN
    split
    · decide
    split
    · decide
    · decide
  unfold refI
  by_cases hx : x < 0 <;> by_cases hy : y < 0
  · have e : cmpI x y = - cmpN x.natAbs y.natAbs := by unfold cmpI cmpN; split <;> split <;> (try split) <;> omega
    rw [decide_eq_true hx, decide_eq_true hy, e]
    generalize cmpN x.natAbs y.natAbs = c at *
    generalize limbs x.natAbs = a at *
    generalize limbs y.natAbs = b at *
    refine triple_of_awp (hT G) hm Tryz.func168 rfl (by decide +kernel) rfl (by decide +kernel) (by show 2 ≤ _; decide +kernel) rfl ?_
    conv => whnf
    intro b2 hb2
    conv => whnf
    intro b3 hb3
    conv => whnf
    refine ⟨_, _, St.up hb3 (St.upd_same _ _ _), ?_⟩
    conv => whnf
    refine ⟨_, _, St.upd_same _ _ _, ?_⟩
    conv => whnf
    refine ⟨_, _, St.up hb3 (St.upd_same _ _ _), ?_⟩
    conv => whnf
    refine ⟨_, _, St.upd_same _ _ _, ?_⟩
    conv => whnf
    refine (hs _).mono ?_
    rintro o T ⟨rfl, rfl⟩
    conv => whnf
    refine ⟨_, _, St.up hb3 (St.upd_same _ _ _), ?_⟩
    conv => whnf
    refine ⟨_, _, ⟨rfl, rfl⟩, St.le_upd' (St.le_upd' (St.le_refl _) hb2 _) hb3 _, ?_⟩
    rw [hwn]
    exact AV.leS_refl _ _ _
  · have e : cmpI x y = -1 := by unfold cmpI; rw [if_pos (by omega)]
    rw [decide_eq_true hx, decide_eq_false hy, e]
    generalize limbs x.natAbs = a at *
    generalize limbs y.natAbs = b at *
    refine triple_of_awp (hT G) hm Tryz.func168 rfl (by decide +kernel) rfl (by decide +kernel) (by show 2 ≤ _; decide +kernel) rfl ?_
    conv => whnf
    intro b2 hb2
    conv => whnf
    intro b3 hb3
    conv => whnf
    refine ⟨_, _, St.up hb3 (St.upd_same _ _ _), ?_⟩
    conv => whnf
    refine ⟨_, _, St.upd_same _ _ _, ?_⟩
    conv => whnf
    refine ⟨_, _, St.up hb3 (St.upd_same _ _ _), ?_⟩
    conv => whnf
    exact ⟨_, _, ⟨rfl, rfl⟩, St.le_upd' (St.le_upd' (St.le_refl _) hb2 _) hb3 _, AV.leS_refl _ _ _⟩
  · have e : cmpI x y = 1 := by unfold cmpI; rw [if_neg (by omega), if_pos (by omega)]
    rw [decide_eq_false hx, decide_eq_true hy, e]
    generalize limbs x.natAbs = a at *
    generalize limbs y.natAbs = b at *
    refine triple_of_awp (hT G) hm Tryz.func168 rfl (by decide +kernel) rfl (by decide +kernel) (by show 2 ≤ _; decide +kernel) rfl ?_
    conv => whnf
    intro b2 hb2
    conv => whnf
    intro b3 hb3
    conv => whnf
    refine ⟨_, _, St.up hb3 (St.upd_same _ _ _), ?_⟩
    conv => whnf
    refine ⟨_, _, St.upd_same _ _ _, ?_⟩
    conv => whnf
    refine ⟨_, _, St.up hb3 (St.upd_same _ _ _), ?_⟩
    conv => whnf
    exact ⟨_, _, ⟨rfl, rfl⟩, St.le_upd' (St.le_upd' (St.le_refl _) hb2 _) hb3 _, AV.leS_refl _ _ _⟩
  · have e : cmpI x y = cmpN x.natAbs y.natAbs := by unfold cmpI cmpN; split <;> split <;> (try split) <;> omega
    rw [decide_eq_false hx, decide_eq_false hy, e]
    generalize cmpN x.natAbs y.natAbs = c at *
    generalize limbs x.natAbs = a at *
    generalize limbs y.natAbs = b at *
    refine triple_of_awp (hT G) hm Tryz.func168 rfl (by decide +kernel) rfl (by decide +kernel) (by show 2 ≤ _; decide +kernel) rfl ?_
    conv => whnf
    intro b2 hb2
    conv => whnf
    intro b3 hb3
    conv => whnf
    refine ⟨_, _, St.up hb3 (St.upd_same _ _ _), ?_⟩
    conv => whnf
    refine ⟨_, _, St.upd_same _ _ _, ?_⟩
    conv => whnf
    refine ⟨_, _, St.up hb3 (St.upd_same _ _ _), ?_⟩
    conv => whnf
    refine ⟨_, _, St.upd_same _ _ _, ?_⟩
    conv => whnf
    refine (hs _).mono ?_
    rintro o T ⟨rfl, rfl⟩
    conv => whnf
    refine ⟨_, _, St.up hb3 (St.upd_same _ _ _), ?_⟩
    conv => whnf
    exact ⟨_, _, ⟨rfl, rfl⟩, St.le_upd' (St.le_upd' (St.le_refl _) hb2 _) hb3 _, AV.leS_refl _ _ _⟩
/-! ### Of -/
theorem tdiv_abs (n : Int) : (n.tdiv 1000000000).natAbs = n.natAbs / 1000000000 := by
  rw [Int.natAbs_tdiv]; rfl
theorem Of1_ok (n0 : Int) (h0 : -9223372036854775808 ≤ n0) (h1 : n0 ≤ 9223372036854775807) (S : St) : Triple P (C G) 169 [.int .i64 n0] S fun o S' => o = .ret (refI n0) ∧ S' = S := by
  refine triple_of_awp (hT G) hm Tryz.func169 rfl (by decide +kernel) rfl (by decide +kernel) (by show 1 ≤ _; decide +kernel) rfl ?_
  refine awp_seq2 fun K hK hQ => ?_
  conv => whnf
  intro b2 hb2
  conv => whnf
  refine hK _ _ ?_
  clear hK hQ K
  refine awp_seq2 fun K hK hQ => ?_
  conv => whnf
  refine hK _ _ ?_
  clear hK hQ K
  refine awp_seq2 fun K hK hQ => ?_
  conv => whnf
  refine hK _ _ ?_
  clear hK hQ K
  have hlim : (limbs n0.natAbs).length ≤ 3 := limbs_len 3 _ (by omega)
  have q2 := St.upd_same S b2 (.obj 235 [.bool false, .nils])
  have hle2 := St.le_upd' (St.le_refl S) hb2 (.obj 235 [.bool false, .nils])
  generalize S.upd b2 (.obj 235 [.bool false, .nils]) = S2 at *
  refine awp_seq2 fun K hK hQ => ?_
  conv => whnf
  refine ⟨⟨Int × List Nat × Nat, fun x => [(0, .int .i64 x.1), (2, .ref b2 0), (3, .bool (decide (n0 < 0))), (4, .sl (.acc x.2.2) 1 (rowsN x.2.1))],
    fun x S1 => AccOk S2 S1 3 1 x.2.2 x.2.1.length ∧ x.1.natAbs ≤ 9223372036854775808 ∧ x.2.1 ++ limbs x.1.natAbs = limbs n0.natAbs ∧ x.1 ≤ 9223372036854775807, fun x => x.1.natAbs⟩,
    ⟨(n0, [], 0), ⟨rfl, rfl, rfl, rfl, trivial⟩, _, St.leW_refl _, AccOk.init _ _ _ _, by omega, rfl, h1⟩, ?_⟩
  rintro ⟨n, acc, ba⟩ S1 ⟨g1, g2, g3, g4⟩
  dsimp only at g1 g2 g3 g4
  have hal : acc.length ≤ 3 := by have := congrArg List.length g3; rw [List.length_append] at this; omega
  conv => whnf
  refine split_of (fun hne => ?_) (fun hne => ?_)
  · have hne : n ≠ 0 := by simpa using hne
    conv => whnf
    refine ⟨by decide, ?_⟩
    conv => whnf
    have hm : (n.tmod 1000000000).natAbs = n.natAbs % 1000000000 := by rw [Int.natAbs_tmod]; rfl
    have hq := tdiv_abs n
    have hpos := limbs_pos (n := n.natAbs) (by omega)
    have hmd := limbs_lt n0.natAbs
    have hrest : (acc ++ [n.natAbs % 1000000000]) ++ limbs (n.natAbs / 1000000000) = limbs n0.natAbs := by rw [← g3, hpos]; simp
    refine split_of (fun hlt => ?_) (fun hlt => ?_)
    · have hlt : n.tmod 1000000000 < 0 := of_decide_eq_true hlt
      have hw : IntKind.i64.wrap (0 - n.tmod 1000000000) = ((n.natAbs % 1000000000 : Nat) : Int) := by rw [wrap_i64 (by omega) (by omega)]; omega
      conv => whnf
      rw [hw]
      intro bb hbb
      have g1' := g1.other hbb (.tip 3 1 1)
      conv => whnf
      refine ⟨⟨fun hl => ?_, ?_⟩, fun S4 c1 c2 b' c3 => ?_⟩
      · have : 0 < acc.length := by cases acc with
          | nil => exact absurd rfl hl
          | cons _ _ => simp
        rw [rowsN_len]; exact g1'.tip this
      · show ((rowsN acc).length + 1) * 8 ≤ _
        rw [rowsN_len]; omega
      have g5 := g1'.push (m := acc.length + 1) (by rw [rowsN_len]) c1 c2 c3 rfl
      rw [rowsN_len]
      conv => whnf
      refine ⟨by decide, ?_⟩
      conv => whnf
      have hwq : IntKind.i64.wrap (n.tdiv 1000000000) = n.tdiv 1000000000 := wrap_i64 (by omega) (by omega)
      have hqm : (n.tdiv 1000000000).natAbs < n.natAbs := by rw [hq]; exact Nat.div_lt_self (by omega) (by decide)
      exact ⟨(n.tdiv 1000000000, acc ++ [n.natAbs % 1000000000], b'), ⟨congrArg _ hwq, rfl, rfl, congrArg (AV.sl (.acc b') 1) (by simp [rowsN]), trivial⟩, ⟨_, St.leW_refl _, by rw [show (acc ++ [n.natAbs % 1000000000]).length = acc.length + 1 by simp]; exact g5, by dsimp only; omega, by dsimp only; rw [hq]; exact hrest, by dsimp only; omega⟩, hqm⟩
    · have hlt : ¬ n.tmod 1000000000 < 0 := of_decide_eq_false hlt
      have hw : n.tmod 1000000000 = ((n.natAbs % 1000000000 : Nat) : Int) := by omega
      conv => whnf
      rw [hw]
      intro bb hbb
      have g1' := g1.other hbb (.tip 3 1 1)
      conv => whnf
      refine ⟨⟨fun hl => ?_, ?_⟩, fun S4 c1 c2 b' c3 => ?_⟩
      · have : 0 < acc.length := by cases acc with
          | nil => exact absurd rfl hl
          | cons _ _ => simp
        rw [rowsN_len]; exact g1'.tip this
      · show ((rowsN acc).length + 1) * 8 ≤ _
        rw [rowsN_len]; omega
      have g5 := g1'.push (m := acc.length + 1) (by rw [rowsN_len]) c1 c2 c3 rfl
      rw [rowsN_len]
      conv => whnf
      refine ⟨by decide, ?_⟩
      conv => whnf
      have hwq : IntKind.i64.wrap (n.tdiv 1000000000) = n.tdiv 1000000000 := wrap_i64 (by omega) (by omega)
      have hqm : (n.tdiv 1000000000).natAbs < n.natAbs := by rw [hq]; exact Nat.div_lt_self (by omega) (by decide)
      exact ⟨(n.tdiv 1000000000, acc ++ [n.natAbs % 1000000000], b'), ⟨congrArg _ hwq, rfl, rfl, congrArg (AV.sl (.acc b') 1) (by simp [rowsN]), trivial⟩, ⟨_, St.leW_refl _, by rw [show (acc ++ [n.natAbs % 1000000000]).length = acc.length + 1 by simp]; exact g5, by dsimp only; omega, by dsimp only; rw [hq]; exact hrest, by dsimp only; omega⟩, hqm⟩
  · have hne : n = 0 := by simpa using hne
    subst hne
    conv => whnf
    refine hK _ _ ?_
    clear hK hQ K
    have g3 : acc = limbs n0.natAbs := by simpa [limbs_zero] using g3
    subst g3
    have q2' := g1.le _ _ q2
    conv => whnf
    refine ⟨_, _, q2', ?_⟩
    conv => whnf
    refine ⟨_, _, St.upd_same _ _ _, ?_⟩
    conv => whnf
    exact ⟨_, _, ⟨rfl, rfl⟩, St.le_upd (St.le_trans hle2 g1.le) hb2 _, ⟨rfl, ⟨rfl, rfl⟩, rfl⟩⟩
/-! ### Small -/
theorem valL_drop (l : List Nat) {k : Nat} (hk : k < l.length) : valL (l.drop k) = l[k] + 1000000000 * valL (l.drop (k + 1)) := by
  rw [List.drop_eq_getElem_cons hk]; rfl
theorem valL_drop_le (l : List Nat) : ∀ k, valL (l.drop k) ≤ valL l
  | 0 => by simp
  | k + 1 => by
    by_cases hk : k < l.length
    · have := valL_drop_le l k
      rw [valL_drop l hk] at this
      omega
    · rw [List.drop_of_length_le (by omega)]; simp [valL]
def small1 (z : Int) : Int × Bool := if -9223372036854775808 ≤ z ∧ z ≤ 9223372036854775807 then (z, true) else (0, false)
theorem Small1_ok (z : Int) (S : St) : Triple P (C G) 170 [refI z] S fun o S' => o = .ret (.tu [.int .i64 (small1 z).1, .bool (small1 z).2]) ∧ S' = S := by
  have hof1 := fun S => Of1_ok (G := G) 9223372036854775807 (by omega) (by omega) S
  have hof2 := fun S => Of1_ok (G := G) (-9223372036854775808) (by omega) (by omega) S
  have hc1 := fun S => Cmp1_ok (G := G) z 9223372036854775807 S
  have hc2 := fun S => Cmp1_ok (G := G) z (-9223372036854775808) S
  obtain ⟨rA, hA⟩ : ∃ r, refI 9223372036854775807 = .ag [.bool false, .sl .any 1 r] := ⟨_, by unfold refI; rw [decide_eq_false (by omega)]⟩
  obtain ⟨rB, hB⟩ : ∃ r, refI (-9223372036854775808) = .ag [.bool true, .sl .any 1 r] := ⟨_, by unfold refI; rw [decide_eq_true (by omega)]⟩
  rw [hA] at hof1 hc1
  rw [hB] at hof2 hc2
  have hv := valL_limbs z.natAbs
  unfold refI at hc1 hc2 ⊢
  generalize limbs z.natAbs = l at *
  have hz1 : cmpI z 9223372036854775807 > 0 ↔ 9223372036854775807 < z := by unfold cmpI; split <;> (try split) <;> omega
  have hz2 : cmpI z (-9223372036854775808) < 0 ↔ z < -9223372036854775808 := by unfold cmpI; split <;> (try split) <;> omega
  generalize cmpI z 9223372036854775807 = c1 at *
  generalize cmpI z (-9223372036854775808) = c2 at *
  obtain ⟨ng, hng⟩ : ∃ b : Bool, b = decide (z < 0) := ⟨_, rfl⟩
  rw [← hng] at hc1 hc2 ⊢
  refine triple_of_awp (hT G) hm Tryz.func170 rfl (by decide +kernel) rfl (by decide +kernel) (by show 1 ≤ _; decide +kernel) rfl ?_
  refine awp_seq2 fun K hK hQ => ?_
  conv => whnf
  intro b1 hb1
  conv => whnf
  refine hK _ _ ?_
  clear hK hQ K
  have q1 := St.upd_same S b1 (.obj 235 [.bool ng, .sl .any 1 (rowsN l)])
  have hle1 := St.le_upd' (St.le_refl S) hb1 (.obj 235 [.bool ng, .sl .any 1 (rowsN l)])
  generalize S.upd b1 (.obj 235 [.bool ng, .sl .any 1 (rowsN l)]) = S1 at *
  refine awp_seq2 fun K hK hQ => ?_
  conv => whnf
  refine ⟨[1, 2, 6, 7], (.free 0 (.free 1 (.free 2 (.free 3 (.free 4 (.free 5 (.free 6 (.free 7 (.free 8 (.free 9 .done)))))))))), _, by decide +kernel, ?_, fun _ _ h => ⟨_, .inl rfl, h⟩⟩
  conv => whnf
  refine ⟨_, _, q1, ?_⟩
  conv => whnf
  refine ⟨.ag [.bool false, .sl .any 1 rA], (hof1 _).mono ?_, ?_⟩
  · rintro o S' ⟨rfl, rfl⟩; exact ⟨rfl, rfl⟩
  conv => whnf
  refine ⟨.int .i64 c1, (hc1 _).mono ?_, ?_⟩
  · rintro o S' ⟨rfl, rfl⟩; exact ⟨rfl, rfl⟩
  conv => whnf
  by_cases h1 : 9223372036854775807 < z
  · rw [show decide (c1 > 0) = true from decide_eq_true (hz1.2 h1)]
    conv => whnf
    refine hQ _ _ _ (by simp) ?_
    conv => whnf
    refine ⟨_, _, ⟨rfl, rfl⟩, hle1, ?_⟩
    unfold small1
    rw [if_neg (by omega)]
    exact AV.leS_refl _ _ _
  · rw [show decide (c1 > 0) = false from decide_eq_false (fun h => h1 (hz1.1 h))]
    conv => whnf
    refine ⟨_, _, q1, ?_⟩
    conv => whnf
    refine ⟨.ag [.bool true, .sl .any 1 rB], (hof2 _).mono ?_, ?_⟩
    · rintro o S' ⟨rfl, rfl⟩; exact ⟨rfl, rfl⟩
    conv => whnf
    refine ⟨.int .i64 c2, (hc2 _).mono ?_, ?_⟩
    · rintro o S' ⟨rfl, rfl⟩; exact ⟨rfl, rfl⟩
    conv => whnf
    by_cases h2 : z < -9223372036854775808
    · rw [show decide (c2 < 0) = true from decide_eq_true (hz2.2 h2)]
      conv => whnf
      refine hQ _ _ _ (by simp) ?_
      conv => whnf
      refine ⟨_, _, ⟨rfl, rfl⟩, hle1, ?_⟩
      unfold small1
      rw [if_neg (by omega)]
      exact AV.leS_refl _ _ _
    · rw [show decide (c2 < 0) = false from decide_eq_false (fun h => h2 (hz2.1 h))]
      conv => whnf
      refine hK _ _ ?_
      clear hK hQ K
      unfold small1
      rw [if_pos (by omega)]
      refine awp_seq2 fun K hK hQ => ?_
      conv => whnf
      refine hK _ _ ?_
      clear hK hQ K
      refine awp_seq2 fun K hK hQ => ?_
      conv => whnf
      refine ⟨_, _, q1, ?_⟩
      conv => whnf
      intro hlen
      rw [rowsN_len] at hlen
      have hw0 : IntKind.i64.wrap (((rowsN l).length : Int) - 1) = (l.length : Int) - 1 := by rw [rowsN_len, wrap_i64 (by omega) (by omega)]
      conv => whnf
      refine ⟨⟨Nat, fun k => [(1, .ref b1 0), (4, .int .i64 (-(valL (l.drop k) : Int))), (5, .int .i64 ((k : Int) - 1))], fun k S' => S' = S1 ∧ k ≤ l.length, fun k => k⟩,
        ⟨l.length, ⟨rfl, by rw [List.drop_length]; rfl, congrArg _ hw0, trivial⟩, _, St.leW_refl _, rfl, by omega⟩, ?_⟩
      rintro (k : Nat) S' ⟨rfl, hk⟩
      conv => whnf
      refine split_of (fun hlt => ?_) (fun hlt => ?_)
      · have hlt : 1 ≤ k := by have := of_decide_eq_true hlt; omega
        obtain ⟨i, rfl⟩ : ∃ i, k = i + 1 := ⟨k - 1, by omega⟩
        have hi : i < l.length := by omega
        have ek : (((i + 1 : Nat) : Int) - 1) = (i : Int) := by omega
        have ga : (rowsN l)[(((i + 1 : Nat) : Int) - 1).toNat]? = some [.int .i64 ((l[i] : Nat) : Int)] := by rw [ek]; simp [rowsN, hi]
        have hvd := valL_drop l hi
        have hvl := valL_drop_le l i
        have w1 : IntKind.i64.wrap (1000000000 * -(valL (l.drop (i + 1)) : Int)) = 1000000000 * -(valL (l.drop (i + 1)) : Int) := wrap_i64 (by omega) (by omega)
        have w2 : IntKind.i64.wrap (1000000000 * -(valL (l.drop (i + 1)) : Int) - ((l[i] : Nat) : Int)) = -(valL (l.drop i) : Int) := by rw [wrap_i64 (by omega) (by omega)]; omega
        have w3 : IntKind.i64.wrap (((i + 1 : Nat) : Int) - 1 - 1) = (i : Int) - 1 := by rw [wrap_i64 (by omega) (by omega)]; omega
        conv => whnf
        refine ⟨_, _, q1, ?_⟩
        conv => whnf
        refine ⟨_, ⟨by omega, ga⟩, ?_⟩
        conv => whnf
        have w4 : IntKind.i64.wrap (IntKind.i64.wrap (1000000000 * -(valL (l.drop (i + 1)) : Int)) - ((l[i] : Nat) : Int)) = -(valL (l.drop i) : Int) := by rw [w1]; exact w2
        exact ⟨i, ⟨rfl, congrArg _ w4, congrArg _ w3, trivial⟩, ⟨_, St.leW_refl _, rfl, by omega⟩, by show i < i + 1; omega⟩
      · have hlt : k = 0 := by have := of_decide_eq_false hlt; omega
        subst hlt
        have hv0 : valL (l.drop 0) = z.natAbs := by rw [List.drop_zero, hv]
        conv => whnf
        refine hK _ _ ?_
        clear hK hQ K
        cases ng with
        | true =>
          have hneg : z < 0 := of_decide_eq_true hng.symm
          conv => whnf
          refine ⟨_, _, q1, ?_⟩
          conv => whnf
          refine ⟨_, _, ⟨rfl, rfl⟩, hle1, ?_⟩
          rw [show -(valL (l.drop 0) : Int) = z by omega]
          exact AV.leS_refl _ _ _
        | false =>
          have hneg : ¬ z < 0 := of_decide_eq_false hng.symm
          conv => whnf
          refine ⟨_, _, q1, ?_⟩
          conv => whnf
          refine ⟨_, _, ⟨rfl, rfl⟩, hle1, ?_⟩
          rw [show IntKind.i64.wrap (0 - -(valL (l.drop 0) : Int)) = z by rw [wrap_i64 (by omega) (by omega)]; omega]
          exact AV.leS_refl _ _ _
end Go.Proofs.YtcpdgnkhkdddhaaGreatDoor.Aw

set_option maxRecDepth 100000
set_option linter.unusedVariables false
set_option linter.unusedSimpArgs false
namespace Go.Proofs.YtcpdgnkhkdddhaaGreatDoor.Aw
open Go Go.RowKit

/-! ### A number too great for Small's short way -/
theorem parseUint10_ge : ∀ (l : List UInt8) (acc u : Nat), Lib.parseUint10 acc l = .ok u → acc * 10 ^ l.length ≤ u
  | [], acc, u, h => by
    simp only [Lib.parseUint10, Lib.NumEnd.ok.injEq] at h
    simp [h]
  | c :: r, acc, u, h => by
    simp only [Lib.parseUint10] at h
    split at h
    · split at h
      · cases h
      · split at h
        · cases h
        · have := parseUint10_ge r _ u h
          rw [List.length_cons, Nat.pow_succ]
          have h2 : acc * 10 * 10 ^ r.length ≤ (acc * 10 + (c.toNat - 48)) * 10 ^ r.length := Nat.mul_le_mul_right _ (by omega)
          have h3 : acc * (10 ^ r.length * 10) = acc * 10 * 10 ^ r.length := by rw [Nat.mul_comm (10 ^ r.length) 10, Nat.mul_assoc]
          omega
    · cases h
theorem decDigits_head (u : Nat) (h : 1 ≤ u) : ∃ c r, Lib.decDigits u = c :: r ∧ 49 ≤ c.toNat ∧ c.toNat ≤ 57 := by
  induction u using Nat.strongRecOn with
  | _ u ih =>
    rw [Lib.decDigits]
    by_cases h10 : u < 10
    · rw [dif_pos h10]
      refine ⟨_, _, rfl, ?_, ?_⟩
      · have : (UInt8.ofNat (48 + u)).toNat = 48 + u := by simp; omega
        omega
      · have : (UInt8.ofNat (48 + u)).toNat = 48 + u := by simp; omega
        omega
    · rw [dif_neg h10]
      obtain ⟨c, r, e, h1, h2⟩ := ih (u / 10) (by omega) (by omega)
      exact ⟨c, r ++ [UInt8.ofNat (48 + u % 10)], by rw [e]; rfl, h1, h2⟩
theorem atoi_far {c : UInt8} {r : List UInt8} {v : Int} (h1 : 49 ≤ c.toNat) (h2 : c.toNat ≤ 57) (hr : 18 ≤ r.length) (h : Lib.atoiAll (c :: r) = .ok v) : 1073741824 < v := by
  have hn : ¬ (c.toNat = 43 ∨ c.toNat = 45) := by omega
  have hn2 : ¬ c.toNat = 45 := by omega
  unfold Lib.atoiAll at h
  simp only [if_neg hn] at h
  split at h
  · cases h
  · cases h
  · rename_i u hu
    simp only [hn2, not_false_eq_true, true_and, false_and, if_false] at h
    split at h
    · cases h
    · simp only [Lib.NumEnd.ok.injEq] at h
      unfold Lib.parseMag at hu
      rw [if_neg (by simp)] at hu
      simp only [Lib.parseUint10] at hu
      rw [if_pos (by omega)] at hu
      split at hu
      · cases hu
      · split at hu
        · cases hu
        · have := parseUint10_ge r _ u hu
          have hp : 10 ^ 18 ≤ 10 ^ r.length := Nat.pow_le_pow_right (by omega) hr
          have h3 : 1 * 10 ^ r.length ≤ (0 * 10 + (c.toNat - 48)) * 10 ^ r.length := Nat.mul_le_mul_right _ (by omega)
          have h4 : (10 : Nat) ^ 18 = 1000000000000000000 := by decide
          omega
theorem atoi_neg {r : List UInt8} {v : Int} (h : Lib.atoiAll (45 :: r) = .ok v) : v ≤ 0 := by
  unfold Lib.atoiAll at h
  simp only at h
  split at h
  · cases h
  · cases h
  · rename_i u hu
    split at h
    · cases h
    · split at h
      · cases h
      · simp only [Lib.NumEnd.ok.injEq] at h
        rw [if_pos (by decide)] at h
        omega
theorem textK_pre (l : List Nat) (pre : List UInt8) : ∀ k, ∃ t, textK l pre k = pre ++ t
  | 0 => ⟨[], by simp [textK]⟩
  | k + 1 => by
    obtain ⟨t, ht⟩ := textK_pre l pre k
    exact ⟨t ++ _, by rw [textK, ht, List.append_assoc]⟩
theorem small_far {z : Int} (hz : ¬ near z) (h2 : (smallV z).2 = true) (h1 : 1 ≤ (smallV z).1) : 1073741824 < (smallV z).1 := by
  unfold smallV at h1 h2 ⊢
  rw [if_neg hz] at h1 h2 ⊢
  by_cases h3 : 3 < (limbs z.natAbs).length
  · rw [if_pos h3] at h2; cases h2
  · rw [if_neg h3] at h1 h2 ⊢
    by_cases hneg : z < 0
    · obtain ⟨t, ht⟩ := textK_pre (limbs z.natAbs) [45] (limbs z.natAbs).length
      have e : textF (decide (z < 0)) (limbs z.natAbs) = 45 :: t := by
        unfold textF
        rw [if_pos (by simpa using hneg), ht]; rfl
      rw [e] at h1 h2 ⊢
      cases ha : Lib.atoiAll (45 :: t) with
      | ok v =>
        rw [ha] at h1
        have := atoi_neg ha
        dsimp only at h1
        omega
      | range => rw [ha] at h2; cases h2
      | _ => rw [ha] at h2; cases h2
    · have hbig : 1000000000000000000 ≤ z.natAbs := by unfold near at hz; omega
      have hv := valL_limbs z.natAbs
      have hlt := limbs_lt z.natAbs
      have e : decide (z < 0) = false := by simpa using hneg
      rw [e] at h1 h2 ⊢
      generalize limbs z.natAbs = l at *
      match l, h3, hv, hlt with
      | [], _, hv, _ => simp [valL] at hv; omega
      | [a], _, hv, hlt =>
        have := hlt a (by simp)
        simp [valL] at hv; omega
      | [a, b], _, hv, hlt =>
        have := hlt a (by simp)
        have := hlt b (by simp)
        simp [valL] at hv; omega
      | [a, b, c], _, hv, hlt =>
        have ha := hlt a (by simp)
        have hb := hlt b (by simp)
        have hc : 1 ≤ c := by simp [valL] at hv; omega
        obtain ⟨d, r, hd, d1, d2⟩ := decDigits_head c hc
        have et : textF false [a, b, c] = d :: (r ++ ((Lib.repeatL [48] (9 - (Lib.itoa (b : Int)).length) ++ Lib.itoa (b : Int)) ++ (Lib.repeatL [48] (9 - (Lib.itoa (a : Int)).length) ++ Lib.itoa (a : Int)))) := by
          unfold textF
          simp only [textK, List.length_cons, List.length_nil, Nat.zero_add, List.getD_cons_succ, List.getD_cons_zero, Bool.false_eq_true, if_false, if_true, List.nil_append, List.append_assoc]
          rw [show Lib.itoa ((c : Nat) : Int) = d :: r from by rw [Lib.itoa_nonneg, hd]]
          simp
        rw [et] at h1 h2 ⊢
        have hlen : 18 ≤ (r ++ ((Lib.repeatL [48] (9 - (Lib.itoa (b : Int)).length) ++ Lib.itoa (b : Int)) ++ (Lib.repeatL [48] (9 - (Lib.itoa (a : Int)).length) ++ Lib.itoa (a : Int)))).length := by
          simp only [List.length_append, Lib.repeatL_length, List.length_singleton, Nat.mul_one]
          omega
        generalize (r ++ ((Lib.repeatL [48] (9 - (Lib.itoa (b : Int)).length) ++ Lib.itoa (b : Int)) ++ (Lib.repeatL [48] (9 - (Lib.itoa (a : Int)).length) ++ Lib.itoa (a : Int)))) = rr at *
        cases hat : Lib.atoiAll (d :: rr) with
        | ok v => exact atoi_far d1 d2 hlen hat
        | range => rw [hat] at h2; cases h2
        | _ => rw [hat] at h2; cases h2
      | a :: b :: c :: d :: l, h3, _, _ => simp at h3
theorem hasPrefix_one {l : List UInt8} {c : UInt8} (h : Lib.hasPrefix l [c] = true) : ∃ r, l = c :: r ∧ Lib.trimPrefix l [c] = r := by
  cases l with
  | nil => simp [Lib.hasPrefix, List.isPrefixOf] at h
  | cons d r =>
    have : d = c := by
      simp [Lib.hasPrefix, List.isPrefixOf] at h
      exact h.symm
    subst this
    exact ⟨r, rfl, by unfold Lib.trimPrefix; rw [if_pos h]; rfl⟩
theorem trimPrefix_no {l p : List UInt8} (h : Lib.hasPrefix l p = false) : Lib.trimPrefix l p = l := by
  unfold Lib.trimPrefix
  rw [if_neg (by rw [h]; decide)]
end Go.Proofs.YtcpdgnkhkdddhaaGreatDoor.Aw
