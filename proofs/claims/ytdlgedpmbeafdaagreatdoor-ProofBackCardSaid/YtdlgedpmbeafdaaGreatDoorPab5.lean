/-
  Deferred calls: a function entered as a deferred call, and a function that defers one call first of all. No condition.
  A store that is laid over another one: what a function's own objects are, block by block. No condition.
  Contracts of the library's string functions in the abstract walk's words.
  Contracts of package proof's reader: fail, take, next, end.
-/
import Derived.Test.YtdlgedpmbeafdaaGreatDoorPab3
import Derived.Test.YtdlgedpmbeafdaaGreatDoorPab4
import Derived.Lib.AppendIntMem
set_option linter.unusedVariables false
set_option linter.unusedSimpArgs false
namespace Go.Proofs.YtdlgedpmbeafdaaGreatDoor.Aw
open Go Go.RowKit

section
variable {P : Program} {C : Cx}
theorem wpListIn_append {F : Fence} {m : Nat} {ops : Array Oper} {Q : Exit → Act → World → Prop} (l₂ : List Oper) : ∀ (l₁ : List Oper) (a : Act) (w : World),
    wpListIn F m P ops (fun e a w => match e with | .normal => wpListIn F m P ops Q l₂ a w | e => Q e a w) l₁ a w → wpListIn F m P ops Q (l₁ ++ l₂) a w
  | [], a, w, h => h
  | o :: r, a, w, h => by
    simp only [List.cons_append]
    unfold wpListIn at h ⊢
    split
    · rename_i hw
      rw [if_pos hw] at h
      exact Oper.wpIn_mono (fun a w => wpListIn_append l₂ r a w) h
    · rename_i hw
      rw [if_neg hw] at h
      exact ⟨h.1, wpListIn_append l₂ r _ _ h.2⟩
theorem env_enter {w : World} {S : St} {n : Nat} {args : List AV} {vs : Array Value} (hargs : args.length ≤ n) (hr : RelL w (rdOf S) args vs.toList) : RelEnv w S (vs ++ Array.replicate (n - vs.size) undef) (argEnv 0 args) n := by
  have hvs : vs.size = args.length := by simpa using (RelL.length hr).symm
  refine ⟨by simp [hvs]; omega, fun t => ?_⟩
  rcases argEnv_sound 0 args vs.toList hr t with h | h
  · by_cases ht : t < vs.size
    · have : (vs ++ Array.replicate (n - vs.size) undef).getD t undef = (vs.toList[t - 0]?).getD undef := by
        simp [Array.getD_eq_getD_getElem?, Array.getElem?_append_left ht]
      rw [this]; exact h
    · have htop : look t (argEnv 0 args) = .top := by
        have : ∀ (ys : List AV) (j : Nat), j + ys.length ≤ t → look t (argEnv j ys) = .top := by
          intro ys
          induction ys with
          | nil => intro j _; rfl
          | cons y ys ih => intro j hj; simp only [argEnv, look_cons, if_neg (show ¬ j = t by simp at hj; omega)]; exact ih (j + 1) (by simp at hj; omega)
        exact this args 0 (by omega)
      rw [htop]; simp only [Rel]
  · rw [h]; simp only [Rel]
/-- THE CONTRACT OF A FUNCTION THAT IS ENTERED AS A DEFERRED CALL, the frame below being on its way out. -/
structure TripleD (P : Program) (C : Cx) (f : FuncId) (args : List AV) (S : St) (Q : Out → St → Prop) : Prop where
  mk ::
  enter : ∀ (vs : Array Value) (w : World), (callFunc f vs).run P w = .ok (.enter f vs) w
  out : ∀ (w : World) (vs : Array Value) (u : FrameMode), YOk P C w S → Good C w S → RelL w (rdOf S) args vs.toList →
    CallsDIn Fence.wide 0 P f vs u w fun e u' w' => u' = u ∧ ∃ o S', OutRel w' S' o e ∧ Good C w' S' ∧ Adv w S w' S' ∧ Q o S'
theorem TripleD.mono {f : FuncId} {args : List AV} {S : St} {Q Q' : Out → St → Prop} (h : TripleD P C f args S Q) (hq : ∀ o S', Q o S' → Q' o S') : TripleD P C f args S Q' :=
  ⟨h.enter, fun w vs u hY hg hr => (h.out w vs u hY hg hr).mono fun e u' w' ⟨hu, o, S', h1, h2, h3, h4⟩ => ⟨hu, o, S', h1, h2, h3, hq _ _ h4⟩⟩
theorem bodyPost_of_post {fn : Func} {R : Ending → World → Prop} (hT : TyOk P C) {n : Nat} {w : World} {S : St} {rs : List ResultVar} (hrs : fn.results.toList = rs) {Q : Out → St → Prop}
    (hR : ∀ o S' e w', OutRel w' S' o e → Good C w' S' → Adv w S w' S' → Q o S' → R e w') {e : Exit} {a' : Act} {w' : World} (h : Post true C n [] w S (aPost C rs Q) e a' w') : bodyPost P fn R e a' w' := by
  obtain ⟨ae, env', S', h1, h2, ⟨ms, hms, _, hm0, _⟩, h4, h5, h6⟩ := h
  have hd : a'.defers = [] := by rw [hms, hm0 rfl]; rfl
  have fin : aOut C rs env' S' (fun x => ∃ y S'', Q (.ret y) S'' ∧ St.le S'' S' ∧ AV.leS S' S'' x y) → a'.defers = [] ∧ ∃ v, (results fn a'.tmps).run P w' = .ok v w' ∧ R (.returned v) w' := by
    intro hx
    obtain ⟨x, v, ⟨y, S'', hq, hle, hxy⟩, k1, k2⟩ := results_sound (P := P) hT h4 h2 (by rw [hrs]; exact hx)
    exact ⟨hd, v, k1, hR (.ret y) S'' _ _ (AV.leS_sound h4.1 hle x y v hxy k2) (h4.shrink hle) (h5.trans (Adv.shrink hle)) hq⟩
  cases ae with
  | normal =>
    cases e <;> simp only [ExRel] at h1
    exact fin h6
  | exit i => exact h6.elim
  | ret =>
    cases e <;> simp only [ExRel] at h1
    exact fin h6
  | panic x =>
    cases e <;> simp only [ExRel] at h1
    obtain ⟨v, rfl, hv⟩ := h1
    simp only [aPost, force_eq] at h6
    obtain ⟨y, S'', hq, hle, hxy⟩ := h6
    exact ⟨hd, hR (.pan y) S'' _ _ ⟨v, rfl, AV.leS_sound h4.1 hle x y v hxy hv⟩ (h4.shrink hle) (h5.trans (Adv.shrink hle)) hq⟩
theorem tripleD_of_awp (hT : TyOk P C) (hm : P.follows .mixedOrders = true) {f : FuncId} {fn : Func} {c : Code} (hf : P.funcs[f]? = some fn) (hb : fn.body = some c) (hname : (fn.name == "runtime.NumGoroutine") = false)
    {n : Nat} (hn : fn.ntmps = n) (hd : dstOk n c = true) (hnr : noRange c = true) {args : List AV} (hargs : args.length ≤ n) {rs : List ResultVar} (hrs : fn.results.toList = rs) {S : St} {Q : Out → St → Prop}
    (h : awp P C c (argEnv 0 args) S (aPost C rs Q)) : TripleD P C f args S Q := by
  refine ⟨fun vs w => ?_, fun w vs u hY hg hr => ?_⟩
  · have hno : ¬ fn.name = "runtime.NumGoroutine" := by simpa using hname
    simp [callFunc, hf, hno, hb]
  · have he := env_enter hargs hr
    rw [← hn] at he
    refine callsDIn_of_wp (F := Fence.wide) (n := 0) hf hb trivial (wpIn_mono (awp_sound hm c (by rw [hn]; exact hd) (nr := true) (fun _ => hnr) hT (ro := none) (fun _ => rfl) hY hg (a := ⟨_, []⟩) he h) ?_)
    exact fun e a' w' hp => bodyPost_of_post hT hrs (fun o S' e w' h1 h2 h3 h4 => ⟨o, S', h1, h2, h3, h4⟩) hp
/-- A FUNCTION WHOSE FIRST REGION ENDS BY DEFERRING A CALL; there is no other, and none that panics. -/
theorem triple_of_awp_defer (hT : TyOk P C) (hm : P.follows .mixedOrders = true) {f : FuncId} {fn : Func} {id : Nat} {ops : Array Oper} {rest : Code} (hf : P.funcs[f]? = some fn) (hb : fn.body = some (.seq (.region id ops false) rest)) (hname : (fn.name == "runtime.NumGoroutine") = false)
    {n : Nat} (hn : fn.ntmps = n) (hd : dstOk n (.seq (.region id ops false) rest) = true) (hnr : noRange rest = true) {args : List AV} (hargs : args.length ≤ n) {rs : List ResultVar} (hrs : fn.results.toList = rs) {S : St} {Q : Out → St → Prop}
    {pre : List Oper} {o : Oper} {g : FuncId} {cargs : Array Operand} {ty : Array TypeId} (hops : ops.toList = pre ++ [o]) (ho : o.op = .defer { callee := .value (.func g), args := cargs, argTypes := ty }) (hguard : o.guard = none) (hdst : o.dst = none)
    (h : aOps P C ops.toList pre (argEnv 0 args) S (fun env S₁ => ∃ zs, cargs.toList.map (ev C env) = zs ∧ awp P C rest env S₁ fun e env' S' => match e with
      | .normal | .ret => TripleD P C g zs S' fun o S'' => (∃ x, o = .ret x) ∧ aPost C rs Q .ret env' S''
      | _ => False) (fun _ _ => False)) : Triple P C f args S Q := by
  refine TripleE.triple ⟨fun vs w => ?_, fun w vs hY hg hr => ?_⟩
  · have hno : ¬ fn.name = "runtime.NumGoroutine" := by simpa using hname
    simp [callFunc, hf, hno, hb]
  · have he := env_enter hargs hr
    rw [← hn] at he
    simp only [dstOk, Bool.and_eq_true] at hd
    refine callsIn_wide.1 (callsIn_of_wp_marks (F := Fence.wide) (n := 0) hf hb trivial (wpIn_seq (wpIn_region_list ?_)))
    have happ : ∀ (Q1 : Exit → Act → World → Prop) (a : Act) (w : World), wpListIn Fence.wide 0 P ops Q1 ops.toList a w ↔ wpListIn Fence.wide 0 P ops Q1 (pre ++ [o]) a w := fun _ _ _ => by rw [hops]
    rw [happ]
    refine wpListIn_append [o] pre _ _ ?_
    have hdp : ∀ o ∈ pre, ∀ d, o.dst = some d → d < n := fun o' ho' d hod => by
      have := List.all_eq_true.1 hd.1 o' (by rw [hops]; simp [ho'])
      simp only [hod] at this
      exact Nat.le_of_ble_eq_true this
    rw [← hn] at hdp
    refine aOps_sound (ro := none) hT ops pre hdp hY hg he h (fun env' a' w' S' hK k2 k3 k4 k5 => ?_) (fun _ _ _ _ _ hq => hq.elim)
    obtain ⟨zs, hzs, haw⟩ := hK
    dsimp only
    unfold wpListIn
    rw [if_pos (by simp [Region.wanted, hguard])]
    refine ⟨fun _ _ => trivial, ?_⟩
    have hop : (o.semAt Fence.wide.round a'.eval).run P w' = .ok (.defer { target := .fn (.func g) #[], args := cargs.map a'.eval }) w' := by
      show (Oper.semAt none a'.eval o).run P w' = _
      rw [Oper.semAt_none]
      simp [execOp, ho, resolve, Act.eval, Deferred.ofValue, go_sem]
    rw [hop, Oper.uponIn_defer]
    have hzr : RelL w' (rdOf S') zs (cargs.map a'.eval).toList := by
      rw [← hzs]; simp only [Array.toList_map]
      exact evL_sound k4 k2 cargs.toList
    show rest.wpIn Fence.wide 0 P _ _ w'
    have hnn : (rest.wpIn (Fr none) 0 P (Post true C fn.ntmps [{ target := .fn (.func g) #[], args := cargs.map a'.eval }] w' S' _) { a' with defers := [{ target := .fn (.func g) #[], args := cargs.map a'.eval }] } w') :=
      awp_sound hm rest (by rw [hn]; exact hd.2) (nr := true) (fun _ => hnr) hT (ro := none) (fun _ => rfl) (a := { a' with defers := [{ target := .fn (.func g) #[], args := cargs.map a'.eval }] }) (hY.mono k5) k4 k2 haw
    have ha : ({ a' with defers := { target := .fn (.func g) #[], args := cargs.map a'.eval } :: a'.defers } : Act).put o.dst undef = { a' with defers := [{ target := .fn (.func g) #[], args := cargs.map a'.eval }] } := by
      rw [hdst, k3]; rfl
    rw [ha]
    refine wpIn_mono hnn ?_
    rintro e a2 w2 ⟨ae, env2, S2, h1, h2, ⟨ms, hms, _, hm0, _⟩, h4, h5, h6⟩
    have hdef : a2.defers = [{ target := .fn (.func g) #[], args := cargs.map a'.eval }] := by rw [hms, hm0 rfl]; rfl
    have fin : TripleD P C g zs S2 (fun o S'' => (∃ x, o = .ret x) ∧ aPost C rs Q .ret env2 S'') → LeavesInM Fence.wide 0 P fn a2.tmps (fun e w' => ∃ o S', OutRel w' S' o e ∧ Good C w' S' ∧ Adv w S w' S' ∧ Q o S') a2.defers .returning w2 := fun ht => by
      rw [hdef]
      refine ⟨by simp, .inr ⟨fun hh => by simp [Fence.wide] at hh, .func g, #[], g, cargs.map a'.eval, rfl, ?_, fun _ _ => trivial, ?_⟩⟩
      · simpa [invoke] using ht.enter (cargs.map a'.eval) w2
      · refine CallsDIn.mono (ht.out w2 (cargs.map a'.eval) .returning (hY.mono (k5.trans h5)) h4 (RelL.mono h5 _ _ hzr)) ?_
        rintro e3 u3 w3 ⟨rfl, o3, S3, p1, p2, p3, ⟨x, rfl⟩, p5⟩
        cases e3 with
        | returned v =>
          show LeavesIn Fence.wide 0 P fn a2.tmps _ [] (settle .returning) w3
          simp only [aPost] at p5
          obtain ⟨x', v', ⟨y, S'', hq, hle, hxy⟩, q1, q2⟩ := results_sound (P := P) hT p2 (h2.mono p3) (by rw [hrs]; exact p5)
          exact ⟨v', q1, .ret y, S'', AV.leS_sound p2.1 hle x' y v' hxy q2, p2.shrink hle, ((k5.trans h5).trans p3).trans (Adv.shrink hle), hq⟩
        | panicked ch => exact p1.elim
        | outgrown => exact p1.elim
    cases ae with
    | normal => cases e <;> simp only [ExRel] at h1; exact fin h6
    | ret => cases e <;> simp only [ExRel] at h1; exact fin h6
    | exit i => exact h6.elim
    | panic x => exact h6.elim
theorem triple_of_defer (hT : TyOk P C) (hm : P.follows .mixedOrders = true) {f : FuncId} {fn : Func} {id : Nat} {ops : Array Oper} {rest : Code} (hf : P.funcs[f]? = some fn) (hb : fn.body = some (.seq (.region id ops false) rest)) (hname : (fn.name == "runtime.NumGoroutine") = false)
    {n : Nat} (hn : fn.ntmps = n) (hd : dstOk n (.seq (.region id ops false) rest) = true) (hnr : noRange rest = true) {args : List AV} (hargs : args.length ≤ n) {rs : List ResultVar} (hrs : fn.results.toList = rs) {S : St} {Q : Out → St → Prop}
    (k : Nat) {o : Oper} {g : FuncId} {cargs : Array Operand} {ty : Array TypeId} (hk : ops.toList.length = k + 1) (hko : ops.toList[k]? = some o) (ho : o.op = .defer { callee := .value (.func g), args := cargs, argTypes := ty }) (hguard : o.guard = none) (hdst : o.dst = none)
    (h : aOps P C ops.toList (ops.toList.take k) (argEnv 0 args) S (fun env S₁ => ∃ zs, cargs.toList.map (ev C env) = zs ∧ awp P C rest env S₁ fun e env' S' => match e with
      | .normal | .ret => TripleD P C g zs S' fun o S'' => (∃ x, o = .ret x) ∧ aPost C rs Q .ret env' S''
      | _ => False) (fun _ _ => False)) : Triple P C f args S Q := by
  refine triple_of_awp_defer hT hm hf hb hname hn hd hnr hargs hrs (pre := ops.toList.take k) (o := o) ?_ ho hguard hdst h
  have h1 : ops.toList.drop k = [o] := by
    have hlt : k < ops.toList.length := by omega
    rw [List.drop_eq_getElem_cons hlt, List.drop_eq_nil_of_le (by omega)]
    rw [List.getElem?_eq_getElem hlt] at hko
    rw [Option.some.inj hko]
  rw [← h1, List.take_append_drop]
end
end Go.Proofs.YtdlgedpmbeafdaaGreatDoor.Aw

set_option linter.unusedVariables false
namespace Go.Proofs.YtdlgedpmbeafdaaGreatDoor.Aw
open Go Go.RowKit

def ov (S₀ : St) : List (Nat × Own) → St
  | [] => S₀
  | (b, o) :: r => (ov S₀ r).upd b o
structure FpOk (S₀ : St) (fp : List (Nat × Own)) : Prop where
  nd : (fp.map (·.1)).Nodup
  new : ∀ p ∈ fp, S₀ p.1 = none
theorem FpOk.nil (S₀ : St) : FpOk S₀ [] := ⟨by simp, by simp⟩
theorem ov_out {S₀ : St} : ∀ {fp : List (Nat × Own)} {b : Nat}, b ∉ fp.map (·.1) → ov S₀ fp b = S₀ b
  | [], b, h => rfl
  | (c, o) :: r, b, h => by
    simp only [List.map_cons, List.mem_cons, not_or] at h
    simp only [ov, St.upd_ne _ _ _ _ h.1]
    exact ov_out h.2
theorem ov_get {S₀ : St} : ∀ {fp : List (Nat × Own)}, (fp.map (·.1)).Nodup → ∀ {b o}, (b, o) ∈ fp → ov S₀ fp b = some o
  | [], _, b, o, h => by cases h
  | (c, p) :: r, hn, b, o, h => by
    simp only [List.map_cons, List.nodup_cons] at hn
    rcases List.mem_cons.1 h with h | h
    · cases h; simp only [ov, St.upd_same]
    · have : b ≠ c := fun e => hn.1 (by rw [← e]; exact List.mem_map.2 ⟨_, h, rfl⟩)
      simp only [ov, St.upd_ne _ _ _ _ this]
      exact ov_get hn.2 h
theorem ov_none {S₀ : St} {fp : List (Nat × Own)} (hn : (fp.map (·.1)).Nodup) {b : Nat} (h : ov S₀ fp b = none) : S₀ b = none ∧ b ∉ fp.map (·.1) := by
  by_cases hb : b ∈ fp.map (·.1)
  · obtain ⟨⟨c, o⟩, h1, rfl⟩ := List.mem_map.1 hb
    rw [ov_get hn h1] at h; cases h
  · exact ⟨(ov_out (S₀ := S₀) hb).symm.trans h, hb⟩
/-- A store over the same blocks is the same store. -/
theorem ov_ext {S₀ : St} {fp fp' : List (Nat × Own)} (h1 : (fp.map (·.1)).Nodup) (h2 : (fp'.map (·.1)).Nodup) (h : ∀ p, p ∈ fp ↔ p ∈ fp') : ov S₀ fp = ov S₀ fp' := by
  funext b
  by_cases hb : b ∈ fp.map (·.1)
  · obtain ⟨⟨c, o⟩, k1, rfl⟩ := List.mem_map.1 hb
    rw [ov_get h1 k1, ov_get h2 ((h _).1 k1)]
  · have hb' : b ∉ fp'.map (·.1) := fun hh => by
      obtain ⟨p, k1, rfl⟩ := List.mem_map.1 hh
      exact hb (List.mem_map.2 ⟨p, (h _).2 k1, rfl⟩)
    rw [ov_out hb, ov_out hb']
theorem ov_upd_mid {S₀ : St} {b : Nat} {o o' : Own} : ∀ {pre post : List (Nat × Own)}, ((pre ++ (b, o) :: post).map (·.1)).Nodup → (ov S₀ (pre ++ (b, o) :: post)).upd b o' = ov S₀ (pre ++ (b, o') :: post)
  | [], post, h => by simp only [List.nil_append, ov, St.upd_upd]
  | (c, p) :: pre, post, h => by
    simp only [List.cons_append, List.map_cons, List.nodup_cons] at h
    have hbc : c ≠ b := fun e => h.1 (by rw [e]; simp)
    simp only [List.cons_append, ov]
    rw [St.upd_comm hbc, ov_upd_mid h.2]
theorem ov_new_mid {S₀ : St} {b : Nat} {o : Own} : ∀ {pre post : List (Nat × Own)}, b ∉ (pre ++ post).map (·.1) → (ov S₀ (pre ++ post)).upd b o = ov S₀ (pre ++ (b, o) :: post)
  | [], post, h => rfl
  | (c, p) :: pre, post, h => by
    simp only [List.cons_append, List.map_cons, List.mem_cons, not_or] at h
    simp only [List.cons_append, ov]
    rw [St.upd_comm (Ne.symm h.1), ov_new_mid h.2]
theorem ov_del_mid {S₀ : St} {b : Nat} {o : Own} (hb : S₀ b = none) : ∀ {pre post : List (Nat × Own)}, ((pre ++ (b, o) :: post).map (·.1)).Nodup → (ov S₀ (pre ++ (b, o) :: post)).del b = ov S₀ (pre ++ post)
  | [], post, h => by
    simp only [List.nil_append, List.map_cons, List.nodup_cons] at h
    simp only [List.nil_append, ov]
    exact St.del_upd (by rw [ov_out h.1]; exact hb)
  | (c, p) :: pre, post, h => by
    simp only [List.cons_append, List.map_cons, List.nodup_cons] at h
    have hbc : c ≠ b := fun e => h.1 (by rw [e]; simp)
    simp only [List.cons_append, ov]
    rw [← ov_del_mid hb h.2]
    funext x
    by_cases hx : x = b
    · subst hx; rw [St.del_same, St.upd_ne _ _ _ _ (Ne.symm hbc), St.del_same]
    · rw [St.del_ne _ _ _ hx]
      by_cases hc : x = c
      · subst hc; rw [St.upd_same, St.upd_same]
      · rw [St.upd_ne _ _ _ _ hc, St.upd_ne _ _ _ _ hc, St.del_ne _ _ _ hx]
theorem FpOk.set {S₀ : St} {b : Nat} {o : Own} {pre post : List (Nat × Own)} (h : FpOk S₀ (pre ++ (b, o) :: post)) (o' : Own) : FpOk S₀ (pre ++ (b, o') :: post) := by
  refine ⟨by simpa using h.nd, fun p hp => ?_⟩
  simp only [List.mem_append, List.mem_cons] at hp
  rcases hp with hp | rfl | hp
  · exact h.new p (by simp [hp])
  · exact h.new (b, o) (by simp)
  · exact h.new p (by simp [hp])
theorem FpOk.add {S₀ : St} {b : Nat} {pre post : List (Nat × Own)} (h : FpOk S₀ (pre ++ post)) (hb : ov S₀ (pre ++ post) b = none) (o : Own) : FpOk S₀ (pre ++ (b, o) :: post) := by
  obtain ⟨h1, h2⟩ := ov_none h.nd hb
  refine ⟨?_, fun p hp => ?_⟩
  · have hn := h.nd
    simp only [List.map_append, List.map_cons] at hn h2 ⊢
    rw [List.nodup_append] at hn ⊢
    obtain ⟨n1, n2, n3⟩ := hn
    simp only [List.mem_append, not_or] at h2
    refine ⟨n1, List.nodup_cons.2 ⟨h2.2, n2⟩, fun x hx y hy => ?_⟩
    rcases List.mem_cons.1 hy with rfl | hy
    · exact fun e => h2.1 (by rw [← e]; exact hx)
    · exact n3 x hx y hy
  · simp only [List.mem_append, List.mem_cons] at hp
    rcases hp with hp | rfl | hp
    · exact h.new p (by simp [hp])
    · exact h1
    · exact h.new p (by simp [hp])
theorem FpOk.sub {S₀ : St} {fp fp' : List (Nat × Own)} (h : FpOk S₀ fp) (hs : List.Sublist fp' fp) : FpOk S₀ fp' :=
  ⟨List.Nodup.sublist (hs.map _) h.nd, fun p hp => h.new p (hs.subset hp)⟩
theorem FpOk.drop {S₀ : St} {b : Nat} {o : Own} {pre post : List (Nat × Own)} (h : FpOk S₀ (pre ++ (b, o) :: post)) : FpOk S₀ (pre ++ post) :=
  h.sub ((List.Sublist.refl pre).append (List.sublist_cons_self _ _))
theorem FpOk.perm {S₀ : St} {fp fp' : List (Nat × Own)} (h : FpOk S₀ fp) (hp : fp.Perm fp') : FpOk S₀ fp' ∧ ov S₀ fp' = ov S₀ fp := by
  have h' : FpOk S₀ fp' := ⟨(hp.map _).nodup_iff.1 h.nd, fun p hh => h.new p (hp.mem_iff.2 hh)⟩
  exact ⟨h', ov_ext h'.nd h.nd fun p => hp.mem_iff.symm⟩
theorem ov_le (S₀ : St) {fp : List (Nat × Own)} (h : FpOk S₀ fp) : St.le S₀ (ov S₀ fp) := fun b o hb => by
  have : b ∉ fp.map (·.1) := fun hh => by
    obtain ⟨p, h1, rfl⟩ := List.mem_map.1 hh
    rw [h.new p h1] at hb; cases hb
  rw [ov_out this]; exact hb
theorem ov_sub_le {S₀ : St} {fp fp' : List (Nat × Own)} (h : FpOk S₀ fp) (hs : ∀ p ∈ fp', p ∈ fp) (hn : (fp'.map (·.1)).Nodup) : St.le (ov S₀ fp') (ov S₀ fp) := fun b o hb => by
  by_cases hm : b ∈ fp'.map (·.1)
  · obtain ⟨⟨c, p⟩, h1, rfl⟩ := List.mem_map.1 hm
    rw [ov_get hn h1] at hb
    cases hb
    exact ov_get h.nd (hs _ h1)
  · rw [ov_out hm] at hb
    exact ov_le S₀ h b o hb
theorem St.le_self {S : St} {b : Nat} {o : Own} (h : S b = some o) : St.le S (S.upd b o) := by rw [St.upd_self h]; exact St.le_refl _
/-- A list that is grown (its elements of one cell), at its place among the others. -/
structure AccL where
  b : Nat
  es : List (List AV)
def AccL.av (a : AccL) : AV := .sl (.acc a.b) 1 a.es
def AccL.fp (a : AccL) (e : TypeId) : List (Nat × Own) := match a.es with | [] => [] | r :: rs => [(a.b, .tip e 1 (r :: rs).length)]
def AccL.empty : AccL := ⟨0, []⟩
def AccL.push (a : AccL) (b : Nat) (x : AV) : AccL := ⟨b, a.es ++ [[x]]⟩
theorem AccL.tip {S₀ : St} {pre post : List (Nat × Own)} {a : AccL} {e : TypeId} (h : FpOk S₀ (pre ++ (a.fp e ++ post))) (hn : a.es ≠ []) : ov S₀ (pre ++ (a.fp e ++ post)) a.b = some (.tip e 1 a.es.length) := by
  refine ov_get h.nd ?_
  obtain ⟨b, es⟩ := a
  cases es with
  | nil => exact absurd rfl hn
  | cons r rs => simp [AccL.fp]
theorem AccL.pushed {S₀ : St} {pre post : List (Nat × Own)} {a : AccL} {e : TypeId} (h : FpOk S₀ (pre ++ (a.fp e ++ post))) {S₁ : St} (h1 : a.es = [] → S₁ = ov S₀ (pre ++ (a.fp e ++ post))) (h2 : a.es ≠ [] → S₁ = (ov S₀ (pre ++ (a.fp e ++ post))).del a.b) {b' : Nat} (hb : S₁ b' = none)
    (x : AV) {n : Nat} (hn : n = a.es.length + 1) :
    S₁.upd b' (.tip e 1 n) = ov S₀ (pre ++ ((a.push b' x).fp e ++ post)) ∧ FpOk S₀ (pre ++ ((a.push b' x).fp e ++ post)) := by
  subst hn
  obtain ⟨b, es⟩ := a
  have hfp : (AccL.push ⟨b, es⟩ b' x).fp e = [(b', .tip e 1 (es.length + 1))] := by
    unfold AccL.fp AccL.push
    cases es with
    | nil => simp
    | cons x xs => simp
  simp only [hfp, List.cons_append, List.nil_append]
  cases es with
  | nil =>
    have hS := h1 rfl
    simp only [AccL.fp, List.nil_append] at hS h
    subst hS
    exact ⟨ov_new_mid (ov_none h.nd hb).2, h.add hb _⟩
  | cons y ys =>
    have hS := h2 (by simp)
    simp only [AccL.fp, List.cons_append, List.nil_append] at hS h
    rw [ov_del_mid (h.new (b, .tip e 1 (y :: ys).length) (by simp)) h.nd] at hS
    subst hS
    exact ⟨ov_new_mid (ov_none h.drop.nd hb).2, h.drop.add hb _⟩
theorem aPart_cell {C : Cx} {t : TypeId} {cells : List AV} {off : Nat} {K : AV → Prop} {x : AV} (ha : (C.T t).agg = false) (hx : cells[off]? = some x) (h : K x) : aPart C t cells off K := by
  unfold aPart
  rw [ha]
  dsimp only
  have hd : cells.drop off = x :: cells.drop (off + 1) := by
    have hlt : off < cells.length := by
      rcases Nat.lt_or_ge off cells.length with h | h
      · exact h
      · rw [List.getElem?_eq_none h] at hx; cases hx
    rw [List.drop_eq_getElem_cons hlt]
    rw [List.getElem?_eq_getElem hlt] at hx
    cases hx; rfl
  rw [hd]
  simpa only [force_eq] using h
/-! ### Less said, cell by cell -/
theorem AV.le_refl : ∀ x, AV.le x x
  | .sl sh k es => by cases sh <;> simp [AV.le, Sh.mayNil]
  | .int _ _ => rfl
  | .bool _ => rfl
  | .str _ => rfl
  | .nilp => rfl
  | .ref _ _ => rfl
  | .imm _ => rfl
  | .nils => rfl
  | .arr _ _ _ _ => rfl
  | .ag _ => rfl
  | .tu _ => rfl
  | .nilf => rfl
  | .fn _ _ _ => rfl
  | .nili => rfl
  | .ifc _ _ => rfl
  | .nilm => rfl
  | .mp _ => rfl
  | .raw _ => rfl
  | .top => by simp [AV.le]
theorem leL_refl : ∀ xs, leL xs xs
  | [] => trivial
  | x :: xs => ⟨AV.le_refl x, leL_refl xs⟩
theorem AccL.nils_le : AV.le .nils AccL.empty.av := rfl
theorem Triple.lessW {P : Program} {C : Cx} {f : FuncId} {args : List AV} {S : St} {Q Q' : Out → St → Prop} (h : Triple P C f args S Q) (hq : ∀ o S', Q o S' → ∃ S'', Q' o S'' ∧ St.leW S'' S') : Triple P C f args S Q' :=
  ⟨fun w vs hY hg hr => (h.out w vs hY hg hr).mono fun e w' ⟨o, S', h1, h2, h3, h4⟩ => by
    obtain ⟨S'', k1, k2⟩ := hq o S' h4
    refine ⟨o, S'', ?_, h2.weakS k2, h3.trans (Adv.weakS k2 (Adv.refl _ _)), k1⟩
    cases o <;> cases e <;> first | exact h1.elim | skip
    · show Rel w' (rdOf S'') _ _
      rw [St.leW_rd k2]; exact h1
    · obtain ⟨v, rfl, hv⟩ := h1
      exact ⟨v, rfl, by rw [St.leW_rd k2]; exact hv⟩⟩
end Go.Proofs.YtdlgedpmbeafdaaGreatDoor.Aw

set_option maxRecDepth 100000
set_option linter.unusedVariables false
namespace Go.Proofs.YtdlgedpmbeafdaaGreatDoor.Aw
open Go Go.RowKit

noncomputable abbrev P : Program := Tryz.prog
noncomputable abbrev C (G : Nat → Option (List AV)) : Cx := ⟨Tt, G, Et, none, false⟩
theorem hT (G : Nat → Option (List AV)) : TyOk P (C G) := ⟨Tt_ok, Et_ok⟩
theorem hm : P.follows .mixedOrders = true := by kernel_rfl
def rowsS (l : List ByteArray) : List (List AV) := l.map fun s => [.str s]
variable {G : Nat → Option (List AV)}

theorem glob_cell {w : World} {S : St} (hg : Good (C G) w S) {g : Nat} {k : IntKind} {m : Int} (h : G g = some [.int k m]) : w.cell? ⟨g, 0, none⟩ = some (.int k m) := by
  obtain ⟨_, _, h3, _⟩ := hg.2 g _ h
  simp only [RelAt] at h3
  obtain ⟨⟨v, ⟨_, h4, _⟩, h5⟩, _⟩ := h3
  simp only [Rel] at h5
  subst h5
  exact h4
theorem RelL_ints {w : World} {rd} {k : IntKind} : ∀ {l : List Int} {vs : List Value}, RelL w rd (l.map (AV.int k)) vs → vs = l.map (Value.int k)
  | [], vs, h => by simpa [RelL] using h
  | n :: l, vs, h => by
    simp only [List.map_cons, RelL, Rel] at h
    obtain ⟨u, us, rfl, rfl, h2⟩ := h
    rw [RelL_ints h2]; rfl
/-- A table of whole numbers among the program's variables. -/
theorem glob_tab {w : World} {S : St} (hg : Good (C G) w S) {g : Nat} {k : IntKind} {l : List Int} (h : G g = some (l.map (AV.int k))) {name : String} (hn : P.globalNamed name = some g) : Lib.TabIs P w name k l := by
  obtain ⟨_, _, h3, e, h4⟩ := hg.2 g _ h
  obtain ⟨vs, k1, k2, k3, k4⟩ := RelAt.cells h3
  have hvs := RelL_ints k1
  subst hvs
  unfold Lib.TabIs World.var?
  rw [hn]
  simp only [Option.bind_some]
  unfold World.shape? at h4
  split at h4
  · rename_i cs e' f hb
    simp only [Option.some.injEq, Prod.mk.injEq, List.length_map] at h4
    rw [hb]
    simp only [Option.some.injEq]
    apply Array.ext'
    apply List.ext_getElem?
    intro i
    by_cases hi : i < l.length
    · have hc := k2 i (.int k l[i]) (by simp [hi])
      rw [cell_of_row w g (0 + i) cs e' f hb] at hc
      simp only [Nat.zero_add] at hc
      simp [hc, hi]
    · rw [List.getElem?_eq_none (by simp; omega), List.getElem?_eq_none (by simp; omega)]
  · cases h4
/-- The table that strconv reads. -/
def G10 (G : Nat → Option (List AV)) : Prop := G 4 = some (Lib.pow10Tab.map (AV.int .u64))
def itoaS (n : Int) : ByteArray := ⟨(Lib.itoa n).toArray⟩
theorem itoa_ok (hG : G10 G) (n : Int) (h0 : -9223372036854775808 ≤ n) (h1 : n ≤ 9223372036854775807) (S : St) :
    Triple P (C G) 91 [.int .i64 n] S fun o S' => o = .ret (.str (itoaS n)) ∧ S' = S := by
  refine Triple.of_calls (x := .str (itoaS n)) Tryz.func91 rfl (by decide +kernel) (fun w vs hg hr => ?_) ⟨rfl, rfl⟩
  obtain ⟨v, hv, r1⟩ := RelL.one hr
  simp only [Rel] at r1
  subst r1
  have hvs : vs = #[.int .i64 n] := arr_of_list hv
  rw [hvs]
  refine (Tryz.strconv_Itoa n h0 h1 w (glob_tab hg hG (by kernel_rfl))).mono fun e w' he => ?_
  obtain ⟨rfl, k, os, rfl⟩ := he
  exact ⟨_, rfl, by simp only [Rel]; rfl, Lib.below_grow _ w (Nat.le_refl _) k os⟩
theorem itoa_some (hG : G10 G) (n : Int) (h0 : -9223372036854775808 ≤ n) (h1 : n ≤ 9223372036854775807) (S : St) :
    Triple P (C G) 91 [.int .i64 n] S fun o S' => ∃ v, o = .ret (.str v) ∧ S' = S := (itoa_ok hG n h0 h1 S).mono fun o S' h => ⟨_, h⟩
def splitS (s sep : ByteArray) : List ByteArray := Lib.splitB sep 0 (Lib.countB s sep) s
theorem splitS_len (s sep : ByteArray) (h1 : 1 ≤ sep.size) : (splitS s sep).length = Lib.countB s sep + 1 := Lib.splitB_all sep h1 0 _ s rfl
theorem splitS_le (s sep : ByteArray) (h1 : 1 ≤ sep.size) : (splitS s sep).length ≤ s.size + 1 := by
  have := Lib.countB_le sep h1 s.size s (Nat.le_refl _)
  rw [splitS_len s sep h1]; omega
theorem RelL_strs (w : World) (rd) : ∀ l : List ByteArray, RelL w rd (rowsS l).flatten (l.map Value.string)
  | [] => by simp [rowsS, RelL]
  | s :: l => by
    have := RelL_strs w rd l
    simp only [rowsS, List.map_cons, List.flatten_cons, List.singleton_append] at this ⊢
    simp only [RelL, Rel]
    exact ⟨_, _, rfl, rfl, this⟩
theorem rowsS_len (l : List ByteArray) : (rowsS l).length = l.length := by simp [rowsS]
theorem rowsS_one (l : List ByteArray) : ∀ e ∈ rowsS l, e.length = 1 := by
  intro e he
  simp only [rowsS, List.mem_map] at he
  obtain ⟨s, _, rfl⟩ := he
  rfl
theorem Below.alloc' (w : World) (o : Obj) : Below w.heap.size w (w.alloc o) := ⟨rfl, rfl, rfl, by simp, fun b hb => heap_alloc_lt w o hb⟩
theorem split_ok {m : Int} (hG : G 1 = some [.int .i64 m]) (s sep : ByteArray) (hs : s.size < 4294967281) (h1 : 1 ≤ sep.size) (S : St) :
    Triple P (C G) 19 [.str s, .str sep] S fun o S' => o = .ret (.sl .full 1 (rowsS (splitS s sep))) ∧ S' = S := by
  refine Triple.of_calls (x := .sl .full 1 (rowsS (splitS s sep))) Tryz.func19 rfl (by decide +kernel) (fun w vs hg hr => ?_) ⟨rfl, rfl⟩
  obtain ⟨u, v, hv, r1, r2⟩ := RelL.two hr
  simp only [Rel] at r1 r2
  subst r1 r2
  have hvs : vs = #[.string s, .string sep] := by
    have := congrArg List.toArray hv
    simpa using this
  rw [hvs]
  refine (Tryz.strings_Split s sep m w hs (glob_cell hg hG) h1).mono fun e w' he => ?_
  obtain ⟨rfl, rfl⟩ := he
  refine ⟨_, rfl, ?_, Below.alloc' w _⟩
  have hb : (w.alloc (.cells ((splitS s sep).map Value.string).toArray 9)).heap[w.heap.size]? = some (.cells ((splitS s sep).map Value.string).toArray 9 (0, 0)) := heap_alloc_new w _
  have hl := splitS_le s sep h1
  simp only [Rel]
  refine .inr ⟨w.heap.size, 0, (splitS s sep).length, by rw [rowsS_len, splitS_len s sep h1], by rw [rowsS_len]; exact Nat.le_refl _, by simp only [maxLen]; omega, by rw [rowsS_len]; rfl, ?_⟩
  refine RelRows.of_cells (rowsS_one _) (RelL_strs _ _ _) (fun i v hv => ?_) (fun u hu => ?_) (fun i hi => ?_)
  · have := cell_of_row _ _ i _ 9 (0, 0) hb
    rw [Nat.zero_add]
    exact this.trans (by simpa using hv)
  · obtain ⟨x, _, rfl⟩ := List.mem_map.1 hu; rfl
  · simp only [rdOf, hg.1.fresh]

theorem clone_nn (rows : List ByteArray) (hl : rows.length ≤ 1000000000) (S : St) :
    Triple P (C G) 20 [.sl .nn 1 (rowsS rows)] S fun o S' => ∃ b, S b = none ∧ o = .ret (.sl (.own b) 1 (rowsS rows)) ∧ S' = S.upd b (.tip 9 1 rows.length) := by
  refine triple_of_awp (hT G) hm Tryz.func20 rfl (by decide +kernel) rfl (by decide +kernel) (by show 1 ≤ _; decide +kernel) rfl ?_
  conv => whnf
  intro b0 hb0
  conv => whnf
  refine ⟨⟨St.upd_same _ _ _, by show _ * 16 ≤ _; simp [rowsS]; omega⟩, ?_⟩
  conv => whnf
  intro b hb
  conv => whnf
  rw [St.del_upd hb0] at hb ⊢
  exact ⟨_, _, ⟨b, hb, rfl, rfl⟩, by simp [rowsS]; exact St.le_refl _, AV.leS_refl _ _ _⟩
theorem clone_ok (rows : List ByteArray) (hl : rows.length ≤ 1000000000) (S : St) :
    Triple P (C G) 20 [.sl .nn 1 (rowsS rows)] S fun o S' => o = .ret (.sl .any 1 (rowsS rows)) ∧ S' = S :=
  (clone_nn rows hl S).lessen fun o S' ⟨b, hb, ho, hS⟩ => ⟨_, _, ⟨rfl, rfl⟩, by rw [hS]; exact St.le_upd' (St.le_refl _) hb _, by rw [ho]; exact ⟨rfl, rfl⟩⟩
def sepNL : ByteArray := ⟨#[10]⟩
def linesOf (s : ByteArray) : List ByteArray :=
  let l := splitS s sepNL
  if l[l.length - 1]? = some ⟨#[]⟩ then l.take (l.length - 1) else l
set_option maxHeartbeats 1000000 in
theorem lines_own {m : Int} (hG : G 1 = some [.int .i64 m]) (s : ByteArray) (hs : s.size < 100000001) (S : St) :
    Triple P (C G) 9 [.str s] S fun o S' => ∃ b, S b = none ∧ o = .ret (.sl (.own b) 1 (rowsS (linesOf s))) ∧ S' = S.upd b (.tip 9 1 (linesOf s).length) := by
  refine triple_of_awp (hT G) hm Tryz.func9 rfl (by decide +kernel) rfl (by decide +kernel) (by show 1 ≤ _; decide +kernel) rfl ?_
  conv => whnf
  refine (split_ok hG s sepNL (by omega) (by decide) S).mono ?_
  rintro o S' ⟨rfl, rfl⟩
  conv => whnf
  intro hlen
  have hl1 := splitS_len s sepNL (by decide)
  have hl2 := splitS_le s sepNL (by decide)
  have w1 : IntKind.i64.wrap (((rowsS (splitS s sepNL)).length : Int) - 1) = (((splitS s sepNL).length - 1 : Nat) : Int) := by
    rw [rowsS_len, wrap_i64 (by omega) (by omega)]; omega
  obtain ⟨x, hx⟩ : ∃ x, (splitS s sepNL)[(splitS s sepNL).length - 1]? = some x := ⟨_, List.getElem?_eq_getElem (by omega)⟩
  conv => whnf
  rw [w1]
  refine ⟨[.str x], ⟨by omega, by simp [rowsS, hx]⟩, ?_⟩
  conv => whnf
  refine split_of (fun h => ?_) (fun h => ?_)
  · have h : x = (⟨#[]⟩ : ByteArray) := by simpa using h
    subst h
    have hlo : linesOf s = (splitS s sepNL).take ((splitS s sepNL).length - 1) := by unfold linesOf; rw [if_pos hx]
    conv => whnf
    intro hlen'
    conv => whnf
    rw [w1]
    refine ⟨⟨by omega, by omega, by rw [rowsS_len]; omega⟩, ?_⟩
    conv => whnf
    have e1 : List.drop (0 : Int).toNat (List.take (((splitS s sepNL).length - 1 : Nat) : Int).toNat (rowsS (splitS s sepNL))) = rowsS (linesOf s) := by
      rw [hlo]; simp [rowsS, List.map_take]
    refine ((clone_nn (linesOf s) (by rw [hlo]; simp; omega) S').args (by exact ⟨⟨rfl, rfl, e1⟩, trivial⟩)).mono ?_
    rintro o S'' ⟨b, hb, rfl, rfl⟩
    conv => whnf
    exact ⟨_, _, ⟨b, hb, rfl, rfl⟩, St.le_refl _, AV.leS_refl _ _ _⟩
  · have h : ¬ x = (⟨#[]⟩ : ByteArray) := by simpa using h
    have hlo : linesOf s = splitS s sepNL := by
      unfold linesOf; rw [if_neg (by rw [hx]; simpa using h)]
    conv => whnf
    refine ((clone_nn (linesOf s) (by rw [hlo]; omega) S').args (by exact ⟨⟨rfl, rfl, by rw [hlo]⟩, trivial⟩)).mono ?_
    rintro o S'' ⟨b, hb, rfl, rfl⟩
    conv => whnf
    exact ⟨_, _, ⟨b, hb, rfl, rfl⟩, St.le_refl _, AV.leS_refl _ _ _⟩
theorem lines_ok {m : Int} (hG : G 1 = some [.int .i64 m]) (s : ByteArray) (hs : s.size < 100000001) (S : St) :
    Triple P (C G) 9 [.str s] S fun o S' => o = .ret (.sl .any 1 (rowsS (linesOf s))) ∧ S' = S :=
  (lines_own hG s hs S).lessen fun o S' ⟨b, hb, ho, hS⟩ => ⟨_, _, ⟨rfl, rfl⟩, by rw [hS]; exact St.le_upd' (St.le_refl _) hb _, by rw [ho]; exact ⟨rfl, rfl⟩⟩
end Go.Proofs.YtdlgedpmbeafdaaGreatDoor.Aw

set_option maxRecDepth 100000
set_option linter.unusedVariables false
namespace Go.Proofs.YtdlgedpmbeafdaaGreatDoor.Aw
open Go Go.RowKit
variable {G : Nat → Option (List AV)}

/-- A fault of no line. -/
def failAV (e : Int) : AV := .ifc 60 (.imm [.int .i64 2, .int .i64 0, .int .i64 e])
theorem fail_ok (e : Int) (S : St) : Triple P (C G) 35 [.int .i64 e] S fun o S' => o = .ret (failAV e) ∧ S' = S := by
  refine triple_of_awp (hT G) hm Tryz.func35 rfl (by decide +kernel) rfl (by decide +kernel) (by show 1 ≤ _; decide +kernel) rfl ?_
  conv => whnf
  intro b hb
  conv => whnf
  exact ⟨_, S, ⟨rfl, rfl⟩, St.le_upd' (St.le_refl S) hb _, rfl, hb, _, _, St.upd_same _ _ _, rfl⟩
def rdr (l : List ByteArray) (cs : List AV) : Own := .obj 87 (.sl .any 1 (rowsS l) :: cs)
def errAV (e : Int) : AV := if e = 0 then .nili else failAV e
theorem rtake_ok (b : Nat) (l : List ByteArray) (cs : List AV) (S : St) (hS : S b = some (rdr l cs)) :
    Triple P (C G) 33 [.ref b 0] S fun o S' => match l with
      | [] => o = .ret (.tu [.str ⟨#[]⟩, failAV 82]) ∧ S' = S
      | w :: l' => o = .ret (.tu [.str w, .nili]) ∧ S' = S.upd b (rdr l' cs) := by
  refine triple_of_awp (hT G) hm Tryz.func33 rfl (by decide +kernel) rfl (by decide +kernel) (by show 1 ≤ _; decide +kernel) rfl ?_
  conv => whnf
  refine ⟨_, _, hS, ?_⟩
  conv => whnf
  intro hlen
  cases l with
  | nil =>
    conv => whnf
    refine (fail_ok 82 S).mono ?_
    rintro o S' ⟨rfl, rfl⟩
    conv => whnf
    exact ⟨_, S', ⟨rfl, rfl⟩, St.le_refl _, AV.leS_refl _ _ _⟩
  | cons w l' =>
    conv => whnf
    refine ⟨_, _, hS, ?_⟩
    conv => whnf
    refine ⟨_, ⟨by omega, rfl⟩, ?_⟩
    conv => whnf
    refine ⟨_, _, hS, ?_⟩
    conv => whnf
    refine ⟨⟨by decide, by simp only [rowsS_len, List.length_cons]; omega, by omega⟩, ?_⟩
    conv => whnf
    refine ⟨_, _, hS, ?_⟩
    rw [forceL_eq]
    conv => whnf
    exact ⟨_, _, ⟨rfl, rfl⟩, (by
      have e1 : List.drop (Int.toNat 1) (List.take ((((rowsS (w :: l')).length : Nat) : Int).toNat) (rowsS (w :: l'))) = rowsS l' := by
        simp [rowsS]
        exact List.take_of_length_le (by simp)
      show St.le (S.upd b (rdr l' cs)) (S.upd b (.obj _ (.sl .any 1 _ :: cs)))
      rw [e1]; exact St.le_refl _), AV.leS_refl _ _ _⟩
theorem rend_ok (b : Nat) (l : List ByteArray) (cs : List AV) (S : St) (hS : S b = some (rdr l cs)) :
    Triple P (C G) 36 [.ref b 0] S fun o S' => o = .ret (if l = [] then .nili else failAV 80) ∧ S' = S := by
  refine triple_of_awp (hT G) hm Tryz.func36 rfl (by decide +kernel) rfl (by decide +kernel) (by show 1 ≤ _; decide +kernel) rfl ?_
  conv => whnf
  refine ⟨_, _, hS, ?_⟩
  conv => whnf
  intro hlen
  cases l with
  | nil =>
    conv => whnf
    exact ⟨_, S, ⟨rfl, rfl⟩, St.le_refl _, AV.leS_refl _ _ _⟩
  | cons w l' =>
    conv => whnf
    refine split_of (fun h => ?_) (fun h => by simp [rowsS] at h)
    conv => whnf
    refine (fail_ok 80 S).mono ?_
    rintro o S' ⟨rfl, rfl⟩
    conv => whnf
    exact ⟨_, S', ⟨rfl, rfl⟩, St.le_refl _, AV.leS_refl _ _ _⟩
theorem rnext_ok (b : Nat) (l : List ByteArray) (cs : List AV) (x : ByteArray) (S : St) (hS : S b = some (rdr l cs)) :
    Triple P (C G) 101 [.ref b 0, .str x] S fun o S' => o = .ret (.bool (decide (l.head? = some x))) ∧ S' = S := by
  refine triple_of_awp (hT G) hm Tryz.func101 rfl (by decide +kernel) rfl (by decide +kernel) (by show 2 ≤ _; decide +kernel) rfl ?_
  conv => whnf
  refine ⟨_, _, hS, ?_⟩
  conv => whnf
  intro hlen
  cases l with
  | nil =>
    conv => whnf
    exact ⟨_, S, ⟨rfl, rfl⟩, St.le_refl _, AV.leS_refl _ _ _⟩
  | cons w l' =>
    conv => whnf
    refine split_of (fun h => ?_) (fun h => by simp [rowsS] at h)
    conv => whnf
    refine ⟨_, _, hS, ?_⟩
    conv => whnf
    refine ⟨_, ⟨by omega, rfl⟩, ?_⟩
    conv => whnf
    exact ⟨_, S, ⟨rfl, rfl⟩, St.le_refl _, congrArg AV.bool (by simp)⟩
/-- What is left, and the error's number (0: none). -/
def exactG : List ByteArray → List ByteArray → List ByteArray × Int
  | l, [] => (l, 0)
  | [], _ :: _ => ([], 82)
  | w :: l, x :: xs => if w = x then exactG l xs else (l, 80)
set_option maxHeartbeats 1000000 in
theorem exactly_ok (b : Nat) (l : List ByteArray) (cs : List AV) (xs : List ByteArray) (hxs : xs.length ≤ 1000000) (S : St) (hS : S b = some (rdr l cs)) :
    Triple P (C G) 84 [.ref b 0, .sl .any 1 (rowsS xs)] S fun o S' => o = .ret (errAV (exactG l xs).2) ∧ S' = S.upd b (rdr (exactG l xs).1 cs) := by
  refine triple_of_awp (hT G) hm Tryz.func84 rfl (by decide +kernel) rfl (by decide +kernel) (by show 2 ≤ _; decide +kernel) rfl ?_
  conv => whnf
  intro hlen
  conv => whnf
  refine ⟨⟨Nat × List ByteArray, fun (i, l') => [(0, .ref b 0), (9, .sl .any 1 (rowsS xs)), (10, .int .i64 (xs.length : Int)), (11, .int .i64 (i : Int))],
    fun (i, l') S' => S' = S.upd b (rdr l' cs) ∧ i ≤ xs.length ∧ exactG l' (xs.drop i) = exactG l xs, fun (i, _) => xs.length - i⟩,
    ⟨(0, l), ⟨rfl, ⟨rfl, rfl⟩, congrArg (AV.int .i64) (by simp [rowsS]), rfl, trivial⟩, ⟨_, St.leW_refl _, (St.upd_self hS).symm, by omega, rfl⟩⟩, ?_⟩
  rintro ⟨i, l'⟩ S₁ ⟨rfl, h2, h3⟩
  have hS₁ : (S.upd b (rdr l' cs)) b = some (rdr l' cs) := St.upd_same _ _ _
  conv => whnf
  refine split_of (fun hlt => ?_) (fun hlt => ?_)
  · have hlt : i < xs.length := by simpa using hlt
    have w1 : IntKind.i64.wrap ((i : Int) + 1) = ((i + 1 : Nat) : Int) := wrap_nat (by omega)
    have hd : xs.drop i = xs[i] :: xs.drop (i + 1) := List.drop_eq_getElem_cons hlt
    rw [hd] at h3
    conv => whnf
    refine ⟨[.str xs[i]], ⟨by omega, by simp [rowsS, hlt]⟩, ?_⟩
    conv => whnf
    refine (rtake_ok b l' cs _ hS₁).mono ?_
    cases l' with
    | nil =>
      rintro o S' ⟨rfl, rfl⟩
      conv => whnf
      rw [← h3]
      exact ⟨_, _, ⟨rfl, rfl⟩, St.le_refl _, AV.leS_refl _ _ _⟩
    | cons w l'' =>
      rintro o S' ⟨rfl, rfl⟩
      rw [St.upd_upd]
      conv => whnf
      refine split_of (fun hw => ?_) (fun hw => ?_)
      · have hw : ¬ w = xs[i] := by simpa using hw
        have h4 : exactG l xs = (l'', 80) := by rw [← h3]; simp [exactG, hw]
        conv => whnf
        refine (fail_ok 80 _).mono ?_
        rintro o S' ⟨rfl, rfl⟩
        conv => whnf
        rw [h4]
        exact ⟨_, _, ⟨rfl, rfl⟩, St.le_refl _, AV.leS_refl _ _ _⟩
      · have hw : w = xs[i] := by simpa using hw
        conv => whnf
        refine ⟨(i + 1, l''), ⟨rfl, ⟨rfl, rfl⟩, rfl, congrArg _ w1, trivial⟩, ⟨_, St.leW_refl _, rfl, by omega, ?_⟩, by show xs.length - (i + 1) < xs.length - i; omega⟩
        rw [← h3]; simp [exactG, hw]
  · have hlt : ¬ i < xs.length := by simpa using hlt
    have hd : xs.drop i = [] := List.drop_eq_nil_of_le (by omega)
    rw [hd] at h3
    have h4 : exactG l xs = (l', 0) := by rw [← h3]; cases l' <;> rfl
    conv => whnf
    rw [h4]
    exact ⟨_, _, ⟨rfl, rfl⟩, St.le_refl _, AV.leS_refl _ _ _⟩
end Go.Proofs.YtdlgedpmbeafdaaGreatDoor.Aw
