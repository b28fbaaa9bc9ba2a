/- A constraint's check, walked at any constraint. -/
import Derived.Test.YtjpboanohpaibaaGreatDoorPat16
import Derived.Test.YtjpboanohpaibaaGreatDoorPat10
set_option linter.all false
set_option maxRecDepth 100000
set_option maxHeartbeats 8000000
namespace Go.Proofs.YtjpboanohpaibaaGreatDoor.Aw
open Go Go.RowKit
variable {G:Nat→Option (List AV)}
structure SzCon (c:ConV):Prop where
 t:c.terms.length+1≤9223372036854775807
 x:c.xs.length+1≤9223372036854775807
 b:c.table.length+1≤9223372036854775807
 r:c.rows.length+1≤9223372036854775807
 e:∀ r∈c.rows,r.length+1≤9223372036854775807
def conOf(n:NeedsV)(c:ConV)(vars:Int):Int:=
 bif n.op && (decide (c.op<1) || decide (c.op > 3)) then 43 else
 bif fieldV n c then 48 else
 bif !countsV n.terms c.terms.length || (!countsV n.xs c.xs.length || (!countsV n.table c.table.length || wideV n c)) then 47 else
 bif c.terms.any (badVarV vars) || ((n.x && noV vars c.x) || ((n.y && noV vars c.y) || c.xs.any (noV vars))) then 44 else
 bif c.terms.any badCoefV then 45 else
 bif !withinV c.k 1000000000 || (!withinV c.v 1000000000 || (greatV c.table || c.rows.any greatV)) then 46 else 0
def conV(c:ConV)(vars:Int):Int:=match needTab.find? fun e=>decide (c.kind=e.1) with | some e=>conOf e.2.1 c vars | none=>43
theorem con_ok(c:ConV)(vars:Int)(hz:SzCon c)(S:St):Triple P (C G) 53 [.ag (rowC c),.int .i64 vars] S fun o S'=>o=.ret (.int .i64 (conV c vars))∧S'=S:=by
 have hte:=fun S=>terms_ok (G:=G) c.terms hz.t vars S
 have hco:=fun b n S=>counts_ok (G:=G) b n S
 have hwi:=fun n S=>within_ok (G:=G) n 1000000000 (by decide) (by decide) S
 have hgt:=fun S=>great_ok (G:=G) c.table hz.b S
 have l1:=rowsTm_len c.terms
 have l2:=rowsI_len c.xs
 have l3:=rowsI_len c.table
 refine triple_of_awp (hT G) hm Tryz.func53 rfl (by decide +kernel) rfl (by decide +kernel) (by show 2≤_;decide +kernel) rfl ?_
 refine awp_seq2 fun K hK hQ=>?_
 conv=>whnf
 intro b2 hb2;conv=>whnf
 intro b3 hb3;conv=>whnf
 refine hK _ _ ?_;clear hK hQ K;have q3:((S.upd b2 (.obj 51 (rowC c))).upd b3 (.obj 3 [.int .i64 vars])) b3=_:=St.upd_same _ _ _;have q2:((S.upd b2 (.obj 51 (rowC c))).upd b3 (.obj 3 [.int .i64 vars])) b2=some (.obj 51 (rowC c)):=St.up hb3 (St.upd_same _ _ _);have hle:St.le S ((S.upd b2 (.obj 51 (rowC c))).upd b3 (.obj 3 [.int .i64 vars])):=St.le_upd' (St.le_upd' (St.le_refl S) hb2 _) hb3 _;change awp _ _ _ _ ((S.upd b2 (.obj 51 (rowC c))).upd b3 (.obj 3 [.int .i64 vars])) _;generalize (S.upd b2 (.obj 51 (rowC c))).upd b3 (.obj 3 [.int .i64 vars])=T at *;refine awp_seq2 fun K hK hQ=>?_
 refine⟨[],(.free 1 (.one 0 (.free 2 (.one 3 (.free 4 (.free 5 (.free 6 (.one 7 (.one 8 (.free 9 .done) .none) .none)))) (.one 7 (.one 3 (.free 4 (.free 5 (.free 6 (.one 8 (.free 9 .done) .none)))) .none) .none))) (.one 2 (.one 0 (.one 3 (.free 4 (.free 5 (.free 6 (.one 7 (.one 8 (.free 9 .done) .none) .none)))) (.one 7 (.one 3 (.free 4 (.free 5 (.free 6 (.one 8 (.free 9 .done) .none)))) .none) .none)) (.one 7 (.one 0 (.one 3 (.free 4 (.free 5 (.free 6 (.one 8 (.free 9 .done) .none)))) .none) .none) .none)) (.one 7 (.one 0 (.free 2 (.one 3 (.free 4 (.free 5 (.free 6 (.one 8 (.free 9 .done) .none)))) .none)) (.one 2 (.one 0 (.one 3 (.free 4 (.free 5 (.free 6 (.one 8 (.free 9 .done) .none)))) .none) .none) .none)) .none)))),fun env' S'=>∃ b5,S' b2=some (.obj 51 (rowC c))∧S' b3=some (.obj 3 [.int .i64 vars])∧St.le S S'∧
  ((∃ e,e∈needTab∧c.kind=e.1∧Env.le env' [(2,.ref b2 0),(3,.ref b3 0),(4,.int .i64 0),(5,.ref b5 0),(6,.bool true)]∧S' b5=some (.obj 111 (needAV e.2.1 e.2.2)))∨
   ((∀ e∈needTab,c.kind≠e.1)∧Env.le env' [(2,.ref b2 0),(3,.ref b3 0),(4,.int .i64 0),(5,.ref b5 0),(6,.bool false)])),by decide +kernel,?_,fun env' S' hM=>?_⟩
 rotate_left
 ·obtain⟨b5,r2,r3,hlf,hM⟩:=hM
  rcases hM with ⟨e,he,hk,hen,r5⟩ | ⟨hn,hen⟩
  rotate_left
  ·refine⟨_,.inr hen,?_⟩;have hcv:conV c vars=43:=by
    unfold conV;rw[List.find?_eq_none.2 fun e he=>by simpa using hn e he]
   generalize conV c vars=res at *;subst hcv;refine hK _ _ ?_;clear hK hQ K;refine awp_seq2 fun K hK hQ=>?_
   conv=>whnf
   refine hQ _ _ _ (by simp) ?_
   conv=>whnf
   exact⟨_,_,⟨rfl,rfl⟩,hlf,AV.leS_refl _ _ _⟩
  ·refine⟨_,.inr hen,?_⟩;refine hK _ _ ?_;clear hK hQ K hen env' hle;simp only[needTab,List.mem_cons,List.not_mem_nil,or_false] at he
   rcases he with rfl | rfl | rfl | rfl | rfl | rfl | rfl | rfl | rfl
   ·have hk:c.kind=1:=hk
    have hsp:conV c vars=conOf nd1 c vars:=by unfold conV;rw[hk];rfl
    generalize conV c vars=res at *;unfold conOf at hsp;have r5:S' b5=some (.obj 111 (needAV nd1 72)):=r5;refine awp_seq2 fun K hK hQ=>?_
    conv=>whnf
    refine⟨_,_,r5,?_⟩;conv=>whnf
    refine⟨_,_,r2,?_⟩;conv=>whnf
    refine split_of (fun h1=>?_) (fun h1=>?_)
    ·have e1:(decide (c.op<1))=true:=h1
     -- hsp,e1 what is known
     conv=>whnf
     refine hQ _ _ _ (by simp) ?_
     clear hK hQ K;conv=>whnf
     exact⟨_,_,⟨congrArg (fun z=>Out.ret (AV.int .i64 z)) (show _=res from Eq.symm (by rw[hsp,e1];rfl)),rfl⟩,hlf,AV.leS_refl _ _ _⟩
    have e1:(decide (c.op<1))=false:=h1
    conv=>whnf
    refine⟨_,_,r2,?_⟩;conv=>whnf
    refine split_of (fun h2=>?_) (fun h2=>?_)
    ·have e2:(decide (c.op > 3))=true:=h2
     -- hsp,e1,e2 what is known
     conv=>whnf
     refine hQ _ _ _ (by simp) ?_
     clear hK hQ K;conv=>whnf
     exact⟨_,_,⟨congrArg (fun z=>Out.ret (AV.int .i64 z)) (show _=res from Eq.symm (by rw[hsp,e1,e2];rfl)),rfl⟩,hlf,AV.leS_refl _ _ _⟩
    have e2:(decide (c.op > 3))=false:=h2
    conv=>whnf
    refine hK _ _ ?_;clear hK hQ K;refine awp_seq2 fun K hK hQ=>?_
    conv=>whnf
    refine⟨_,_,r2,?_⟩;conv=>whnf
    refine⟨_,_,r3,?_⟩;conv=>whnf
    refine(hte _).mono ?_;rintro o T' ⟨rfl,rfl⟩;conv=>whnf
    refine hK _ _ ?_;clear hK hQ K;refine awp_seq2 fun K hK hQ=>?_
    conv=>whnf
    refine hK _ _ ?_;clear hK hQ K;refine awp_seq2 fun K hK hQ=>?_
    conv=>whnf
    refine⟨_,_,r2,?_⟩;conv=>whnf
    refine⟨_,_,r5,?_⟩;conv=>whnf
    refine(field1_ok _ _).mono ?_;rintro o T' ⟨rfl,rfl⟩;conv=>whnf
    refine split_of (fun h3=>?_) (fun h3=>?_)
    ·have e3:(fieldV nd1 c)=true:=h3
     -- hsp,e1,e2,e3 what is known
     conv=>whnf
     refine hQ _ _ _ (by simp) ?_
     clear hK hQ K;conv=>whnf
     exact⟨_,_,⟨congrArg (fun z=>Out.ret (AV.int .i64 z)) (show _=res from Eq.symm (by rw[hsp,e1,e2,e3];rfl)),rfl⟩,hlf,AV.leS_refl _ _ _⟩
    have e3:(fieldV nd1 c)=false:=h3
    conv=>whnf
    refine⟨_,_,r5,?_⟩;conv=>whnf
    refine⟨_,_,r2,?_⟩;conv=>whnf
    intro _;rw[l1];conv=>whnf
    refine(hco _ _ _).mono ?_;rintro o T' ⟨rfl,rfl⟩;conv=>whnf
    refine split_of (fun h4=>?_) (fun h4=>?_)
    ·have e4:(!countsV nd1.terms (c.terms.length:Int))=true:=h4
     -- hsp,e1,e2,e3,e4 what is known
     conv=>whnf
     refine hQ _ _ _ (by simp) ?_
     clear hK hQ K;conv=>whnf
     exact⟨_,_,⟨congrArg (fun z=>Out.ret (AV.int .i64 z)) (show _=res from Eq.symm (by rw[hsp,e1,e2,e3,e4];rfl)),rfl⟩,hlf,AV.leS_refl _ _ _⟩
    have e4:(!countsV nd1.terms (c.terms.length:Int))=false:=h4
    conv=>whnf
    refine⟨_,_,r5,?_⟩;conv=>whnf
    refine⟨_,_,r2,?_⟩;conv=>whnf
    intro _;rw[l2];conv=>whnf
    refine(hco _ _ _).mono ?_;rintro o T' ⟨rfl,rfl⟩;conv=>whnf
    refine⟨_,_,r5,?_⟩;conv=>whnf
    refine⟨_,_,r2,?_⟩;conv=>whnf
    intro _;rw[l3];conv=>whnf
    refine(hco _ _ _).mono ?_;rintro o T' ⟨rfl,rfl⟩;conv=>whnf
    refine⟨_,_,r2,?_⟩;conv=>whnf
    refine⟨_,_,r5,?_⟩;conv=>whnf
    refine(wide_ok nd1 _ c hz.r _).mono ?_;rintro o T' ⟨rfl,rfl⟩;conv=>whnf
    refine split_of (fun h5=>?_) (fun h5=>?_)
    ·have e5:(c.terms.any (badVarV vars))=true:=h5
     -- hsp,e1,e2,e3,e4,e5 what is known
     conv=>whnf
     refine hQ _ _ _ (by simp) ?_
     clear hK hQ K;conv=>whnf
     exact⟨_,_,⟨congrArg (fun z=>Out.ret (AV.int .i64 z)) (show _=res from Eq.symm (by rw[hsp,e1,e2,e3,e4,e5];rfl)),rfl⟩,hlf,AV.leS_refl _ _ _⟩
    have e5:(c.terms.any (badVarV vars))=false:=h5
    conv=>whnf
    refine⟨_,_,r5,?_⟩;conv=>whnf
    refine⟨_,_,r5,?_⟩;conv=>whnf
    refine⟨_,_,r2,?_⟩;conv=>whnf
    refine(ContainsI_ok (G:=G) (xs:=c.xs) hz.x (p:=noV vars) fun x _=>con1_ok x r3).mono ?_
    rintro o T' ⟨rfl,rfl⟩;conv=>whnf
    refine split_of (fun h6=>?_) (fun h6=>?_)
    ·have e6:(c.xs.any (noV vars))=true:=h6
     -- hsp,e1,e2,e3,e4,e5,e6 what is known
     conv=>whnf
     refine hQ _ _ _ (by simp) ?_
     clear hK hQ K;conv=>whnf
     exact⟨_,_,⟨congrArg (fun z=>Out.ret (AV.int .i64 z)) (show _=res from Eq.symm (by rw[hsp,e1,e2,e3,e4,e5,e6];rfl)),rfl⟩,hlf,AV.leS_refl _ _ _⟩
    have e6:(c.xs.any (noV vars))=false:=h6
    conv=>whnf
    refine split_of (fun h7=>?_) (fun h7=>?_)
    ·have e7:(c.terms.any badCoefV)=true:=h7
     -- hsp,e1,e2,e3,e4,e5,e6,e7 what is known
     conv=>whnf
     refine hQ _ _ _ (by simp) ?_
     clear hK hQ K;conv=>whnf
     exact⟨_,_,⟨congrArg (fun z=>Out.ret (AV.int .i64 z)) (show _=res from Eq.symm (by rw[hsp,e1,e2,e3,e4,e5,e6,e7];rfl)),rfl⟩,hlf,AV.leS_refl _ _ _⟩
    have e7:(c.terms.any badCoefV)=false:=h7
    conv=>whnf
    refine⟨_,_,r2,?_⟩;conv=>whnf
    refine(hwi _ _).mono ?_;rintro o T' ⟨rfl,rfl⟩;conv=>whnf
    refine split_of (fun h8=>?_) (fun h8=>?_)
    ·have e8:(!withinV c.k 1000000000)=true:=h8
     -- hsp,e1,e2,e3,e4,e5,e6,e7,e8 what is known
     conv=>whnf
     refine hQ _ _ _ (by simp) ?_
     clear hK hQ K;conv=>whnf
     exact⟨_,_,⟨congrArg (fun z=>Out.ret (AV.int .i64 z)) (show _=res from Eq.symm (by rw[hsp,e1,e2,e3,e4,e5,e6,e7,e8];rfl)),rfl⟩,hlf,AV.leS_refl _ _ _⟩
    have e8:(!withinV c.k 1000000000)=false:=h8
    conv=>whnf
    refine⟨_,_,r2,?_⟩;conv=>whnf
    refine(hwi _ _).mono ?_;rintro o T' ⟨rfl,rfl⟩;conv=>whnf
    refine split_of (fun h9=>?_) (fun h9=>?_)
    ·have e9:(!withinV c.v 1000000000)=true:=h9
     -- hsp,e1,e2,e3,e4,e5,e6,e7,e8,e9 what is known
     conv=>whnf
     refine hQ _ _ _ (by simp) ?_
     clear hK hQ K;conv=>whnf
     exact⟨_,_,⟨congrArg (fun z=>Out.ret (AV.int .i64 z)) (show _=res from Eq.symm (by rw[hsp,e1,e2,e3,e4,e5,e6,e7,e8,e9];rfl)),rfl⟩,hlf,AV.leS_refl _ _ _⟩
    have e9:(!withinV c.v 1000000000)=false:=h9
    conv=>whnf
    refine⟨_,_,r2,?_⟩;conv=>whnf
    refine(hgt _).mono ?_;rintro o T' ⟨rfl,rfl⟩;conv=>whnf
    refine split_of (fun h10=>?_) (fun h10=>?_)
    ·have e10:(greatV c.table)=true:=h10
     -- hsp,e1,e2,e3,e4,e5,e6,e7,e8,e9,e10 what is known
     conv=>whnf
     refine hQ _ _ _ (by simp) ?_
     clear hK hQ K;conv=>whnf
     exact⟨_,_,⟨congrArg (fun z=>Out.ret (AV.int .i64 z)) (show _=res from Eq.symm (by rw[hsp,e1,e2,e3,e4,e5,e6,e7,e8,e9,e10];rfl)),rfl⟩,hlf,AV.leS_refl _ _ _⟩
    have e10:(greatV c.table)=false:=h10
    conv=>whnf
    refine⟨_,_,r2,?_⟩;conv=>whnf
    refine(ContainsL_ok (G:=G) (xs:=c.rows) hz.r (p:=greatV) fun x hx=>great_ok x (hz.e x hx) _).mono ?_
    rintro o T' ⟨rfl,rfl⟩;conv=>whnf
    refine split_of (fun h11=>?_) (fun h11=>?_)
    ·have e11:(c.rows.any greatV)=true:=h11
     -- hsp,e1,e2,e3,e4,e5,e6,e7,e8,e9,e10,e11 what is known
     conv=>whnf
     refine hQ _ _ _ (by simp) ?_
     clear hK hQ K;conv=>whnf
     exact⟨_,_,⟨congrArg (fun z=>Out.ret (AV.int .i64 z)) (show _=res from Eq.symm (by rw[hsp,e1,e2,e3,e4,e5,e6,e7,e8,e9,e10,e11];rfl)),rfl⟩,hlf,AV.leS_refl _ _ _⟩
    have e11:(c.rows.any greatV)=false:=h11
    conv=>whnf
    refine hK _ _ ?_;clear hK hQ K;conv=>whnf
    exact⟨_,_,⟨congrArg (fun z=>Out.ret (AV.int .i64 z)) (show _=res from Eq.symm (by rw[hsp,e1,e2,e3,e4,e5,e6,e7,e8,e9,e10,e11];rfl)),rfl⟩,hlf,AV.leS_refl _ _ _⟩
   ·have hk:c.kind=2:=hk
    have hsp:conV c vars=conOf nd2 c vars:=by unfold conV;rw[hk];rfl
    generalize conV c vars=res at *;unfold conOf at hsp;have r5:S' b5=some (.obj 111 (needAV nd2 73)):=r5;refine awp_seq2 fun K hK hQ=>?_
    conv=>whnf
    refine⟨_,_,r5,?_⟩;conv=>whnf
    refine hK _ _ ?_;clear hK hQ K;refine awp_seq2 fun K hK hQ=>?_
    conv=>whnf
    refine⟨_,_,r2,?_⟩;conv=>whnf
    refine⟨_,_,r3,?_⟩;conv=>whnf
    refine(hte _).mono ?_;rintro o T' ⟨rfl,rfl⟩;conv=>whnf
    refine hK _ _ ?_;clear hK hQ K;refine awp_seq2 fun K hK hQ=>?_
    conv=>whnf
    refine hK _ _ ?_;clear hK hQ K;refine awp_seq2 fun K hK hQ=>?_
    conv=>whnf
    refine⟨_,_,r2,?_⟩;conv=>whnf
    refine⟨_,_,r5,?_⟩;conv=>whnf
    refine(field2_ok _ _).mono ?_;rintro o T' ⟨rfl,rfl⟩;conv=>whnf
    refine split_of (fun h1=>?_) (fun h1=>?_)
    ·have e1:(fieldV nd2 c)=true:=h1
     -- hsp,e1 what is known
     conv=>whnf
     refine hQ _ _ _ (by simp) ?_
     clear hK hQ K;conv=>whnf
     exact⟨_,_,⟨congrArg (fun z=>Out.ret (AV.int .i64 z)) (show _=res from Eq.symm (by rw[hsp,e1];rfl)),rfl⟩,hlf,AV.leS_refl _ _ _⟩
    have e1:(fieldV nd2 c)=false:=h1
    conv=>whnf
    refine⟨_,_,r5,?_⟩;conv=>whnf
    refine⟨_,_,r2,?_⟩;conv=>whnf
    intro _;rw[l1];conv=>whnf
    refine(hco _ _ _).mono ?_;rintro o T' ⟨rfl,rfl⟩;conv=>whnf
    refine⟨_,_,r5,?_⟩;conv=>whnf
    refine⟨_,_,r2,?_⟩;conv=>whnf
    intro _;rw[l2];conv=>whnf
    refine(hco _ _ _).mono ?_;rintro o T' ⟨rfl,rfl⟩;conv=>whnf
    refine⟨_,_,r5,?_⟩;conv=>whnf
    refine⟨_,_,r2,?_⟩;conv=>whnf
    intro _;rw[l3];conv=>whnf
    refine(hco _ _ _).mono ?_;rintro o T' ⟨rfl,rfl⟩;conv=>whnf
    refine⟨_,_,r2,?_⟩;conv=>whnf
    refine⟨_,_,r5,?_⟩;conv=>whnf
    refine(wide_ok nd2 _ c hz.r _).mono ?_;rintro o T' ⟨rfl,rfl⟩;conv=>whnf
    refine split_of (fun h2=>?_) (fun h2=>?_)
    ·have e2:(c.terms.any (badVarV vars))=true:=h2
     -- hsp,e1,e2 what is known
     conv=>whnf
     refine hQ _ _ _ (by simp) ?_
     clear hK hQ K;conv=>whnf
     exact⟨_,_,⟨congrArg (fun z=>Out.ret (AV.int .i64 z)) (show _=res from Eq.symm (by rw[hsp,e1,e2];rfl)),rfl⟩,hlf,AV.leS_refl _ _ _⟩
    have e2:(c.terms.any (badVarV vars))=false:=h2
    conv=>whnf
    refine⟨_,_,r5,?_⟩;conv=>whnf
    refine⟨_,_,r2,?_⟩;conv=>whnf
    refine(con1_ok _ r3).mono ?_;rintro o T' ⟨rfl,rfl⟩;conv=>whnf
    refine split_of (fun h3=>?_) (fun h3=>?_)
    ·have e3:(noV vars c.x)=true:=h3
     -- hsp,e1,e2,e3 what is known
     conv=>whnf
     refine hQ _ _ _ (by simp) ?_
     clear hK hQ K;conv=>whnf
     exact⟨_,_,⟨congrArg (fun z=>Out.ret (AV.int .i64 z)) (show _=res from Eq.symm (by rw[hsp,e1,e2,e3];rfl)),rfl⟩,hlf,AV.leS_refl _ _ _⟩
    have e3:(noV vars c.x)=false:=h3
    conv=>whnf
    refine⟨_,_,r5,?_⟩;conv=>whnf
    refine⟨_,_,r2,?_⟩;conv=>whnf
    refine(con1_ok _ r3).mono ?_;rintro o T' ⟨rfl,rfl⟩;conv=>whnf
    refine split_of (fun h4=>?_) (fun h4=>?_)
    ·have e4:(noV vars c.y)=true:=h4
     -- hsp,e1,e2,e3,e4 what is known
     conv=>whnf
     refine hQ _ _ _ (by simp) ?_
     clear hK hQ K;conv=>whnf
     exact⟨_,_,⟨congrArg (fun z=>Out.ret (AV.int .i64 z)) (show _=res from Eq.symm (by rw[hsp,e1,e2,e3,e4];rfl)),rfl⟩,hlf,AV.leS_refl _ _ _⟩
    have e4:(noV vars c.y)=false:=h4
    conv=>whnf
    refine⟨_,_,r2,?_⟩;conv=>whnf
    refine(ContainsI_ok (G:=G) (xs:=c.xs) hz.x (p:=noV vars) fun x _=>con1_ok x r3).mono ?_
    rintro o T' ⟨rfl,rfl⟩;conv=>whnf
    refine split_of (fun h5=>?_) (fun h5=>?_)
    ·have e5:(c.xs.any (noV vars))=true:=h5
     -- hsp,e1,e2,e3,e4,e5 what is known
     conv=>whnf
     refine hQ _ _ _ (by simp) ?_
     clear hK hQ K;conv=>whnf
     exact⟨_,_,⟨congrArg (fun z=>Out.ret (AV.int .i64 z)) (show _=res from Eq.symm (by rw[hsp,e1,e2,e3,e4,e5];rfl)),rfl⟩,hlf,AV.leS_refl _ _ _⟩
    have e5:(c.xs.any (noV vars))=false:=h5
    conv=>whnf
    refine split_of (fun h6=>?_) (fun h6=>?_)
    ·have e6:(c.terms.any badCoefV)=true:=h6
     -- hsp,e1,e2,e3,e4,e5,e6 what is known
     conv=>whnf
     refine hQ _ _ _ (by simp) ?_
     clear hK hQ K;conv=>whnf
     exact⟨_,_,⟨congrArg (fun z=>Out.ret (AV.int .i64 z)) (show _=res from Eq.symm (by rw[hsp,e1,e2,e3,e4,e5,e6];rfl)),rfl⟩,hlf,AV.leS_refl _ _ _⟩
    have e6:(c.terms.any badCoefV)=false:=h6
    conv=>whnf
    refine⟨_,_,r2,?_⟩;conv=>whnf
    refine(hwi _ _).mono ?_;rintro o T' ⟨rfl,rfl⟩;conv=>whnf
    refine split_of (fun h7=>?_) (fun h7=>?_)
    ·have e7:(!withinV c.k 1000000000)=true:=h7
     -- hsp,e1,e2,e3,e4,e5,e6,e7 what is known
     conv=>whnf
     refine hQ _ _ _ (by simp) ?_
     clear hK hQ K;conv=>whnf
     exact⟨_,_,⟨congrArg (fun z=>Out.ret (AV.int .i64 z)) (show _=res from Eq.symm (by rw[hsp,e1,e2,e3,e4,e5,e6,e7];rfl)),rfl⟩,hlf,AV.leS_refl _ _ _⟩
    have e7:(!withinV c.k 1000000000)=false:=h7
    conv=>whnf
    refine⟨_,_,r2,?_⟩;conv=>whnf
    refine(hwi _ _).mono ?_;rintro o T' ⟨rfl,rfl⟩;conv=>whnf
    refine split_of (fun h8=>?_) (fun h8=>?_)
    ·have e8:(!withinV c.v 1000000000)=true:=h8
     -- hsp,e1,e2,e3,e4,e5,e6,e7,e8 what is known
     conv=>whnf
     refine hQ _ _ _ (by simp) ?_
     clear hK hQ K;conv=>whnf
     exact⟨_,_,⟨congrArg (fun z=>Out.ret (AV.int .i64 z)) (show _=res from Eq.symm (by rw[hsp,e1,e2,e3,e4,e5,e6,e7,e8];rfl)),rfl⟩,hlf,AV.leS_refl _ _ _⟩
    have e8:(!withinV c.v 1000000000)=false:=h8
    conv=>whnf
    refine⟨_,_,r2,?_⟩;conv=>whnf
    refine(hgt _).mono ?_;rintro o T' ⟨rfl,rfl⟩;conv=>whnf
    refine split_of (fun h9=>?_) (fun h9=>?_)
    ·have e9:(greatV c.table)=true:=h9
     -- hsp,e1,e2,e3,e4,e5,e6,e7,e8,e9 what is known
     conv=>whnf
     refine hQ _ _ _ (by simp) ?_
     clear hK hQ K;conv=>whnf
     exact⟨_,_,⟨congrArg (fun z=>Out.ret (AV.int .i64 z)) (show _=res from Eq.symm (by rw[hsp,e1,e2,e3,e4,e5,e6,e7,e8,e9];rfl)),rfl⟩,hlf,AV.leS_refl _ _ _⟩
    have e9:(greatV c.table)=false:=h9
    conv=>whnf
    refine⟨_,_,r2,?_⟩;conv=>whnf
    refine(ContainsL_ok (G:=G) (xs:=c.rows) hz.r (p:=greatV) fun x hx=>great_ok x (hz.e x hx) _).mono ?_
    rintro o T' ⟨rfl,rfl⟩;conv=>whnf
    refine split_of (fun h10=>?_) (fun h10=>?_)
    ·have e10:(c.rows.any greatV)=true:=h10
     -- hsp,e1,e2,e3,e4,e5,e6,e7,e8,e9,e10 what is known
     conv=>whnf
     refine hQ _ _ _ (by simp) ?_
     clear hK hQ K;conv=>whnf
     exact⟨_,_,⟨congrArg (fun z=>Out.ret (AV.int .i64 z)) (show _=res from Eq.symm (by rw[hsp,e1,e2,e3,e4,e5,e6,e7,e8,e9,e10];rfl)),rfl⟩,hlf,AV.leS_refl _ _ _⟩
    have e10:(c.rows.any greatV)=false:=h10
    conv=>whnf
    refine hK _ _ ?_;clear hK hQ K;conv=>whnf
    exact⟨_,_,⟨congrArg (fun z=>Out.ret (AV.int .i64 z)) (show _=res from Eq.symm (by rw[hsp,e1,e2,e3,e4,e5,e6,e7,e8,e9,e10];rfl)),rfl⟩,hlf,AV.leS_refl _ _ _⟩
   ·have hk:c.kind=3:=hk
    have hsp:conV c vars=conOf nd3 c vars:=by unfold conV;rw[hk];rfl
    generalize conV c vars=res at *;unfold conOf at hsp;have r5:S' b5=some (.obj 111 (needAV nd3 74)):=r5;refine awp_seq2 fun K hK hQ=>?_
    conv=>whnf
    refine⟨_,_,r5,?_⟩;conv=>whnf
    refine hK _ _ ?_;clear hK hQ K;refine awp_seq2 fun K hK hQ=>?_
    conv=>whnf
    refine⟨_,_,r2,?_⟩;conv=>whnf
    refine⟨_,_,r3,?_⟩;conv=>whnf
    refine(hte _).mono ?_;rintro o T' ⟨rfl,rfl⟩;conv=>whnf
    refine hK _ _ ?_;clear hK hQ K;refine awp_seq2 fun K hK hQ=>?_
    conv=>whnf
    refine hK _ _ ?_;clear hK hQ K;refine awp_seq2 fun K hK hQ=>?_
    conv=>whnf
    refine⟨_,_,r2,?_⟩;conv=>whnf
    refine⟨_,_,r5,?_⟩;conv=>whnf
    refine(field3_ok _ _).mono ?_;rintro o T' ⟨rfl,rfl⟩;conv=>whnf
    refine split_of (fun h1=>?_) (fun h1=>?_)
    ·have e1:(fieldV nd3 c)=true:=h1
     -- hsp,e1 what is known
     conv=>whnf
     refine hQ _ _ _ (by simp) ?_
     clear hK hQ K;conv=>whnf
     exact⟨_,_,⟨congrArg (fun z=>Out.ret (AV.int .i64 z)) (show _=res from Eq.symm (by rw[hsp,e1];rfl)),rfl⟩,hlf,AV.leS_refl _ _ _⟩
    have e1:(fieldV nd3 c)=false:=h1
    conv=>whnf
    refine⟨_,_,r5,?_⟩;conv=>whnf
    refine⟨_,_,r2,?_⟩;conv=>whnf
    intro _;rw[l1];conv=>whnf
    refine(hco _ _ _).mono ?_;rintro o T' ⟨rfl,rfl⟩;conv=>whnf
    refine⟨_,_,r5,?_⟩;conv=>whnf
    refine⟨_,_,r2,?_⟩;conv=>whnf
    intro _;rw[l2];conv=>whnf
    refine(hco _ _ _).mono ?_;rintro o T' ⟨rfl,rfl⟩;conv=>whnf
    refine split_of (fun h2=>?_) (fun h2=>?_)
    ·have e2:(!countsV nd3.xs (c.xs.length:Int))=true:=h2
     -- hsp,e1,e2 what is known
     conv=>whnf
     refine hQ _ _ _ (by simp) ?_
     clear hK hQ K;conv=>whnf
     exact⟨_,_,⟨congrArg (fun z=>Out.ret (AV.int .i64 z)) (show _=res from Eq.symm (by rw[hsp,e1,e2];rfl)),rfl⟩,hlf,AV.leS_refl _ _ _⟩
    have e2:(!countsV nd3.xs (c.xs.length:Int))=false:=h2
    conv=>whnf
    refine⟨_,_,r5,?_⟩;conv=>whnf
    refine⟨_,_,r2,?_⟩;conv=>whnf
    intro _;rw[l3];conv=>whnf
    refine(hco _ _ _).mono ?_;rintro o T' ⟨rfl,rfl⟩;conv=>whnf
    refine⟨_,_,r2,?_⟩;conv=>whnf
    refine⟨_,_,r5,?_⟩;conv=>whnf
    refine(wide_ok nd3 _ c hz.r _).mono ?_;rintro o T' ⟨rfl,rfl⟩;conv=>whnf
    refine split_of (fun h3=>?_) (fun h3=>?_)
    ·have e3:(c.terms.any (badVarV vars))=true:=h3
     -- hsp,e1,e2,e3 what is known
     conv=>whnf
     refine hQ _ _ _ (by simp) ?_
     clear hK hQ K;conv=>whnf
     exact⟨_,_,⟨congrArg (fun z=>Out.ret (AV.int .i64 z)) (show _=res from Eq.symm (by rw[hsp,e1,e2,e3];rfl)),rfl⟩,hlf,AV.leS_refl _ _ _⟩
    have e3:(c.terms.any (badVarV vars))=false:=h3
    conv=>whnf
    refine⟨_,_,r5,?_⟩;conv=>whnf
    refine⟨_,_,r5,?_⟩;conv=>whnf
    refine⟨_,_,r2,?_⟩;conv=>whnf
    refine(ContainsI_ok (G:=G) (xs:=c.xs) hz.x (p:=noV vars) fun x _=>con1_ok x r3).mono ?_
    rintro o T' ⟨rfl,rfl⟩;conv=>whnf
    refine split_of (fun h4=>?_) (fun h4=>?_)
    ·have e4:(c.xs.any (noV vars))=true:=h4
     -- hsp,e1,e2,e3,e4 what is known
     conv=>whnf
     refine hQ _ _ _ (by simp) ?_
     clear hK hQ K;conv=>whnf
     exact⟨_,_,⟨congrArg (fun z=>Out.ret (AV.int .i64 z)) (show _=res from Eq.symm (by rw[hsp,e1,e2,e3,e4];rfl)),rfl⟩,hlf,AV.leS_refl _ _ _⟩
    have e4:(c.xs.any (noV vars))=false:=h4
    conv=>whnf
    refine split_of (fun h5=>?_) (fun h5=>?_)
    ·have e5:(c.terms.any badCoefV)=true:=h5
     -- hsp,e1,e2,e3,e4,e5 what is known
     conv=>whnf
     refine hQ _ _ _ (by simp) ?_
     clear hK hQ K;conv=>whnf
     exact⟨_,_,⟨congrArg (fun z=>Out.ret (AV.int .i64 z)) (show _=res from Eq.symm (by rw[hsp,e1,e2,e3,e4,e5];rfl)),rfl⟩,hlf,AV.leS_refl _ _ _⟩
    have e5:(c.terms.any badCoefV)=false:=h5
    conv=>whnf
    refine⟨_,_,r2,?_⟩;conv=>whnf
    refine(hwi _ _).mono ?_;rintro o T' ⟨rfl,rfl⟩;conv=>whnf
    refine split_of (fun h6=>?_) (fun h6=>?_)
    ·have e6:(!withinV c.k 1000000000)=true:=h6
     -- hsp,e1,e2,e3,e4,e5,e6 what is known
     conv=>whnf
     refine hQ _ _ _ (by simp) ?_
     clear hK hQ K;conv=>whnf
     exact⟨_,_,⟨congrArg (fun z=>Out.ret (AV.int .i64 z)) (show _=res from Eq.symm (by rw[hsp,e1,e2,e3,e4,e5,e6];rfl)),rfl⟩,hlf,AV.leS_refl _ _ _⟩
    have e6:(!withinV c.k 1000000000)=false:=h6
    conv=>whnf
    refine⟨_,_,r2,?_⟩;conv=>whnf
    refine(hwi _ _).mono ?_;rintro o T' ⟨rfl,rfl⟩;conv=>whnf
    refine split_of (fun h7=>?_) (fun h7=>?_)
    ·have e7:(!withinV c.v 1000000000)=true:=h7
     -- hsp,e1,e2,e3,e4,e5,e6,e7 what is known
     conv=>whnf
     refine hQ _ _ _ (by simp) ?_
     clear hK hQ K;conv=>whnf
     exact⟨_,_,⟨congrArg (fun z=>Out.ret (AV.int .i64 z)) (show _=res from Eq.symm (by rw[hsp,e1,e2,e3,e4,e5,e6,e7];rfl)),rfl⟩,hlf,AV.leS_refl _ _ _⟩
    have e7:(!withinV c.v 1000000000)=false:=h7
    conv=>whnf
    refine⟨_,_,r2,?_⟩;conv=>whnf
    refine(hgt _).mono ?_;rintro o T' ⟨rfl,rfl⟩;conv=>whnf
    refine split_of (fun h8=>?_) (fun h8=>?_)
    ·have e8:(greatV c.table)=true:=h8
     -- hsp,e1,e2,e3,e4,e5,e6,e7,e8 what is known
     conv=>whnf
     refine hQ _ _ _ (by simp) ?_
     clear hK hQ K;conv=>whnf
     exact⟨_,_,⟨congrArg (fun z=>Out.ret (AV.int .i64 z)) (show _=res from Eq.symm (by rw[hsp,e1,e2,e3,e4,e5,e6,e7,e8];rfl)),rfl⟩,hlf,AV.leS_refl _ _ _⟩
    have e8:(greatV c.table)=false:=h8
    conv=>whnf
    refine⟨_,_,r2,?_⟩;conv=>whnf
    refine(ContainsL_ok (G:=G) (xs:=c.rows) hz.r (p:=greatV) fun x hx=>great_ok x (hz.e x hx) _).mono ?_
    rintro o T' ⟨rfl,rfl⟩;conv=>whnf
    refine split_of (fun h9=>?_) (fun h9=>?_)
    ·have e9:(c.rows.any greatV)=true:=h9
     -- hsp,e1,e2,e3,e4,e5,e6,e7,e8,e9 what is known
     conv=>whnf
     refine hQ _ _ _ (by simp) ?_
     clear hK hQ K;conv=>whnf
     exact⟨_,_,⟨congrArg (fun z=>Out.ret (AV.int .i64 z)) (show _=res from Eq.symm (by rw[hsp,e1,e2,e3,e4,e5,e6,e7,e8,e9];rfl)),rfl⟩,hlf,AV.leS_refl _ _ _⟩
    have e9:(c.rows.any greatV)=false:=h9
    conv=>whnf
    refine hK _ _ ?_;clear hK hQ K;conv=>whnf
    exact⟨_,_,⟨congrArg (fun z=>Out.ret (AV.int .i64 z)) (show _=res from Eq.symm (by rw[hsp,e1,e2,e3,e4,e5,e6,e7,e8,e9];rfl)),rfl⟩,hlf,AV.leS_refl _ _ _⟩
   ·have hk:c.kind=4:=hk
    have hsp:conV c vars=conOf nd4 c vars:=by unfold conV;rw[hk];rfl
    generalize conV c vars=res at *;unfold conOf at hsp;have r5:S' b5=some (.obj 111 (needAV nd4 75)):=r5;refine awp_seq2 fun K hK hQ=>?_
    conv=>whnf
    refine⟨_,_,r5,?_⟩;conv=>whnf
    refine hK _ _ ?_;clear hK hQ K;refine awp_seq2 fun K hK hQ=>?_
    conv=>whnf
    refine⟨_,_,r2,?_⟩;conv=>whnf
    refine⟨_,_,r3,?_⟩;conv=>whnf
    refine(hte _).mono ?_;rintro o T' ⟨rfl,rfl⟩;conv=>whnf
    refine hK _ _ ?_;clear hK hQ K;refine awp_seq2 fun K hK hQ=>?_
    conv=>whnf
    refine hK _ _ ?_;clear hK hQ K;refine awp_seq2 fun K hK hQ=>?_
    conv=>whnf
    refine⟨_,_,r2,?_⟩;conv=>whnf
    refine⟨_,_,r5,?_⟩;conv=>whnf
    refine(field4_ok _ _).mono ?_;rintro o T' ⟨rfl,rfl⟩;conv=>whnf
    refine split_of (fun h1=>?_) (fun h1=>?_)
    ·have e1:(fieldV nd4 c)=true:=h1
     -- hsp,e1 what is known
     conv=>whnf
     refine hQ _ _ _ (by simp) ?_
     clear hK hQ K;conv=>whnf
     exact⟨_,_,⟨congrArg (fun z=>Out.ret (AV.int .i64 z)) (show _=res from Eq.symm (by rw[hsp,e1];rfl)),rfl⟩,hlf,AV.leS_refl _ _ _⟩
    have e1:(fieldV nd4 c)=false:=h1
    conv=>whnf
    refine⟨_,_,r5,?_⟩;conv=>whnf
    refine⟨_,_,r2,?_⟩;conv=>whnf
    intro _;rw[l1];conv=>whnf
    refine(hco _ _ _).mono ?_;rintro o T' ⟨rfl,rfl⟩;conv=>whnf
    refine⟨_,_,r5,?_⟩;conv=>whnf
    refine⟨_,_,r2,?_⟩;conv=>whnf
    intro _;rw[l2];conv=>whnf
    refine(hco _ _ _).mono ?_;rintro o T' ⟨rfl,rfl⟩;conv=>whnf
    refine⟨_,_,r5,?_⟩;conv=>whnf
    refine⟨_,_,r2,?_⟩;conv=>whnf
    intro _;rw[l3];conv=>whnf
    refine(hco _ _ _).mono ?_;rintro o T' ⟨rfl,rfl⟩;conv=>whnf
    refine split_of (fun h2=>?_) (fun h2=>?_)
    ·have e2:(!countsV nd4.table (c.table.length:Int))=true:=h2
     -- hsp,e1,e2 what is known
     conv=>whnf
     refine hQ _ _ _ (by simp) ?_
     clear hK hQ K;conv=>whnf
     exact⟨_,_,⟨congrArg (fun z=>Out.ret (AV.int .i64 z)) (show _=res from Eq.symm (by rw[hsp,e1,e2];rfl)),rfl⟩,hlf,AV.leS_refl _ _ _⟩
    have e2:(!countsV nd4.table (c.table.length:Int))=false:=h2
    conv=>whnf
    refine⟨_,_,r2,?_⟩;conv=>whnf
    refine⟨_,_,r5,?_⟩;conv=>whnf
    refine(wide_ok nd4 _ c hz.r _).mono ?_;rintro o T' ⟨rfl,rfl⟩;conv=>whnf
    refine split_of (fun h3=>?_) (fun h3=>?_)
    ·have e3:(c.terms.any (badVarV vars))=true:=h3
     -- hsp,e1,e2,e3 what is known
     conv=>whnf
     refine hQ _ _ _ (by simp) ?_
     clear hK hQ K;conv=>whnf
     exact⟨_,_,⟨congrArg (fun z=>Out.ret (AV.int .i64 z)) (show _=res from Eq.symm (by rw[hsp,e1,e2,e3];rfl)),rfl⟩,hlf,AV.leS_refl _ _ _⟩
    have e3:(c.terms.any (badVarV vars))=false:=h3
    conv=>whnf
    refine⟨_,_,r5,?_⟩;conv=>whnf
    refine⟨_,_,r2,?_⟩;conv=>whnf
    refine(con1_ok _ r3).mono ?_;rintro o T' ⟨rfl,rfl⟩;conv=>whnf
    refine split_of (fun h4=>?_) (fun h4=>?_)
    ·have e4:(noV vars c.x)=true:=h4
     -- hsp,e1,e2,e3,e4 what is known
     conv=>whnf
     refine hQ _ _ _ (by simp) ?_
     clear hK hQ K;conv=>whnf
     exact⟨_,_,⟨congrArg (fun z=>Out.ret (AV.int .i64 z)) (show _=res from Eq.symm (by rw[hsp,e1,e2,e3,e4];rfl)),rfl⟩,hlf,AV.leS_refl _ _ _⟩
    have e4:(noV vars c.x)=false:=h4
    conv=>whnf
    refine⟨_,_,r5,?_⟩;conv=>whnf
    refine⟨_,_,r2,?_⟩;conv=>whnf
    refine(con1_ok _ r3).mono ?_;rintro o T' ⟨rfl,rfl⟩;conv=>whnf
    refine split_of (fun h5=>?_) (fun h5=>?_)
    ·have e5:(noV vars c.y)=true:=h5
     -- hsp,e1,e2,e3,e4,e5 what is known
     conv=>whnf
     refine hQ _ _ _ (by simp) ?_
     clear hK hQ K;conv=>whnf
     exact⟨_,_,⟨congrArg (fun z=>Out.ret (AV.int .i64 z)) (show _=res from Eq.symm (by rw[hsp,e1,e2,e3,e4,e5];rfl)),rfl⟩,hlf,AV.leS_refl _ _ _⟩
    have e5:(noV vars c.y)=false:=h5
    conv=>whnf
    refine⟨_,_,r2,?_⟩;conv=>whnf
    refine(ContainsI_ok (G:=G) (xs:=c.xs) hz.x (p:=noV vars) fun x _=>con1_ok x r3).mono ?_
    rintro o T' ⟨rfl,rfl⟩;conv=>whnf
    refine split_of (fun h6=>?_) (fun h6=>?_)
    ·have e6:(c.xs.any (noV vars))=true:=h6
     -- hsp,e1,e2,e3,e4,e5,e6 what is known
     conv=>whnf
     refine hQ _ _ _ (by simp) ?_
     clear hK hQ K;conv=>whnf
     exact⟨_,_,⟨congrArg (fun z=>Out.ret (AV.int .i64 z)) (show _=res from Eq.symm (by rw[hsp,e1,e2,e3,e4,e5,e6];rfl)),rfl⟩,hlf,AV.leS_refl _ _ _⟩
    have e6:(c.xs.any (noV vars))=false:=h6
    conv=>whnf
    refine split_of (fun h7=>?_) (fun h7=>?_)
    ·have e7:(c.terms.any badCoefV)=true:=h7
     -- hsp,e1,e2,e3,e4,e5,e6,e7 what is known
     conv=>whnf
     refine hQ _ _ _ (by simp) ?_
     clear hK hQ K;conv=>whnf
     exact⟨_,_,⟨congrArg (fun z=>Out.ret (AV.int .i64 z)) (show _=res from Eq.symm (by rw[hsp,e1,e2,e3,e4,e5,e6,e7];rfl)),rfl⟩,hlf,AV.leS_refl _ _ _⟩
    have e7:(c.terms.any badCoefV)=false:=h7
    conv=>whnf
    refine⟨_,_,r2,?_⟩;conv=>whnf
    refine(hwi _ _).mono ?_;rintro o T' ⟨rfl,rfl⟩;conv=>whnf
    refine split_of (fun h8=>?_) (fun h8=>?_)
    ·have e8:(!withinV c.k 1000000000)=true:=h8
     -- hsp,e1,e2,e3,e4,e5,e6,e7,e8 what is known
     conv=>whnf
     refine hQ _ _ _ (by simp) ?_
     clear hK hQ K;conv=>whnf
     exact⟨_,_,⟨congrArg (fun z=>Out.ret (AV.int .i64 z)) (show _=res from Eq.symm (by rw[hsp,e1,e2,e3,e4,e5,e6,e7,e8];rfl)),rfl⟩,hlf,AV.leS_refl _ _ _⟩
    have e8:(!withinV c.k 1000000000)=false:=h8
    conv=>whnf
    refine⟨_,_,r2,?_⟩;conv=>whnf
    refine(hwi _ _).mono ?_;rintro o T' ⟨rfl,rfl⟩;conv=>whnf
    refine split_of (fun h9=>?_) (fun h9=>?_)
    ·have e9:(!withinV c.v 1000000000)=true:=h9
     -- hsp,e1,e2,e3,e4,e5,e6,e7,e8,e9 what is known
     conv=>whnf
     refine hQ _ _ _ (by simp) ?_
     clear hK hQ K;conv=>whnf
     exact⟨_,_,⟨congrArg (fun z=>Out.ret (AV.int .i64 z)) (show _=res from Eq.symm (by rw[hsp,e1,e2,e3,e4,e5,e6,e7,e8,e9];rfl)),rfl⟩,hlf,AV.leS_refl _ _ _⟩
    have e9:(!withinV c.v 1000000000)=false:=h9
    conv=>whnf
    refine⟨_,_,r2,?_⟩;conv=>whnf
    refine(hgt _).mono ?_;rintro o T' ⟨rfl,rfl⟩;conv=>whnf
    refine split_of (fun h10=>?_) (fun h10=>?_)
    ·have e10:(greatV c.table)=true:=h10
     -- hsp,e1,e2,e3,e4,e5,e6,e7,e8,e9,e10 what is known
     conv=>whnf
     refine hQ _ _ _ (by simp) ?_
     clear hK hQ K;conv=>whnf
     exact⟨_,_,⟨congrArg (fun z=>Out.ret (AV.int .i64 z)) (show _=res from Eq.symm (by rw[hsp,e1,e2,e3,e4,e5,e6,e7,e8,e9,e10];rfl)),rfl⟩,hlf,AV.leS_refl _ _ _⟩
    have e10:(greatV c.table)=false:=h10
    conv=>whnf
    refine⟨_,_,r2,?_⟩;conv=>whnf
    refine(ContainsL_ok (G:=G) (xs:=c.rows) hz.r (p:=greatV) fun x hx=>great_ok x (hz.e x hx) _).mono ?_
    rintro o T' ⟨rfl,rfl⟩;conv=>whnf
    refine split_of (fun h11=>?_) (fun h11=>?_)
    ·have e11:(c.rows.any greatV)=true:=h11
     -- hsp,e1,e2,e3,e4,e5,e6,e7,e8,e9,e10,e11 what is known
     conv=>whnf
     refine hQ _ _ _ (by simp) ?_
     clear hK hQ K;conv=>whnf
     exact⟨_,_,⟨congrArg (fun z=>Out.ret (AV.int .i64 z)) (show _=res from Eq.symm (by rw[hsp,e1,e2,e3,e4,e5,e6,e7,e8,e9,e10,e11];rfl)),rfl⟩,hlf,AV.leS_refl _ _ _⟩
    have e11:(c.rows.any greatV)=false:=h11
    conv=>whnf
    refine hK _ _ ?_;clear hK hQ K;conv=>whnf
    exact⟨_,_,⟨congrArg (fun z=>Out.ret (AV.int .i64 z)) (show _=res from Eq.symm (by rw[hsp,e1,e2,e3,e4,e5,e6,e7,e8,e9,e10,e11];rfl)),rfl⟩,hlf,AV.leS_refl _ _ _⟩
   ·have hk:c.kind=5:=hk
    have hsp:conV c vars=conOf nd5 c vars:=by unfold conV;rw[hk];rfl
    generalize conV c vars=res at *;unfold conOf at hsp;have r5:S' b5=some (.obj 111 (needAV nd5 76)):=r5;refine awp_seq2 fun K hK hQ=>?_
    conv=>whnf
    refine⟨_,_,r5,?_⟩;conv=>whnf
    refine hK _ _ ?_;clear hK hQ K;refine awp_seq2 fun K hK hQ=>?_
    conv=>whnf
    refine⟨_,_,r2,?_⟩;conv=>whnf
    refine⟨_,_,r3,?_⟩;conv=>whnf
    refine(hte _).mono ?_;rintro o T' ⟨rfl,rfl⟩;conv=>whnf
    refine hK _ _ ?_;clear hK hQ K;refine awp_seq2 fun K hK hQ=>?_
    conv=>whnf
    refine hK _ _ ?_;clear hK hQ K;refine awp_seq2 fun K hK hQ=>?_
    conv=>whnf
    refine⟨_,_,r2,?_⟩;conv=>whnf
    refine⟨_,_,r5,?_⟩;conv=>whnf
    refine(field5_ok _ _).mono ?_;rintro o T' ⟨rfl,rfl⟩;conv=>whnf
    refine split_of (fun h1=>?_) (fun h1=>?_)
    ·have e1:(fieldV nd5 c)=true:=h1
     -- hsp,e1 what is known
     conv=>whnf
     refine hQ _ _ _ (by simp) ?_
     clear hK hQ K;conv=>whnf
     exact⟨_,_,⟨congrArg (fun z=>Out.ret (AV.int .i64 z)) (show _=res from Eq.symm (by rw[hsp,e1];rfl)),rfl⟩,hlf,AV.leS_refl _ _ _⟩
    have e1:(fieldV nd5 c)=false:=h1
    conv=>whnf
    refine⟨_,_,r5,?_⟩;conv=>whnf
    refine⟨_,_,r2,?_⟩;conv=>whnf
    intro _;rw[l1];conv=>whnf
    refine(hco _ _ _).mono ?_;rintro o T' ⟨rfl,rfl⟩;conv=>whnf
    refine⟨_,_,r5,?_⟩;conv=>whnf
    refine⟨_,_,r2,?_⟩;conv=>whnf
    intro _;rw[l2];conv=>whnf
    refine(hco _ _ _).mono ?_;rintro o T' ⟨rfl,rfl⟩;conv=>whnf
    refine split_of (fun h2=>?_) (fun h2=>?_)
    ·have e2:(!countsV nd5.xs (c.xs.length:Int))=true:=h2
     -- hsp,e1,e2 what is known
     conv=>whnf
     refine hQ _ _ _ (by simp) ?_
     clear hK hQ K;conv=>whnf
     exact⟨_,_,⟨congrArg (fun z=>Out.ret (AV.int .i64 z)) (show _=res from Eq.symm (by rw[hsp,e1,e2];rfl)),rfl⟩,hlf,AV.leS_refl _ _ _⟩
    have e2:(!countsV nd5.xs (c.xs.length:Int))=false:=h2
    conv=>whnf
    refine⟨_,_,r5,?_⟩;conv=>whnf
    refine⟨_,_,r2,?_⟩;conv=>whnf
    intro _;rw[l3];conv=>whnf
    refine(hco _ _ _).mono ?_;rintro o T' ⟨rfl,rfl⟩;conv=>whnf
    refine⟨_,_,r2,?_⟩;conv=>whnf
    refine⟨_,_,r5,?_⟩;conv=>whnf
    refine(wide_ok nd5 _ c hz.r _).mono ?_;rintro o T' ⟨rfl,rfl⟩;conv=>whnf
    refine split_of (fun h3=>?_) (fun h3=>?_)
    ·have e3:(c.terms.any (badVarV vars))=true:=h3
     -- hsp,e1,e2,e3 what is known
     conv=>whnf
     refine hQ _ _ _ (by simp) ?_
     clear hK hQ K;conv=>whnf
     exact⟨_,_,⟨congrArg (fun z=>Out.ret (AV.int .i64 z)) (show _=res from Eq.symm (by rw[hsp,e1,e2,e3];rfl)),rfl⟩,hlf,AV.leS_refl _ _ _⟩
    have e3:(c.terms.any (badVarV vars))=false:=h3
    conv=>whnf
    refine⟨_,_,r5,?_⟩;conv=>whnf
    refine⟨_,_,r5,?_⟩;conv=>whnf
    refine⟨_,_,r2,?_⟩;conv=>whnf
    refine(con1_ok _ r3).mono ?_;rintro o T' ⟨rfl,rfl⟩;conv=>whnf
    refine split_of (fun h4=>?_) (fun h4=>?_)
    ·have e4:(noV vars c.y)=true:=h4
     -- hsp,e1,e2,e3,e4 what is known
     conv=>whnf
     refine hQ _ _ _ (by simp) ?_
     clear hK hQ K;conv=>whnf
     exact⟨_,_,⟨congrArg (fun z=>Out.ret (AV.int .i64 z)) (show _=res from Eq.symm (by rw[hsp,e1,e2,e3,e4];rfl)),rfl⟩,hlf,AV.leS_refl _ _ _⟩
    have e4:(noV vars c.y)=false:=h4
    conv=>whnf
    refine⟨_,_,r2,?_⟩;conv=>whnf
    refine(ContainsI_ok (G:=G) (xs:=c.xs) hz.x (p:=noV vars) fun x _=>con1_ok x r3).mono ?_
    rintro o T' ⟨rfl,rfl⟩;conv=>whnf
    refine split_of (fun h5=>?_) (fun h5=>?_)
    ·have e5:(c.xs.any (noV vars))=true:=h5
     -- hsp,e1,e2,e3,e4,e5 what is known
     conv=>whnf
     refine hQ _ _ _ (by simp) ?_
     clear hK hQ K;conv=>whnf
     exact⟨_,_,⟨congrArg (fun z=>Out.ret (AV.int .i64 z)) (show _=res from Eq.symm (by rw[hsp,e1,e2,e3,e4,e5];rfl)),rfl⟩,hlf,AV.leS_refl _ _ _⟩
    have e5:(c.xs.any (noV vars))=false:=h5
    conv=>whnf
    refine split_of (fun h6=>?_) (fun h6=>?_)
    ·have e6:(c.terms.any badCoefV)=true:=h6
     -- hsp,e1,e2,e3,e4,e5,e6 what is known
     conv=>whnf
     refine hQ _ _ _ (by simp) ?_
     clear hK hQ K;conv=>whnf
     exact⟨_,_,⟨congrArg (fun z=>Out.ret (AV.int .i64 z)) (show _=res from Eq.symm (by rw[hsp,e1,e2,e3,e4,e5,e6];rfl)),rfl⟩,hlf,AV.leS_refl _ _ _⟩
    have e6:(c.terms.any badCoefV)=false:=h6
    conv=>whnf
    refine⟨_,_,r2,?_⟩;conv=>whnf
    refine(hwi _ _).mono ?_;rintro o T' ⟨rfl,rfl⟩;conv=>whnf
    refine split_of (fun h7=>?_) (fun h7=>?_)
    ·have e7:(!withinV c.k 1000000000)=true:=h7
     -- hsp,e1,e2,e3,e4,e5,e6,e7 what is known
     conv=>whnf
     refine hQ _ _ _ (by simp) ?_
     clear hK hQ K;conv=>whnf
     exact⟨_,_,⟨congrArg (fun z=>Out.ret (AV.int .i64 z)) (show _=res from Eq.symm (by rw[hsp,e1,e2,e3,e4,e5,e6,e7];rfl)),rfl⟩,hlf,AV.leS_refl _ _ _⟩
    have e7:(!withinV c.k 1000000000)=false:=h7
    conv=>whnf
    refine⟨_,_,r2,?_⟩;conv=>whnf
    refine(hwi _ _).mono ?_;rintro o T' ⟨rfl,rfl⟩;conv=>whnf
    refine split_of (fun h8=>?_) (fun h8=>?_)
    ·have e8:(!withinV c.v 1000000000)=true:=h8
     -- hsp,e1,e2,e3,e4,e5,e6,e7,e8 what is known
     conv=>whnf
     refine hQ _ _ _ (by simp) ?_
     clear hK hQ K;conv=>whnf
     exact⟨_,_,⟨congrArg (fun z=>Out.ret (AV.int .i64 z)) (show _=res from Eq.symm (by rw[hsp,e1,e2,e3,e4,e5,e6,e7,e8];rfl)),rfl⟩,hlf,AV.leS_refl _ _ _⟩
    have e8:(!withinV c.v 1000000000)=false:=h8
    conv=>whnf
    refine⟨_,_,r2,?_⟩;conv=>whnf
    refine(hgt _).mono ?_;rintro o T' ⟨rfl,rfl⟩;conv=>whnf
    refine split_of (fun h9=>?_) (fun h9=>?_)
    ·have e9:(greatV c.table)=true:=h9
     -- hsp,e1,e2,e3,e4,e5,e6,e7,e8,e9 what is known
     conv=>whnf
     refine hQ _ _ _ (by simp) ?_
     clear hK hQ K;conv=>whnf
     exact⟨_,_,⟨congrArg (fun z=>Out.ret (AV.int .i64 z)) (show _=res from Eq.symm (by rw[hsp,e1,e2,e3,e4,e5,e6,e7,e8,e9];rfl)),rfl⟩,hlf,AV.leS_refl _ _ _⟩
    have e9:(greatV c.table)=false:=h9
    conv=>whnf
    refine⟨_,_,r2,?_⟩;conv=>whnf
    refine(ContainsL_ok (G:=G) (xs:=c.rows) hz.r (p:=greatV) fun x hx=>great_ok x (hz.e x hx) _).mono ?_
    rintro o T' ⟨rfl,rfl⟩;conv=>whnf
    refine split_of (fun h10=>?_) (fun h10=>?_)
    ·have e10:(c.rows.any greatV)=true:=h10
     -- hsp,e1,e2,e3,e4,e5,e6,e7,e8,e9,e10 what is known
     conv=>whnf
     refine hQ _ _ _ (by simp) ?_
     clear hK hQ K;conv=>whnf
     exact⟨_,_,⟨congrArg (fun z=>Out.ret (AV.int .i64 z)) (show _=res from Eq.symm (by rw[hsp,e1,e2,e3,e4,e5,e6,e7,e8,e9,e10];rfl)),rfl⟩,hlf,AV.leS_refl _ _ _⟩
    have e10:(c.rows.any greatV)=false:=h10
    conv=>whnf
    refine hK _ _ ?_;clear hK hQ K;conv=>whnf
    exact⟨_,_,⟨congrArg (fun z=>Out.ret (AV.int .i64 z)) (show _=res from Eq.symm (by rw[hsp,e1,e2,e3,e4,e5,e6,e7,e8,e9,e10];rfl)),rfl⟩,hlf,AV.leS_refl _ _ _⟩
   ·have hk:c.kind=6:=hk
    have hsp:conV c vars=conOf nd5 c vars:=by unfold conV;rw[hk];rfl
    generalize conV c vars=res at *;unfold conOf at hsp;have r5:S' b5=some (.obj 111 (needAV nd5 79)):=r5;refine awp_seq2 fun K hK hQ=>?_
    conv=>whnf
    refine⟨_,_,r5,?_⟩;conv=>whnf
    refine hK _ _ ?_;clear hK hQ K;refine awp_seq2 fun K hK hQ=>?_
    conv=>whnf
    refine⟨_,_,r2,?_⟩;conv=>whnf
    refine⟨_,_,r3,?_⟩;conv=>whnf
    refine(hte _).mono ?_;rintro o T' ⟨rfl,rfl⟩;conv=>whnf
    refine hK _ _ ?_;clear hK hQ K;refine awp_seq2 fun K hK hQ=>?_
    conv=>whnf
    refine hK _ _ ?_;clear hK hQ K;refine awp_seq2 fun K hK hQ=>?_
    conv=>whnf
    refine⟨_,_,r2,?_⟩;conv=>whnf
    refine⟨_,_,r5,?_⟩;conv=>whnf
    refine(field6_ok _ _).mono ?_;rintro o T' ⟨rfl,rfl⟩;conv=>whnf
    refine split_of (fun h1=>?_) (fun h1=>?_)
    ·have e1:(fieldV nd5 c)=true:=h1
     -- hsp,e1 what is known
     conv=>whnf
     refine hQ _ _ _ (by simp) ?_
     clear hK hQ K;conv=>whnf
     exact⟨_,_,⟨congrArg (fun z=>Out.ret (AV.int .i64 z)) (show _=res from Eq.symm (by rw[hsp,e1];rfl)),rfl⟩,hlf,AV.leS_refl _ _ _⟩
    have e1:(fieldV nd5 c)=false:=h1
    conv=>whnf
    refine⟨_,_,r5,?_⟩;conv=>whnf
    refine⟨_,_,r2,?_⟩;conv=>whnf
    intro _;rw[l1];conv=>whnf
    refine(hco _ _ _).mono ?_;rintro o T' ⟨rfl,rfl⟩;conv=>whnf
    refine⟨_,_,r5,?_⟩;conv=>whnf
    refine⟨_,_,r2,?_⟩;conv=>whnf
    intro _;rw[l2];conv=>whnf
    refine(hco _ _ _).mono ?_;rintro o T' ⟨rfl,rfl⟩;conv=>whnf
    refine split_of (fun h2=>?_) (fun h2=>?_)
    ·have e2:(!countsV nd5.xs (c.xs.length:Int))=true:=h2
     -- hsp,e1,e2 what is known
     conv=>whnf
     refine hQ _ _ _ (by simp) ?_
     clear hK hQ K;conv=>whnf
     exact⟨_,_,⟨congrArg (fun z=>Out.ret (AV.int .i64 z)) (show _=res from Eq.symm (by rw[hsp,e1,e2];rfl)),rfl⟩,hlf,AV.leS_refl _ _ _⟩
    have e2:(!countsV nd5.xs (c.xs.length:Int))=false:=h2
    conv=>whnf
    refine⟨_,_,r5,?_⟩;conv=>whnf
    refine⟨_,_,r2,?_⟩;conv=>whnf
    intro _;rw[l3];conv=>whnf
    refine(hco _ _ _).mono ?_;rintro o T' ⟨rfl,rfl⟩;conv=>whnf
    refine⟨_,_,r2,?_⟩;conv=>whnf
    refine⟨_,_,r5,?_⟩;conv=>whnf
    refine(wide_ok nd5 _ c hz.r _).mono ?_;rintro o T' ⟨rfl,rfl⟩;conv=>whnf
    refine split_of (fun h3=>?_) (fun h3=>?_)
    ·have e3:(c.terms.any (badVarV vars))=true:=h3
     -- hsp,e1,e2,e3 what is known
     conv=>whnf
     refine hQ _ _ _ (by simp) ?_
     clear hK hQ K;conv=>whnf
     exact⟨_,_,⟨congrArg (fun z=>Out.ret (AV.int .i64 z)) (show _=res from Eq.symm (by rw[hsp,e1,e2,e3];rfl)),rfl⟩,hlf,AV.leS_refl _ _ _⟩
    have e3:(c.terms.any (badVarV vars))=false:=h3
    conv=>whnf
    refine⟨_,_,r5,?_⟩;conv=>whnf
    refine⟨_,_,r5,?_⟩;conv=>whnf
    refine⟨_,_,r2,?_⟩;conv=>whnf
    refine(con1_ok _ r3).mono ?_;rintro o T' ⟨rfl,rfl⟩;conv=>whnf
    refine split_of (fun h4=>?_) (fun h4=>?_)
    ·have e4:(noV vars c.y)=true:=h4
     -- hsp,e1,e2,e3,e4 what is known
     conv=>whnf
     refine hQ _ _ _ (by simp) ?_
     clear hK hQ K;conv=>whnf
     exact⟨_,_,⟨congrArg (fun z=>Out.ret (AV.int .i64 z)) (show _=res from Eq.symm (by rw[hsp,e1,e2,e3,e4];rfl)),rfl⟩,hlf,AV.leS_refl _ _ _⟩
    have e4:(noV vars c.y)=false:=h4
    conv=>whnf
    refine⟨_,_,r2,?_⟩;conv=>whnf
    refine(ContainsI_ok (G:=G) (xs:=c.xs) hz.x (p:=noV vars) fun x _=>con1_ok x r3).mono ?_
    rintro o T' ⟨rfl,rfl⟩;conv=>whnf
    refine split_of (fun h5=>?_) (fun h5=>?_)
    ·have e5:(c.xs.any (noV vars))=true:=h5
     -- hsp,e1,e2,e3,e4,e5 what is known
     conv=>whnf
     refine hQ _ _ _ (by simp) ?_
     clear hK hQ K;conv=>whnf
     exact⟨_,_,⟨congrArg (fun z=>Out.ret (AV.int .i64 z)) (show _=res from Eq.symm (by rw[hsp,e1,e2,e3,e4,e5];rfl)),rfl⟩,hlf,AV.leS_refl _ _ _⟩
    have e5:(c.xs.any (noV vars))=false:=h5
    conv=>whnf
    refine split_of (fun h6=>?_) (fun h6=>?_)
    ·have e6:(c.terms.any badCoefV)=true:=h6
     -- hsp,e1,e2,e3,e4,e5,e6 what is known
     conv=>whnf
     refine hQ _ _ _ (by simp) ?_
     clear hK hQ K;conv=>whnf
     exact⟨_,_,⟨congrArg (fun z=>Out.ret (AV.int .i64 z)) (show _=res from Eq.symm (by rw[hsp,e1,e2,e3,e4,e5,e6];rfl)),rfl⟩,hlf,AV.leS_refl _ _ _⟩
    have e6:(c.terms.any badCoefV)=false:=h6
    conv=>whnf
    refine⟨_,_,r2,?_⟩;conv=>whnf
    refine(hwi _ _).mono ?_;rintro o T' ⟨rfl,rfl⟩;conv=>whnf
    refine split_of (fun h7=>?_) (fun h7=>?_)
    ·have e7:(!withinV c.k 1000000000)=true:=h7
     -- hsp,e1,e2,e3,e4,e5,e6,e7 what is known
     conv=>whnf
     refine hQ _ _ _ (by simp) ?_
     clear hK hQ K;conv=>whnf
     exact⟨_,_,⟨congrArg (fun z=>Out.ret (AV.int .i64 z)) (show _=res from Eq.symm (by rw[hsp,e1,e2,e3,e4,e5,e6,e7];rfl)),rfl⟩,hlf,AV.leS_refl _ _ _⟩
    have e7:(!withinV c.k 1000000000)=false:=h7
    conv=>whnf
    refine⟨_,_,r2,?_⟩;conv=>whnf
    refine(hwi _ _).mono ?_;rintro o T' ⟨rfl,rfl⟩;conv=>whnf
    refine split_of (fun h8=>?_) (fun h8=>?_)
    ·have e8:(!withinV c.v 1000000000)=true:=h8
     -- hsp,e1,e2,e3,e4,e5,e6,e7,e8 what is known
     conv=>whnf
     refine hQ _ _ _ (by simp) ?_
     clear hK hQ K;conv=>whnf
     exact⟨_,_,⟨congrArg (fun z=>Out.ret (AV.int .i64 z)) (show _=res from Eq.symm (by rw[hsp,e1,e2,e3,e4,e5,e6,e7,e8];rfl)),rfl⟩,hlf,AV.leS_refl _ _ _⟩
    have e8:(!withinV c.v 1000000000)=false:=h8
    conv=>whnf
    refine⟨_,_,r2,?_⟩;conv=>whnf
    refine(hgt _).mono ?_;rintro o T' ⟨rfl,rfl⟩;conv=>whnf
    refine split_of (fun h9=>?_) (fun h9=>?_)
    ·have e9:(greatV c.table)=true:=h9
     -- hsp,e1,e2,e3,e4,e5,e6,e7,e8,e9 what is known
     conv=>whnf
     refine hQ _ _ _ (by simp) ?_
     clear hK hQ K;conv=>whnf
     exact⟨_,_,⟨congrArg (fun z=>Out.ret (AV.int .i64 z)) (show _=res from Eq.symm (by rw[hsp,e1,e2,e3,e4,e5,e6,e7,e8,e9];rfl)),rfl⟩,hlf,AV.leS_refl _ _ _⟩
    have e9:(greatV c.table)=false:=h9
    conv=>whnf
    refine⟨_,_,r2,?_⟩;conv=>whnf
    refine(ContainsL_ok (G:=G) (xs:=c.rows) hz.r (p:=greatV) fun x hx=>great_ok x (hz.e x hx) _).mono ?_
    rintro o T' ⟨rfl,rfl⟩;conv=>whnf
    refine split_of (fun h10=>?_) (fun h10=>?_)
    ·have e10:(c.rows.any greatV)=true:=h10
     -- hsp,e1,e2,e3,e4,e5,e6,e7,e8,e9,e10 what is known
     conv=>whnf
     refine hQ _ _ _ (by simp) ?_
     clear hK hQ K;conv=>whnf
     exact⟨_,_,⟨congrArg (fun z=>Out.ret (AV.int .i64 z)) (show _=res from Eq.symm (by rw[hsp,e1,e2,e3,e4,e5,e6,e7,e8,e9,e10];rfl)),rfl⟩,hlf,AV.leS_refl _ _ _⟩
    have e10:(c.rows.any greatV)=false:=h10
    conv=>whnf
    refine hK _ _ ?_;clear hK hQ K;conv=>whnf
    exact⟨_,_,⟨congrArg (fun z=>Out.ret (AV.int .i64 z)) (show _=res from Eq.symm (by rw[hsp,e1,e2,e3,e4,e5,e6,e7,e8,e9,e10];rfl)),rfl⟩,hlf,AV.leS_refl _ _ _⟩
   ·have hk:c.kind=7:=hk
    have hsp:conV c vars=conOf nd7 c vars:=by unfold conV;rw[hk];rfl
    generalize conV c vars=res at *;unfold conOf at hsp;have r5:S' b5=some (.obj 111 (needAV nd7 81)):=r5;refine awp_seq2 fun K hK hQ=>?_
    conv=>whnf
    refine⟨_,_,r5,?_⟩;conv=>whnf
    refine hK _ _ ?_;clear hK hQ K;refine awp_seq2 fun K hK hQ=>?_
    conv=>whnf
    refine⟨_,_,r2,?_⟩;conv=>whnf
    refine⟨_,_,r3,?_⟩;conv=>whnf
    refine(hte _).mono ?_;rintro o T' ⟨rfl,rfl⟩;conv=>whnf
    refine hK _ _ ?_;clear hK hQ K;refine awp_seq2 fun K hK hQ=>?_
    conv=>whnf
    refine hK _ _ ?_;clear hK hQ K;refine awp_seq2 fun K hK hQ=>?_
    conv=>whnf
    refine⟨_,_,r2,?_⟩;conv=>whnf
    refine⟨_,_,r5,?_⟩;conv=>whnf
    refine(field7_ok _ _).mono ?_;rintro o T' ⟨rfl,rfl⟩;conv=>whnf
    refine split_of (fun h1=>?_) (fun h1=>?_)
    ·have e1:(fieldV nd7 c)=true:=h1
     -- hsp,e1 what is known
     conv=>whnf
     refine hQ _ _ _ (by simp) ?_
     clear hK hQ K;conv=>whnf
     exact⟨_,_,⟨congrArg (fun z=>Out.ret (AV.int .i64 z)) (show _=res from Eq.symm (by rw[hsp,e1];rfl)),rfl⟩,hlf,AV.leS_refl _ _ _⟩
    have e1:(fieldV nd7 c)=false:=h1
    conv=>whnf
    refine⟨_,_,r5,?_⟩;conv=>whnf
    refine⟨_,_,r2,?_⟩;conv=>whnf
    intro _;rw[l1];conv=>whnf
    refine(hco _ _ _).mono ?_;rintro o T' ⟨rfl,rfl⟩;conv=>whnf
    refine split_of (fun h2=>?_) (fun h2=>?_)
    ·have e2:(!countsV nd7.terms (c.terms.length:Int))=true:=h2
     -- hsp,e1,e2 what is known
     conv=>whnf
     refine hQ _ _ _ (by simp) ?_
     clear hK hQ K;conv=>whnf
     exact⟨_,_,⟨congrArg (fun z=>Out.ret (AV.int .i64 z)) (show _=res from Eq.symm (by rw[hsp,e1,e2];rfl)),rfl⟩,hlf,AV.leS_refl _ _ _⟩
    have e2:(!countsV nd7.terms (c.terms.length:Int))=false:=h2
    conv=>whnf
    refine⟨_,_,r5,?_⟩;conv=>whnf
    refine⟨_,_,r2,?_⟩;conv=>whnf
    intro _;rw[l2];conv=>whnf
    refine(hco _ _ _).mono ?_;rintro o T' ⟨rfl,rfl⟩;conv=>whnf
    refine⟨_,_,r5,?_⟩;conv=>whnf
    refine⟨_,_,r2,?_⟩;conv=>whnf
    intro _;rw[l3];conv=>whnf
    refine(hco _ _ _).mono ?_;rintro o T' ⟨rfl,rfl⟩;conv=>whnf
    refine⟨_,_,r2,?_⟩;conv=>whnf
    refine⟨_,_,r5,?_⟩;conv=>whnf
    refine(wide_ok nd7 _ c hz.r _).mono ?_;rintro o T' ⟨rfl,rfl⟩;conv=>whnf
    refine split_of (fun h3=>?_) (fun h3=>?_)
    ·have e3:(c.terms.any (badVarV vars))=true:=h3
     -- hsp,e1,e2,e3 what is known
     conv=>whnf
     refine hQ _ _ _ (by simp) ?_
     clear hK hQ K;conv=>whnf
     exact⟨_,_,⟨congrArg (fun z=>Out.ret (AV.int .i64 z)) (show _=res from Eq.symm (by rw[hsp,e1,e2,e3];rfl)),rfl⟩,hlf,AV.leS_refl _ _ _⟩
    have e3:(c.terms.any (badVarV vars))=false:=h3
    conv=>whnf
    refine⟨_,_,r5,?_⟩;conv=>whnf
    refine⟨_,_,r2,?_⟩;conv=>whnf
    refine(con1_ok _ r3).mono ?_;rintro o T' ⟨rfl,rfl⟩;conv=>whnf
    refine split_of (fun h4=>?_) (fun h4=>?_)
    ·have e4:(noV vars c.x)=true:=h4
     -- hsp,e1,e2,e3,e4 what is known
     conv=>whnf
     refine hQ _ _ _ (by simp) ?_
     clear hK hQ K;conv=>whnf
     exact⟨_,_,⟨congrArg (fun z=>Out.ret (AV.int .i64 z)) (show _=res from Eq.symm (by rw[hsp,e1,e2,e3,e4];rfl)),rfl⟩,hlf,AV.leS_refl _ _ _⟩
    have e4:(noV vars c.x)=false:=h4
    conv=>whnf
    refine⟨_,_,r5,?_⟩;conv=>whnf
    refine⟨_,_,r2,?_⟩;conv=>whnf
    refine(ContainsI_ok (G:=G) (xs:=c.xs) hz.x (p:=noV vars) fun x _=>con1_ok x r3).mono ?_
    rintro o T' ⟨rfl,rfl⟩;conv=>whnf
    refine split_of (fun h5=>?_) (fun h5=>?_)
    ·have e5:(c.xs.any (noV vars))=true:=h5
     -- hsp,e1,e2,e3,e4,e5 what is known
     conv=>whnf
     refine hQ _ _ _ (by simp) ?_
     clear hK hQ K;conv=>whnf
     exact⟨_,_,⟨congrArg (fun z=>Out.ret (AV.int .i64 z)) (show _=res from Eq.symm (by rw[hsp,e1,e2,e3,e4,e5];rfl)),rfl⟩,hlf,AV.leS_refl _ _ _⟩
    have e5:(c.xs.any (noV vars))=false:=h5
    conv=>whnf
    refine split_of (fun h6=>?_) (fun h6=>?_)
    ·have e6:(c.terms.any badCoefV)=true:=h6
     -- hsp,e1,e2,e3,e4,e5,e6 what is known
     conv=>whnf
     refine hQ _ _ _ (by simp) ?_
     clear hK hQ K;conv=>whnf
     exact⟨_,_,⟨congrArg (fun z=>Out.ret (AV.int .i64 z)) (show _=res from Eq.symm (by rw[hsp,e1,e2,e3,e4,e5,e6];rfl)),rfl⟩,hlf,AV.leS_refl _ _ _⟩
    have e6:(c.terms.any badCoefV)=false:=h6
    conv=>whnf
    refine⟨_,_,r2,?_⟩;conv=>whnf
    refine(hwi _ _).mono ?_;rintro o T' ⟨rfl,rfl⟩;conv=>whnf
    refine split_of (fun h7=>?_) (fun h7=>?_)
    ·have e7:(!withinV c.k 1000000000)=true:=h7
     -- hsp,e1,e2,e3,e4,e5,e6,e7 what is known
     conv=>whnf
     refine hQ _ _ _ (by simp) ?_
     clear hK hQ K;conv=>whnf
     exact⟨_,_,⟨congrArg (fun z=>Out.ret (AV.int .i64 z)) (show _=res from Eq.symm (by rw[hsp,e1,e2,e3,e4,e5,e6,e7];rfl)),rfl⟩,hlf,AV.leS_refl _ _ _⟩
    have e7:(!withinV c.k 1000000000)=false:=h7
    conv=>whnf
    refine⟨_,_,r2,?_⟩;conv=>whnf
    refine(hwi _ _).mono ?_;rintro o T' ⟨rfl,rfl⟩;conv=>whnf
    refine split_of (fun h8=>?_) (fun h8=>?_)
    ·have e8:(!withinV c.v 1000000000)=true:=h8
     -- hsp,e1,e2,e3,e4,e5,e6,e7,e8 what is known
     conv=>whnf
     refine hQ _ _ _ (by simp) ?_
     clear hK hQ K;conv=>whnf
     exact⟨_,_,⟨congrArg (fun z=>Out.ret (AV.int .i64 z)) (show _=res from Eq.symm (by rw[hsp,e1,e2,e3,e4,e5,e6,e7,e8];rfl)),rfl⟩,hlf,AV.leS_refl _ _ _⟩
    have e8:(!withinV c.v 1000000000)=false:=h8
    conv=>whnf
    refine⟨_,_,r2,?_⟩;conv=>whnf
    refine(hgt _).mono ?_;rintro o T' ⟨rfl,rfl⟩;conv=>whnf
    refine split_of (fun h9=>?_) (fun h9=>?_)
    ·have e9:(greatV c.table)=true:=h9
     -- hsp,e1,e2,e3,e4,e5,e6,e7,e8,e9 what is known
     conv=>whnf
     refine hQ _ _ _ (by simp) ?_
     clear hK hQ K;conv=>whnf
     exact⟨_,_,⟨congrArg (fun z=>Out.ret (AV.int .i64 z)) (show _=res from Eq.symm (by rw[hsp,e1,e2,e3,e4,e5,e6,e7,e8,e9];rfl)),rfl⟩,hlf,AV.leS_refl _ _ _⟩
    have e9:(greatV c.table)=false:=h9
    conv=>whnf
    refine⟨_,_,r2,?_⟩;conv=>whnf
    refine(ContainsL_ok (G:=G) (xs:=c.rows) hz.r (p:=greatV) fun x hx=>great_ok x (hz.e x hx) _).mono ?_
    rintro o T' ⟨rfl,rfl⟩;conv=>whnf
    refine split_of (fun h10=>?_) (fun h10=>?_)
    ·have e10:(c.rows.any greatV)=true:=h10
     -- hsp,e1,e2,e3,e4,e5,e6,e7,e8,e9,e10 what is known
     conv=>whnf
     refine hQ _ _ _ (by simp) ?_
     clear hK hQ K;conv=>whnf
     exact⟨_,_,⟨congrArg (fun z=>Out.ret (AV.int .i64 z)) (show _=res from Eq.symm (by rw[hsp,e1,e2,e3,e4,e5,e6,e7,e8,e9,e10];rfl)),rfl⟩,hlf,AV.leS_refl _ _ _⟩
    have e10:(c.rows.any greatV)=false:=h10
    conv=>whnf
    refine hK _ _ ?_;clear hK hQ K;conv=>whnf
    exact⟨_,_,⟨congrArg (fun z=>Out.ret (AV.int .i64 z)) (show _=res from Eq.symm (by rw[hsp,e1,e2,e3,e4,e5,e6,e7,e8,e9,e10];rfl)),rfl⟩,hlf,AV.leS_refl _ _ _⟩
   ·have hk:c.kind=8:=hk
    have hsp:conV c vars=conOf nd8 c vars:=by unfold conV;rw[hk];rfl
    generalize conV c vars=res at *;unfold conOf at hsp;have r5:S' b5=some (.obj 111 (needAV nd8 82)):=r5;refine awp_seq2 fun K hK hQ=>?_
    conv=>whnf
    refine⟨_,_,r5,?_⟩;conv=>whnf
    refine hK _ _ ?_;clear hK hQ K;refine awp_seq2 fun K hK hQ=>?_
    conv=>whnf
    refine⟨_,_,r2,?_⟩;conv=>whnf
    refine⟨_,_,r3,?_⟩;conv=>whnf
    refine(hte _).mono ?_;rintro o T' ⟨rfl,rfl⟩;conv=>whnf
    refine hK _ _ ?_;clear hK hQ K;refine awp_seq2 fun K hK hQ=>?_
    conv=>whnf
    refine hK _ _ ?_;clear hK hQ K;refine awp_seq2 fun K hK hQ=>?_
    conv=>whnf
    refine⟨_,_,r2,?_⟩;conv=>whnf
    refine⟨_,_,r5,?_⟩;conv=>whnf
    refine(field8_ok _ _).mono ?_;rintro o T' ⟨rfl,rfl⟩;conv=>whnf
    refine split_of (fun h1=>?_) (fun h1=>?_)
    ·have e1:(fieldV nd8 c)=true:=h1
     -- hsp,e1 what is known
     conv=>whnf
     refine hQ _ _ _ (by simp) ?_
     clear hK hQ K;conv=>whnf
     exact⟨_,_,⟨congrArg (fun z=>Out.ret (AV.int .i64 z)) (show _=res from Eq.symm (by rw[hsp,e1];rfl)),rfl⟩,hlf,AV.leS_refl _ _ _⟩
    have e1:(fieldV nd8 c)=false:=h1
    conv=>whnf
    refine⟨_,_,r5,?_⟩;conv=>whnf
    refine⟨_,_,r2,?_⟩;conv=>whnf
    intro _;rw[l1];conv=>whnf
    refine(hco _ _ _).mono ?_;rintro o T' ⟨rfl,rfl⟩;conv=>whnf
    refine⟨_,_,r5,?_⟩;conv=>whnf
    refine⟨_,_,r2,?_⟩;conv=>whnf
    intro _;rw[l2];conv=>whnf
    refine(hco _ _ _).mono ?_;rintro o T' ⟨rfl,rfl⟩;conv=>whnf
    refine split_of (fun h2=>?_) (fun h2=>?_)
    ·have e2:(!countsV nd8.xs (c.xs.length:Int))=true:=h2
     -- hsp,e1,e2 what is known
     conv=>whnf
     refine hQ _ _ _ (by simp) ?_
     clear hK hQ K;conv=>whnf
     exact⟨_,_,⟨congrArg (fun z=>Out.ret (AV.int .i64 z)) (show _=res from Eq.symm (by rw[hsp,e1,e2];rfl)),rfl⟩,hlf,AV.leS_refl _ _ _⟩
    have e2:(!countsV nd8.xs (c.xs.length:Int))=false:=h2
    conv=>whnf
    refine⟨_,_,r5,?_⟩;conv=>whnf
    refine⟨_,_,r2,?_⟩;conv=>whnf
    intro _;rw[l3];conv=>whnf
    refine(hco _ _ _).mono ?_;rintro o T' ⟨rfl,rfl⟩;conv=>whnf
    refine⟨_,_,r2,?_⟩;conv=>whnf
    refine⟨_,_,r5,?_⟩;conv=>whnf
    refine(wide_ok nd8 _ c hz.r _).mono ?_;rintro o T' ⟨rfl,rfl⟩;conv=>whnf
    refine split_of (fun h3=>?_) (fun h3=>?_)
    ·have e3:(wideV nd8 c)=true:=h3
     -- hsp,e1,e2,e3 what is known
     conv=>whnf
     refine hQ _ _ _ (by simp) ?_
     clear hK hQ K;conv=>whnf
     exact⟨_,_,⟨congrArg (fun z=>Out.ret (AV.int .i64 z)) (show _=res from Eq.symm (by rw[hsp,e1,e2,e3];rfl)),rfl⟩,hlf,AV.leS_refl _ _ _⟩
    have e3:(wideV nd8 c)=false:=h3
    conv=>whnf
    refine split_of (fun h4=>?_) (fun h4=>?_)
    ·have e4:(c.terms.any (badVarV vars))=true:=h4
     -- hsp,e1,e2,e3,e4 what is known
     conv=>whnf
     refine hQ _ _ _ (by simp) ?_
     clear hK hQ K;conv=>whnf
     exact⟨_,_,⟨congrArg (fun z=>Out.ret (AV.int .i64 z)) (show _=res from Eq.symm (by rw[hsp,e1,e2,e3,e4];rfl)),rfl⟩,hlf,AV.leS_refl _ _ _⟩
    have e4:(c.terms.any (badVarV vars))=false:=h4
    conv=>whnf
    refine⟨_,_,r5,?_⟩;conv=>whnf
    refine⟨_,_,r5,?_⟩;conv=>whnf
    refine⟨_,_,r2,?_⟩;conv=>whnf
    refine(ContainsI_ok (G:=G) (xs:=c.xs) hz.x (p:=noV vars) fun x _=>con1_ok x r3).mono ?_
    rintro o T' ⟨rfl,rfl⟩;conv=>whnf
    refine split_of (fun h5=>?_) (fun h5=>?_)
    ·have e5:(c.xs.any (noV vars))=true:=h5
     -- hsp,e1,e2,e3,e4,e5 what is known
     conv=>whnf
     refine hQ _ _ _ (by simp) ?_
     clear hK hQ K;conv=>whnf
     exact⟨_,_,⟨congrArg (fun z=>Out.ret (AV.int .i64 z)) (show _=res from Eq.symm (by rw[hsp,e1,e2,e3,e4,e5];rfl)),rfl⟩,hlf,AV.leS_refl _ _ _⟩
    have e5:(c.xs.any (noV vars))=false:=h5
    conv=>whnf
    refine split_of (fun h6=>?_) (fun h6=>?_)
    ·have e6:(c.terms.any badCoefV)=true:=h6
     -- hsp,e1,e2,e3,e4,e5,e6 what is known
     conv=>whnf
     refine hQ _ _ _ (by simp) ?_
     clear hK hQ K;conv=>whnf
     exact⟨_,_,⟨congrArg (fun z=>Out.ret (AV.int .i64 z)) (show _=res from Eq.symm (by rw[hsp,e1,e2,e3,e4,e5,e6];rfl)),rfl⟩,hlf,AV.leS_refl _ _ _⟩
    have e6:(c.terms.any badCoefV)=false:=h6
    conv=>whnf
    refine⟨_,_,r2,?_⟩;conv=>whnf
    refine(hwi _ _).mono ?_;rintro o T' ⟨rfl,rfl⟩;conv=>whnf
    refine split_of (fun h7=>?_) (fun h7=>?_)
    ·have e7:(!withinV c.k 1000000000)=true:=h7
     -- hsp,e1,e2,e3,e4,e5,e6,e7 what is known
     conv=>whnf
     refine hQ _ _ _ (by simp) ?_
     clear hK hQ K;conv=>whnf
     exact⟨_,_,⟨congrArg (fun z=>Out.ret (AV.int .i64 z)) (show _=res from Eq.symm (by rw[hsp,e1,e2,e3,e4,e5,e6,e7];rfl)),rfl⟩,hlf,AV.leS_refl _ _ _⟩
    have e7:(!withinV c.k 1000000000)=false:=h7
    conv=>whnf
    refine⟨_,_,r2,?_⟩;conv=>whnf
    refine(hwi _ _).mono ?_;rintro o T' ⟨rfl,rfl⟩;conv=>whnf
    refine split_of (fun h8=>?_) (fun h8=>?_)
    ·have e8:(!withinV c.v 1000000000)=true:=h8
     -- hsp,e1,e2,e3,e4,e5,e6,e7,e8 what is known
     conv=>whnf
     refine hQ _ _ _ (by simp) ?_
     clear hK hQ K;conv=>whnf
     exact⟨_,_,⟨congrArg (fun z=>Out.ret (AV.int .i64 z)) (show _=res from Eq.symm (by rw[hsp,e1,e2,e3,e4,e5,e6,e7,e8];rfl)),rfl⟩,hlf,AV.leS_refl _ _ _⟩
    have e8:(!withinV c.v 1000000000)=false:=h8
    conv=>whnf
    refine⟨_,_,r2,?_⟩;conv=>whnf
    refine(hgt _).mono ?_;rintro o T' ⟨rfl,rfl⟩;conv=>whnf
    refine split_of (fun h9=>?_) (fun h9=>?_)
    ·have e9:(greatV c.table)=true:=h9
     -- hsp,e1,e2,e3,e4,e5,e6,e7,e8,e9 what is known
     conv=>whnf
     refine hQ _ _ _ (by simp) ?_
     clear hK hQ K;conv=>whnf
     exact⟨_,_,⟨congrArg (fun z=>Out.ret (AV.int .i64 z)) (show _=res from Eq.symm (by rw[hsp,e1,e2,e3,e4,e5,e6,e7,e8,e9];rfl)),rfl⟩,hlf,AV.leS_refl _ _ _⟩
    have e9:(greatV c.table)=false:=h9
    conv=>whnf
    refine⟨_,_,r2,?_⟩;conv=>whnf
    refine(ContainsL_ok (G:=G) (xs:=c.rows) hz.r (p:=greatV) fun x hx=>great_ok x (hz.e x hx) _).mono ?_
    rintro o T' ⟨rfl,rfl⟩;conv=>whnf
    refine split_of (fun h10=>?_) (fun h10=>?_)
    ·have e10:(c.rows.any greatV)=true:=h10
     -- hsp,e1,e2,e3,e4,e5,e6,e7,e8,e9,e10 what is known
     conv=>whnf
     refine hQ _ _ _ (by simp) ?_
     clear hK hQ K;conv=>whnf
     exact⟨_,_,⟨congrArg (fun z=>Out.ret (AV.int .i64 z)) (show _=res from Eq.symm (by rw[hsp,e1,e2,e3,e4,e5,e6,e7,e8,e9,e10];rfl)),rfl⟩,hlf,AV.leS_refl _ _ _⟩
    have e10:(c.rows.any greatV)=false:=h10
    conv=>whnf
    refine hK _ _ ?_;clear hK hQ K;conv=>whnf
    exact⟨_,_,⟨congrArg (fun z=>Out.ret (AV.int .i64 z)) (show _=res from Eq.symm (by rw[hsp,e1,e2,e3,e4,e5,e6,e7,e8,e9,e10];rfl)),rfl⟩,hlf,AV.leS_refl _ _ _⟩
   ·have hk:c.kind=9:=hk
    have hsp:conV c vars=conOf nd9 c vars:=by unfold conV;rw[hk];rfl
    generalize conV c vars=res at *;unfold conOf at hsp;have r5:S' b5=some (.obj 111 (needAV nd9 83)):=r5;refine awp_seq2 fun K hK hQ=>?_
    conv=>whnf
    refine⟨_,_,r5,?_⟩;conv=>whnf
    refine⟨_,_,r2,?_⟩;conv=>whnf
    refine split_of (fun h1=>?_) (fun h1=>?_)
    ·have e1:(decide (c.op<1))=true:=h1
     -- hsp,e1 what is known
     conv=>whnf
     refine hQ _ _ _ (by simp) ?_
     clear hK hQ K;conv=>whnf
     exact⟨_,_,⟨congrArg (fun z=>Out.ret (AV.int .i64 z)) (show _=res from Eq.symm (by rw[hsp,e1];rfl)),rfl⟩,hlf,AV.leS_refl _ _ _⟩
    have e1:(decide (c.op<1))=false:=h1
    conv=>whnf
    refine⟨_,_,r2,?_⟩;conv=>whnf
    refine split_of (fun h2=>?_) (fun h2=>?_)
    ·have e2:(decide (c.op > 3))=true:=h2
     -- hsp,e1,e2 what is known
     conv=>whnf
     refine hQ _ _ _ (by simp) ?_
     clear hK hQ K;conv=>whnf
     exact⟨_,_,⟨congrArg (fun z=>Out.ret (AV.int .i64 z)) (show _=res from Eq.symm (by rw[hsp,e1,e2];rfl)),rfl⟩,hlf,AV.leS_refl _ _ _⟩
    have e2:(decide (c.op > 3))=false:=h2
    conv=>whnf
    refine hK _ _ ?_;clear hK hQ K;refine awp_seq2 fun K hK hQ=>?_
    conv=>whnf
    refine⟨_,_,r2,?_⟩;conv=>whnf
    refine⟨_,_,r3,?_⟩;conv=>whnf
    refine(hte _).mono ?_;rintro o T' ⟨rfl,rfl⟩;conv=>whnf
    refine hK _ _ ?_;clear hK hQ K;refine awp_seq2 fun K hK hQ=>?_
    conv=>whnf
    refine hK _ _ ?_;clear hK hQ K;refine awp_seq2 fun K hK hQ=>?_
    conv=>whnf
    refine⟨_,_,r2,?_⟩;conv=>whnf
    refine⟨_,_,r5,?_⟩;conv=>whnf
    refine(field9_ok _ _).mono ?_;rintro o T' ⟨rfl,rfl⟩;conv=>whnf
    refine split_of (fun h3=>?_) (fun h3=>?_)
    ·have e3:(fieldV nd9 c)=true:=h3
     -- hsp,e1,e2,e3 what is known
     conv=>whnf
     refine hQ _ _ _ (by simp) ?_
     clear hK hQ K;conv=>whnf
     exact⟨_,_,⟨congrArg (fun z=>Out.ret (AV.int .i64 z)) (show _=res from Eq.symm (by rw[hsp,e1,e2,e3];rfl)),rfl⟩,hlf,AV.leS_refl _ _ _⟩
    have e3:(fieldV nd9 c)=false:=h3
    conv=>whnf
    refine⟨_,_,r5,?_⟩;conv=>whnf
    refine⟨_,_,r2,?_⟩;conv=>whnf
    intro _;rw[l1];conv=>whnf
    refine(hco _ _ _).mono ?_;rintro o T' ⟨rfl,rfl⟩;conv=>whnf
    refine⟨_,_,r5,?_⟩;conv=>whnf
    refine⟨_,_,r2,?_⟩;conv=>whnf
    intro _;rw[l2];conv=>whnf
    refine(hco _ _ _).mono ?_;rintro o T' ⟨rfl,rfl⟩;conv=>whnf
    refine split_of (fun h4=>?_) (fun h4=>?_)
    ·have e4:(!countsV nd9.xs (c.xs.length:Int))=true:=h4
     -- hsp,e1,e2,e3,e4 what is known
     conv=>whnf
     refine hQ _ _ _ (by simp) ?_
     clear hK hQ K;conv=>whnf
     exact⟨_,_,⟨congrArg (fun z=>Out.ret (AV.int .i64 z)) (show _=res from Eq.symm (by rw[hsp,e1,e2,e3,e4];rfl)),rfl⟩,hlf,AV.leS_refl _ _ _⟩
    have e4:(!countsV nd9.xs (c.xs.length:Int))=false:=h4
    conv=>whnf
    refine⟨_,_,r5,?_⟩;conv=>whnf
    refine⟨_,_,r2,?_⟩;conv=>whnf
    intro _;rw[l3];conv=>whnf
    refine(hco _ _ _).mono ?_;rintro o T' ⟨rfl,rfl⟩;conv=>whnf
    refine⟨_,_,r2,?_⟩;conv=>whnf
    refine⟨_,_,r5,?_⟩;conv=>whnf
    refine(wide_ok nd9 _ c hz.r _).mono ?_;rintro o T' ⟨rfl,rfl⟩;conv=>whnf
    refine split_of (fun h5=>?_) (fun h5=>?_)
    ·have e5:(c.terms.any (badVarV vars))=true:=h5
     -- hsp,e1,e2,e3,e4,e5 what is known
     conv=>whnf
     refine hQ _ _ _ (by simp) ?_
     clear hK hQ K;conv=>whnf
     exact⟨_,_,⟨congrArg (fun z=>Out.ret (AV.int .i64 z)) (show _=res from Eq.symm (by rw[hsp,e1,e2,e3,e4,e5];rfl)),rfl⟩,hlf,AV.leS_refl _ _ _⟩
    have e5:(c.terms.any (badVarV vars))=false:=h5
    conv=>whnf
    refine⟨_,_,r5,?_⟩;conv=>whnf
    refine⟨_,_,r5,?_⟩;conv=>whnf
    refine⟨_,_,r2,?_⟩;conv=>whnf
    refine(ContainsI_ok (G:=G) (xs:=c.xs) hz.x (p:=noV vars) fun x _=>con1_ok x r3).mono ?_
    rintro o T' ⟨rfl,rfl⟩;conv=>whnf
    refine split_of (fun h6=>?_) (fun h6=>?_)
    ·have e6:(c.xs.any (noV vars))=true:=h6
     -- hsp,e1,e2,e3,e4,e5,e6 what is known
     conv=>whnf
     refine hQ _ _ _ (by simp) ?_
     clear hK hQ K;conv=>whnf
     exact⟨_,_,⟨congrArg (fun z=>Out.ret (AV.int .i64 z)) (show _=res from Eq.symm (by rw[hsp,e1,e2,e3,e4,e5,e6];rfl)),rfl⟩,hlf,AV.leS_refl _ _ _⟩
    have e6:(c.xs.any (noV vars))=false:=h6
    conv=>whnf
    refine split_of (fun h7=>?_) (fun h7=>?_)
    ·have e7:(c.terms.any badCoefV)=true:=h7
     -- hsp,e1,e2,e3,e4,e5,e6,e7 what is known
     conv=>whnf
     refine hQ _ _ _ (by simp) ?_
     clear hK hQ K;conv=>whnf
     exact⟨_,_,⟨congrArg (fun z=>Out.ret (AV.int .i64 z)) (show _=res from Eq.symm (by rw[hsp,e1,e2,e3,e4,e5,e6,e7];rfl)),rfl⟩,hlf,AV.leS_refl _ _ _⟩
    have e7:(c.terms.any badCoefV)=false:=h7
    conv=>whnf
    refine⟨_,_,r2,?_⟩;conv=>whnf
    refine(hwi _ _).mono ?_;rintro o T' ⟨rfl,rfl⟩;conv=>whnf
    refine split_of (fun h8=>?_) (fun h8=>?_)
    ·have e8:(!withinV c.k 1000000000)=true:=h8
     -- hsp,e1,e2,e3,e4,e5,e6,e7,e8 what is known
     conv=>whnf
     refine hQ _ _ _ (by simp) ?_
     clear hK hQ K;conv=>whnf
     exact⟨_,_,⟨congrArg (fun z=>Out.ret (AV.int .i64 z)) (show _=res from Eq.symm (by rw[hsp,e1,e2,e3,e4,e5,e6,e7,e8];rfl)),rfl⟩,hlf,AV.leS_refl _ _ _⟩
    have e8:(!withinV c.k 1000000000)=false:=h8
    conv=>whnf
    refine⟨_,_,r2,?_⟩;conv=>whnf
    refine(hwi _ _).mono ?_;rintro o T' ⟨rfl,rfl⟩;conv=>whnf
    refine split_of (fun h9=>?_) (fun h9=>?_)
    ·have e9:(!withinV c.v 1000000000)=true:=h9
     -- hsp,e1,e2,e3,e4,e5,e6,e7,e8,e9 what is known
     conv=>whnf
     refine hQ _ _ _ (by simp) ?_
     clear hK hQ K;conv=>whnf
     exact⟨_,_,⟨congrArg (fun z=>Out.ret (AV.int .i64 z)) (show _=res from Eq.symm (by rw[hsp,e1,e2,e3,e4,e5,e6,e7,e8,e9];rfl)),rfl⟩,hlf,AV.leS_refl _ _ _⟩
    have e9:(!withinV c.v 1000000000)=false:=h9
    conv=>whnf
    refine⟨_,_,r2,?_⟩;conv=>whnf
    refine(hgt _).mono ?_;rintro o T' ⟨rfl,rfl⟩;conv=>whnf
    refine split_of (fun h10=>?_) (fun h10=>?_)
    ·have e10:(greatV c.table)=true:=h10
     -- hsp,e1,e2,e3,e4,e5,e6,e7,e8,e9,e10 what is known
     conv=>whnf
     refine hQ _ _ _ (by simp) ?_
     clear hK hQ K;conv=>whnf
     exact⟨_,_,⟨congrArg (fun z=>Out.ret (AV.int .i64 z)) (show _=res from Eq.symm (by rw[hsp,e1,e2,e3,e4,e5,e6,e7,e8,e9,e10];rfl)),rfl⟩,hlf,AV.leS_refl _ _ _⟩
    have e10:(greatV c.table)=false:=h10
    conv=>whnf
    refine⟨_,_,r2,?_⟩;conv=>whnf
    refine(ContainsL_ok (G:=G) (xs:=c.rows) hz.r (p:=greatV) fun x hx=>great_ok x (hz.e x hx) _).mono ?_
    rintro o T' ⟨rfl,rfl⟩;conv=>whnf
    refine split_of (fun h11=>?_) (fun h11=>?_)
    ·have e11:(c.rows.any greatV)=true:=h11
     -- hsp,e1,e2,e3,e4,e5,e6,e7,e8,e9,e10,e11 what is known
     conv=>whnf
     refine hQ _ _ _ (by simp) ?_
     clear hK hQ K;conv=>whnf
     exact⟨_,_,⟨congrArg (fun z=>Out.ret (AV.int .i64 z)) (show _=res from Eq.symm (by rw[hsp,e1,e2,e3,e4,e5,e6,e7,e8,e9,e10,e11];rfl)),rfl⟩,hlf,AV.leS_refl _ _ _⟩
    have e11:(c.rows.any greatV)=false:=h11
    conv=>whnf
    refine hK _ _ ?_;clear hK hQ K;conv=>whnf
    exact⟨_,_,⟨congrArg (fun z=>Out.ret (AV.int .i64 z)) (show _=res from Eq.symm (by rw[hsp,e1,e2,e3,e4,e5,e6,e7,e8,e9,e10,e11];rfl)),rfl⟩,hlf,AV.leS_refl _ _ _⟩
 ·have n5:∀ {b5:Nat} {U:St} {p:Own} {b:Nat},U b5=none→U b=some p→b≠b5:=fun h k e=>by rw[← e,k] at h;cases h
  refine⟨?_,?_⟩
  ·conv=>whnf
   refine(kinds_ok _).mono ?_;rintro o T' ⟨r,hr,rfl,rfl⟩;conv=>whnf
   refine⟨_,_,St.up hr q2,?_⟩;conv=>whnf
   refine⟨?_,?_⟩
   ·conv=>whnf
    refine⟨_,St.upd_same _ _ _,?_⟩;refine kinds_find (fun e he hk=>?_) (fun hn=>?_)
    ·conv=>whnf
     intro b5 hb5;conv=>whnf
     refine⟨_,_,St.upd_same _ _ _,?_⟩;conv=>whnf
     have n2:=n5 hb5 (St.up hr q2)
     have n3:=n5 hb5 (St.up hr q3)
     have zb:=St.le_none (St.le_upd' hle hr _) hb5
     exact⟨b5,(St.upd_ne _ _ _ _ n2).trans (St.up hb5 (St.up hr q2)),(St.upd_ne _ _ _ _ n3).trans (St.up hb5 (St.up hr q3)),St.le_upd (St.le_upd' (St.le_upd' hle hr _) hb5 _) zb _,.inl ⟨e,he,hk,⟨rfl,rfl,rfl,rfl,rfl,trivial⟩,St.upd_same _ _ _⟩⟩
    ·conv=>whnf
     intro b5 hb5;conv=>whnf
     refine⟨_,_,St.upd_same _ _ _,?_⟩;conv=>whnf
     have n2:=n5 hb5 (St.up hr q2)
     have n3:=n5 hb5 (St.up hr q3)
     have zb:=St.le_none (St.le_upd' hle hr _) hb5
     exact⟨b5,(St.upd_ne _ _ _ _ n2).trans (St.up hb5 (St.up hr q2)),(St.upd_ne _ _ _ _ n3).trans (St.up hb5 (St.up hr q3)),St.le_upd (St.le_upd' (St.le_upd' hle hr _) hb5 _) zb _,.inr ⟨hn,⟨rfl,rfl,rfl,rfl,rfl,trivial⟩⟩⟩
   ·conv=>whnf
    intro b5 hb5;conv=>whnf
    refine⟨_,St.up hb5 (St.upd_same _ _ _),?_⟩;refine kinds_find (fun e he hk=>?_) (fun hn=>?_)
    ·conv=>whnf
     refine⟨_,_,St.upd_same _ _ _,?_⟩;conv=>whnf
     have n2:=n5 hb5 (St.up hr q2)
     have n3:=n5 hb5 (St.up hr q3)
     have zb:=St.le_none (St.le_upd' hle hr _) hb5
     exact⟨b5,(St.upd_ne _ _ _ _ n2).trans (St.up hb5 (St.up hr q2)),(St.upd_ne _ _ _ _ n3).trans (St.up hb5 (St.up hr q3)),St.le_upd (St.le_upd' (St.le_upd' hle hr _) hb5 _) zb _,.inl ⟨e,he,hk,⟨rfl,rfl,rfl,rfl,rfl,trivial⟩,St.upd_same _ _ _⟩⟩
    ·conv=>whnf
     refine⟨_,_,St.upd_same _ _ _,?_⟩;conv=>whnf
     have n2:=n5 hb5 (St.up hr q2)
     have n3:=n5 hb5 (St.up hr q3)
     have zb:=St.le_none (St.le_upd' hle hr _) hb5
     exact⟨b5,(St.upd_ne _ _ _ _ n2).trans (St.up hb5 (St.up hr q2)),(St.upd_ne _ _ _ _ n3).trans (St.up hb5 (St.up hr q3)),St.le_upd (St.le_upd' (St.le_upd' hle hr _) hb5 _) zb _,.inr ⟨hn,⟨rfl,rfl,rfl,rfl,rfl,trivial⟩⟩⟩
  ·refine⟨?_,?_⟩
   ·conv=>whnf
    refine⟨_,_,q2,?_⟩;conv=>whnf
    refine⟨?_,?_⟩
    ·conv=>whnf
     refine(kinds_ok _).mono ?_;rintro o T' ⟨r,hr,rfl,rfl⟩;conv=>whnf
     refine⟨?_,?_⟩
     ·conv=>whnf
      refine⟨_,St.upd_same _ _ _,?_⟩;refine kinds_find (fun e he hk=>?_) (fun hn=>?_)
      ·conv=>whnf
       intro b5 hb5;conv=>whnf
       refine⟨_,_,St.upd_same _ _ _,?_⟩;conv=>whnf
       have n2:=n5 hb5 (St.up hr q2)
       have n3:=n5 hb5 (St.up hr q3)
       have zb:=St.le_none (St.le_upd' hle hr _) hb5
       exact⟨b5,(St.upd_ne _ _ _ _ n2).trans (St.up hb5 (St.up hr q2)),(St.upd_ne _ _ _ _ n3).trans (St.up hb5 (St.up hr q3)),St.le_upd (St.le_upd' (St.le_upd' hle hr _) hb5 _) zb _,.inl ⟨e,he,hk,⟨rfl,rfl,rfl,rfl,rfl,trivial⟩,St.upd_same _ _ _⟩⟩
      ·conv=>whnf
       intro b5 hb5;conv=>whnf
       refine⟨_,_,St.upd_same _ _ _,?_⟩;conv=>whnf
       have n2:=n5 hb5 (St.up hr q2)
       have n3:=n5 hb5 (St.up hr q3)
       have zb:=St.le_none (St.le_upd' hle hr _) hb5
       exact⟨b5,(St.upd_ne _ _ _ _ n2).trans (St.up hb5 (St.up hr q2)),(St.upd_ne _ _ _ _ n3).trans (St.up hb5 (St.up hr q3)),St.le_upd (St.le_upd' (St.le_upd' hle hr _) hb5 _) zb _,.inr ⟨hn,⟨rfl,rfl,rfl,rfl,rfl,trivial⟩⟩⟩
     ·conv=>whnf
      intro b5 hb5;conv=>whnf
      refine⟨_,St.up hb5 (St.upd_same _ _ _),?_⟩;refine kinds_find (fun e he hk=>?_) (fun hn=>?_)
      ·conv=>whnf
       refine⟨_,_,St.upd_same _ _ _,?_⟩;conv=>whnf
       have n2:=n5 hb5 (St.up hr q2)
       have n3:=n5 hb5 (St.up hr q3)
       have zb:=St.le_none (St.le_upd' hle hr _) hb5
       exact⟨b5,(St.upd_ne _ _ _ _ n2).trans (St.up hb5 (St.up hr q2)),(St.upd_ne _ _ _ _ n3).trans (St.up hb5 (St.up hr q3)),St.le_upd (St.le_upd' (St.le_upd' hle hr _) hb5 _) zb _,.inl ⟨e,he,hk,⟨rfl,rfl,rfl,rfl,rfl,trivial⟩,St.upd_same _ _ _⟩⟩
      ·conv=>whnf
       refine⟨_,_,St.upd_same _ _ _,?_⟩;conv=>whnf
       have n2:=n5 hb5 (St.up hr q2)
       have n3:=n5 hb5 (St.up hr q3)
       have zb:=St.le_none (St.le_upd' hle hr _) hb5
       exact⟨b5,(St.upd_ne _ _ _ _ n2).trans (St.up hb5 (St.up hr q2)),(St.upd_ne _ _ _ _ n3).trans (St.up hb5 (St.up hr q3)),St.le_upd (St.le_upd' (St.le_upd' hle hr _) hb5 _) zb _,.inr ⟨hn,⟨rfl,rfl,rfl,rfl,rfl,trivial⟩⟩⟩
    ·conv=>whnf
     intro b5 hb5;conv=>whnf
     refine(kinds_ok _).mono ?_;rintro o T' ⟨r,hr,rfl,rfl⟩;conv=>whnf
     refine⟨_,St.upd_same _ _ _,?_⟩;refine kinds_find (fun e he hk=>?_) (fun hn=>?_)
     ·conv=>whnf
      refine⟨_,_,St.up hr (St.upd_same _ _ _),?_⟩;conv=>whnf
      have n2:=n5 hb5 q2
      have n3:=n5 hb5 q3
      have zb:=St.le_none hle hb5
      exact⟨b5,(St.upd_ne _ _ _ _ n2).trans (St.up hr (St.up hb5 q2)),(St.upd_ne _ _ _ _ n3).trans (St.up hr (St.up hb5 q3)),St.le_upd (St.le_upd' (St.le_upd' hle hb5 _) hr _) zb _,.inl ⟨e,he,hk,⟨rfl,rfl,rfl,rfl,rfl,trivial⟩,St.upd_same _ _ _⟩⟩
     ·conv=>whnf
      refine⟨_,_,St.up hr (St.upd_same _ _ _),?_⟩;conv=>whnf
      have n2:=n5 hb5 q2
      have n3:=n5 hb5 q3
      have zb:=St.le_none hle hb5
      exact⟨b5,(St.upd_ne _ _ _ _ n2).trans (St.up hr (St.up hb5 q2)),(St.upd_ne _ _ _ _ n3).trans (St.up hr (St.up hb5 q3)),St.le_upd (St.le_upd' (St.le_upd' hle hb5 _) hr _) zb _,.inr ⟨hn,⟨rfl,rfl,rfl,rfl,rfl,trivial⟩⟩⟩
   ·conv=>whnf
    intro b5 hb5;conv=>whnf
    refine⟨?_,?_⟩
    ·conv=>whnf
     refine(kinds_ok _).mono ?_;rintro o T' ⟨r,hr,rfl,rfl⟩;conv=>whnf
     refine⟨_,_,St.up hr (St.up hb5 q2),?_⟩;conv=>whnf
     refine⟨_,St.upd_same _ _ _,?_⟩;refine kinds_find (fun e he hk=>?_) (fun hn=>?_)
     ·conv=>whnf
      refine⟨_,_,St.up hr (St.upd_same _ _ _),?_⟩;conv=>whnf
      have n2:=n5 hb5 q2
      have n3:=n5 hb5 q3
      have zb:=St.le_none hle hb5
      exact⟨b5,(St.upd_ne _ _ _ _ n2).trans (St.up hr (St.up hb5 q2)),(St.upd_ne _ _ _ _ n3).trans (St.up hr (St.up hb5 q3)),St.le_upd (St.le_upd' (St.le_upd' hle hb5 _) hr _) zb _,.inl ⟨e,he,hk,⟨rfl,rfl,rfl,rfl,rfl,trivial⟩,St.upd_same _ _ _⟩⟩
     ·conv=>whnf
      refine⟨_,_,St.up hr (St.upd_same _ _ _),?_⟩;conv=>whnf
      have n2:=n5 hb5 q2
      have n3:=n5 hb5 q3
      have zb:=St.le_none hle hb5
      exact⟨b5,(St.upd_ne _ _ _ _ n2).trans (St.up hr (St.up hb5 q2)),(St.upd_ne _ _ _ _ n3).trans (St.up hr (St.up hb5 q3)),St.le_upd (St.le_upd' (St.le_upd' hle hb5 _) hr _) zb _,.inr ⟨hn,⟨rfl,rfl,rfl,rfl,rfl,trivial⟩⟩⟩
    ·conv=>whnf
     refine⟨_,_,St.up hb5 q2,?_⟩;conv=>whnf
     refine(kinds_ok _).mono ?_;rintro o T' ⟨r,hr,rfl,rfl⟩;conv=>whnf
     refine⟨_,St.upd_same _ _ _,?_⟩;refine kinds_find (fun e he hk=>?_) (fun hn=>?_)
     ·conv=>whnf
      refine⟨_,_,St.up hr (St.upd_same _ _ _),?_⟩;conv=>whnf
      have n2:=n5 hb5 q2
      have n3:=n5 hb5 q3
      have zb:=St.le_none hle hb5
      exact⟨b5,(St.upd_ne _ _ _ _ n2).trans (St.up hr (St.up hb5 q2)),(St.upd_ne _ _ _ _ n3).trans (St.up hr (St.up hb5 q3)),St.le_upd (St.le_upd' (St.le_upd' hle hb5 _) hr _) zb _,.inl ⟨e,he,hk,⟨rfl,rfl,rfl,rfl,rfl,trivial⟩,St.upd_same _ _ _⟩⟩
     ·conv=>whnf
      refine⟨_,_,St.up hr (St.upd_same _ _ _),?_⟩;conv=>whnf
      have n2:=n5 hb5 q2
      have n3:=n5 hb5 q3
      have zb:=St.le_none hle hb5
      exact⟨b5,(St.upd_ne _ _ _ _ n2).trans (St.up hr (St.up hb5 q2)),(St.upd_ne _ _ _ _ n3).trans (St.up hr (St.up hb5 q3)),St.le_upd (St.le_upd' (St.le_upd' hle hb5 _) hr _) zb _,.inr ⟨hn,⟨rfl,rfl,rfl,rfl,rfl,trivial⟩⟩⟩
end Go.Proofs.YtjpboanohpaibaaGreatDoor.Aw
