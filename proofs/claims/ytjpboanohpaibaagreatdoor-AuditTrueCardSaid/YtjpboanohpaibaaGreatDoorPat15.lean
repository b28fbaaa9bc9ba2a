/- audit's scale: a step weighed, walked. audit.Weigh, walked. The chapter's example: what the walks know of it, and its an -/
import Derived.Test.YtjpboanohpaibaaGreatDoorPat14
import Derived.Test.YtjpboanohpaibaaGreatDoorPat11
import Derived.Test.YtjpboanohpaibaaGreatDoorPat12
import Derived.Test.YtjpboanohpaibaaGreatDoorPat5
import Derived.Test.YtjpboanohpaibaaGreatDoorPat7
set_option linter.all false
set_option maxRecDepth 100000
namespace Go.Proofs.YtjpboanohpaibaaGreatDoor.Aw
open Go Go.RowKit
variable {G:Nat→Option (List AV)}
def scW(la ro go pe lo t:Int):List AV:=[.int .i64 la,.int .i64 0,.int .i64 ro,.int .i64 go,.int .i64 pe,.int .i64 lo,.int .i64 0,.int .i64 0,.int .i64 0,.int .i64 0,.int .i64 0,.int .i64 0,.int .i64 0,.int .i64 0,.int .i64 0,.int .i64 0,.int .i64 0,.int .i64 0,.int .i64 0,.int .i64 t]
def scC(v:WgV):List AV:=rowsOfI v.kinds++scW v.lines v.rows v.gone v.peak v.longest (Wr (v.rows-v.gone))
theorem sc_drop{ks:List Int}{X:List AV}{n o:Nat}(ho:o=n)(h:n<ks.length):List.drop o (rowsOfI ks++X)=.int .i64 (ks.getD n 0)::(rowsOfI (ks.drop (n+1))++X):=by
 subst ho;rw[List.drop_append_of_le_length (by rw[rowsOfI_len];omega)]
 unfold rowsOfI;rw[← List.map_drop,List.drop_eq_getElem_cons h,List.map_cons]
 simp[h]
theorem sc_set{ks:List Int}{X:List AV}{z:Int}{n o:Nat}(ho:o=n)(h:n<ks.length):setRange (rowsOfI ks++X) o [.int .i64 z]=rowsOfI (ks.set n z)++X:=by
 subst ho
 show(rowsOfI ks++X).set o (.int .i64 z)=_
 rw[List.set_append_left _ _ (by rw[rowsOfI_len];exact h)]
 unfold rowsOfI;rw[List.map_set]
theorem scale_step_ok(v:WgV)(hk:v.kinds.length=13)(pv:StepV)(hp:OkKind pv.kind)(line:ByteArray)(S:St)(sb:Nat)(h:S sb=some (.obj 84 (scC v))) :
 Triple P (C G) 44 [.ref sb 0,.ag (stepM pv),.str line] S fun o S'=>o=.ret (.tu [])∧S'=S.upd sb (.obj 84 (scC (wgStep v pv.kind pv.ids.length line.size))):=by
 obtain⟨la,bb,ro,go,pe,lo,ks⟩:=v;obtain⟨hk0,hk1⟩:=hp;dsimp only at hk;have h:S sb=some (.obj 84 (rowsOfI ks++scW la ro go pe lo (Wr (ro-go)))):=h;obtain⟨a0,a1,a2,a3,a4,a5,a6,a7,a8,a9,a10,a11,a12,hks⟩:=len13 ((upK_len ks pv.kind.toNat).trans hk);refine triple_of_awp (hT G) hm Tryz.func44 rfl (by decide +kernel) rfl (by decide +kernel) (by show 3≤_;decide +kernel) rfl ?_
 refine awp_seq2 fun K hK hQ=>?_
 conv=>whnf
 intro b hb;conv=>whnf
 refine hK _ _ ?_;clear hK hQ K;have q:=St.upd_same S b (.obj 90 (stepM pv));have h1:=St.up (p:=.obj 90 (stepM pv)) hb h;have nb:sb≠b:=fun e=>by rw[e,hb] at h;cases h
 have hle:∀ X,St.le (S.upd sb X) ((S.upd b (.obj 90 (stepM pv))).upd sb X):=fun X=>St.le_upd2 (St.le_upd' (St.le_refl S) hb _) sb X
 unfold stepM at q h1 hle;change awp _ _ _ _ (S.upd b (.obj 90 [.int .i64 pv.kind,.str pv.num,.sl .any 3 (rowsO pv.ops),.sl .any 2 (rowsP pv.pieces),.str pv.bound,.sl .any 1 (rowsI pv.lits),.sl .any 1 (rowsS pv.ids),.int .i64 pv.n6,.str pv.s7,.str pv.s8])) _;generalize S.upd b (.obj 90 [.int .i64 pv.kind,.str pv.num,.sl .any 3 (rowsO pv.ops),.sl .any 2 (rowsP pv.pieces),.str pv.bound,.sl .any 1 (rowsI pv.lits),.sl .any 1 (rowsS pv.ids),.int .i64 pv.n6,.str pv.s7,.str pv.s8])=F at *;have hkn:pv.kind.toNat<ks.length:=by omega
 refine awp_seq2 fun K hK hQ=>?_
 refine⟨[],(.free 0 (.free 1 (.free 2 (.free 3 (.free 4 (.free 5 (.free 6 (.free 7 (.free 8 (.free 9 (.free 10 (.one 11 .done .none)))))))))))),_,by decide +kernel,?_,fun _ _ h=>⟨_,.inl rfl,h⟩⟩
 conv=>whnf
 refine⟨_,_,q,?_⟩;conv=>whnf
 refine⟨⟨hk0,hk1⟩,?_⟩;conv=>whnf
 refine⟨_,_,h1,?_⟩;conv=>whnf
 rw[show List.drop (0+0+pv.kind.toNat*((C G).T 3).size) (rowsOfI ks++scW la ro go pe lo (Wr (ro-go)))=.int .i64 (ks.getD pv.kind.toNat 0)::(rowsOfI (ks.drop (pv.kind.toNat+1))++scW la ro go pe lo (Wr (ro-go))) from sc_drop (by show 0+0+pv.kind.toNat*1=_;omega) hkn]
 conv=>whnf
 refine⟨⟨hk0,hk1⟩,?_⟩;conv=>whnf
 refine⟨_,_,h1,?_⟩;rw[when_iff];refine⟨by rw[List.length_append,rowsOfI_len,hk];exact Nat.ble_eq_true_of_le (show 0+0+pv.kind.toNat*1+1≤13+20 by omega),?_⟩
 rw[forceL_eq,(show ∀ Z:Int,Z=Wr (ks.getD pv.kind.toNat 0+1)→setRange (rowsOfI ks++scW la ro go pe lo (Wr (ro-go))) (0+0+pv.kind.toNat*((C G).T 3).size) (cellsOf (AV.int .i64 Z))=rowsOfI (upK ks pv.kind.toNat)++scW la ro go pe lo (Wr (ro-go)) from fun _ h=>by rw[h];exact sc_set (by show 0+0+pv.kind.toNat*1=_;omega) hkn)]
 rotate_left
 ·rfl
 rw[hks];conv=>whnf
 refine hK _ _ ?_;clear hK hQ K;change awp _ _ _ _ (F.upd sb (.obj 84 (rowsOfI [a0,a1,a2,a3,a4,a5,a6,a7,a8,a9,a10,a11,a12]++scW la ro go pe lo (Wr (ro-go))))) _;have hF1:=St.upd_same F sb (.obj 84 (rowsOfI [a0,a1,a2,a3,a4,a5,a6,a7,a8,a9,a10,a11,a12]++scW la ro go pe lo (Wr (ro-go))));have qF1:=St.ov nb.symm q (p:=.obj 84 (rowsOfI [a0,a1,a2,a3,a4,a5,a6,a7,a8,a9,a10,a11,a12]++scW la ro go pe lo (Wr (ro-go))));have hleF1:∀ X,St.le (S.upd sb X) ((F.upd sb (.obj 84 (rowsOfI [a0,a1,a2,a3,a4,a5,a6,a7,a8,a9,a10,a11,a12]++scW la ro go pe lo (Wr (ro-go))))).upd sb X):=fun X=>by rw[St.upd_upd];exact hle X
 generalize F.upd sb (.obj 84 (rowsOfI [a0,a1,a2,a3,a4,a5,a6,a7,a8,a9,a10,a11,a12]++scW la ro go pe lo (Wr (ro-go))))=F1 at *;refine awp_seq2 fun K hK hQ=>?_
 conv=>whnf
 refine⟨_,_,hF1,?_⟩;conv=>whnf
 refine⟨_,_,hF1,?_⟩;conv=>whnf
 refine hK _ _ ?_;clear hK hQ K;change awp _ _ _ _ (F1.upd sb (.obj 84 (rowsOfI [a0,a1,a2,a3,a4,a5,a6,a7,a8,a9,a10,a11,a12]++scW (Wr (la+1)) ro go pe lo (Wr (ro-go))))) _;have hF2:=St.upd_same F1 sb (.obj 84 (rowsOfI [a0,a1,a2,a3,a4,a5,a6,a7,a8,a9,a10,a11,a12]++scW (Wr (la+1)) ro go pe lo (Wr (ro-go))));have qF2:=St.ov nb.symm qF1 (p:=.obj 84 (rowsOfI [a0,a1,a2,a3,a4,a5,a6,a7,a8,a9,a10,a11,a12]++scW (Wr (la+1)) ro go pe lo (Wr (ro-go))));have hleF2:∀ X,St.le (S.upd sb X) ((F1.upd sb (.obj 84 (rowsOfI [a0,a1,a2,a3,a4,a5,a6,a7,a8,a9,a10,a11,a12]++scW (Wr (la+1)) ro go pe lo (Wr (ro-go))))).upd sb X):=fun X=>by rw[St.upd_upd];exact hleF1 X
 generalize F1.upd sb (.obj 84 (rowsOfI [a0,a1,a2,a3,a4,a5,a6,a7,a8,a9,a10,a11,a12]++scW (Wr (la+1)) ro go pe lo (Wr (ro-go))))=F2 at *;refine awp_seq2 fun K hK hQ=>?_
 conv=>whnf
 refine⟨_,_,hF2,?_⟩;conv=>whnf
 refine⟨_,_,hF2,?_⟩;conv=>whnf
 refine hK _ _ ?_;clear hK hQ K;change awp _ _ _ _ (F2.upd sb (.obj 84 (rowsOfI [a0,a1,a2,a3,a4,a5,a6,a7,a8,a9,a10,a11,a12]++scW (Wr (la+1)) ro go pe (mxI lo line.size) (Wr (ro-go))))) _;have hF3:=St.upd_same F2 sb (.obj 84 (rowsOfI [a0,a1,a2,a3,a4,a5,a6,a7,a8,a9,a10,a11,a12]++scW (Wr (la+1)) ro go pe (mxI lo line.size) (Wr (ro-go))));have qF3:=St.ov nb.symm qF2 (p:=.obj 84 (rowsOfI [a0,a1,a2,a3,a4,a5,a6,a7,a8,a9,a10,a11,a12]++scW (Wr (la+1)) ro go pe (mxI lo line.size) (Wr (ro-go))));have hleF3:∀ X,St.le (S.upd sb X) ((F2.upd sb (.obj 84 (rowsOfI [a0,a1,a2,a3,a4,a5,a6,a7,a8,a9,a10,a11,a12]++scW (Wr (la+1)) ro go pe (mxI lo line.size) (Wr (ro-go))))).upd sb X):=fun X=>by rw[St.upd_upd];exact hleF2 X
 generalize F2.upd sb (.obj 84 (rowsOfI [a0,a1,a2,a3,a4,a5,a6,a7,a8,a9,a10,a11,a12]++scW (Wr (la+1)) ro go pe (mxI lo line.size) (Wr (ro-go))))=F3 at *;refine awp_seq2 fun K hK hQ=>?_
 conv=>whnf
 refine⟨_,_,qF3,?_⟩;conv=>whnf
 cases hb3:(pv.kind == 3) with
 | true=>
   conv=>whnf
   refine⟨_,_,hF3,?_⟩;conv=>whnf
   refine⟨_,_,hF3,?_⟩;conv=>whnf
   refine⟨_,_,St.upd_same _ _ _,?_⟩;conv=>whnf
   refine⟨_,_,St.upd_same _ _ _,?_⟩;conv=>whnf
   rw[St.upd_upd];refine hK _ _ ?_;clear hK hQ K;change awp _ _ _ _ (F3.upd sb (.obj 84 (rowsOfI [a0,a1,a2,a3,a4,a5,a6,a7,a8,a9,a10,a11,a12]++scW (Wr (la+1)) (Wr (ro+1)) go pe (mxI lo line.size) (Wr (Wr (ro-go)+1))))) _;have hF5:=St.upd_same F3 sb (.obj 84 (rowsOfI [a0,a1,a2,a3,a4,a5,a6,a7,a8,a9,a10,a11,a12]++scW (Wr (la+1)) (Wr (ro+1)) go pe (mxI lo line.size) (Wr (Wr (ro-go)+1))));have qF5:=St.ov nb.symm qF3 (p:=.obj 84 (rowsOfI [a0,a1,a2,a3,a4,a5,a6,a7,a8,a9,a10,a11,a12]++scW (Wr (la+1)) (Wr (ro+1)) go pe (mxI lo line.size) (Wr (Wr (ro-go)+1))));have hleF5:∀ X,St.le (S.upd sb X) ((F3.upd sb (.obj 84 (rowsOfI [a0,a1,a2,a3,a4,a5,a6,a7,a8,a9,a10,a11,a12]++scW (Wr (la+1)) (Wr (ro+1)) go pe (mxI lo line.size) (Wr (Wr (ro-go)+1))))).upd sb X):=fun X=>by rw[St.upd_upd];exact hleF3 X
   generalize F3.upd sb (.obj 84 (rowsOfI [a0,a1,a2,a3,a4,a5,a6,a7,a8,a9,a10,a11,a12]++scW (Wr (la+1)) (Wr (ro+1)) go pe (mxI lo line.size) (Wr (Wr (ro-go)+1))))=F5 at *;rw[rows_there] at hF5;have h6:¬ pv.kind=6:=by rintro h6;rw[h6] at hb3;revert hb3;decide
   -- F5 F,hF5 h,hleF5 hle,Wr (ro+1) rows,go gone,qF5 q
   refine⟨[],(.free 0 (.free 1 (.free 2 (.free 3 (.free 4 (.free 5 (.free 6 (.free 7 (.free 8 (.free 9 (.one 10 (.free 11 (.free 12 (.free 13 (.one 14 .done .none)))) .none))))))))))),_,by decide +kernel,?_,fun _ _ h=>⟨_,.inl rfl,h⟩⟩
   conv=>whnf
   refine⟨_,_,hF5,?_⟩;conv=>whnf
   refine⟨_,_,hF5,?_⟩;conv=>whnf
   refine⟨_,_,hF5,?_⟩;conv=>whnf
   refine⟨_,_,⟨rfl,rfl⟩,?_,AV.leS_refl _ _ _⟩;refine Eq.mp (congrArg (fun X=>St.le (S.upd sb (.obj 84 X)) (F5.upd sb (.obj 84 (rowsOfI [a0,a1,a2,a3,a4,a5,a6,a7,a8,a9,a10,a11,a12]++scW (Wr (la+1)) (Wr (ro+1)) (go) (mxI pe (Wr (Wr (ro+1)-go))) (mxI lo line.size) (Wr (Wr (ro+1)-go)))))) ?_) (hleF5 _)
   unfold scC wgStep;rw[show isRowK pv.kind=true from by unfold isRowK;simp only[hb3];rfl]
   dsimp only;rw[if_neg h6,hks];rfl
 | false=>
   conv=>whnf
   cases hb4:(pv.kind == 4) with
   | true=>
     conv=>whnf
     refine⟨_,_,hF3,?_⟩;conv=>whnf
     refine⟨_,_,hF3,?_⟩;conv=>whnf
     refine⟨_,_,St.upd_same _ _ _,?_⟩;conv=>whnf
     refine⟨_,_,St.upd_same _ _ _,?_⟩;conv=>whnf
     rw[St.upd_upd];refine hK _ _ ?_;clear hK hQ K;change awp _ _ _ _ (F3.upd sb (.obj 84 (rowsOfI [a0,a1,a2,a3,a4,a5,a6,a7,a8,a9,a10,a11,a12]++scW (Wr (la+1)) (Wr (ro+1)) go pe (mxI lo line.size) (Wr (Wr (ro-go)+1))))) _;have hF5:=St.upd_same F3 sb (.obj 84 (rowsOfI [a0,a1,a2,a3,a4,a5,a6,a7,a8,a9,a10,a11,a12]++scW (Wr (la+1)) (Wr (ro+1)) go pe (mxI lo line.size) (Wr (Wr (ro-go)+1))));have qF5:=St.ov nb.symm qF3 (p:=.obj 84 (rowsOfI [a0,a1,a2,a3,a4,a5,a6,a7,a8,a9,a10,a11,a12]++scW (Wr (la+1)) (Wr (ro+1)) go pe (mxI lo line.size) (Wr (Wr (ro-go)+1))));have hleF5:∀ X,St.le (S.upd sb X) ((F3.upd sb (.obj 84 (rowsOfI [a0,a1,a2,a3,a4,a5,a6,a7,a8,a9,a10,a11,a12]++scW (Wr (la+1)) (Wr (ro+1)) go pe (mxI lo line.size) (Wr (Wr (ro-go)+1))))).upd sb X):=fun X=>by rw[St.upd_upd];exact hleF3 X
     generalize F3.upd sb (.obj 84 (rowsOfI [a0,a1,a2,a3,a4,a5,a6,a7,a8,a9,a10,a11,a12]++scW (Wr (la+1)) (Wr (ro+1)) go pe (mxI lo line.size) (Wr (Wr (ro-go)+1))))=F5 at *;rw[rows_there] at hF5;have h6:¬ pv.kind=6:=by rintro h6;rw[h6] at hb4;revert hb4;decide
     -- F5 F,hF5 h,hleF5 hle,Wr (ro+1) rows,go gone,qF5 q
     refine⟨[],(.free 0 (.free 1 (.free 2 (.free 3 (.free 4 (.free 5 (.free 6 (.free 7 (.free 8 (.free 9 (.one 10 (.free 11 (.free 12 (.free 13 (.one 14 .done .none)))) .none))))))))))),_,by decide +kernel,?_,fun _ _ h=>⟨_,.inl rfl,h⟩⟩
     conv=>whnf
     refine⟨_,_,hF5,?_⟩;conv=>whnf
     refine⟨_,_,hF5,?_⟩;conv=>whnf
     refine⟨_,_,hF5,?_⟩;conv=>whnf
     refine⟨_,_,⟨rfl,rfl⟩,?_,AV.leS_refl _ _ _⟩;refine Eq.mp (congrArg (fun X=>St.le (S.upd sb (.obj 84 X)) (F5.upd sb (.obj 84 (rowsOfI [a0,a1,a2,a3,a4,a5,a6,a7,a8,a9,a10,a11,a12]++scW (Wr (la+1)) (Wr (ro+1)) (go) (mxI pe (Wr (Wr (ro+1)-go))) (mxI lo line.size) (Wr (Wr (ro+1)-go)))))) ?_) (hleF5 _)
     unfold scC wgStep;rw[show isRowK pv.kind=true from by unfold isRowK;simp only[hb3,hb4];rfl]
     dsimp only;rw[if_neg h6,hks];rfl
   | false=>
     conv=>whnf
     cases hb11:(pv.kind == 11) with
     | true=>
       conv=>whnf
       refine⟨_,_,hF3,?_⟩;conv=>whnf
       refine⟨_,_,hF3,?_⟩;conv=>whnf
       refine⟨_,_,St.upd_same _ _ _,?_⟩;conv=>whnf
       refine⟨_,_,St.upd_same _ _ _,?_⟩;conv=>whnf
       rw[St.upd_upd];refine hK _ _ ?_;clear hK hQ K;change awp _ _ _ _ (F3.upd sb (.obj 84 (rowsOfI [a0,a1,a2,a3,a4,a5,a6,a7,a8,a9,a10,a11,a12]++scW (Wr (la+1)) (Wr (ro+1)) go pe (mxI lo line.size) (Wr (Wr (ro-go)+1))))) _;have hF5:=St.upd_same F3 sb (.obj 84 (rowsOfI [a0,a1,a2,a3,a4,a5,a6,a7,a8,a9,a10,a11,a12]++scW (Wr (la+1)) (Wr (ro+1)) go pe (mxI lo line.size) (Wr (Wr (ro-go)+1))));have qF5:=St.ov nb.symm qF3 (p:=.obj 84 (rowsOfI [a0,a1,a2,a3,a4,a5,a6,a7,a8,a9,a10,a11,a12]++scW (Wr (la+1)) (Wr (ro+1)) go pe (mxI lo line.size) (Wr (Wr (ro-go)+1))));have hleF5:∀ X,St.le (S.upd sb X) ((F3.upd sb (.obj 84 (rowsOfI [a0,a1,a2,a3,a4,a5,a6,a7,a8,a9,a10,a11,a12]++scW (Wr (la+1)) (Wr (ro+1)) go pe (mxI lo line.size) (Wr (Wr (ro-go)+1))))).upd sb X):=fun X=>by rw[St.upd_upd];exact hleF3 X
       generalize F3.upd sb (.obj 84 (rowsOfI [a0,a1,a2,a3,a4,a5,a6,a7,a8,a9,a10,a11,a12]++scW (Wr (la+1)) (Wr (ro+1)) go pe (mxI lo line.size) (Wr (Wr (ro-go)+1))))=F5 at *;rw[rows_there] at hF5;have h6:¬ pv.kind=6:=by rintro h6;rw[h6] at hb11;revert hb11;decide
       -- F5 F,hF5 h,hleF5 hle,Wr (ro+1) rows,go gone,qF5 q
       refine⟨[],(.free 0 (.free 1 (.free 2 (.free 3 (.free 4 (.free 5 (.free 6 (.free 7 (.free 8 (.free 9 (.one 10 (.free 11 (.free 12 (.free 13 (.one 14 .done .none)))) .none))))))))))),_,by decide +kernel,?_,fun _ _ h=>⟨_,.inl rfl,h⟩⟩
       conv=>whnf
       refine⟨_,_,hF5,?_⟩;conv=>whnf
       refine⟨_,_,hF5,?_⟩;conv=>whnf
       refine⟨_,_,hF5,?_⟩;conv=>whnf
       refine⟨_,_,⟨rfl,rfl⟩,?_,AV.leS_refl _ _ _⟩;refine Eq.mp (congrArg (fun X=>St.le (S.upd sb (.obj 84 X)) (F5.upd sb (.obj 84 (rowsOfI [a0,a1,a2,a3,a4,a5,a6,a7,a8,a9,a10,a11,a12]++scW (Wr (la+1)) (Wr (ro+1)) (go) (mxI pe (Wr (Wr (ro+1)-go))) (mxI lo line.size) (Wr (Wr (ro+1)-go)))))) ?_) (hleF5 _)
       unfold scC wgStep;rw[show isRowK pv.kind=true from by unfold isRowK;simp only[hb3,hb4,hb11];rfl]
       dsimp only;rw[if_neg h6,hks];rfl
     | false=>
       conv=>whnf
       have hrk:isRowK pv.kind=false:=by unfold isRowK;simp only[hb3,hb4,hb11];rfl
       cases hb6:(pv.kind == 6) with
       | true=>
         have h6:pv.kind=6:=by simpa using hb6
         conv=>whnf
         refine⟨[],(.free 0 (.free 1 (.free 2 (.free 3 (.free 4 (.free 5 (.free 6 (.free 7 (.free 8 (.free 9 (.free 10 (.free 11 (.one 12 .done .none))))))))))))),_,by decide +kernel,?_,fun _ _ h=>⟨_,.inl rfl,h⟩⟩
         conv=>whnf
         refine⟨_,_,hF3,?_⟩;conv=>whnf
         refine⟨_,_,qF3,?_⟩;conv=>whnf
         refine⟨_,_,hF3,?_⟩;conv=>whnf
         refine⟨[],(.free 0 (.free 1 (.free 2 (.free 3 (.free 4 (.free 5 (.free 6 (.free 7 (.free 8 (.free 9 (.one 10 .done .none))))))))))),_,by decide +kernel,?_,fun _ _ h=>⟨_,.inl rfl,h⟩⟩
         conv=>whnf
         refine⟨_,_,St.upd_same _ _ _,?_⟩;conv=>whnf
         refine⟨_,_,St.ov nb.symm qF3,?_⟩;conv=>whnf
         refine⟨_,_,St.upd_same _ _ _,?_⟩;conv=>whnf
         rw[St.upd_upd];refine hK _ _ ?_;clear hK hQ K;rw[rowsS_len];change awp _ _ _ _ (F3.upd sb (.obj 84 (rowsOfI [a0,a1,a2,a3,a4,a5,a6,a7,a8,a9,a10,a11,a12]++scW (Wr (la+1)) ro (Wr (go+pv.ids.length)) pe (mxI lo line.size) (Wr (Wr (ro-go)-pv.ids.length))))) _;have hF5:=St.upd_same F3 sb (.obj 84 (rowsOfI [a0,a1,a2,a3,a4,a5,a6,a7,a8,a9,a10,a11,a12]++scW (Wr (la+1)) ro (Wr (go+pv.ids.length)) pe (mxI lo line.size) (Wr (Wr (ro-go)-pv.ids.length))));have qF5:=St.ov nb.symm qF3 (p:=.obj 84 (rowsOfI [a0,a1,a2,a3,a4,a5,a6,a7,a8,a9,a10,a11,a12]++scW (Wr (la+1)) ro (Wr (go+pv.ids.length)) pe (mxI lo line.size) (Wr (Wr (ro-go)-pv.ids.length))));have hleF5:∀ X,St.le (S.upd sb X) ((F3.upd sb (.obj 84 (rowsOfI [a0,a1,a2,a3,a4,a5,a6,a7,a8,a9,a10,a11,a12]++scW (Wr (la+1)) ro (Wr (go+pv.ids.length)) pe (mxI lo line.size) (Wr (Wr (ro-go)-pv.ids.length))))).upd sb X):=fun X=>by rw[St.upd_upd];exact hleF3 X
         generalize F3.upd sb (.obj 84 (rowsOfI [a0,a1,a2,a3,a4,a5,a6,a7,a8,a9,a10,a11,a12]++scW (Wr (la+1)) ro (Wr (go+pv.ids.length)) pe (mxI lo line.size) (Wr (Wr (ro-go)-pv.ids.length))))=F5 at *;rw[gone_there] at hF5
         -- F5 F,hF5 h,hleF5 hle,ro rows,Wr (go+pv.ids.length) gone,qF5 q
         refine⟨[],(.free 0 (.free 1 (.free 2 (.free 3 (.free 4 (.free 5 (.free 6 (.free 7 (.free 8 (.free 9 (.one 10 (.free 11 (.free 12 (.free 13 (.one 14 .done .none)))) .none))))))))))),_,by decide +kernel,?_,fun _ _ h=>⟨_,.inl rfl,h⟩⟩
         conv=>whnf
         refine⟨_,_,hF5,?_⟩;conv=>whnf
         refine⟨_,_,hF5,?_⟩;conv=>whnf
         refine⟨_,_,hF5,?_⟩;conv=>whnf
         refine⟨_,_,⟨rfl,rfl⟩,?_,AV.leS_refl _ _ _⟩;refine Eq.mp (congrArg (fun X=>St.le (S.upd sb (.obj 84 X)) (F5.upd sb (.obj 84 (rowsOfI [a0,a1,a2,a3,a4,a5,a6,a7,a8,a9,a10,a11,a12]++scW (Wr (la+1)) (ro) (Wr (go+pv.ids.length)) (mxI pe (Wr (ro-Wr (go+pv.ids.length)))) (mxI lo line.size) (Wr (ro-Wr (go+pv.ids.length))))))) ?_) (hleF5 _)
         unfold scC wgStep;rw[hrk];dsimp only;rw[if_pos h6,hks];rfl
       | false=>
         have h6:¬ pv.kind=6:=by simpa using hb6
         conv=>whnf
         refine hK _ _ ?_;clear hK hQ K
         -- F3 F,hF3 h,hleF3 hle,ro rows,go gone,qF3 q
         refine⟨[],(.free 0 (.free 1 (.free 2 (.free 3 (.free 4 (.free 5 (.free 6 (.free 7 (.free 8 (.free 9 (.one 10 (.free 11 (.free 12 (.free 13 (.one 14 .done .none)))) .none))))))))))),_,by decide +kernel,?_,fun _ _ h=>⟨_,.inl rfl,h⟩⟩
         conv=>whnf
         refine⟨_,_,hF3,?_⟩;conv=>whnf
         refine⟨_,_,hF3,?_⟩;conv=>whnf
         refine⟨_,_,hF3,?_⟩;conv=>whnf
         refine⟨_,_,⟨rfl,rfl⟩,?_,AV.leS_refl _ _ _⟩;refine Eq.mp (congrArg (fun X=>St.le (S.upd sb (.obj 84 X)) (F3.upd sb (.obj 84 (rowsOfI [a0,a1,a2,a3,a4,a5,a6,a7,a8,a9,a10,a11,a12]++scW (Wr (la+1)) (ro) (go) (mxI pe (Wr (ro-go))) (mxI lo line.size) (Wr (ro-go)))))) ?_) (hleF3 _)
         unfold scC wgStep;rw[hrk];dsimp only;rw[if_neg h6,hks];rfl
def weighAV(r:WgV×Int×Int):AV:=if r.2.2=0 then .tu [.ag (wgC r.1),.nili] else .tu [.ag (wgC r.1),.ifc 94 (.imm [.int .i64 2,.int .i64 r.2.1,.int .i64 r.2.2])]
structure ScS (S F:St) (b2 b4:Nat) (v:WgV):Prop where
 w2:F b2=some (.obj 55 (wgC (wgZero 0)))
 w4:F b4=some (.obj 84 (scC v))
 ls:St.le S F
 n24:b2≠b4
 z2:S b2=none
 z4:S b4=none
theorem ScS.more{S F:St}{b2 b4:Nat}{v:WgV}(h:ScS S F b2 b4 v){b:Nat}(hb:F b=none)(o:Own):ScS S (F.upd b o) b2 b4 v:=
 ⟨St.up hb h.w2,St.up hb h.w4,St.le_upd' h.ls hb o,h.n24,h.z2,h.z4⟩
theorem ScS.put{S F:St}{b2 b4:Nat}{v:WgV}(h:ScS S F b2 b4 v)(v':WgV):ScS S (F.upd b4 (.obj 84 (scC v'))) b2 b4 v':=
 ⟨St.ov h.n24 h.w2,St.upd_same _ _ _,St.le_upd h.ls h.z4 _,h.n24,h.z2,h.z4⟩
theorem wgStep_kinds(v:WgV)(k n len:Int):(wgStep v k n len).kinds=upK v.kinds k.toNat:=rfl
theorem Weigh_ok{m:Int}(hM:G 1=some [.int .i64 m])(hG:GS G)(hA:GAs G)(s:ByteArray)(hs:s.size≤200000)(S:St) :
 Triple P (C G) 21 [.str s] S fun o S'=>o=.ret (weighAV (wgGo (linesOf s) 0 (wgZero s.size)))∧S'=S:=by
 have hl:=fun S=>lines_ok (G:=G) hM s (by omega) S
 have hsz:=linesOf_size s
 have hll:=linesOf_len s
 generalize linesOf s=ls at *;have hsz2:∀ x∈ls,x.size≤8999999:=fun x hx=>Nat.le_trans (hsz x hx) (by omega)
 obtain⟨W,hW⟩:∃ W,wgGo ls 0 (wgZero s.size)=W:=⟨_,rfl⟩;rw[hW];refine triple_of_awp (hT G) hm Tryz.func21 rfl (by decide +kernel) rfl (by decide +kernel) (by show 1≤_;decide +kernel) rfl ?_
 refine awp_seq2 fun K hK hQ=>?_
 conv=>whnf
 intro b2 hb2;conv=>whnf
 refine hK _ _ ?_;clear hK hQ K;refine awp_seq2 fun K hK hQ=>?_
 conv=>whnf
 intro b4 hb4;conv=>whnf
 refine hK _ _ ?_;clear hK hQ K;have hE:ScS S ((S.upd b2 (.obj 55 (wgC (wgZero 0)))).upd b4 (.obj 84 (scC (wgZero s.size)))) b2 b4 (wgZero s.size):=
  ⟨St.up hb4 (St.upd_same _ _ _),St.upd_same _ _ _,St.le_upd' (St.le_upd' (St.le_refl S) hb2 _) hb4 _,(fun e=>by rw[← e,St.upd_same] at hb4;cases hb4),hb2,St.no hb4⟩
 change awp _ _ _ _ ((S.upd b2 (.obj 55 (wgC (wgZero 0)))).upd b4 (.obj 84 (scC (wgZero s.size)))) _;generalize (S.upd b2 (.obj 55 (wgC (wgZero 0)))).upd b4 (.obj 84 (scC (wgZero s.size)))=F at *;clear hb2 hb4;refine awp_seq2 fun K hK hQ=>?_
 conv=>whnf
 refine(hl _).mono ?_;rintro o T ⟨rfl,rfl⟩;conv=>whnf
 intro _;conv=>whnf
 refine⟨⟨Nat×WgV,fun x=>[(0,.str s),(2,.ref b2 0),(4,.ref b4 0),(12,.sl .any 1 (rowsS ls)),(13,.int .i64 (ls.length:Int)),(14,.int .i64 (x.1:Int))],
  fun x S1=>ScS S S1 b2 b4 x.2∧x.1≤ls.length∧x.2.kinds.length=13∧x.2.bytes=s.size∧wgGo (ls.drop x.1) x.1 x.2=W,fun x=>ls.length-x.1⟩,
  ⟨(0,wgZero s.size),⟨rfl,rfl,rfl,⟨rfl,rfl⟩,congrArg (AV.int .i64) (by rw[rowsS_len]),rfl,trivial⟩,_,St.leW_refl _,hE,by dsimp only;omega,rfl,rfl,hW⟩,?_⟩
 clear hE;rintro⟨i,v⟩ S1 ⟨g1,g2,g3,g5,g4⟩;dsimp only at g1 g2 g3 g4 g5;conv=>whnf
 refine split_of (fun hlt=>?_) (fun hlt=>?_)
 ·have hlt:i<ls.length:=by have:=of_decide_eq_true hlt;omega
  have hd:ls.drop i=ls[i]::ls.drop (i+1):=List.drop_eq_getElem_cons hlt
  rw[hd] at g4;unfold wgGo at g4;have ga:(rowsS ls)[(i:Int).toNat]? = some [.str ls[i]]:=by simp[rowsS,hlt]
  have hx:=hsz2 ls[i] (List.getElem_mem hlt)
  have w1:IntKind.i64.wrap ((i:Int)+1)=((i+1:Nat):Int):=wrap_nat (by omega)
  generalize ls[i]=x at *;have hp:=fun S=>Parse_line_ok (G:=G) hG hA x hx S
  have hkk:=parseP_kind x
  obtain⟨pp,hpp⟩:∃ p,parseP x=p:=⟨_,rfl⟩;rw[hpp] at hp hkk g4;obtain⟨pv,pe⟩:=pp;dsimp only at hp hkk g4;conv=>whnf
  refine⟨_,⟨by omega,ga⟩,?_⟩
  conv=>whnf
  refine(hp _).mono ?_;rintro o T2 ⟨rfl,rfl⟩;conv=>whnf
  intro b7 hb7;conv=>whnf
  refine⟨_,_,St.upd_same _ _ _,?_⟩;conv=>whnf
  rw[St.upd_upd];have hE:=g1.more hb7 (.obj 90 (stepM pv));have q7:=St.upd_same T2 b7 (.obj 90 (stepM pv));have hst:=fun F h=>scale_step_ok (G:=G) v g3 pv hkk x F b4 h
  unfold stepM at hE q7;generalize T2.upd b7 (.obj 90 [.int .i64 pv.kind,.str pv.num,.sl .any 3 (rowsO pv.ops),.sl .any 2 (rowsP pv.pieces),.str pv.bound,.sl .any 1 (rowsI pv.lits),.sl .any 1 (rowsS pv.ids),.int .i64 pv.n6,.str pv.s7,.str pv.s8])=F1 at *;clear g1 hb7
  by_cases he:pe=0
  ·subst he;rw[if_pos rfl] at g4;conv=>whnf
   refine⟨_,_,q7,?_⟩;conv=>whnf
   refine(hst _ hE.w4).mono ?_;rintro o T3 ⟨rfl,rfl⟩;conv=>whnf
   exact⟨(i+1,wgStep v pv.kind pv.ids.length x.size),⟨rfl,rfl,rfl,⟨rfl,rfl⟩,rfl,congrArg _ w1,trivial⟩,⟨_,St.leW_refl _,hE.put _,hlt,by rw[wgStep_kinds,upK_len];exact g3,g5,g4⟩,by show ls.length-(i+1)<ls.length-i;omega⟩
  ·rw[if_neg he] at g4;rw[show(pe != 0)=true from by simpa using he]
   conv=>whnf
   intro b31 hb31;conv=>whnf
   refine⟨_,_,St.up hb31 hE.w2,?_⟩;rw[when_iff];refine⟨rfl,?_⟩;rw[forceL_eq,setRange_all (by rfl)]
   conv=>whnf
   refine hQ _ _ _ (by simp) ?_
   conv=>whnf
   refine⟨_,_,St.upd_same _ _ _,?_⟩;conv=>whnf
   have n31:b31≠b2:=fun e=>by rw[e,hE.w2] at hb31;cases hb31
   rw[← g4,show weighAV (wgZero 0,Wr ((i:Int)+1),pe)=.tu [.ag (wgC (wgZero 0)),.ifc 94 (.imm [.int .i64 2,.int .i64 (Wr ((i:Int)+1)),.int .i64 pe])] from if_neg he];refine⟨_,_,⟨rfl,rfl⟩,St.le_upd (St.le_upd' hE.ls hb31 _) hE.z2 _,?_⟩;exact⟨AV.leS_refl _ _ _,⟨rfl,St.le_none hE.ls hb31,_,_,St.ov n31 (St.upd_same _ _ _),rfl⟩,rfl⟩
 ·have hlt:¬ i<ls.length:=by have:=of_decide_eq_false hlt;omega
  rw[List.drop_of_length_le (by omega)] at g4
  unfold wgGo at g4;subst g4;conv=>whnf
  refine hK _ _ ?_;clear hK hQ K;obtain⟨la,bb,ro,go,pe,lo,ks⟩:=v;dsimp only at g3 g5;subst g5;obtain⟨a0,a1,a2,a3,a4,a5,a6,a7,a8,a9,a10,a11,a12,rfl⟩:=len13 g3;have h4:=g1.w4;refine awp_seq2 fun K hK hQ=>?_
  conv=>whnf
  refine⟨_,_,h4,?_⟩;conv=>whnf
  refine⟨_,_,h4,?_⟩;conv=>whnf
  refine⟨_,_,St.upd_same _ _ _,?_⟩;conv=>whnf
  rw[St.upd_upd];refine hK _ _ ?_;clear hK hQ K;conv=>whnf
  refine⟨_,_,St.upd_same _ _ _,?_⟩;conv=>whnf
  refine⟨_,_,St.ov g1.n24 g1.w2,?_⟩;rw[when_iff];refine⟨rfl,?_⟩;rw[forceL_eq,setRange_all (by rfl)]
  conv=>whnf
  refine⟨_,_,St.upd_same _ _ _,?_⟩;conv=>whnf
  rw[show weighAV (⟨la,s.size,ro,go,pe,lo,[a0,a1,a2,a3,a4,a5,a6,a7,a8,a9,a10,a11,a12]⟩,0,0)=.tu [.ag (wgC ⟨la,s.size,ro,go,pe,lo,[a0,a1,a2,a3,a4,a5,a6,a7,a8,a9,a10,a11,a12]⟩),.nili] from if_pos rfl];exact⟨_,_,⟨rfl,rfl⟩,St.le_upd (St.le_upd g1.ls g1.z4 _) g1.z2 _,AV.leS_refl _ _ _⟩
theorem sort_two(a b:Int):([a,b].mergeSort fun x y=>decide (x≤y))=if a≤b then [a,b] else [b,a]:=by
 by_cases h:a≤b
 ·simp[List.mergeSort,List.MergeSort.Internal.splitInTwo,List.merge,h]
 ·simp[List.mergeSort,List.MergeSort.Internal.splitInTwo,List.merge,h]
theorem compact_two(a b:Int):(Lib.compact [a,b]).length=if a=b then 1 else 2:=by
 by_cases h:a=b
 ·subst h
  simp[Lib.compact,Lib.compactUpTo,Lib.keeps,List.range,List.range.loop]
 ·have h':¬ b=a:=fun e=>h e.symm
  simp[Lib.compact,Lib.compactUpTo,Lib.keeps,List.range,List.range.loop,h,h']
theorem diffV_two(a b:Int):diffV [a,b]=(a != b):=by
 unfold diffV;rw[sort_two]
 by_cases h:a=b
 ·subst h;simp[compact_two]
 ·have h':¬ b=a:=fun e=>h e.symm
  split<;>simp[compact_two,h,h']
def exV:List VarV:=[(⟨#[120]⟩,0,2),(⟨#[121]⟩,0,2)]
def exM1:ModelV:=⟨exV,[conKV],false,[]⟩
def exM2:ModelV:=⟨exV,[conKV],true,[(-1,0)]⟩
def conZ:ConV→Int:=fun _=>0
def holdsZ:List Int→ConV→Bool:=fun v _=>!greatV v && (at0 v 0 != at0 v 1)
theorem holdsZ_eq{v:List Int}(hv:v.length=2):holdsKV v=holdsZ v conKV:=by
 match v,hv with
 | [a,b],_=>
  show(!greatV [a,b] && diffV [a,b])=(!greatV [a,b] && (a != b))
  rw[diffV_two]
theorem know_of{m:ModelV}(hv:m.vars=exV)(hc:m.cons=[conKV])(hg:m.goal.length≤1):Know G m conZ holdsZ:=by
 refine⟨⟨?_,?_,by omega⟩,⟨?_,?_,by omega,?_⟩,?_,?_⟩
 ·rw[hv];decide
 ·rw[hc];decide
 ·rw[hv];decide
 ·rw[hc];decide
 ·rw[hc];intro c hcc;rw[List.mem_singleton] at hcc;subst hcc;decide
 ·intro c hcc S;rw[hc,List.mem_singleton] at hcc;subst hcc;rw[hv];exact conK_ok S
 ·intro _ v hvl c hcc S;rw[hc,List.mem_singleton] at hcc;subst hcc;rw[hv] at hvl;have h:=HoldsK_ok (G:=G) (vals:=v) hvl S;rw[holdsZ_eq hvl] at h;exact h
theorem know1:Know G exM1 conZ holdsZ:=know_of rfl rfl (by decide)
theorem know2:Know G exM2 conZ holdsZ:=know_of rfl rfl (by decide)
theorem ex1_count:(solsA exM1 conZ holdsZ).length=6∧(productV exM1 conZ 100000).2=true:=by decide +kernel
theorem ex1_answer:(answerV exM1 conZ holdsZ).1.kind=3∧(answerV exM1 conZ holdsZ).1.worth=0∧(answerV exM1 conZ holdsZ).1.count=0∧(answerV exM1 conZ holdsZ).1.vals=[0,1]∧(answerV exM1 conZ holdsZ).2=true:=by decide +kernel
theorem ex2_answer:(answerV exM2 conZ holdsZ).1.kind=4∧(answerV exM2 conZ holdsZ).1.worth=-2∧(answerV exM2 conZ holdsZ).1.count=0∧(answerV exM2 conZ holdsZ).1.vals=[2,0]∧(answerV exM2 conZ holdsZ).2=true:=by decide +kernel
theorem ex2_all:(allV exM2 conZ holdsZ).1.kind=6∧(allV exM2 conZ holdsZ).1.worth=0∧(allV exM2 conZ holdsZ).1.count=6∧(allV exM2 conZ holdsZ).1.vals=[]∧(allV exM2 conZ holdsZ).2=true:=by decide +kernel
mutual
def AV.dl:AV→AV→Prop
 | .sl sh k es,y=>(match y with
  | .sl .any k' es'=>k=k'∧AV.dlR es es'
  | y=>AV.sl sh k es=y)
 | .nils,y=>(match y with
  | .sl .any _ es=>es=[]
  | y=>AV.nils=y)
 | .ag xs,y=>(match y with
  | .ag ys=>AV.dlL xs ys
  | y=>AV.ag xs=y)
 | x,y=>x=y
def AV.dlL:List AV→List AV→Prop
 | [],ys=>ys=[]
 | x::xs,ys=>(match ys with
    | []=>False
    | y::ys=>AV.dl x y∧AV.dlL xs ys)
def AV.dlR:List (List AV)→List (List AV)→Prop
 | [],ys=>ys=[]
 | x::xs,ys=>(match ys with
    | []=>False
    | y::ys=>AV.dlL x y∧AV.dlR xs ys)
end
theorem AV.dlL_len:∀ {xs ys:List AV},AV.dlL xs ys→xs.length=ys.length
 | [],ys,h=>by unfold AV.dlL at h;rw[h]
 | x::xs,[],h=>by unfold AV.dlL at h;exact h.elim
 | x::xs,y::ys,h=>by unfold AV.dlL at h;simp[AV.dlL_len h.2]
theorem AV.dlR_len:∀ {xs ys:List (List AV)},AV.dlR xs ys→xs.length=ys.length
 | [],ys,h=>by unfold AV.dlR at h;rw[h]
 | x::xs,[],h=>by unfold AV.dlR at h;exact h.elim
 | x::xs,y::ys,h=>by unfold AV.dlR at h;simp[AV.dlR_len h.2]
mutual
theorem AV.dl_sound{w:World}{rd}:∀ (x y:AV) (v:Value),AV.dl x y→Rel w rd x v→Rel w rd y v
 | .sl sh k es,y,v,h,hx=>by
  unfold AV.dl at h
  split at h
  ·rename_i k' es'
   obtain⟨rfl,h⟩:=h;have hlen:=AV.dlR_len h;simp only[Rel] at hx ⊢
   rcases hx with ⟨_,rfl,hz⟩ | ⟨b,off,cap,h1,h2,h3,_,h5⟩
   ·exact .inl ⟨rfl,List.eq_nil_of_length_eq_zero hlen.symm,hz.any⟩
   ·exact .inr ⟨b,off,cap,by rw[← hlen];exact h1,by rw[← hlen];exact h2,h3,trivial,AV.dlR_sound es es' k b off h h5⟩
  ·subst h;exact hx
 | .nils,y,v,h,hx=>by
  unfold AV.dl at h
  split at h
  ·subst h;simp only[Rel] at hx ⊢;exact .inl ⟨rfl,trivial,.inl hx⟩
  ·subst h;exact hx
 | .ag xs,y,v,h,hx=>by
  unfold AV.dl at h
  split at h
  ·simp only[Rel] at hx ⊢;obtain⟨cs,rfl,hu,h1⟩:=hx;exact⟨cs,rfl,AV.dlL_sound xs _ _ h hu,h1⟩
  ·subst h;exact hx
 | .int k n,y,v,h,hx=>by unfold AV.dl at h;subst h;exact hx
 | .bool k,y,v,h,hx=>by unfold AV.dl at h;subst h;exact hx
 | .str k,y,v,h,hx=>by unfold AV.dl at h;subst h;exact hx
 | .nilp,y,v,h,hx=>by unfold AV.dl at h;subst h;exact hx
 | .ref b off,y,v,h,hx=>by unfold AV.dl at h;subst h;exact hx
 | .imm xs,y,v,h,hx=>by unfold AV.dl at h;subst h;exact hx
 | .arr b off n cap,y,v,h,hx=>by unfold AV.dl at h;subst h;exact hx
 | .tu xs,y,v,h,hx=>by unfold AV.dl at h;subst h;exact hx
 | .nilf,y,v,h,hx=>by unfold AV.dl at h;subst h;exact hx
 | .fn f xs ys,y,v,h,hx=>by unfold AV.dl at h;subst h;exact hx
 | .nili,y,v,h,hx=>by unfold AV.dl at h;subst h;exact hx
 | .ifc t x,y,v,h,hx=>by unfold AV.dl at h;subst h;exact hx
 | .nilm,y,v,h,hx=>by unfold AV.dl at h;subst h;exact hx
 | .mp r,y,v,h,hx=>by unfold AV.dl at h;subst h;exact hx
 | .raw u,y,v,h,hx=>by unfold AV.dl at h;subst h;exact hx
 | .top,y,v,h,hx=>by unfold AV.dl at h;subst h;exact hx
theorem AV.dlL_sound{w:World}{rd}:∀ (xs ys:List AV) (vs:List Value),AV.dlL xs ys→RelL w rd xs vs→RelL w rd ys vs
 | [],ys,vs,h,hx=>by unfold AV.dlL at h;subst h;exact hx
 | x::xs,[],vs,h,hx=>by unfold AV.dlL at h;exact h.elim
 | x::xs,y::ys,vs,h,hx=>by
   unfold AV.dlL at h;simp only[RelL] at hx ⊢;obtain⟨u,us,rfl,h1,h2⟩:=hx;exact⟨u,us,rfl,AV.dl_sound x y u h.1 h1,AV.dlL_sound xs ys us h.2 h2⟩
theorem AV.dlA_sound{w:World}{rd}:∀ (xs ys:List AV) (b off:Nat),AV.dlL xs ys→RelAt w rd b off xs→RelAt w rd b off ys
 | [],ys,b,off,h,hx=>by unfold AV.dlL at h;subst h;exact hx
 | x::xs,[],b,off,h,hx=>by unfold AV.dlL at h;exact h.elim
 | x::xs,y::ys,b,off,h,hx=>by
   unfold AV.dlL at h;simp only[RelAt] at hx ⊢;obtain⟨⟨v,h1,h2⟩,h3⟩:=hx;exact⟨⟨v,h1,AV.dl_sound x y v h.1 h2⟩,AV.dlA_sound xs ys b (off+1) h.2 h3⟩
theorem AV.dlR_sound{w:World}{rd}:∀ (xs ys:List (List AV)) (k b off:Nat),AV.dlR xs ys→RelRows w rd k b off xs→RelRows w rd k b off ys
 | [],ys,k,b,off,h,hx=>by unfold AV.dlR at h;subst h;exact hx
 | x::xs,[],k,b,off,h,hx=>by unfold AV.dlR at h;exact h.elim
 | x::xs,y::ys,k,b,off,h,hx=>by
   unfold AV.dlR at h;simp only[RelRows] at hx ⊢;obtain⟨⟨h1,h2⟩,h3⟩:=hx;exact⟨⟨by rw[← AV.dlL_len h.1];exact h1,AV.dlA_sound x y b off h.1 h2⟩,AV.dlR_sound xs ys k b (off+k) h.2 h3⟩
end
mutual
theorem AV.dl_refl:∀ x:AV,AV.dl x x
 | .sl sh k es=>by
  unfold AV.dl
  cases sh with
  | any=>exact⟨rfl,AV.dlR_refl es⟩
  | _=>rfl
 | .nils=>rfl
 | .ag xs=>by unfold AV.dl;exact AV.dlL_refl xs
 | .int k n=>rfl
 | .bool k=>rfl
 | .str k=>rfl
 | .nilp=>rfl
 | .ref b off=>rfl
 | .imm xs=>rfl
 | .arr b off n cap=>rfl
 | .tu xs=>rfl
 | .nilf=>rfl
 | .fn f xs ys=>rfl
 | .nili=>rfl
 | .ifc t x=>rfl
 | .nilm=>rfl
 | .mp r=>rfl
 | .raw u=>rfl
 | .top=>rfl
theorem AV.dlL_refl:∀ xs:List AV,AV.dlL xs xs
 | []=>rfl
 | x::xs=>⟨AV.dl_refl x,AV.dlL_refl xs⟩
theorem AV.dlR_refl:∀ xs:List (List AV),AV.dlR xs xs
 | []=>rfl
 | x::xs=>⟨AV.dlL_refl x,AV.dlR_refl xs⟩
end
theorem Triple.argsD{P:Program}{C:Cx}{f:FuncId}{args args':List AV}{S:St}{Q:Out→St→Prop}(h:Triple P C f args' S Q)(hle:AV.dlL args args'):Triple P C f args S Q:=
 ⟨fun w vs hY hg hr=>h.out w vs hY hg (AV.dlL_sound args args' _ hle hr)⟩
theorem take_ext3{α:Type}{a b:List α}{i:Nat}(hl:a.length=b.length)(hi:i<a.length)(ht:a.take i=b.take i):a[i]=b[i]'(by omega)→a.take (i+1)=b.take (i+1):=fun he=>by
 have h1:a.take (i+1)=a.take i++[a[i]]:=by simp[List.take_append_getElem]
 have h2:b.take (i+1)=b.take i++[b[i]'(by omega)]:=by simp[List.take_append_getElem]
 rw[h1,h2,ht,he]
theorem sameInts_ok(a b:List Int)(hlen:a.length≤1000000000)(S:St):Triple P (C G) 18 [.sl .any 1 (rowsI a),.sl .any 1 (rowsI b)] S fun o S'=>o=.ret (.bool (decide (a=b)))∧S'=S:=by
 refine triple_of_awp (hT G) hm Tryz.func18 rfl (by decide +kernel) rfl (by decide +kernel) (by show 2≤_;decide +kernel) rfl ?_
 conv=>whnf
 intro _;conv=>whnf
 intro _;conv=>whnf
 refine split_of (fun hne=>?_) (fun hne=>?_)
 ·have hne:¬ a=b:=fun e=>by rw[e] at hne;simp at hne
  rw[decide_eq_false hne];conv=>whnf
  exact⟨_,_,⟨rfl,rfl⟩,St.le_refl _,AV.leS_refl _ _ _⟩
 have hl:a.length=b.length:=by rw[rowsI_len,rowsI_len] at hne;simp at hne;omega
 conv=>whnf
 refine⟨⟨Nat,fun i=>[(0,.sl .any 1 (rowsI a)),(1,.sl .any 1 (rowsI b)),(5,.int .i64 (i:Int))],fun i S'=>S'=S∧i≤a.length∧a.take i=b.take i,fun i=>a.length-i⟩,
  ⟨0,⟨⟨rfl,rfl⟩,⟨rfl,rfl⟩,rfl,trivial⟩,_,St.leW_refl _,rfl,by omega,rfl⟩,?_⟩
 rintro(i:Nat) S' ⟨rfl,hi,ht⟩;conv=>whnf
 intro _;conv=>whnf
 refine split_of (fun hlt=>?_) (fun hlt=>?_)
 ·have hlt:i<a.length:=by have:=of_decide_eq_true hlt;rw[rowsI_len] at this;omega
  have ga:(rowsI a)[(i:Int).toNat]? = some [.int .i64 a[i]]:=by simp[rowsI,hlt]
  have gb:(rowsI b)[(i:Int).toNat]? = some [.int .i64 (b[i]'(by omega))]:=by simp[rowsI,show i<b.length by omega]
  have hx:=take_ext3 hl hlt ht
  have hnx:a[i]≠b[i]'(by omega)→¬ a=b:=fun hn e=>hn (by subst e;rfl)
  generalize a[i]=x at *;generalize b[i]'(by omega)=y at *
  conv=>whnf
  refine⟨[],(.free 0 (.free 1 (.free 2 (.free 3 (.free 4 (.free 5 (.free 6 (.free 7 (.free 8 .done))))))))),_,by decide +kernel,?_,fun _ _ h=>⟨_,.inl rfl,h⟩⟩
  conv=>whnf
  refine⟨_,⟨by omega,ga⟩,?_⟩
  conv=>whnf
  refine⟨_,⟨by omega,gb⟩,?_⟩
  conv=>whnf
  refine split_of (fun hd=>?_) (fun hd=>?_)
  ·have hd:¬ x=y:=by simpa using hd
   rw[decide_eq_false (hnx hd)];conv=>whnf
   exact⟨_,_,⟨rfl,rfl⟩,St.le_refl _,AV.leS_refl _ _ _⟩
  have hd:x=y:=by simpa using hd
  have w1:IntKind.i64.wrap ((i:Int)+1)=((i+1:Nat):Int):=wrap_nat (by omega)
  conv=>whnf
  exact⟨i+1,⟨⟨rfl,rfl⟩,⟨rfl,rfl⟩,congrArg _ w1,trivial⟩,⟨_,St.leW_refl _,rfl,hlt,hx hd⟩,by show a.length-(i+1)<a.length-i;omega⟩
 ·have hlt:i=a.length:=by have:=of_decide_eq_false hlt;rw[rowsI_len] at this;omega
  have he:a=b:=by
   subst hlt;rw[List.take_length,hl,List.take_length] at ht;exact ht
  rw[decide_eq_true he];conv=>whnf
  exact⟨_,_,⟨rfl,rfl⟩,St.le_refl _,AV.leS_refl _ _ _⟩
def kA:ByteArray:=⟨#[42,32,97,10,112,111,108,32,49,10,114,117,112,32,62,61,32,48,32,59,10,100,101,108,32,105,100,32,51,32,52,10]⟩
def kB:ByteArray:=⟨#[42,32,97,10,110,111,116,104,105,110,103,10]⟩
theorem kA_weigh:(wgGo (linesOf kA) 0 (wgZero kA.size)).2.2=0∧(wgGo (linesOf kA) 0 (wgZero kA.size)).1.lines=4∧(wgGo (linesOf kA) 0 (wgZero kA.size)).1.bytes=32∧(wgGo (linesOf kA) 0 (wgZero kA.size)).1.rows=2∧(wgGo (linesOf kA) 0 (wgZero kA.size)).1.gone=2∧(wgGo (linesOf kA) 0 (wgZero kA.size)).1.peak=2∧(wgGo (linesOf kA) 0 (wgZero kA.size)).1.longest=10∧(wgGo (linesOf kA) 0 (wgZero kA.size)).1.kinds.length=13:=by decide +kernel
theorem kB_weigh:∃ e:Int,e≠0∧(wgGo (linesOf kB) 0 (wgZero kB.size)).2.2=e∧(wgGo (linesOf kB) 0 (wgZero kB.size)).1.kinds=zero13:=⟨_,by decide +kernel,rfl,by decide +kernel⟩
theorem sameVerdict_ok(a b:VerV)(hlen:a.vals.length≤1000000000)(S:St):Triple P (C G) 14 [.ag (rowVd a),.ag (rowVd b)] S fun o S'=>o=.ret (.bool (a.kind == b.kind && (a.worth == b.worth && (a.count == b.count && decide (a.vals=b.vals)))))∧S'=S:=by
 have hsi:=fun S=>sameInts_ok (G:=G) a.vals b.vals hlen S
 obtain⟨res,hres⟩:∃ r,(a.kind == b.kind && (a.worth == b.worth && (a.count == b.count && decide (a.vals=b.vals))))=r:=⟨_,rfl⟩;rw[hres];unfold rowVd;generalize rowsI a.vals=ra at *;generalize rowsI b.vals=rb at *;generalize decide (a.vals=b.vals)=dv at *;refine triple_of_awp (hT G) hm Tryz.func14 rfl (by decide +kernel) rfl (by decide +kernel) (by show 2≤_;decide +kernel) rfl ?_
 refine awp_seq2 fun K hK hQ=>?_
 conv=>whnf
 intro b2 hb2;conv=>whnf
 intro b3 hb3;conv=>whnf
 refine hK _ _ ?_;clear hK hQ K;have q3:=St.upd_same (S.upd b2 (.obj 39 [.int .i64 a.kind,.int .i64 0,.int .i64 a.worth,.int .i64 a.count,.sl .any 1 ra])) b3 (.obj 39 [.int .i64 b.kind,.int .i64 0,.int .i64 b.worth,.int .i64 b.count,.sl .any 1 rb]);have q2:=St.up (p:=.obj 39 [.int .i64 b.kind,.int .i64 0,.int .i64 b.worth,.int .i64 b.count,.sl .any 1 rb]) hb3 (St.upd_same S b2 (.obj 39 [.int .i64 a.kind,.int .i64 0,.int .i64 a.worth,.int .i64 a.count,.sl .any 1 ra]));have hle:=St.le_upd' (St.le_upd' (St.le_refl S) hb2 (.obj 39 [.int .i64 a.kind,.int .i64 0,.int .i64 a.worth,.int .i64 a.count,.sl .any 1 ra])) hb3 (.obj 39 [.int .i64 b.kind,.int .i64 0,.int .i64 b.worth,.int .i64 b.count,.sl .any 1 rb]);generalize (S.upd b2 (.obj 39 [.int .i64 a.kind,.int .i64 0,.int .i64 a.worth,.int .i64 a.count,.sl .any 1 ra])).upd b3 (.obj 39 [.int .i64 b.kind,.int .i64 0,.int .i64 b.worth,.int .i64 b.count,.sl .any 1 rb])=T at *;refine awp_seq2 fun K hK hQ=>?_
 refine awp_region ?_;refine aOps_cut 6 fun K' hK'=>?_
 conv=>whnf
 refine⟨_,_,q2,?_⟩;conv=>whnf
 refine⟨_,_,q3,?_⟩;conv=>whnf
 refine hK' _ _ ?_;clear hK' K'
 cases hk:(a.kind == b.kind) with
 | false=>
   conv=>whnf
   refine hK _ _ ?_;clear hK hQ K;conv=>whnf
   exact⟨_,_,⟨congrArg (fun z=>Out.ret (AV.bool z)) (by rw[← hres,hk];rfl:_=res),rfl⟩,hle,AV.leS_refl _ _ _⟩
 | true=>
   skip
   refine aOps_cut 7 fun K' hK'=>?_
   conv=>whnf
   refine⟨_,_,q2,?_⟩;conv=>whnf
   refine⟨_,_,q3,?_⟩;conv=>whnf
   refine hK' _ _ ?_;clear hK' K';refine aOps_cut 6 fun K' hK'=>?_
   conv=>whnf
   refine⟨_,_,q2,?_⟩;conv=>whnf
   refine⟨_,_,q3,?_⟩;conv=>whnf
   refine hK' _ _ ?_;clear hK' K'
   cases hw:(a.worth == b.worth) with
   | false=>
     conv=>whnf
     refine hK _ _ ?_;clear hK hQ K;conv=>whnf
     exact⟨_,_,⟨congrArg (fun z=>Out.ret (AV.bool z)) (by rw[← hres,hk,hw];rfl:_=res),rfl⟩,hle,AV.leS_refl _ _ _⟩
   | true=>
     skip
     refine aOps_cut 7 fun K' hK'=>?_
     conv=>whnf
     refine⟨_,_,q2,?_⟩;conv=>whnf
     refine⟨_,_,q3,?_⟩;conv=>whnf
     refine hK' _ _ ?_;clear hK' K'
     cases hc:(a.count == b.count) with
     | false=>
       conv=>whnf
       refine hK _ _ ?_;clear hK hQ K;conv=>whnf
       exact⟨_,_,⟨congrArg (fun z=>Out.ret (AV.bool z)) (by rw[← hres,hk,hw,hc];rfl:_=res),rfl⟩,hle,AV.leS_refl _ _ _⟩
     | true=>
       conv=>whnf
       refine⟨_,_,q2,?_⟩;conv=>whnf
       refine⟨_,_,q3,?_⟩;conv=>whnf
       refine(hsi _).mono ?_;rintro o T' ⟨rfl,rfl⟩;conv=>whnf
       refine hK _ _ ?_;clear hK hQ K;conv=>whnf
       exact⟨_,_,⟨congrArg (fun z=>Out.ret (AV.bool z)) (by rw[← hres,hk,hw,hc];rfl:_=res),rfl⟩,hle,AV.leS_refl _ _ _⟩
set_option maxHeartbeats 4000000
theorem known21_ok{m:Int}(hM:G 1=some [.int .i64 m])(hG:GS G)(hA:GAs G)(S:St) :
 Triple P (C G) 8 [] S fun o S'=>o=.ret (.bool true)∧S'=S:=by
 have hc1:=fun S=>Count_ok (G:=G) know1 S
 have ha1:=fun S=>Answer_ok (G:=G) know1 S
 have ha2:=fun S=>Answer_ok (G:=G) know2 S
 have hl2:=fun S=>All_ok (G:=G) know2 S
 have hwA:=fun S=>Weigh_ok (G:=G) hM hG hA kA (by decide) S
 have hwB:=fun S=>Weigh_ok (G:=G) hM hG hA kB (by decide) S
 obtain⟨e1,e2⟩:=ex1_count;rw[e1,e2] at hc1;obtain⟨f1,f2,f3,f4,f5⟩:=ex1_answer;obtain⟨g1,g2,g3,g4,g5⟩:=ex2_answer;obtain⟨i1,i2,i3,i4,i5⟩:=ex2_all;generalize answerV exM1 conZ holdsZ=V1 at *;generalize answerV exM2 conZ holdsZ=V2 at *;generalize allV exM2 conZ holdsZ=V3 at *;obtain⟨⟨a1,a2,a3,a4⟩,a5⟩:=V1;obtain⟨⟨b1,b2,b3,b4⟩,b5⟩:=V2;obtain⟨⟨c1,c2,c3,c4⟩,c5⟩:=V3;dsimp only at f1 f2 f3 f4 f5 g1 g2 g3 g4 g5 i1 i2 i3 i4 i5;subst f1 f2 f3 f4 f5 g1 g2 g3 g4 g5 i1 i2 i3 i4 i5;obtain⟨j1,j2,j3,j4,j5,j6,j7,j8⟩:=kA_weigh;obtain⟨e,k1,k2,k3⟩:=kB_weigh;generalize wgGo (linesOf kA) 0 (wgZero kA.size)=WA at *;generalize wgGo (linesOf kB) 0 (wgZero kB.size)=WB at *;obtain⟨⟨la,bb,ro,go,pe,lo,ks⟩,ln,er⟩:=WA;obtain⟨⟨la',bb',ro',go',pe',lo',ks'⟩,ln',er'⟩:=WB;dsimp only at j1 j2 j3 j4 j5 j6 j7 j8 k2 k3;subst j1 j2 j3 j4 j5 j6 j7 k2 k3;obtain⟨y0,y1,y2,y3,y4,y5,y6,y7,y8,y9,y10,y11,y12,rfl⟩:=len13 j8;unfold weighAV at hwA hwB;unfold rowVd at ha1 ha2 hl2;dsimp only at hc1 ha1 ha2 hl2 hwA hwB;rw[show IntKind.i64.wrap ((6:Nat):Int)=6 by decide] at hc1
 rw[if_pos rfl] at hwA;rw[if_neg k1] at hwB;have hv1:∀ S,Triple P (C G) 14 [.ag (rowVd ⟨3,0,0,[0,1]⟩),.ag (rowVd ⟨3,0,0,[0,1]⟩)] S fun o S'=>o=.ret (.bool true)∧S'=S:=fun S=>by
  have h:=sameVerdict_ok (G:=G) ⟨3,0,0,[0,1]⟩ ⟨3,0,0,[0,1]⟩ (by decide) S
  simpa using h
 have hv2:∀ S,Triple P (C G) 14 [.ag (rowVd ⟨4,-2,0,[2,0]⟩),.ag (rowVd ⟨4,-2,0,[2,0]⟩)] S fun o S'=>o=.ret (.bool true)∧S'=S:=fun S=>by
  have h:=sameVerdict_ok (G:=G) ⟨4,-2,0,[2,0]⟩ ⟨4,-2,0,[2,0]⟩ (by decide) S
  simpa using h
 have hv3:∀ S,Triple P (C G) 14 [.ag (rowVd ⟨6,0,6,[]⟩),.ag (rowVd ⟨6,0,6,[]⟩)] S fun o S'=>o=.ret (.bool true)∧S'=S:=fun S=>by
  have h:=sameVerdict_ok (G:=G) ⟨6,0,6,[]⟩ ⟨6,0,6,[]⟩ (by decide) S
  simpa using h
 refine triple_of_awp (hT G) hm Tryz.func8 rfl (by decide +kernel) rfl (by decide +kernel) (by show 0≤_;decide +kernel) rfl ?_
 refine awp_seq2 fun K hK hQ=>?_
 conv=>whnf
 refine hK _ _ ?_;clear hK hQ K;refine awp_seq2 fun K hK hQ=>?_
 conv=>whnf
 intro b16 hb16;conv=>whnf
 intro b17 hb17;conv=>whnf
 intro b19 hb19;conv=>whnf
 intro b1 hb1;conv=>whnf
 refine⟨_,_,St.upd_same _ _ _,?_⟩;conv=>whnf
 rw[St.upd_upd];have hz1:S b1=none:=St.le_none (St.le_upd' (St.le_upd' (St.le_upd' (St.le_refl S) hb16 _) hb17 _) hb19 _) hb1;have hle:St.le S ((((S.upd b16 (.tip 49 ((C G).T 49).size 2)).upd b17 (.tip 3 ((C G).T 3).size 2)).upd b19 (.tip 51 ((C G).T 51).size 1)).upd b1 (.obj 26 [.sl (.own b16) ((C G).T 49).size [[.str ⟨#[120]⟩,.int .i64 0,.int .i64 2],[.str ⟨#[121]⟩,.int .i64 0,.int .i64 2]],.sl (.own b19) ((C G).T 51).size [[.int .i64 3,.int .i64 0,.nils,.int .i64 0,.int .i64 0,.int .i64 0,.int .i64 0,.sl (.own b17) ((C G).T 3).size [[.int .i64 0],[.int .i64 1]],.nils,.nils]],.bool false,.nils])):=St.le_upd' (St.le_upd' (St.le_upd' (St.le_upd' (St.le_refl S) hb16 _) hb17 _) hb19 _) hb1 _;have q1:=St.upd_same (((S.upd b16 (.tip 49 ((C G).T 49).size 2)).upd b17 (.tip 3 ((C G).T 3).size 2)).upd b19 (.tip 51 ((C G).T 51).size 1)) b1 (.obj 26 [.sl (.own b16) ((C G).T 49).size [[.str ⟨#[120]⟩,.int .i64 0,.int .i64 2],[.str ⟨#[121]⟩,.int .i64 0,.int .i64 2]],.sl (.own b19) ((C G).T 51).size [[.int .i64 3,.int .i64 0,.nils,.int .i64 0,.int .i64 0,.int .i64 0,.int .i64 0,.sl (.own b17) ((C G).T 3).size [[.int .i64 0],[.int .i64 1]],.nils,.nils]],.bool false,.nils]);generalize (((S.upd b16 (.tip 49 ((C G).T 49).size 2)).upd b17 (.tip 3 ((C G).T 3).size 2)).upd b19 (.tip 51 ((C G).T 51).size 1)).upd b1 (.obj 26 [.sl (.own b16) ((C G).T 49).size [[.str ⟨#[120]⟩,.int .i64 0,.int .i64 2],[.str ⟨#[121]⟩,.int .i64 0,.int .i64 2]],.sl (.own b19) ((C G).T 51).size [[.int .i64 3,.int .i64 0,.nils,.int .i64 0,.int .i64 0,.int .i64 0,.int .i64 0,.sl (.own b17) ((C G).T 3).size [[.int .i64 0],[.int .i64 1]],.nils,.nils]],.bool false,.nils])=T at *;refine hK _ _ ?_;clear hK hQ K;refine awp_seq2 fun K hK hQ=>?_
 conv=>whnf
 refine⟨_,_,q1,?_⟩;conv=>whnf
 refine(Triple.argsD (hc1 _) (by simp[AV.dlL,AV.dl,AV.dlR,rowM,rowsV,rowV,rowsC,rowC,rowsI,rowsTm,rowsLL,exM1,exM2,exV,conKV];exact⟨rfl,rfl,rfl⟩)).mono ?_
 rintro o T' ⟨rfl,rfl⟩;conv=>whnf
 refine hK _ _ ?_;clear hK hQ K;refine awp_seq2 fun K hK hQ=>?_
 conv=>whnf
 refine⟨_,_,q1,?_⟩;conv=>whnf
 refine(Triple.argsD (ha1 _) (by simp[AV.dlL,AV.dl,AV.dlR,rowM,rowsV,rowV,rowsC,rowC,rowsI,rowsTm,rowsLL,exM1,exM2,exV,conKV];exact⟨rfl,rfl,rfl⟩)).mono ?_
 rintro o T' ⟨rfl,rfl⟩;conv=>whnf
 intro b4 hb4;conv=>whnf
 refine⟨_,_,St.upd_same _ _ _,?_⟩;conv=>whnf
 rw[St.upd_upd];have hle2:=St.le_upd' hle hb4 (.obj 39 [.int .i64 3,.int .i64 0,.int .i64 0,.int .i64 0,.sl .any 1 (rowsI [0,1])]);have q4:=St.upd_same T' b4 (.obj 39 [.int .i64 3,.int .i64 0,.int .i64 0,.int .i64 0,.sl .any 1 (rowsI [0,1])]);have q1':=St.up (p:=(.obj 39 [.int .i64 3,.int .i64 0,.int .i64 0,.int .i64 0,.sl .any 1 (rowsI [0,1])])) hb4 q1;clear hle q1;generalize T'.upd b4 (.obj 39 [.int .i64 3,.int .i64 0,.int .i64 0,.int .i64 0,.sl .any 1 (rowsI [0,1])])=T at *
 -- R4
 refine hK _ _ ?_;clear hK hQ K;refine awp_seq2 fun K hK hQ=>?_
 conv=>whnf
 intro b32 hb32;conv=>whnf
 refine⟨_,_,St.up hb32 q1',?_⟩;conv=>whnf
 refine⟨_,_,St.upd_same _ _ _,?_⟩;conv=>whnf
 rw[St.upd_upd];have q1:=St.upd_same (T.upd b32 (.tip 67 ((C G).T 67).size 1)) b1 (.obj 26 [.sl (.own b16) ((C G).T 49).size [[.str ⟨#[120]⟩,.int .i64 0,.int .i64 2],[.str ⟨#[121]⟩,.int .i64 0,.int .i64 2]],.sl (.own b19) ((C G).T 51).size [[.int .i64 3,.int .i64 0,.nils,.int .i64 0,.int .i64 0,.int .i64 0,.int .i64 0,.sl (.own b17) ((C G).T 3).size [[.int .i64 0],[.int .i64 1]],.nils,.nils]],.bool true,.sl (.own b32) ((C G).T 67).size [[.int .i64 (-1),.int .i64 0]]]);have hn41:b4≠b1:=fun e=>by rw[e,q1'] at q4;cases q4
 have hle:=St.le_upd (St.le_upd' hle2 hb32 (.tip 67 ((C G).T 67).size 1)) hz1 (.obj 26 [.sl (.own b16) ((C G).T 49).size [[.str ⟨#[120]⟩,.int .i64 0,.int .i64 2],[.str ⟨#[121]⟩,.int .i64 0,.int .i64 2]],.sl (.own b19) ((C G).T 51).size [[.int .i64 3,.int .i64 0,.nils,.int .i64 0,.int .i64 0,.int .i64 0,.int .i64 0,.sl (.own b17) ((C G).T 3).size [[.int .i64 0],[.int .i64 1]],.nils,.nils]],.bool true,.sl (.own b32) ((C G).T 67).size [[.int .i64 (-1),.int .i64 0]]])
 replace q4:=St.ov (p:=(.obj 26 [.sl (.own b16) ((C G).T 49).size [[.str ⟨#[120]⟩,.int .i64 0,.int .i64 2],[.str ⟨#[121]⟩,.int .i64 0,.int .i64 2]],.sl (.own b19) ((C G).T 51).size [[.int .i64 3,.int .i64 0,.nils,.int .i64 0,.int .i64 0,.int .i64 0,.int .i64 0,.sl (.own b17) ((C G).T 3).size [[.int .i64 0],[.int .i64 1]],.nils,.nils]],.bool true,.sl (.own b32) ((C G).T 67).size [[.int .i64 (-1),.int .i64 0]]])) hn41 (St.up (p:=.tip 67 ((C G).T 67).size 1) hb32 q4)
 clear hle2 q1';generalize (T.upd b32 (.tip 67 ((C G).T 67).size 1)).upd b1 (.obj 26 [.sl (.own b16) ((C G).T 49).size [[.str ⟨#[120]⟩,.int .i64 0,.int .i64 2],[.str ⟨#[121]⟩,.int .i64 0,.int .i64 2]],.sl (.own b19) ((C G).T 51).size [[.int .i64 3,.int .i64 0,.nils,.int .i64 0,.int .i64 0,.int .i64 0,.int .i64 0,.sl (.own b17) ((C G).T 3).size [[.int .i64 0],[.int .i64 1]],.nils,.nils]],.bool true,.sl (.own b32) ((C G).T 67).size [[.int .i64 (-1),.int .i64 0]]])=T2 at *
 -- R5
 refine hK _ _ ?_;clear hK hQ K;refine awp_seq2 fun K hK hQ=>?_
 conv=>whnf
 refine⟨_,_,q1,?_⟩;conv=>whnf
 refine(Triple.argsD (ha2 _) (by simp[AV.dlL,AV.dl,AV.dlR,rowM,rowsV,rowV,rowsC,rowC,rowsI,rowsTm,rowsLL,exM1,exM2,exV,conKV];exact⟨rfl,⟨rfl,rfl⟩,rfl⟩)).mono ?_
 rintro o T' ⟨rfl,rfl⟩;conv=>whnf
 intro b6 hb6;conv=>whnf
 refine⟨_,_,St.upd_same _ _ _,?_⟩;conv=>whnf
 rw[St.upd_upd]
 replace hle:=St.le_upd' hle hb6 (.obj 39 [.int .i64 4,.int .i64 0,.int .i64 (-2),.int .i64 0,.sl .any 1 (rowsI [2,0])])
 have q6:=St.upd_same T' b6 (.obj 39 [.int .i64 4,.int .i64 0,.int .i64 (-2),.int .i64 0,.sl .any 1 (rowsI [2,0])])
 replace q1:=St.up (p:=(.obj 39 [.int .i64 4,.int .i64 0,.int .i64 (-2),.int .i64 0,.sl .any 1 (rowsI [2,0])])) hb6 q1
 replace q4:=St.up (p:=(.obj 39 [.int .i64 4,.int .i64 0,.int .i64 (-2),.int .i64 0,.sl .any 1 (rowsI [2,0])])) hb6 q4
 generalize T'.upd b6 (.obj 39 [.int .i64 4,.int .i64 0,.int .i64 (-2),.int .i64 0,.sl .any 1 (rowsI [2,0])])=T at *
 -- R6
 refine hK _ _ ?_;clear hK hQ K;refine awp_seq2 fun K hK hQ=>?_
 conv=>whnf
 refine⟨_,_,q1,?_⟩;conv=>whnf
 refine(Triple.argsD (hl2 _) (by simp[AV.dlL,AV.dl,AV.dlR,rowM,rowsV,rowV,rowsC,rowC,rowsI,rowsTm,rowsLL,exM1,exM2,exV,conKV];exact⟨rfl,⟨rfl,rfl⟩,rfl⟩)).mono ?_
 rintro o T' ⟨rfl,rfl⟩;conv=>whnf
 intro b8 hb8;conv=>whnf
 refine⟨_,_,St.upd_same _ _ _,?_⟩;conv=>whnf
 rw[St.upd_upd]
 replace hle:=St.le_upd' hle hb8 (.obj 39 [.int .i64 6,.int .i64 0,.int .i64 0,.int .i64 6,.sl .any 1 (rowsI [])])
 have q8:=St.upd_same T' b8 (.obj 39 [.int .i64 6,.int .i64 0,.int .i64 0,.int .i64 6,.sl .any 1 (rowsI [])])
 replace q1:=St.up (p:=(.obj 39 [.int .i64 6,.int .i64 0,.int .i64 0,.int .i64 6,.sl .any 1 (rowsI [])])) hb8 q1
 replace q4:=St.up (p:=(.obj 39 [.int .i64 6,.int .i64 0,.int .i64 0,.int .i64 6,.sl .any 1 (rowsI [])])) hb8 q4
 replace q6:=St.up (p:=(.obj 39 [.int .i64 6,.int .i64 0,.int .i64 0,.int .i64 6,.sl .any 1 (rowsI [])])) hb8 q6
 generalize T'.upd b8 (.obj 39 [.int .i64 6,.int .i64 0,.int .i64 0,.int .i64 6,.sl .any 1 (rowsI [])])=T at *
 -- R7
 refine hK _ _ ?_;clear hK hQ K;refine awp_seq2 fun K hK hQ=>?_
 conv=>whnf
 refine⟨_,_,q8,?_⟩;conv=>whnf
 refine(Triple.argsD (hv3 _) (by simp[AV.dlL,AV.dl,AV.dlR,rowVd,rowsI])).mono ?_
 rintro o T' ⟨rfl,rfl⟩;conv=>whnf
 refine hK _ _ ?_;clear hK hQ K;refine awp_seq2 fun K hK hQ=>?_
 conv=>whnf
 refine(hwA _).mono ?_;rintro o T' ⟨rfl,rfl⟩;conv=>whnf
 intro b10 hb10;conv=>whnf
 refine⟨_,_,St.upd_same _ _ _,?_⟩;rw[when_iff];refine⟨rfl,?_⟩;rw[forceL_eq,setRange_all (by rfl)]
 conv=>whnf
 rw[St.upd_upd]
 replace hle:=St.le_upd' hle hb10 (.obj 55 (wgC ⟨4,32,2,2,2,10,[y0,y1,y2,y3,y4,y5,y6,y7,y8,y9,y10,y11,y12]⟩))
 have q10:=St.upd_same T' b10 (.obj 55 (wgC ⟨4,32,2,2,2,10,[y0,y1,y2,y3,y4,y5,y6,y7,y8,y9,y10,y11,y12]⟩))
 replace q4:=St.up (p:=(.obj 55 (wgC ⟨4,32,2,2,2,10,[y0,y1,y2,y3,y4,y5,y6,y7,y8,y9,y10,y11,y12]⟩))) hb10 q4
 replace q6:=St.up (p:=(.obj 55 (wgC ⟨4,32,2,2,2,10,[y0,y1,y2,y3,y4,y5,y6,y7,y8,y9,y10,y11,y12]⟩))) hb10 q6
 clear q8 q1;change K .normal _ (T'.upd b10 (.obj 55 (wgC ⟨4,32,2,2,2,10,[y0,y1,y2,y3,y4,y5,y6,y7,y8,y9,y10,y11,y12]⟩)));generalize T'.upd b10 (.obj 55 (wgC ⟨4,32,2,2,2,10,[y0,y1,y2,y3,y4,y5,y6,y7,y8,y9,y10,y11,y12]⟩))=T3 at *
 -- R10
 refine hK _ _ ?_;clear hK hQ K;refine awp_seq2 fun K hK hQ=>?_
 conv=>whnf
 refine(hwB _).mono ?_;rintro o T' ⟨rfl,rfl⟩;conv=>whnf
 intro b12 hb12;conv=>whnf
 refine⟨_,_,St.upd_same _ _ _,?_⟩;rw[when_iff];refine⟨rfl,?_⟩;rw[forceL_eq,setRange_all (by rfl)]
 conv=>whnf
 rw[St.upd_upd]
 replace hle:=St.le_upd' hle hb12 (.obj 55 (wgC ⟨la',bb',ro',go',pe',lo',zero13⟩))
 replace q4:=St.up (p:=(.obj 55 (wgC ⟨la',bb',ro',go',pe',lo',zero13⟩))) hb12 q4
 replace q6:=St.up (p:=(.obj 55 (wgC ⟨la',bb',ro',go',pe',lo',zero13⟩))) hb12 q6
 replace q10:=St.up (p:=(.obj 55 (wgC ⟨la',bb',ro',go',pe',lo',zero13⟩))) hb12 q10
 change K .normal _ (T'.upd b12 (.obj 55 (wgC ⟨la',bb',ro',go',pe',lo',zero13⟩)));generalize T'.upd b12 (.obj 55 (wgC ⟨la',bb',ro',go',pe',lo',zero13⟩))=T4 at *
 -- R11
 refine hK _ _ ?_;clear hK hQ K;refine awp_seq2 fun K hK hQ=>?_
 refine awp_seq2 fun K0 hK0 hQ0=>?_
 refine awp_region ?_;refine aOps_cut 6 fun K' hK'=>?_
 conv=>whnf
 refine hK' _ _ ?_;clear hK' K';refine aOps_cut 4 fun K' hK'=>?_
 conv=>whnf
 refine hK' _ _ ?_;clear hK' K';refine aOps_cut 4 fun K' hK'=>?_
 conv=>whnf
 refine hK' _ _ ?_;clear hK' K';refine aOps_cut 7 fun K' hK'=>?_
 conv=>whnf
 refine⟨_,_,q4,?_⟩;conv=>whnf
 intro b76 hb76;conv=>whnf
 refine(Triple.argsD (hv1 _) (by simp[AV.dlL,AV.dl,AV.dlR,rowVd,rowsI];rfl)).mono ?_
 rintro o T' ⟨rfl,rfl⟩;conv=>whnf
 refine hK' _ _ ?_;clear hK' K'
 replace hle:=St.le_upd' hle hb76 (.tip 3 ((C G).T 3).size 2)
 replace q6:=St.up (p:=.tip 3 ((C G).T 3).size 2) hb76 q6
 replace q10:=St.up (p:=.tip 3 ((C G).T 3).size 2) hb76 q10
 generalize T4.upd b76 (.tip 3 ((C G).T 3).size 2)=T5 at *;conv=>whnf
 refine⟨_,_,q6,?_⟩;conv=>whnf
 intro b84 hb84;conv=>whnf
 refine(Triple.argsD (hv2 _) (by simp[AV.dlL,AV.dl,AV.dlR,rowVd,rowsI];rfl)).mono ?_
 rintro o T' ⟨rfl,rfl⟩;conv=>whnf
 refine hK0 _ _ ?_;clear hK0 hQ0 K0
 replace hle:=St.le_upd' hle hb84 (.tip 3 ((C G).T 3).size 2)
 replace q10:=St.up (p:=.tip 3 ((C G).T 3).size 2) hb84 q10
 generalize T5.upd b84 (.tip 3 ((C G).T 3).size 2)=T6 at *;conv=>whnf
 refine hK _ _ ?_;clear hK hQ K q4 q6;refine awp_seq2 fun K hK hQ=>?_
 refine awp_region ?_;refine aOps_cut 6 fun K' hK'=>?_
 conv=>whnf
 refine hK' _ _ ?_;clear hK' K';refine aOps_cut 5 fun K' hK'=>?_
 conv=>whnf
 refine⟨_,_,q10,?_⟩;conv=>whnf
 refine hK' _ _ ?_;clear hK' K';refine aOps_cut 5 fun K' hK'=>?_
 conv=>whnf
 refine⟨_,_,q10,?_⟩;conv=>whnf
 refine hK' _ _ ?_;clear hK' K';refine aOps_cut 5 fun K' hK'=>?_
 conv=>whnf
 refine⟨_,_,q10,?_⟩;conv=>whnf
 refine hK' _ _ ?_;clear hK' K';refine aOps_cut 5 fun K' hK'=>?_
 conv=>whnf
 refine⟨_,_,q10,?_⟩;conv=>whnf
 refine hK' _ _ ?_;clear hK' K';refine aOps_cut 5 fun K' hK'=>?_
 conv=>whnf
 refine⟨_,_,q10,?_⟩;conv=>whnf
 refine hK' _ _ ?_;clear hK' K';conv=>whnf
 refine⟨_,_,q10,?_⟩;conv=>whnf
 refine hK _ _ ?_;clear hK hQ K;conv=>whnf
 exact⟨_,_,⟨rfl,rfl⟩,hle,AV.leS_refl _ _ _⟩
def FzF(β β':List Nat)(S S':St):Prop:=∀ b o,b ∉ β→S b=some o→S' b=some o∧b ∉ β'
theorem FzF.trans{β β' β'':List Nat}{a b c:St}(h:FzF β β' a b)(k:FzF β' β'' b c):FzF β β'' a c:=fun x o hx h1=>k x o (h x o hx h1).2 (h x o hx h1).1
theorem FzF.le{β:List Nat}{a b:St}(h:St.le a b):FzF β β a b:=fun x o hx h1=>⟨h _ _ h1,hx⟩
structure AsksF (G:Nat→Option (List AV)) (gy:FuncId) (cy:List AV) (J:List (List Int)→List Nat→St→Prop) (ok:List Int→Prop):Prop where
 dep:∀ d β S S',(∀ b∈β,S' b=S b)→J d β S→J d β S'
 at_:∀ d β S,J d β S→∀ b∈β,S b≠none
 step:∀ d β v S,J d β S→ok v→(d++[v]).length≤100000→Triple P (C G) gy (.sl .any 1 (rowsI v)::cy) S fun o S'=>o=.ret (.bool true)∧∃ β',J (d++[v]) β' S'∧FzF β β' S S'
theorem AsksF.le{gy:FuncId}{cy:List AV}{J:List (List Int)→List Nat→St→Prop}{ok:List Int→Prop}(h:AsksF G gy cy J ok){d:List (List Int)}{β:List Nat}{S S':St}(hj:J d β S)(hs:St.le S S'):J d β S':=
 h.dep d β S S' (fun b hb=>by
  cases hh:S b with
  | none=>exact absurd hh (h.at_ d β S hj b hb)
  | some o=>exact hs _ _ hh) hj
theorem goesF_ok{m:ModelV}(hz:SzM m){conF:ConV→Int}(hcon:ConOk G m conF)(h0:checkE m conF=0){holdsF:List Int→ConV→Bool}(hho:∀ v,v.length=m.vars.length→HoldsOk G m v (holdsF v))
 {gy:FuncId} {y1 y2 y3:Nat} {J:List (List Int)→List Nat→St→Prop} (ha:AsksF G gy [.ref y1 0,.ref y2 0,.ref y3 0] J fun v=>solK m conF holdsF v=true) :
 ∀ (n:Nat) (p:List Int),p.length+n=m.vars.length→∀ (d:List (List Int)) (β:List Nat) (S:St),(d++solsF m (solK m conF holdsF) p).length≤100000→J d β S→
  Triple P (C G) 30 [.ag (rowM m),.sl .any 1 (rowsI p),.fn (.func gy) [] [.ref y1 0,.ref y2 0,.ref y3 0]] S fun o S'=>o=.ret (.bool true)∧∃ β',FzF β β' S S'∧J (d++solsF m (solK m conF holdsF) p) β' S':=by
 obtain⟨hvo,hv0,hv32⟩:=right_vars h0;have hlv:=rowsV_len m.vars;intro n
 induction n with
 | zero=>
   intro p hp d β S hlim hJ;have hpl:p.length=m.vars.length:=by omega
   have hso:=fun S=>(Solution_ok (G:=G) hz hcon p (by omega) (fun _ _=>hho p hpl) S)
   have hcl:=fun S=>CloneI_ok (G:=G) (rowsI p) (by rw[rowsI_len];omega) S
   have hli:=rowsI_len p
   have hsl:solsF m (solK m conF holdsF) p=if solK m conF holdsF p then [p] else []:=by
    unfold solsF;rw[List.drop_of_length_le (by omega)]
    unfold allFrom
    cases h:solK m conF holdsF p<;>simp[h]
   rw[hsl] at hlim ⊢;have hres:∀ b,solK m conF holdsF p=b→solutionV m conF (holdsF p) p=b:=fun b h=>h
   unfold rowM at hso ⊢;have hq:solutionV m conF (holdsF p) p=solK m conF holdsF p:=rfl;rw[hq] at hso;clear hq hres;have hstep:=fun β=>ha.step d β p
   generalize solK m conF holdsF p=sb at *;refine triple_of_awp (hT G) hm Tryz.func30 rfl (by decide +kernel) rfl (by decide +kernel) (by show 3≤_;decide +kernel) rfl ?_
   refine awp_seq2 fun K hK hQ=>?_
   conv=>whnf
   intro b3 hb3;conv=>whnf
   refine hK _ _ ?_;clear hK hQ K;have q3:=St.upd_same S b3 (.obj 26 [.sl .any 3 (rowsV m.vars),.sl .any 10 (rowsC m.cons),.bool m.hasGoal,.sl .any 2 (rowsTm m.goal)]);have hle:=St.le_upd' (St.le_refl S) hb3 (.obj 26 [.sl .any 3 (rowsV m.vars),.sl .any 10 (rowsC m.cons),.bool m.hasGoal,.sl .any 2 (rowsTm m.goal)]);have hJ':=ha.le hJ hle;generalize S.upd b3 (.obj 26 [.sl .any 3 (rowsV m.vars),.sl .any 10 (rowsC m.cons),.bool m.hasGoal,.sl .any 2 (rowsTm m.goal)])=T at *;refine awp_seq2 fun K hK hQ=>?_
   conv=>whnf
   intro _;rw[hli];conv=>whnf
   refine⟨_,_,q3,?_⟩;conv=>whnf
   intro _;rw[hlv];conv=>whnf
   rw[show((p.length:Int) == (m.vars.length:Int))=true by rw[hpl];simp]
   conv=>whnf
   refine⟨_,_,q3,?_⟩;conv=>whnf
   refine(hso _).mono ?_;rintro o T' ⟨rfl,rfl⟩
   cases hsb:sb with
   | false=>
     conv=>whnf
     refine hQ _ _ _ (by simp) ?_
     conv=>whnf
     exact⟨_,_,⟨rfl,β,FzF.le hle,by rw[hsb];simpa using hJ'⟩,St.le_refl _,AV.leS_refl _ _ _⟩
   | true=>
     conv=>whnf
     refine(hcl _).mono ?_;rintro o T'' ⟨rfl,rfl⟩;conv=>whnf
     refine(hstep _ _ hJ' hsb (by rw[hsb] at hlim;exact hlim)).mono ?_
     rintro o S' ⟨rfl,β2,hJ2,hfr⟩;conv=>whnf
     refine hQ _ _ _ (by simp) ?_
     conv=>whnf
     exact⟨_,_,⟨rfl,β2,FzF.trans (FzF.le hle) hfr,by rw[hsb];exact hJ2⟩,St.le_refl _,AV.leS_refl _ _ _⟩
 | succ n ih=>
   intro p hp d β S hlim hJ;have hpl:p.length<m.vars.length:=by omega
   have hli:=rowsI_len p
   have ga:(rowsV m.vars)[(p.length:Int).toNat]? = some (rowV m.vars[p.length]):=by simp[rowsV,hpl]
   obtain⟨v1,v2,v3,v4⟩:=hvo _ (List.getElem_mem hpl);have hst:=solsF_step m (solK m conF holdsF) p hpl;have hin:=fun x=>ih (p++[x]) (by simp;omega)
   have hcl:=fun S=>CloneI_own (G:=G) (rowsI p) (by rw[rowsI_len];omega) S
   generalize m.vars[p.length]=v at *;obtain⟨nm,lo,up⟩:=v;dsimp only at v1 v2 v3 v4 hst;unfold rowV at ga;dsimp only at ga;rw[hst] at hlim ⊢;clear hst ih;generalize hg:(fun x=>solsF m (solK m conF holdsF) (p++[x]))=g at *
   have hg':∀ x,solsF m (solK m conF holdsF) (p++[x])=g x:=fun x=>congrFun hg x
   simp only[hg'] at hin;unfold rowM at hin ⊢;refine triple_of_awp (hT G) hm Tryz.func30 rfl (by decide +kernel) rfl (by decide +kernel) (by show 3≤_;decide +kernel) rfl ?_
   refine awp_seq2 fun K hK hQ=>?_
   conv=>whnf
   intro b3 hb3;conv=>whnf
   refine hK _ _ ?_;clear hK hQ K;have n3:b3 ∉ β:=fun h=>ha.at_ d β S hJ b3 h hb3
   have q3:=St.upd_same S b3 (.obj 26 [.sl .any 3 (rowsV m.vars),.sl .any 10 (rowsC m.cons),.bool m.hasGoal,.sl .any 2 (rowsTm m.goal)])
   have hle:=St.le_upd' (St.le_refl S) hb3 (.obj 26 [.sl .any 3 (rowsV m.vars),.sl .any 10 (rowsC m.cons),.bool m.hasGoal,.sl .any 2 (rowsTm m.goal)])
   have hJ':=ha.le hJ hle
   generalize S.upd b3 (.obj 26 [.sl .any 3 (rowsV m.vars),.sl .any 10 (rowsC m.cons),.bool m.hasGoal,.sl .any 2 (rowsTm m.goal)])=T at *;refine awp_seq2 fun K hK hQ=>?_
   conv=>whnf
   intro _;rw[hli];conv=>whnf
   refine⟨_,_,q3,?_⟩;conv=>whnf
   intro _;rw[hlv];conv=>whnf
   rw[show((p.length:Int) == (m.vars.length:Int))=false by simp;omega]
   conv=>whnf
   refine hK _ _ ?_;clear hK hQ K;refine awp_seq2 fun K hK hQ=>?_
   conv=>whnf
   refine⟨_,_,q3,?_⟩;conv=>whnf
   intro _;rw[hli];conv=>whnf
   refine⟨_,⟨by omega,ga⟩,?_⟩
   conv=>whnf
   intro b7 hb7;conv=>whnf
   refine⟨_,_,St.upd_same _ _ _,?_⟩;conv=>whnf
   rw[St.upd_upd];refine hK _ _ ?_;clear hK hQ K;have n7:b7 ∉ β:=fun h=>ha.at_ d β T hJ' b7 h hb7
   have q7:=St.upd_same T b7 (.obj 49 [.str nm,.int .i64 lo,.int .i64 up])
   have q3':=St.up (p:=.obj 49 [.str nm,.int .i64 lo,.int .i64 up]) hb7 q3
   have hle7:=St.le_upd' hle hb7 (.obj 49 [.str nm,.int .i64 lo,.int .i64 up])
   have hJ7:=ha.le hJ' (St.le_upd' (St.le_refl T) hb7 (.obj 49 [.str nm,.int .i64 lo,.int .i64 up]))
   generalize T.upd b7 (.obj 49 [.str nm,.int .i64 lo,.int .i64 up])=U at *;clear q3 hle hJ';refine awp_seq2 fun K hK hQ=>?_
   conv=>whnf
   refine⟨_,_,q7,?_⟩;conv=>whnf
   refine⟨⟨Nat×List Nat,fun z=>[(1,.sl .any 1 (rowsI p)),(2,.fn (.func gy) [] [.ref y1 0,.ref y2 0,.ref y3 0]),(3,.ref b3 0),(7,.ref b7 0),(8,.int .i64 (lo+(z.1:Int)))],
    fun z S1=>FzF β z.2 S S1∧S1 b3=some (.obj 26 [.sl .any 3 (rowsV m.vars),.sl .any 10 (rowsC m.cons),.bool m.hasGoal,.sl .any 2 (rowsTm m.goal)])∧S1 b7=some (.obj 49 [.str nm,.int .i64 lo,.int .i64 up])∧b3 ∉ z.2∧b7 ∉ z.2∧J (d++((rangeI lo up).take z.1).flatMap g) z.2 S1∧lo+(z.1:Int)≤up+1,fun z=>(up+1-(lo+(z.1:Int))).toNat⟩,
    ⟨(0,β),⟨⟨rfl,rfl⟩,rfl,rfl,rfl,congrArg (AV.int .i64) (Int.add_zero lo).symm,trivial⟩,_,St.leW_refl _,FzF.le hle7,q3',q7,n3,n7,by simpa using hJ7,by dsimp only;omega⟩,?_⟩
   clear hle7 q3' q7 hJ7 U hb7 T hb3;clear n3 n7;rintro⟨j,β1⟩ S1 ⟨hfr,q3,q7,n3,n7,hJ1,hj⟩;dsimp only at hfr n3 n7 hJ1 hj;conv=>whnf
   refine⟨_,_,q7,?_⟩;conv=>whnf
   refine split_of (fun hlt=>?_) (fun hlt=>?_)
   ·have hlt:lo+(j:Int)≤up:=of_decide_eq_true hlt
    have w1:IntKind.i64.wrap (lo+(j:Int)+1)=lo+((j+1:Nat):Int):=by rw[wrap_i64 (by omega) (by omega)];omega
    have htk:=rangeI_take lo up j hlt
    conv=>whnf
    have hrw:rowsI (p++[lo+(j:Int)])=rowsI p++[[.int .i64 (lo+(j:Int))]]:=by simp[rowsI]
    have hin1:=hin (lo+(j:Int)) (d++((rangeI lo up).take j).flatMap g)
    rw[hrw] at hin1;have hnext:(d++((rangeI lo up).take j).flatMap g)++g (lo+(j:Int))=d++((rangeI lo up).take (j+1)).flatMap g:=by
     rw[htk,List.flatMap_append,List.flatMap_cons,List.flatMap_nil,List.append_nil,List.append_assoc]
    rw[hnext] at hin1;have hpre:d++((rangeI lo up).take (j+1)).flatMap g <+: d++(rangeI lo up).flatMap g:=by
     refine(List.prefix_append_right_inj d).2 ⟨((rangeI lo up).drop (j+1)).flatMap g,?_⟩;rw[← List.flatMap_append,List.take_append_drop]
    have hlj:=Nat.le_trans hpre.length_le hlim
    clear hnext htk;refine⟨[],(.free 1 (.free 3 (.free 6 (.one 0 (.one 2 (.one 4 (.one 5 (.one 7 (.free 8 .done) .none) .none) .none) (.one 4 (.one 2 (.one 5 (.one 7 (.free 8 .done) .none) .none) .none) .none)) (.one 2 (.free 0 (.one 4 (.one 5 (.one 7 (.free 8 .done) .none) .none) .none)) (.one 4 (.one 0 (.one 2 (.one 5 (.one 7 (.free 8 .done) .none) .none) .none) (.one 2 (.free 0 (.one 5 (.one 7 (.free 8 .done) .none) .none)) .none)) .none)))))),_,by decide +kernel,?_,fun _ _ h=>⟨_,.inl rfl,h⟩⟩
    refine⟨?_,?_⟩
    ·conv=>whnf
     refine⟨_,_,q3,?_⟩;conv=>whnf
     refine⟨?_,?_⟩
     ·conv=>whnf
      refine(hcl _).mono ?_;rintro o T (⟨rfl,hz0,rfl⟩ | ⟨b1,hb1,rfl,rfl⟩)
      ·conv=>whnf
       intro bb hbb
       -- St.le_upd' (St.le_refl _) hbb (.tip 3 1 1) what is there still
       conv=>whnf
       refine⟨by show 1*8≤_;omega,fun b2 hb2=>?_⟩
       have hleU:=St.le_upd' (St.le_upd' (St.le_refl _) hbb (.tip 3 1 1)) hb2 (.tip 3 1 1)
       conv=>whnf
       -- behind the append: hleU:St.le S1 U
       refine Triple.use (hin1 _ _ hlj (ha.le hJ1 hleU)) (by exact⟨rfl,⟨rfl,(show[[AV.int .i64 (lo+(j:Int))]]=rowsI p++[[AV.int .i64 (lo+(j:Int))]] by rw[hz0];rfl)⟩,rfl,trivial⟩) ?_
       rintro o S' ⟨rfl,β2,hfr2,hJ2⟩;conv=>whnf
       exact⟨(j+1,β2),⟨⟨rfl,rfl⟩,rfl,rfl,rfl,congrArg _ w1,trivial⟩,⟨_,St.leW_refl _,FzF.trans hfr (FzF.trans (FzF.le hleU) hfr2),(hfr2 _ _ n3 (hleU _ _ q3)).1,(hfr2 _ _ n7 (hleU _ _ q7)).1,(hfr2 _ _ n3 (hleU _ _ q3)).2,(hfr2 _ _ n7 (hleU _ _ q7)).2,hJ2,by dsimp only;omega⟩,by dsimp only;omega⟩
      ·conv=>whnf
       intro bb hbb
       -- St.up hbb (St.upd_same _ _ _) the tip,hb1 it is new,St.le_upd' (St.le_upd' (St.le_refl S1) hb1 (.tip 3 1 (rowsI p).length)) hbb (.tip 3 1 1) what is there still
       conv=>whnf
       refine⟨⟨St.up hbb (St.upd_same _ _ _),by rw[hli];show(p.length+1)*8≤_;omega⟩,fun b2 hb2=>?_⟩
       have hleU:=St.le_upd (St.le_del (St.le_upd' (St.le_upd' (St.le_refl S1) hb1 (.tip 3 1 (rowsI p).length)) hbb (.tip 3 1 1)) (hb1)) (St.le_none (St.le_del (St.le_upd' (St.le_upd' (St.le_refl S1) hb1 (.tip 3 1 (rowsI p).length)) hbb (.tip 3 1 1)) (hb1)) hb2) (.tip 3 1 ((rowsI p).length+1))
       conv=>whnf
       -- behind the append: hleU:St.le S1 U
       refine Triple.use (hin1 _ _ hlj (ha.le hJ1 hleU)) (by exact⟨rfl,⟨rfl,rfl⟩,rfl,trivial⟩) ?_
       rintro o S' ⟨rfl,β2,hfr2,hJ2⟩;conv=>whnf
       exact⟨(j+1,β2),⟨⟨rfl,rfl⟩,rfl,rfl,rfl,congrArg _ w1,trivial⟩,⟨_,St.leW_refl _,FzF.trans hfr (FzF.trans (FzF.le hleU) hfr2),(hfr2 _ _ n3 (hleU _ _ q3)).1,(hfr2 _ _ n7 (hleU _ _ q7)).1,(hfr2 _ _ n3 (hleU _ _ q3)).2,(hfr2 _ _ n7 (hleU _ _ q7)).2,hJ2,by dsimp only;omega⟩,by dsimp only;omega⟩
     ·conv=>whnf
      intro bb hbb;conv=>whnf
      refine(hcl _).mono ?_;rintro o T (⟨rfl,hz0,rfl⟩ | ⟨b1,hb1,rfl,rfl⟩)
      ·skip
       -- St.le_upd' (St.le_refl _) hbb (.tip 3 1 1) what is there still
       conv=>whnf
       refine⟨by show 1*8≤_;omega,fun b2 hb2=>?_⟩
       have hleU:=St.le_upd' (St.le_upd' (St.le_refl _) hbb (.tip 3 1 1)) hb2 (.tip 3 1 1)
       conv=>whnf
       -- behind the append: hleU:St.le S1 U
       refine Triple.use (hin1 _ _ hlj (ha.le hJ1 hleU)) (by exact⟨rfl,⟨rfl,(show[[AV.int .i64 (lo+(j:Int))]]=rowsI p++[[AV.int .i64 (lo+(j:Int))]] by rw[hz0];rfl)⟩,rfl,trivial⟩) ?_
       rintro o S' ⟨rfl,β2,hfr2,hJ2⟩;conv=>whnf
       exact⟨(j+1,β2),⟨⟨rfl,rfl⟩,rfl,rfl,rfl,congrArg _ w1,trivial⟩,⟨_,St.leW_refl _,FzF.trans hfr (FzF.trans (FzF.le hleU) hfr2),(hfr2 _ _ n3 (hleU _ _ q3)).1,(hfr2 _ _ n7 (hleU _ _ q7)).1,(hfr2 _ _ n3 (hleU _ _ q3)).2,(hfr2 _ _ n7 (hleU _ _ q7)).2,hJ2,by dsimp only;omega⟩,by dsimp only;omega⟩
      ·skip
       -- St.upd_same _ _ _ the tip,St.no hb1 it is new,St.le_upd' (St.le_upd' (St.le_refl S1) hbb (.tip 3 1 1)) hb1 (.tip 3 1 (rowsI p).length) what is there still
       conv=>whnf
       refine⟨⟨St.upd_same _ _ _,by rw[hli];show(p.length+1)*8≤_;omega⟩,fun b2 hb2=>?_⟩
       have hleU:=St.le_upd (St.le_del (St.le_upd' (St.le_upd' (St.le_refl S1) hbb (.tip 3 1 1)) hb1 (.tip 3 1 (rowsI p).length)) (St.no hb1)) (St.le_none (St.le_del (St.le_upd' (St.le_upd' (St.le_refl S1) hbb (.tip 3 1 1)) hb1 (.tip 3 1 (rowsI p).length)) (St.no hb1)) hb2) (.tip 3 1 ((rowsI p).length+1))
       conv=>whnf
       -- behind the append: hleU:St.le S1 U
       refine Triple.use (hin1 _ _ hlj (ha.le hJ1 hleU)) (by exact⟨rfl,⟨rfl,rfl⟩,rfl,trivial⟩) ?_
       rintro o S' ⟨rfl,β2,hfr2,hJ2⟩;conv=>whnf
       exact⟨(j+1,β2),⟨⟨rfl,rfl⟩,rfl,rfl,rfl,congrArg _ w1,trivial⟩,⟨_,St.leW_refl _,FzF.trans hfr (FzF.trans (FzF.le hleU) hfr2),(hfr2 _ _ n3 (hleU _ _ q3)).1,(hfr2 _ _ n7 (hleU _ _ q7)).1,(hfr2 _ _ n3 (hleU _ _ q3)).2,(hfr2 _ _ n7 (hleU _ _ q7)).2,hJ2,by dsimp only;omega⟩,by dsimp only;omega⟩
    refine⟨?_,?_⟩
    ·conv=>whnf
     refine(hcl _).mono ?_;rintro o T (⟨rfl,hz0,rfl⟩ | ⟨b1,hb1,rfl,rfl⟩)
     ·conv=>whnf
      refine⟨_,_,q3,?_⟩;conv=>whnf
      intro bb hbb
      -- St.le_upd' (St.le_refl _) hbb (.tip 3 1 1) what is there still
      conv=>whnf
      refine⟨by show 1*8≤_;omega,fun b2 hb2=>?_⟩
      have hleU:=St.le_upd' (St.le_upd' (St.le_refl _) hbb (.tip 3 1 1)) hb2 (.tip 3 1 1)
      conv=>whnf
      -- behind the append: hleU:St.le S1 U
      refine Triple.use (hin1 _ _ hlj (ha.le hJ1 hleU)) (by exact⟨rfl,⟨rfl,(show[[AV.int .i64 (lo+(j:Int))]]=rowsI p++[[AV.int .i64 (lo+(j:Int))]] by rw[hz0];rfl)⟩,rfl,trivial⟩) ?_
      rintro o S' ⟨rfl,β2,hfr2,hJ2⟩;conv=>whnf
      exact⟨(j+1,β2),⟨⟨rfl,rfl⟩,rfl,rfl,rfl,congrArg _ w1,trivial⟩,⟨_,St.leW_refl _,FzF.trans hfr (FzF.trans (FzF.le hleU) hfr2),(hfr2 _ _ n3 (hleU _ _ q3)).1,(hfr2 _ _ n7 (hleU _ _ q7)).1,(hfr2 _ _ n3 (hleU _ _ q3)).2,(hfr2 _ _ n7 (hleU _ _ q7)).2,hJ2,by dsimp only;omega⟩,by dsimp only;omega⟩
     ·conv=>whnf
      refine⟨_,_,St.up hb1 q3,?_⟩;conv=>whnf
      intro bb hbb
      -- St.up hbb (St.upd_same _ _ _) the tip,hb1 it is new,St.le_upd' (St.le_upd' (St.le_refl S1) hb1 (.tip 3 1 (rowsI p).length)) hbb (.tip 3 1 1) what is there still
      conv=>whnf
      refine⟨⟨St.up hbb (St.upd_same _ _ _),by rw[hli];show(p.length+1)*8≤_;omega⟩,fun b2 hb2=>?_⟩
      have hleU:=St.le_upd (St.le_del (St.le_upd' (St.le_upd' (St.le_refl S1) hb1 (.tip 3 1 (rowsI p).length)) hbb (.tip 3 1 1)) (hb1)) (St.le_none (St.le_del (St.le_upd' (St.le_upd' (St.le_refl S1) hb1 (.tip 3 1 (rowsI p).length)) hbb (.tip 3 1 1)) (hb1)) hb2) (.tip 3 1 ((rowsI p).length+1))
      conv=>whnf
      -- behind the append: hleU:St.le S1 U
      refine Triple.use (hin1 _ _ hlj (ha.le hJ1 hleU)) (by exact⟨rfl,⟨rfl,rfl⟩,rfl,trivial⟩) ?_
      rintro o S' ⟨rfl,β2,hfr2,hJ2⟩;conv=>whnf
      exact⟨(j+1,β2),⟨⟨rfl,rfl⟩,rfl,rfl,rfl,congrArg _ w1,trivial⟩,⟨_,St.leW_refl _,FzF.trans hfr (FzF.trans (FzF.le hleU) hfr2),(hfr2 _ _ n3 (hleU _ _ q3)).1,(hfr2 _ _ n7 (hleU _ _ q7)).1,(hfr2 _ _ n3 (hleU _ _ q3)).2,(hfr2 _ _ n7 (hleU _ _ q7)).2,hJ2,by dsimp only;omega⟩,by dsimp only;omega⟩
    ·conv=>whnf
     intro bb hbb;conv=>whnf
     refine⟨?_,?_⟩
     ·conv=>whnf
      refine⟨_,_,St.up hbb q3,?_⟩;conv=>whnf
      refine(hcl _).mono ?_;rintro o T (⟨rfl,hz0,rfl⟩ | ⟨b1,hb1,rfl,rfl⟩)
      ·skip
       -- St.le_upd' (St.le_refl _) hbb (.tip 3 1 1) what is there still
       conv=>whnf
       refine⟨by show 1*8≤_;omega,fun b2 hb2=>?_⟩
       have hleU:=St.le_upd' (St.le_upd' (St.le_refl _) hbb (.tip 3 1 1)) hb2 (.tip 3 1 1)
       conv=>whnf
       -- behind the append: hleU:St.le S1 U
       refine Triple.use (hin1 _ _ hlj (ha.le hJ1 hleU)) (by exact⟨rfl,⟨rfl,(show[[AV.int .i64 (lo+(j:Int))]]=rowsI p++[[AV.int .i64 (lo+(j:Int))]] by rw[hz0];rfl)⟩,rfl,trivial⟩) ?_
       rintro o S' ⟨rfl,β2,hfr2,hJ2⟩;conv=>whnf
       exact⟨(j+1,β2),⟨⟨rfl,rfl⟩,rfl,rfl,rfl,congrArg _ w1,trivial⟩,⟨_,St.leW_refl _,FzF.trans hfr (FzF.trans (FzF.le hleU) hfr2),(hfr2 _ _ n3 (hleU _ _ q3)).1,(hfr2 _ _ n7 (hleU _ _ q7)).1,(hfr2 _ _ n3 (hleU _ _ q3)).2,(hfr2 _ _ n7 (hleU _ _ q7)).2,hJ2,by dsimp only;omega⟩,by dsimp only;omega⟩
      ·skip
       -- St.upd_same _ _ _ the tip,St.no hb1 it is new,St.le_upd' (St.le_upd' (St.le_refl S1) hbb (.tip 3 1 1)) hb1 (.tip 3 1 (rowsI p).length) what is there still
       conv=>whnf
       refine⟨⟨St.upd_same _ _ _,by rw[hli];show(p.length+1)*8≤_;omega⟩,fun b2 hb2=>?_⟩
       have hleU:=St.le_upd (St.le_del (St.le_upd' (St.le_upd' (St.le_refl S1) hbb (.tip 3 1 1)) hb1 (.tip 3 1 (rowsI p).length)) (St.no hb1)) (St.le_none (St.le_del (St.le_upd' (St.le_upd' (St.le_refl S1) hbb (.tip 3 1 1)) hb1 (.tip 3 1 (rowsI p).length)) (St.no hb1)) hb2) (.tip 3 1 ((rowsI p).length+1))
       conv=>whnf
       -- behind the append: hleU:St.le S1 U
       refine Triple.use (hin1 _ _ hlj (ha.le hJ1 hleU)) (by exact⟨rfl,⟨rfl,rfl⟩,rfl,trivial⟩) ?_
       rintro o S' ⟨rfl,β2,hfr2,hJ2⟩;conv=>whnf
       exact⟨(j+1,β2),⟨⟨rfl,rfl⟩,rfl,rfl,rfl,congrArg _ w1,trivial⟩,⟨_,St.leW_refl _,FzF.trans hfr (FzF.trans (FzF.le hleU) hfr2),(hfr2 _ _ n3 (hleU _ _ q3)).1,(hfr2 _ _ n7 (hleU _ _ q7)).1,(hfr2 _ _ n3 (hleU _ _ q3)).2,(hfr2 _ _ n7 (hleU _ _ q7)).2,hJ2,by dsimp only;omega⟩,by dsimp only;omega⟩
     ·conv=>whnf
      refine(hcl _).mono ?_;rintro o T (⟨rfl,hz0,rfl⟩ | ⟨b1,hb1,rfl,rfl⟩)
      ·conv=>whnf
       refine⟨_,_,St.up hbb q3,?_⟩
       -- St.le_upd' (St.le_refl _) hbb (.tip 3 1 1) what is there still
       conv=>whnf
       refine⟨by show 1*8≤_;omega,fun b2 hb2=>?_⟩
       have hleU:=St.le_upd' (St.le_upd' (St.le_refl _) hbb (.tip 3 1 1)) hb2 (.tip 3 1 1)
       conv=>whnf
       -- behind the append: hleU:St.le S1 U
       refine Triple.use (hin1 _ _ hlj (ha.le hJ1 hleU)) (by exact⟨rfl,⟨rfl,(show[[AV.int .i64 (lo+(j:Int))]]=rowsI p++[[AV.int .i64 (lo+(j:Int))]] by rw[hz0];rfl)⟩,rfl,trivial⟩) ?_
       rintro o S' ⟨rfl,β2,hfr2,hJ2⟩;conv=>whnf
       exact⟨(j+1,β2),⟨⟨rfl,rfl⟩,rfl,rfl,rfl,congrArg _ w1,trivial⟩,⟨_,St.leW_refl _,FzF.trans hfr (FzF.trans (FzF.le hleU) hfr2),(hfr2 _ _ n3 (hleU _ _ q3)).1,(hfr2 _ _ n7 (hleU _ _ q7)).1,(hfr2 _ _ n3 (hleU _ _ q3)).2,(hfr2 _ _ n7 (hleU _ _ q7)).2,hJ2,by dsimp only;omega⟩,by dsimp only;omega⟩
      ·conv=>whnf
       refine⟨_,_,St.up hb1 (St.up hbb q3),?_⟩
       -- St.upd_same _ _ _ the tip,St.no hb1 it is new,St.le_upd' (St.le_upd' (St.le_refl S1) hbb (.tip 3 1 1)) hb1 (.tip 3 1 (rowsI p).length) what is there still
       conv=>whnf
       refine⟨⟨St.upd_same _ _ _,by rw[hli];show(p.length+1)*8≤_;omega⟩,fun b2 hb2=>?_⟩
       have hleU:=St.le_upd (St.le_del (St.le_upd' (St.le_upd' (St.le_refl S1) hbb (.tip 3 1 1)) hb1 (.tip 3 1 (rowsI p).length)) (St.no hb1)) (St.le_none (St.le_del (St.le_upd' (St.le_upd' (St.le_refl S1) hbb (.tip 3 1 1)) hb1 (.tip 3 1 (rowsI p).length)) (St.no hb1)) hb2) (.tip 3 1 ((rowsI p).length+1))
       conv=>whnf
       -- behind the append: hleU:St.le S1 U
       refine Triple.use (hin1 _ _ hlj (ha.le hJ1 hleU)) (by exact⟨rfl,⟨rfl,rfl⟩,rfl,trivial⟩) ?_
       rintro o S' ⟨rfl,β2,hfr2,hJ2⟩;conv=>whnf
       exact⟨(j+1,β2),⟨⟨rfl,rfl⟩,rfl,rfl,rfl,congrArg _ w1,trivial⟩,⟨_,St.leW_refl _,FzF.trans hfr (FzF.trans (FzF.le hleU) hfr2),(hfr2 _ _ n3 (hleU _ _ q3)).1,(hfr2 _ _ n7 (hleU _ _ q7)).1,(hfr2 _ _ n3 (hleU _ _ q3)).2,(hfr2 _ _ n7 (hleU _ _ q7)).2,hJ2,by dsimp only;omega⟩,by dsimp only;omega⟩
   ·have hlt:¬ lo+(j:Int)≤up:=of_decide_eq_false hlt
    rw[rangeI_all lo up j (by omega)] at hJ1
    conv=>whnf
    refine hK _ _ ?_;clear hK hQ K;conv=>whnf
    exact⟨_,_,⟨rfl,β1,hfr,hJ1⟩,St.le_refl _,AV.leS_refl _ _ _⟩
theorem SolutionsF_ok{m:ModelV}{conF:ConV→Int}{holdsF:List Int→ConV→Bool}(hk:Know G m conF holdsF){gy:FuncId}{y1 y2 y3:Nat}{J:List (List Int)→List Nat→St→Prop}(ha:AsksF G gy [.ref y1 0,.ref y2 0,.ref y3 0] J fun v=>solK m conF holdsF v=true)
 {S:St} {b:Nat} {β:List Nat} (hb:S b=some (.obj 26 (rowM m))) (hlim:(solsA m conF holdsF).length≤100000) (hJ:J [] β S) :
 Triple P (C G) 28 [.fn (.func gy) [] [.ref y1 0,.ref y2 0,.ref y3 0],.ref b 0] S fun o S'=>(∃ x,o=.ret x)∧∃ β',FzF β β' S S'∧J (solsA m conF holdsF) β' S':=by
 have hco:=fun S=>acounts_ok (G:=G) hk.z hk.con S
 have hgo:=fun h hl=>goesF_ok (G:=G) hk.z hk.con (count_zero (conF:=conF) h) (hk.holds (count_zero h)) ha m.vars.length [] (by simp) [] β S hl hJ
 unfold solsA at hlim ⊢;generalize (productV m conF 100000).2=cn at *;unfold rowM at *;refine triple_of_awp (hT G) hm Tryz.func28 rfl (by decide +kernel) rfl (by decide +kernel) (by show 2≤_;decide +kernel) rfl ?_
 conv=>whnf
 refine⟨_,_,hb,?_⟩;conv=>whnf
 refine(hco _).mono ?_;rintro o T ⟨rfl,rfl⟩
 cases cn with
 | false=>
   conv=>whnf
   exact⟨_,_,⟨⟨_,rfl⟩,β,FzF.le (St.le_refl _),hJ⟩,St.le_refl _,AV.leS_refl _ _ _⟩
 | true=>
   conv=>whnf
   refine⟨_,_,hb,?_⟩;conv=>whnf
   refine Triple.use (hgo rfl (by simpa using hlim)) (by exact⟨rfl,rfl,rfl,trivial⟩) ?_
   rintro o S' ⟨rfl,β2,hfr,hJ2⟩;conv=>whnf
   exact⟨_,_,⟨⟨_,rfl⟩,β2,hfr,hJ2⟩,St.le_refl _,AV.leS_refl _ _ _⟩
def JG(bw bn bl:Nat)(d:List (List Int))(β:List Nat)(S:St):Prop:=
 S bw=some (.obj 4 [.bool true])∧S bn=some (.obj 3 [.int .i64 0])∧
  ((d=[]∧β=[bw,bn,bl]∧S bl=some (.obj 30 [.nils]))∨∃ ba,d≠[]∧β=[bw,bn,bl,ba]∧S bl=some (.obj 30 [.sl (.own ba) 1 (rowsLL d)])∧S ba=some (.tip 27 1 d.length))
theorem rowsLL_snoc(d:List (List Int))(v:List Int):rowsLL d++[[.sl .any 1 (rowsI v)]]=rowsLL (d++[v]):=by simp[rowsLL]
theorem given1_ok{bw bn bl:Nat}{d:List (List Int)}{β:List Nat}{v:List Int}{S:St}(hJ:JG bw bn bl d β S)(hl:(d++[v]).length≤100000) :
 Triple P (C G) 27 [.sl .any 1 (rowsI v),.ref bw 0,.ref bn 0,.ref bl 0] S fun o S'=>o=.ret (.bool true)∧∃ β',JG bw bn bl (d++[v]) β' S'∧FzF β β' S S':=by
 obtain⟨h1,h2,h3⟩:=hJ;have hll:(d++[v]).length=d.length+1:=by simp
 have nwl:∀ {x},S bl=some (.obj 30 x)→bw≠bl:=fun h e=>by
  rw[e,h] at h1;have:=Option.some.inj h1
  injection this with h4 h5
  exact absurd h4 (by decide)
 have nnl:∀ {x},S bl=some (.obj 30 x)→bn≠bl:=fun h e=>by
  rw[e,h] at h2;have:=Option.some.inj h2
  injection this with h4 h5
  exact absurd h4 (by decide)
 refine triple_of_awp (hT G) hm Tryz.func27 rfl (by decide +kernel) rfl (by decide +kernel) (by show 4≤_;decide +kernel) rfl ?_
 refine awp_seq2 fun K hK hQ=>?_
 conv=>whnf
 refine hK _ _ ?_;clear hK hQ K;refine awp_seq2 fun K hK hQ=>?_
 conv=>whnf
 refine⟨_,_,h1,?_⟩;conv=>whnf
 refine⟨_,_,h2,?_⟩;conv=>whnf
 refine⟨_,_,h1,?_⟩;conv=>whnf
 rw[St.upd_self h1];refine hK _ _ ?_;clear hK hQ K;refine awp_seq2 fun K hK hQ=>?_
 rcases h3 with ⟨rfl,rfl,h3⟩ | ⟨ba,hd,rfl,h3,h4⟩
 ·conv=>whnf
  refine⟨_,_,h3,?_⟩;conv=>whnf
  intro bb hbb;conv=>whnf
  refine⟨by show 1*24≤_;decide,fun b' hb'=>?_⟩
  conv=>whnf
  refine⟨_,_,St.up hb' (St.up hbb h3),?_⟩;conv=>whnf
  have nw:=nwl h3
  have nn:=nnl h3
  have g0:∀ x o,S x=some o→x≠bl→(((S.upd bb (.tip 27 1 1)).upd b' (.tip 27 1 1)).upd bl (.obj 30 [.sl (.own b') 1 [[.sl .any 1 (rowsI v)]]])) x=some o:=fun x o hx hn=>St.ov hn (St.up hb' (St.up hbb hx))
  have gl:=St.upd_same ((S.upd bb (.tip 27 1 1)).upd b' (.tip 27 1 1)) bl (.obj 30 [.sl (.own b') 1 [[.sl .any 1 (rowsI v)]]])
  have nb:b'≠bl:=fun e=>by rw[e] at hb';have:=St.no hb';rw[h3] at this;cases this
  have gb:(((S.upd bb (.tip 27 1 1)).upd b' (.tip 27 1 1)).upd bl (.obj 30 [.sl (.own b') 1 [[.sl .any 1 (rowsI v)]]])) b'=some (.tip 27 1 1):=St.ov nb (St.upd_same _ _ _)
  have hnew:S b'=none:=St.no hb'
  change K .normal _ (((S.upd bb (.tip 27 1 1)).upd b' (.tip 27 1 1)).upd bl (.obj 30 [.sl (.own b') 1 [[.sl .any 1 (rowsI v)]]]));generalize (((S.upd bb (.tip 27 1 1)).upd b' (.tip 27 1 1)).upd bl (.obj 30 [.sl (.own b') 1 [[.sl .any 1 (rowsI v)]]]))=U at *;have u2:=g0 _ _ h2 nn;refine hK _ _ ?_;clear hK hQ K;conv=>whnf
  refine⟨_,_,u2,?_⟩;conv=>whnf
  refine⟨_,_,⟨rfl,[bw,bn,bl,b'],⟨g0 _ _ h1 nw,u2,.inr ⟨b',by simp,rfl,gl,gb⟩⟩,fun x o hx h=>?_⟩,St.le_refl _,AV.leS_refl _ _ _⟩
  simp only[List.mem_cons,List.not_mem_nil,or_false,not_or] at hx;refine⟨g0 x o h hx.2.2,?_⟩;simp only[List.mem_cons,List.not_mem_nil,or_false,not_or];exact⟨hx.1,hx.2.1,hx.2.2,fun e=>by rw[e,hnew] at h;cases h⟩
 ·have hdl:=rowsLL_len d
  have nw:=nwl h3
  have nn:=nnl h3
  conv=>whnf
  refine⟨_,_,h3,?_⟩;conv=>whnf
  intro bb hbb;conv=>whnf
  have nab:∀ x o,S x=some o→x≠bb:=fun x o hx=>St.ne_of hbb hx
  refine⟨⟨by rw[hdl];exact St.up hbb h4,by rw[hdl];show(d.length+1)*24≤_;omega⟩,fun b' hb'=>?_⟩
  have hkeep:∀ x o,S x=some o→x≠ba→((S.upd bb (.tip 27 1 1)).del ba) x=some o:=fun x o hx hn=>(St.del_ne _ _ _ hn).trans (St.up hbb hx)
  have nba:∀ x o,S x=some o→x≠ba→x≠b':=fun x o hx hn e=>by
   have h6:=hkeep x o hx hn
   rw[e] at h6;have h7:((S.upd bb (.tip 27 1 1)).del ba) b'=none:=hb';rw[h7] at h6;cases h6
  have nla:bl≠ba:=fun e=>by rw[e,h4] at h3;cases h3
  have nwa:bw≠ba:=fun e=>by rw[e,h4] at h1;cases h1
  have nna:bn≠ba:=fun e=>by rw[e,h4] at h2;cases h2
  have g0:∀ x o,S x=some o→x≠bl→x≠ba→((((S.upd bb (.tip 27 1 1)).del ba).upd b' (.tip 27 1 (d++[v]).length)).upd bl (.obj 30 [.sl (.own b') 1 (rowsLL (d++[v]))])) x=some o:=fun x o hx hn hna=>St.ov hn ((St.upd_ne _ _ _ _ (nba x o hx hna)).trans (hkeep x o hx hna))
  have gl:=St.upd_same (((S.upd bb (.tip 27 1 1)).del ba).upd b' (.tip 27 1 (d++[v]).length)) bl (.obj 30 [.sl (.own b') 1 (rowsLL (d++[v]))])
  have nb:b'≠bl:=(nba _ _ h3 nla).symm
  have gb:((((S.upd bb (.tip 27 1 1)).del ba).upd b' (.tip 27 1 (d++[v]).length)).upd bl (.obj 30 [.sl (.own b') 1 (rowsLL (d++[v]))])) b'=some (.tip 27 1 (d++[v]).length):=St.ov nb (St.upd_same _ _ _)
  conv=>whnf
  refine⟨_,_,(St.upd_ne _ _ _ _ nb.symm).trans (hkeep _ _ h3 nla),?_⟩;conv=>whnf
  have hst:((((S.upd bb (.tip 27 ((C G).T 27).size 1)).del ba).upd b' (.tip 27 ((C G).T 27).size ((rowsLL d).length+1))).upd bl (.obj 30 [.sl (.own b') ((C G).T 27).size (rowsLL d++[[.sl .any 1 (rowsI v)]])]))=((((S.upd bb (.tip 27 1 1)).del ba).upd b' (.tip 27 1 (d++[v]).length)).upd bl (.obj 30 [.sl (.own b') 1 (rowsLL (d++[v]))])):=by
   rw[hdl,rowsLL_snoc,hll];rfl
  change K .normal _ ((((S.upd bb (.tip 27 ((C G).T 27).size 1)).del ba).upd b' (.tip 27 ((C G).T 27).size ((rowsLL d).length+1))).upd bl (.obj 30 [.sl (.own b') ((C G).T 27).size (rowsLL d++[[.sl .any 1 (rowsI v)]])]));rw[hst];generalize ((((S.upd bb (.tip 27 1 1)).del ba).upd b' (.tip 27 1 (d++[v]).length)).upd bl (.obj 30 [.sl (.own b') 1 (rowsLL (d++[v]))]))=U at *;have u2:=g0 _ _ h2 nn nna;refine hK _ _ ?_;clear hK hQ K;conv=>whnf
  refine⟨_,_,u2,?_⟩;conv=>whnf
  refine⟨_,_,⟨rfl,[bw,bn,bl,b'],⟨g0 _ _ h1 nw nwa,u2,.inr ⟨b',by simp,rfl,gl,gb⟩⟩,fun x o hx h=>?_⟩,St.le_refl _,AV.leS_refl _ _ _⟩
  simp only[List.mem_cons,List.not_mem_nil,or_false,not_or] at hx;refine⟨g0 x o h hx.2.2.1 hx.2.2.2,?_⟩;simp only[List.mem_cons,List.not_mem_nil,or_false,not_or];exact⟨hx.1,hx.2.1,hx.2.2.1,nba x o h hx.2.2.2⟩
theorem asksG(bw bn bl:Nat)(ok:List Int→Prop):AsksF G 27 [.ref bw 0,.ref bn 0,.ref bl 0] (JG bw bn bl) ok:=by
 refine⟨fun d β S S' hb hJ=>?_,fun d β S hJ b hb=>?_,fun d β v S hJ _ hl=>given1_ok hJ hl⟩
 ·obtain⟨h1,h2,h3⟩:=hJ
  rcases h3 with ⟨h4,rfl,h5⟩ | ⟨ba,h4,rfl,h5,h6⟩
  ·exact⟨(hb _ (by simp)).trans h1,(hb _ (by simp)).trans h2,.inl ⟨h4,rfl,(hb _ (by simp)).trans h5⟩⟩
  ·exact⟨(hb _ (by simp)).trans h1,(hb _ (by simp)).trans h2,.inr ⟨ba,h4,rfl,(hb _ (by simp)).trans h5,(hb _ (by simp)).trans h6⟩⟩
 ·obtain⟨h1,h2,h3⟩:=hJ
  rcases h3 with ⟨h4,rfl,h5⟩ | ⟨ba,h4,rfl,h5,h6⟩
  ·simp only[List.mem_cons,List.not_mem_nil,or_false] at hb
   rcases hb with rfl | rfl | rfl
   ·rw[h1];simp
   ·rw[h2];simp
   ·rw[h5];simp
  ·simp only[List.mem_cons,List.not_mem_nil,or_false] at hb
   rcases hb with rfl | rfl | rfl | rfl
   ·rw[h1];simp
   ·rw[h2];simp
   ·rw[h5];simp
   ·rw[h6];simp
def FlatV(r:AV):Prop:=∀ (w:World) (rd rd':Nat→Nat→Prop) (v:Value),Rel w rd r v→Rel w rd' r v
theorem FlatV.bool(b:Bool):FlatV (.bool b):=fun w rd rd' v h=>by simpa only[Rel] using h
theorem FlatV.pair(s:ByteArray)(k:IntKind)(n:Int):FlatV (.tu [.str s,.int k n]):=fun w rd rd' v h=>by simpa only[Rel,RelL] using h
theorem FlatV.ints(k:IntKind)(n:Int)(b:Bool):FlatV (.tu [.int k n,.bool b]):=fun w rd rd' v h=>by simpa only[Rel,RelL] using h
theorem CellsR.emp{S1 S:St}{cs ys:List AV}(h:CellsR S1 S cs ys):CellsR S1 St.emp cs ys:=
 ⟨h.1,fun k x y hx hy=>by
  rcases h.2 k x y hx hy with h | ⟨bR,cap,junk,rows,h1,h2,h3,h4⟩
  ·exact .inl h
  ·exact .inr ⟨bR,cap,junk,rows,h1,h2,rfl,h4⟩⟩
theorem CellsR.app{S1 S:St}{cs ys cs2 ys2:List AV}(h:CellsR S1 S cs ys)(h2:CellsR S1 S cs2 ys2):CellsR S1 S (cs++cs2) (ys++ys2):=by
 refine⟨by rw[List.length_append,List.length_append,h.1,h2.1],fun k x y hx hy=>?_⟩
 by_cases hk:k<cs.length
 ·rw[List.getElem?_append_left hk] at hx;rw[List.getElem?_append_left (by rw[← h.1];exact hk)] at hy
  exact h.2 k x y hx hy
 ·rw[List.getElem?_append_right (by omega)] at hx
  rw[List.getElem?_append_right (by rw[← h.1];omega),← h.1] at hy
  exact h2.2 _ x y hx hy
theorem CellsR.take{S1 S:St}{cs ys:List AV}(h:CellsR S1 S cs ys)(n:Nat):CellsR S1 S (cs.take n) (ys.take n):=by
 refine⟨by rw[List.length_take,List.length_take,h.1],fun k x y hx hy=>?_⟩
 rw[List.getElem?_take] at hx hy
 by_cases hk:k<n
 ·rw[if_pos hk] at hx hy;exact h.2 k x y hx hy
 ·rw[if_neg hk] at hx;cases hx
theorem CellsR.drop{S1 S:St}{cs ys:List AV}(h:CellsR S1 S cs ys)(n:Nat):CellsR S1 S (cs.drop n) (ys.drop n):=by
 refine⟨by rw[List.length_drop,List.length_drop,h.1],fun k x y hx hy=>?_⟩
 rw[List.getElem?_drop] at hx hy;exact h.2 _ x y hx hy
theorem setRange_eq(l cells:List AV)(off:Nat)(h:off+l.length≤cells.length):setRange cells off l=cells.take off++(l++cells.drop (off+l.length)):=by
 have h1:(cells.take off).length=off:=by rw[List.length_take];omega
 have h2:=setRange_app l (cells.take off) (cells.drop off)
 rw[List.take_append_drop,h1] at h2
 rcases h2 with h2 | h2
 ·rw[h2,List.drop_drop]
 ·rw[List.length_drop] at h2;omega
structure MoreAt (S S':St) (m:ModelV) (c:ConV) (b cap:Nat):Prop where
 le:St.le S S'
 new:S b=none
 cap1:m.cons.length+1≤cap
 cap2:cap≤maxLen
 row:∃ cs ys,S' b=some (.obj 51 cs)∧CellsR S' S cs ys∧(m.cons.length+1)*10≤cs.length∧rowsOf 10 ys (m.cons.length+1)=rowsC (m.cons++[c])
theorem rowsC_flat(l:List ConV):(rowsC l).flatten.length=l.length*10:=by rw[flatten_lenK (rowsC_one l),rowsC_len]
theorem rowsC_snoc(l:List ConV)(c:ConV):(rowsC l).flatten++rowC c=(rowsC (l++[c])).flatten:=by simp[rowsC]
theorem rows_more(m:ModelV)(c:ConV)(z:List AV):rowsOf 10 ((rowsC m.cons).flatten++(rowC c++z)) (m.cons.length+1)=rowsC (m.cons++[c]):=by
 rw[← List.append_assoc,rowsC_snoc];have h:=rows_flatK (rowsC (m.cons++[c])) z (rowsC_one _);rw[rowsC_len,List.length_append] at h;exact h
theorem MoreAt.place{S S':St}{m:ModelV}{c:ConV}{b cap:Nat}{cs junk:List AV}(hle:St.le S S')(hb:S b=none)(hcs:S' b=some (.obj 51 cs))(hr:CellsR S' S cs ((rowsC m.cons).flatten++junk))(h1:m.cons.length+1≤cap)(h2:cap≤maxLen)(h3:cap*10≤cs.length) :
 MoreAt S (S'.upd b (.obj 51 (setRange cs (m.cons.length*10) (rowC c)))) m c b cap:=by
 have hc:(m.cons.length+1)*10≤cap*10:=Nat.mul_le_mul_right _ h1
 have hl:(rowC c).length=10:=rfl
 have hmono:∀ bb cells,S' bb=some (.obj 27 cells)→(S'.upd b (.obj 51 (setRange cs (m.cons.length*10) (rowC c)))) bb=some (.obj 27 cells):=fun bb cells hbb=>by
  have:bb≠b:=fun e=>by
   rw[e,hcs] at hbb;have:=Option.some.inj hbb
   injection this with h4 h5
   exact absurd h4 (by decide)
  rw[St.upd_ne _ _ _ _ this];exact hbb
 have htake:((rowsC m.cons).flatten++junk).take (m.cons.length*10)=(rowsC m.cons).flatten:=by
  rw[List.take_append_of_le_length (by rw[rowsC_flat];exact Nat.le_refl _),List.take_of_length_le (by rw[rowsC_flat];exact Nat.le_refl _)]
 refine⟨St.le_upd hle hb _,hb,h1,h2,_,(rowsC m.cons).flatten++(rowC c++((rowsC m.cons).flatten++junk).drop (m.cons.length*10+10)),St.upd_same _ _ _,?_,?_,rows_more _ _ _⟩
 ·have hse:=setRange_eq (rowC c) cs (m.cons.length*10) (by rw[hl];omega)
  rw[hl] at hse;have h4:=(hr.mono hmono).take (m.cons.length*10);rw[htake] at h4;have h5:=(hr.mono hmono).drop (m.cons.length*10+10);have h6:=h4.app (CellsR.app (CellsR.refl _ S (rowC c)) h5);rw[← hse] at h6;exact h6
 ·rw[setRange_length];omega
theorem MoreAt.upd{S V:St}{m:ModelV}{c:ConV}{b cap b5:Nat}{xs ys:List AV}(h:MoreAt S V m c b cap)(hb5:S b5=none)(h5:V b5=some (.obj 26 xs))(hne:b5≠b):MoreAt S (V.upd b5 (.obj 26 ys)) m c b cap:=by
 obtain⟨cs,zs,h1,h2,h3,h4⟩:=h.row;refine⟨St.le_upd h.le hb5 _,h.new,h.cap1,h.cap2,cs,zs,(St.upd_ne _ _ _ _ hne.symm).trans h1,h2.mono fun bb cells hbb=>?_,h3,h4⟩
 have:bb≠b5:=fun e=>by
  rw[e,h5] at hbb;have:=Option.some.inj hbb
  injection this with h4 h5
  exact absurd h4 (by decide)
 rw[St.upd_ne _ _ _ _ this];exact hbb
theorem CellsR.low{S1 T S:St}{cs ys:List AV}(h:CellsR S1 T cs ys)(hle:St.le S T):CellsR S1 S cs ys:=
 ⟨h.1,fun k x y hx hy=>by
  rcases h.2 k x y hx hy with h | ⟨bR,cap,junk,rows,h1,h2,h3,h4⟩
  ·exact .inl h
  ·exact .inr ⟨bR,cap,junk,rows,h1,h2,St.le_none hle h3,h4⟩⟩
end Go.Proofs.YtjpboanohpaibaaGreatDoor.Aw
