/- The room: a list laid with marks behind it, walked: of numbers, texts, pieces, operations. The room: a step and a list o -/
import Derived.Test.YtogipknpafkfpaaGreatDoorPwr17
set_option linter.all false
set_option maxRecDepth 100000
namespace Go.Proofs.YtogipknpafkfpaaGreatDoor.Aw
open Go Go.RowKit
variable {G:Nat→Option (List AV)}
open Classical in
noncomputable def St.outOf (S1:St) (l:List Nat):St:=fun x=>if x∈l then none else S1 x
theorem St.outOf_in{S1:St}{l:List Nat}{x:Nat}(h:x∈l):(St.outOf S1 l) x=none:=if_pos h
theorem St.outOf_out{S1:St}{l:List Nat}{x:Nat}(h:x ∉ l):(St.outOf S1 l) x=S1 x:=if_neg h
theorem RmB.lift{S₀ S S1:St}{rb:Nat}{cells:List AV}{A:RmA}(h:RmB S₀ S rb cells A)(hle:St.le S S1):∃ S₁,St.le S₀ S₁∧RmB S₁ S1 rb cells A∧∀ x o,S1 x=some o→S x=none→S₁ x=some o:=by
 obtain⟨fp,hfp⟩:∃ fp,fp=((rb,Own.obj 44 cells)::fpsA A):=⟨_,rfl⟩;have he:=h.eq;have hk:=h.ok;rw[← hfp] at he hk;refine⟨St.outOf S1 (fp.map (·.1)),fun b o hb=>?_,⟨?_,?_⟩,fun x o hx hS=>?_⟩
 ·have hn:b ∉ fp.map (·.1):=fun hh=>by
   obtain⟨p,q1,rfl⟩:=List.mem_map.1 hh;rw[hk.new p q1] at hb;cases hb
  rw[St.outOf_out hn];refine hle _ _ ?_;rw[he,ov_out hn];exact hb
 ·rw[← hfp]
  funext x
  by_cases hx:x∈fp.map (·.1)
  ·obtain⟨⟨c,o⟩,q1,q2⟩:=List.mem_map.1 hx;dsimp only at q2;subst q2;rw[ov_get (S₀:=St.outOf S1 (fp.map (·.1))) hk.nd q1];refine hle _ _ ?_;rw[he];exact ov_get hk.nd q1
  ·rw[ov_out (S₀:=St.outOf S1 (fp.map (·.1))) hx,St.outOf_out hx]
 ·rw[← hfp];exact⟨hk.nd,fun p hp=>St.outOf_in (List.mem_map.2 ⟨p,hp,rfl⟩)⟩
 ·have hn:x ∉ fp.map (·.1):=fun hh=>by
   obtain⟨⟨c,p⟩,q1,q2⟩:=List.mem_map.1 hh;dsimp only at q2;subst q2;rw[he,ov_get hk.nd q1] at hS;cases hS
  rw[St.outOf_out hn];exact hx
theorem lot_ok(i:Nat)(S:St):Triple P (C G) 50 [.int .i64 (i:Int)] S fun o S'=>o=.ret (.int .i64 (lotV i))∧S'=S:=by
 have e:((i:Int).tmod 2 == 0)=decide (i % 2=0):=by
  rw[Int.tmod_eq_emod_of_nonneg (by omega)]
  by_cases h:i % 2=0
  ·rw[decide_eq_true h];simp;omega
  ·rw[decide_eq_false h];simp;omega
 unfold lotV;refine triple_of_awp (hT G) hm Tryz.func50 rfl (by decide +kernel) rfl (by decide +kernel) (by show 1≤_;decide +kernel) rfl ?_
 conv=>whnf
 refine⟨by decide,?_⟩
 conv=>whnf
 rw[e]
 by_cases h:i % 2=0
 ·rw[decide_eq_true h,if_pos h];conv=>whnf
  exact⟨_,_,⟨rfl,rfl⟩,St.le_refl _,AV.leS_refl _ _ _⟩
 ·rw[decide_eq_false h,if_neg h];conv=>whnf
  exact⟨_,_,⟨rfl,rfl⟩,St.le_refl _,AV.leS_refl _ _ _⟩
theorem word_ok(i:Nat)(S:St):Triple P (C G) 73 [.int .i64 (i:Int)] S fun o S'=>o=.ret (.str (wordV i))∧S'=S:=by
 have e:((i:Int).tmod 2 == 0)=decide (i % 2=0):=by
  rw[Int.tmod_eq_emod_of_nonneg (by omega)]
  by_cases h:i % 2=0
  ·rw[decide_eq_true h];simp;omega
  ·rw[decide_eq_false h];simp;omega
 unfold wordV;refine triple_of_awp (hT G) hm Tryz.func73 rfl (by decide +kernel) rfl (by decide +kernel) (by show 1≤_;decide +kernel) rfl ?_
 conv=>whnf
 refine⟨by decide,?_⟩
 conv=>whnf
 rw[e]
 by_cases h:i % 2=0
 ·rw[decide_eq_true h,if_pos h];conv=>whnf
  exact⟨_,_,⟨rfl,rfl⟩,St.le_refl _,AV.leS_refl _ _ _⟩
 ·rw[decide_eq_false h,if_neg h];conv=>whnf
  exact⟨_,_,⟨rfl,rfl⟩,St.le_refl _,AV.leS_refl _ _ _⟩
theorem layInts_ok{S₀ S:St}{rb N:Nat}(h:Rm S₀ S rb N)(hN:N≤100000000)(rows:List (List AV))(hr:rows.length≤100000000)(n:Nat)(hn:n≤1000) :
 Triple P (C G) 77 [.ref rb 0,.sl .any 1 rows,.int .i64 (n:Int)] S fun o S'=>o=.ret (.sl .any 1 rows)∧Rm S₀ S' rb (N+1):=by
 -- (*hallmark/hallmarkroom.Room).layInts function,1 k,3 the elements' type,mkI mk,lot_ok the mark's contract,0 j,1 j+1,8 bytes of an element,hI.i the kind's invariant
 obtain⟨A,hB,hI⟩:=h;have hlot:=fun i S=>lot_ok (G:=G) i S
 obtain⟨lE,hE1,hE2,hE3,hE4⟩:=(hI.i).ex;have hl1:(A 0).es.length≤N:=by rw[hE1,List.length_map];exact hE3
 have hl2:(A 1).es.length≤N:=by rw[hE2,List.length_map];exact hE3
 clear hE1 hE2 hE3 hE4 lE;refine triple_of_awp (hT G) hm Tryz.func77 rfl (by decide +kernel) rfl (by decide +kernel) (by show 3≤_;decide +kernel) rfl ?_
 refine awp_seq2 fun K hK hQ=>?_
 conv=>whnf
 refine hK _ _ ?_;clear hK hQ K;refine awp_seq2 fun K hK hQ=>?_
 conv=>whnf
 intro b0 hb0;conv=>whnf
 refine hK _ _ ?_;clear hK hQ K;refine awp_seq2 fun K hK hQ=>?_
 conv=>whnf
 refine⟨⟨St.upd_same _ _ _,?_⟩,?_⟩
 ·show(0+rows.length)*8≤_;omega
 conv=>whnf
 intro bf hbf;rw[St.del_upd hb0] at hbf ⊢;conv=>whnf
 refine hK _ _ ?_;clear hK hQ K;refine awp_seq2 fun K hK hQ=>?_
 conv=>whnf
 refine⟨⟨Nat×Nat,fun z=>[(0,.ref rb 0),(1,.sl .any 1 rows),(2,.int .i64 (n:Int)),(7,.sl (.own z.2) 1 (rows++mks mkI z.1)),(8,.int .i64 (z.1:Int))],
  fun z S1=>St.le S S1∧S z.2=none∧S1 z.2=some (.tip 3 1 (rows.length+z.1))∧z.1≤n,fun z=>n-z.1⟩,
  ⟨(0,bf),⟨rfl,⟨rfl,rfl⟩,rfl,congrArg (AV.sl (.own bf) 1) (show[]++rows=rows++mks mkI 0 by simp[mks]),rfl,trivial⟩,_,St.leW_refl _,St.le_upd' (St.le_refl S) hbf _,hbf,(St.upd_same _ _ _).trans (congrArg (fun x=>some (Own.tip 3 1 x)) (show 0+rows.length=rows.length+0 by omega)),by omega⟩,?_⟩
 clear hbf hb0 bf;rintro⟨i,bf⟩ S1 ⟨g1,g2,g3,g4⟩;dsimp only at g1 g2 g3 g4;conv=>whnf
 refine split_of (fun hlt=>?_) (fun hlt=>?_)
 ·have hlt:i<n:=by have:=of_decide_eq_true hlt;omega
  have w1:IntKind.i64.wrap ((i:Int)+1)=((i+1:Nat):Int):=wrap_nat (by omega)
  conv=>whnf
  refine(hlot i _).mono ?_;rintro o T ⟨rfl,rfl⟩;conv=>whnf
  intro bb hbb;conv=>whnf
  refine⟨⟨(St.up hbb g3).trans (congrArg (fun x=>some (Own.tip 3 1 x)) (show rows.length+i=(rows++mks mkI i).length by simp)),?_⟩,fun b2 hb2=>?_⟩
  ·show((rows++mks mkI i).length+1)*8≤_;rw[List.length_append,mks_len];omega
  have hn2:S b2=none:=by
   cases hh:S b2 with
   | none=>rfl
   | some o=>
     have h1:b2≠bf:=fun e=>by rw[e,g2] at hh;cases hh
     rw[St.del_ne _ _ _ h1] at hb2;rw[St.le_upd' g1 hbb _ _ _ hh] at hb2;cases hb2
  have hle2:∀ X,St.le S (((T.upd bb (.tip 3 1 1)).del bf).upd b2 X):=fun X=>St.le_upd (St.le_del (St.le_upd' g1 hbb _) g2) hn2 X
  conv=>whnf
  exact⟨(i+1,b2),⟨rfl,⟨rfl,rfl⟩,rfl,congrArg (AV.sl (.own b2) 1) (show(rows++mks mkI i)++[mkI i]=rows++mks mkI (i+1) by rw[mks_succ,List.append_assoc]),congrArg _ w1,trivial⟩,⟨_,St.leW_refl _,hle2 _,hn2,(St.upd_same _ _ _).trans (congrArg (fun x=>some (Own.tip 3 1 x)) (show(rows++mks mkI i).length+1=rows.length+(i+1) by simp;omega)),hlt⟩,by show n-(i+1)<n-i;omega⟩
 have hlt:i=n:=by have:=of_decide_eq_false hlt;omega
 subst hlt;conv=>whnf
 refine hK _ _ ?_;clear hK hQ K;obtain⟨S₁,q1,hB1,_⟩:=hB.lift g1;clear hB g3;unfold rmC AccL.av at hB1;refine awp_seq2 fun K hK hQ=>?_
 conv=>whnf
 refine⟨_,_,hB1.at_,?_⟩;conv=>whnf
 intro bb hbb;have hB2:=hB1.over hbb (.tip (tyA 0) 1 1);have q2:=St.le_upd' q1 (St.le_none hB1.le hbb) (.tip (tyA 0) 1 1);clear hB1;conv=>whnf
 refine⟨⟨fun hl=>hB2.tip (j:=0) (by decide) hl,?_⟩,fun S4 c1 c2 b1 c3=>?_⟩
 ·show((A 0).es.length+1)*24≤_;omega
 have hB3:=hB2.push (j:=0) (by decide) c1 c2 c3 (.sl (.own bf) 1 (rows++mks mkI i)) rfl
 clear hB2 c1 c2 c3;conv=>whnf
 refine⟨_,_,hB3.at_,?_⟩;conv=>whnf
 refine hK _ _ ?_;clear hK hQ K;have hB4:=hB3.put (rmC (setA A 0 ((A 0).push b1 (.sl (.own bf) 1 (rows++mks mkI i)))));clear hB3;have hes:(setA A 0 ((A 0).push b1 (.sl (.own bf) 1 (rows++mks mkI i)))) 1=A 1:=rfl;change awp _ _ _ _ (St.upd _ _ (.obj 44 (rmC (setA A 0 ((A 0).push b1 (.sl (.own bf) 1 (rows++mks mkI i))))))) _;generalize hAA:setA A 0 ((A 0).push b1 (.sl (.own bf) 1 (rows++mks mkI i)))=AA at *;have hal:(AA 1).es.length≤N:=by rw[hes];exact hl2
 unfold rmC AccL.av at hB4;refine awp_seq2 fun K hK hQ=>?_
 conv=>whnf
 refine⟨_,_,hB4.at_,?_⟩;conv=>whnf
 intro hlen;conv=>whnf
 intro bc hbc;have hB5:=hB4.over hbc (.tip 3 1 1);have q3:=St.le_upd' q2 (St.le_none hB4.le hbc) (.tip 3 1 1);clear hB4;conv=>whnf
 refine⟨⟨fun hl=>hB5.tip (j:=1) (by decide) hl,?_⟩,fun S5 c1 c2 b2 c3=>?_⟩
 ·show((AA 1).es.length+1)*8≤_;omega
 have hB6:=hB5.push (j:=1) (by decide) c1 c2 c3 (.int .i64 (rows.length:Int)) rfl
 clear hB5 c1 c2 c3;conv=>whnf
 refine⟨_,_,hB6.at_,?_⟩;conv=>whnf
 refine hK _ _ ?_;clear hK hQ K;have hB7:=hB6.put (rmC (setA AA 1 ((AA 1).push b2 (.int .i64 (rows.length:Int)))));clear hB6;obtain⟨d1,d2⟩:=hB7.down q3;have hinv:RmInv (setA AA 1 ((AA 1).push b2 (.int .i64 (rows.length:Int)))) (N+1):=by
  have hp:=(hI.i).push bf b1 b2 i rows (by omega)
  rw[hes,← hAA];refine⟨?_,?_,?_,?_,?_⟩<;>first | exact hp | exact hI.i.mono (Nat.le_succ _) | exact hI.t.mono (Nat.le_succ _) | exact hI.p.mono (Nat.le_succ _) | exact hI.o.mono (Nat.le_succ _) | exact hI.s.mono (Nat.le_succ _)
 conv=>whnf
 intro hlen1;conv=>whnf
 intro hlen2;conv=>whnf
 cases hz:(((rows.length:Nat):Int) == 0 && (((rows++mks mkI i).length:Nat):Int) == 0) with
 | true=>
   have hz0:rows=[]:=by
    simp only[Bool.and_eq_true,beq_iff_eq] at hz;exact List.eq_nil_of_length_eq_zero (by omega)
   conv=>whnf
   exact⟨_,_,⟨rfl,_,d1,hinv⟩,d2,⟨rfl,hz0.symm⟩⟩
 | false=>
   conv=>whnf
   refine⟨⟨by omega,by rw[List.length_append];omega,by omega⟩,?_⟩
   conv=>whnf
   exact⟨_,_,⟨rfl,_,d1,hinv⟩,d2,⟨rfl,by rw[Int.toNat_natCast];simp⟩⟩
theorem layTexts_ok{S₀ S:St}{rb N:Nat}(h:Rm S₀ S rb N)(hN:N≤100000000)(rows:List (List AV))(hr:rows.length≤100000000)(n:Nat)(hn:n≤1000) :
 Triple P (C G) 78 [.ref rb 0,.sl .any 1 rows,.int .i64 (n:Int)] S fun o S'=>o=.ret (.sl .any 1 rows)∧Rm S₀ S' rb (N+1):=by
 -- (*hallmark/hallmarkroom.Room).layTexts function,1 k,9 the elements' type,mkT mk,word_ok the mark's contract,2 j,3 j+1,16 bytes of an element,hI.t the kind's invariant
 obtain⟨A,hB,hI⟩:=h;have hlot:=fun i S=>word_ok (G:=G) i S
 obtain⟨lE,hE1,hE2,hE3,hE4⟩:=(hI.t).ex;have hl1:(A 2).es.length≤N:=by rw[hE1,List.length_map];exact hE3
 have hl2:(A 3).es.length≤N:=by rw[hE2,List.length_map];exact hE3
 clear hE1 hE2 hE3 hE4 lE;refine triple_of_awp (hT G) hm Tryz.func78 rfl (by decide +kernel) rfl (by decide +kernel) (by show 3≤_;decide +kernel) rfl ?_
 refine awp_seq2 fun K hK hQ=>?_
 conv=>whnf
 refine hK _ _ ?_;clear hK hQ K;refine awp_seq2 fun K hK hQ=>?_
 conv=>whnf
 intro b0 hb0;conv=>whnf
 refine hK _ _ ?_;clear hK hQ K;refine awp_seq2 fun K hK hQ=>?_
 conv=>whnf
 refine⟨⟨St.upd_same _ _ _,?_⟩,?_⟩
 ·show(0+rows.length)*16≤_;omega
 conv=>whnf
 intro bf hbf;rw[St.del_upd hb0] at hbf ⊢;conv=>whnf
 refine hK _ _ ?_;clear hK hQ K;refine awp_seq2 fun K hK hQ=>?_
 conv=>whnf
 refine⟨⟨Nat×Nat,fun z=>[(0,.ref rb 0),(1,.sl .any 1 rows),(2,.int .i64 (n:Int)),(7,.sl (.own z.2) 1 (rows++mks mkT z.1)),(8,.int .i64 (z.1:Int))],
  fun z S1=>St.le S S1∧S z.2=none∧S1 z.2=some (.tip 9 1 (rows.length+z.1))∧z.1≤n,fun z=>n-z.1⟩,
  ⟨(0,bf),⟨rfl,⟨rfl,rfl⟩,rfl,congrArg (AV.sl (.own bf) 1) (show[]++rows=rows++mks mkT 0 by simp[mks]),rfl,trivial⟩,_,St.leW_refl _,St.le_upd' (St.le_refl S) hbf _,hbf,(St.upd_same _ _ _).trans (congrArg (fun x=>some (Own.tip 9 1 x)) (show 0+rows.length=rows.length+0 by omega)),by omega⟩,?_⟩
 clear hbf hb0 bf;rintro⟨i,bf⟩ S1 ⟨g1,g2,g3,g4⟩;dsimp only at g1 g2 g3 g4;conv=>whnf
 refine split_of (fun hlt=>?_) (fun hlt=>?_)
 ·have hlt:i<n:=by have:=of_decide_eq_true hlt;omega
  have w1:IntKind.i64.wrap ((i:Int)+1)=((i+1:Nat):Int):=wrap_nat (by omega)
  conv=>whnf
  refine(hlot i _).mono ?_;rintro o T ⟨rfl,rfl⟩;conv=>whnf
  intro bb hbb;conv=>whnf
  refine⟨⟨(St.up hbb g3).trans (congrArg (fun x=>some (Own.tip 9 1 x)) (show rows.length+i=(rows++mks mkT i).length by simp)),?_⟩,fun b2 hb2=>?_⟩
  ·show((rows++mks mkT i).length+1)*16≤_;rw[List.length_append,mks_len];omega
  have hn2:S b2=none:=by
   cases hh:S b2 with
   | none=>rfl
   | some o=>
     have h1:b2≠bf:=fun e=>by rw[e,g2] at hh;cases hh
     rw[St.del_ne _ _ _ h1] at hb2;rw[St.le_upd' g1 hbb _ _ _ hh] at hb2;cases hb2
  have hle2:∀ X,St.le S (((T.upd bb (.tip 9 1 1)).del bf).upd b2 X):=fun X=>St.le_upd (St.le_del (St.le_upd' g1 hbb _) g2) hn2 X
  conv=>whnf
  exact⟨(i+1,b2),⟨rfl,⟨rfl,rfl⟩,rfl,congrArg (AV.sl (.own b2) 1) (show(rows++mks mkT i)++[mkT i]=rows++mks mkT (i+1) by rw[mks_succ,List.append_assoc]),congrArg _ w1,trivial⟩,⟨_,St.leW_refl _,hle2 _,hn2,(St.upd_same _ _ _).trans (congrArg (fun x=>some (Own.tip 9 1 x)) (show(rows++mks mkT i).length+1=rows.length+(i+1) by simp;omega)),hlt⟩,by show n-(i+1)<n-i;omega⟩
 have hlt:i=n:=by have:=of_decide_eq_false hlt;omega
 subst hlt;conv=>whnf
 refine hK _ _ ?_;clear hK hQ K;obtain⟨S₁,q1,hB1,_⟩:=hB.lift g1;clear hB g3;unfold rmC AccL.av at hB1;refine awp_seq2 fun K hK hQ=>?_
 conv=>whnf
 refine⟨_,_,hB1.at_,?_⟩;conv=>whnf
 intro bb hbb;have hB2:=hB1.over hbb (.tip (tyA 2) 1 1);have q2:=St.le_upd' q1 (St.le_none hB1.le hbb) (.tip (tyA 2) 1 1);clear hB1;conv=>whnf
 refine⟨⟨fun hl=>hB2.tip (j:=2) (by decide) hl,?_⟩,fun S4 c1 c2 b1 c3=>?_⟩
 ·show((A 2).es.length+1)*24≤_;omega
 have hB3:=hB2.push (j:=2) (by decide) c1 c2 c3 (.sl (.own bf) 1 (rows++mks mkT i)) rfl
 clear hB2 c1 c2 c3;conv=>whnf
 refine⟨_,_,hB3.at_,?_⟩;conv=>whnf
 refine hK _ _ ?_;clear hK hQ K;have hB4:=hB3.put (rmC (setA A 2 ((A 2).push b1 (.sl (.own bf) 1 (rows++mks mkT i)))));clear hB3;have hes:(setA A 2 ((A 2).push b1 (.sl (.own bf) 1 (rows++mks mkT i)))) 3=A 3:=rfl;change awp _ _ _ _ (St.upd _ _ (.obj 44 (rmC (setA A 2 ((A 2).push b1 (.sl (.own bf) 1 (rows++mks mkT i))))))) _;generalize hAA:setA A 2 ((A 2).push b1 (.sl (.own bf) 1 (rows++mks mkT i)))=AA at *;have hal:(AA 3).es.length≤N:=by rw[hes];exact hl2
 unfold rmC AccL.av at hB4;refine awp_seq2 fun K hK hQ=>?_
 conv=>whnf
 refine⟨_,_,hB4.at_,?_⟩;conv=>whnf
 intro hlen;conv=>whnf
 intro bc hbc;have hB5:=hB4.over hbc (.tip 3 1 1);have q3:=St.le_upd' q2 (St.le_none hB4.le hbc) (.tip 3 1 1);clear hB4;conv=>whnf
 refine⟨⟨fun hl=>hB5.tip (j:=3) (by decide) hl,?_⟩,fun S5 c1 c2 b2 c3=>?_⟩
 ·show((AA 3).es.length+1)*8≤_;omega
 have hB6:=hB5.push (j:=3) (by decide) c1 c2 c3 (.int .i64 (rows.length:Int)) rfl
 clear hB5 c1 c2 c3;conv=>whnf
 refine⟨_,_,hB6.at_,?_⟩;conv=>whnf
 refine hK _ _ ?_;clear hK hQ K;have hB7:=hB6.put (rmC (setA AA 3 ((AA 3).push b2 (.int .i64 (rows.length:Int)))));clear hB6;obtain⟨d1,d2⟩:=hB7.down q3;have hinv:RmInv (setA AA 3 ((AA 3).push b2 (.int .i64 (rows.length:Int)))) (N+1):=by
  have hp:=(hI.t).push bf b1 b2 i rows (by omega)
  rw[hes,← hAA];refine⟨?_,?_,?_,?_,?_⟩<;>first | exact hp | exact hI.i.mono (Nat.le_succ _) | exact hI.t.mono (Nat.le_succ _) | exact hI.p.mono (Nat.le_succ _) | exact hI.o.mono (Nat.le_succ _) | exact hI.s.mono (Nat.le_succ _)
 conv=>whnf
 intro hlen1;conv=>whnf
 intro hlen2;conv=>whnf
 cases hz:(((rows.length:Nat):Int) == 0 && (((rows++mks mkT i).length:Nat):Int) == 0) with
 | true=>
   have hz0:rows=[]:=by
    simp only[Bool.and_eq_true,beq_iff_eq] at hz;exact List.eq_nil_of_length_eq_zero (by omega)
   conv=>whnf
   exact⟨_,_,⟨rfl,_,d1,hinv⟩,d2,⟨rfl,hz0.symm⟩⟩
 | false=>
   conv=>whnf
   refine⟨⟨by omega,by rw[List.length_append];omega,by omega⟩,?_⟩
   conv=>whnf
   exact⟨_,_,⟨rfl,_,d1,hinv⟩,d2,⟨rfl,by rw[Int.toNat_natCast];simp⟩⟩
theorem layPieces_ok{S₀ S:St}{rb N:Nat}(h:Rm S₀ S rb N)(hN:N≤100000000)(rows:List (List AV))(hr:rows.length≤100000000)(n:Nat)(hn:n≤1000) :
 Triple P (C G) 102 [.ref rb 0,.sl .any 2 rows,.int .i64 (n:Int)] S fun o S'=>o=.ret (.sl .any 2 rows)∧Rm S₀ S' rb (N+1):=by
 -- (*hallmark/hallmarkroom.Room).layPieces function,2 k,126 the elements' type,mkP mk,lot_ok the mark's contract,4 j,5 j+1,24 bytes of an element,hI.p the kind's invariant
 obtain⟨A,hB,hI⟩:=h;have hlot:=fun i S=>lot_ok (G:=G) i S
 obtain⟨lE,hE1,hE2,hE3,hE4⟩:=(hI.p).ex;have hl1:(A 4).es.length≤N:=by rw[hE1,List.length_map];exact hE3
 have hl2:(A 5).es.length≤N:=by rw[hE2,List.length_map];exact hE3
 clear hE1 hE2 hE3 hE4 lE;refine triple_of_awp (hT G) hm Tryz.func102 rfl (by decide +kernel) rfl (by decide +kernel) (by show 3≤_;decide +kernel) rfl ?_
 refine awp_seq2 fun K hK hQ=>?_
 conv=>whnf
 refine hK _ _ ?_;clear hK hQ K;refine awp_seq2 fun K hK hQ=>?_
 conv=>whnf
 intro b0 hb0;conv=>whnf
 refine hK _ _ ?_;clear hK hQ K;refine awp_seq2 fun K hK hQ=>?_
 conv=>whnf
 refine⟨⟨St.upd_same _ _ _,?_⟩,?_⟩
 ·show(0+rows.length)*24≤_;omega
 conv=>whnf
 intro bf hbf;rw[St.del_upd hb0] at hbf ⊢;conv=>whnf
 refine hK _ _ ?_;clear hK hQ K;refine awp_seq2 fun K hK hQ=>?_
 conv=>whnf
 refine⟨⟨Nat×Nat,fun z=>[(0,.ref rb 0),(1,.sl .any 2 rows),(2,.int .i64 (n:Int)),(7,.sl (.own z.2) 2 (rows++mks mkP z.1)),(8,.int .i64 (z.1:Int))],
  fun z S1=>St.le S S1∧S z.2=none∧S1 z.2=some (.tip 126 2 (rows.length+z.1))∧z.1≤n,fun z=>n-z.1⟩,
  ⟨(0,bf),⟨rfl,⟨rfl,rfl⟩,rfl,congrArg (AV.sl (.own bf) 2) (show[]++rows=rows++mks mkP 0 by simp[mks]),rfl,trivial⟩,_,St.leW_refl _,St.le_upd' (St.le_refl S) hbf _,hbf,(St.upd_same _ _ _).trans (congrArg (fun x=>some (Own.tip 126 2 x)) (show 0+rows.length=rows.length+0 by omega)),by omega⟩,?_⟩
 clear hbf hb0 bf;rintro⟨i,bf⟩ S1 ⟨g1,g2,g3,g4⟩;dsimp only at g1 g2 g3 g4;conv=>whnf
 refine split_of (fun hlt=>?_) (fun hlt=>?_)
 ·have hlt:i<n:=by have:=of_decide_eq_true hlt;omega
  have w1:IntKind.i64.wrap ((i:Int)+1)=((i+1:Nat):Int):=wrap_nat (by omega)
  conv=>whnf
  refine(hlot i _).mono ?_;rintro o T ⟨rfl,rfl⟩;conv=>whnf
  intro bb hbb;conv=>whnf
  refine⟨⟨(St.up hbb g3).trans (congrArg (fun x=>some (Own.tip 126 2 x)) (show rows.length+i=(rows++mks mkP i).length by simp)),?_⟩,fun b2 hb2=>?_⟩
  ·show((rows++mks mkP i).length+1)*24≤_;rw[List.length_append,mks_len];omega
  have hn2:S b2=none:=by
   cases hh:S b2 with
   | none=>rfl
   | some o=>
     have h1:b2≠bf:=fun e=>by rw[e,g2] at hh;cases hh
     rw[St.del_ne _ _ _ h1] at hb2;rw[St.le_upd' g1 hbb _ _ _ hh] at hb2;cases hb2
  have hle2:∀ X,St.le S (((T.upd bb (.tip 126 2 1)).del bf).upd b2 X):=fun X=>St.le_upd (St.le_del (St.le_upd' g1 hbb _) g2) hn2 X
  conv=>whnf
  exact⟨(i+1,b2),⟨rfl,⟨rfl,rfl⟩,rfl,congrArg (AV.sl (.own b2) 2) (show(rows++mks mkP i)++[mkP i]=rows++mks mkP (i+1) by rw[mks_succ,List.append_assoc]),congrArg _ w1,trivial⟩,⟨_,St.leW_refl _,hle2 _,hn2,(St.upd_same _ _ _).trans (congrArg (fun x=>some (Own.tip 126 2 x)) (show(rows++mks mkP i).length+1=rows.length+(i+1) by simp;omega)),hlt⟩,by show n-(i+1)<n-i;omega⟩
 have hlt:i=n:=by have:=of_decide_eq_false hlt;omega
 subst hlt;conv=>whnf
 refine hK _ _ ?_;clear hK hQ K;obtain⟨S₁,q1,hB1,_⟩:=hB.lift g1;clear hB g3;unfold rmC AccL.av at hB1;refine awp_seq2 fun K hK hQ=>?_
 conv=>whnf
 refine⟨_,_,hB1.at_,?_⟩;conv=>whnf
 intro bb hbb;have hB2:=hB1.over hbb (.tip (tyA 4) 1 1);have q2:=St.le_upd' q1 (St.le_none hB1.le hbb) (.tip (tyA 4) 1 1);clear hB1;conv=>whnf
 refine⟨⟨fun hl=>hB2.tip (j:=4) (by decide) hl,?_⟩,fun S4 c1 c2 b1 c3=>?_⟩
 ·show((A 4).es.length+1)*24≤_;omega
 have hB3:=hB2.push (j:=4) (by decide) c1 c2 c3 (.sl (.own bf) 2 (rows++mks mkP i)) rfl
 clear hB2 c1 c2 c3;conv=>whnf
 refine⟨_,_,hB3.at_,?_⟩;conv=>whnf
 refine hK _ _ ?_;clear hK hQ K;have hB4:=hB3.put (rmC (setA A 4 ((A 4).push b1 (.sl (.own bf) 2 (rows++mks mkP i)))));clear hB3;have hes:(setA A 4 ((A 4).push b1 (.sl (.own bf) 2 (rows++mks mkP i)))) 5=A 5:=rfl;change awp _ _ _ _ (St.upd _ _ (.obj 44 (rmC (setA A 4 ((A 4).push b1 (.sl (.own bf) 2 (rows++mks mkP i))))))) _;generalize hAA:setA A 4 ((A 4).push b1 (.sl (.own bf) 2 (rows++mks mkP i)))=AA at *;have hal:(AA 5).es.length≤N:=by rw[hes];exact hl2
 unfold rmC AccL.av at hB4;refine awp_seq2 fun K hK hQ=>?_
 conv=>whnf
 refine⟨_,_,hB4.at_,?_⟩;conv=>whnf
 intro hlen;conv=>whnf
 intro bc hbc;have hB5:=hB4.over hbc (.tip 3 1 1);have q3:=St.le_upd' q2 (St.le_none hB4.le hbc) (.tip 3 1 1);clear hB4;conv=>whnf
 refine⟨⟨fun hl=>hB5.tip (j:=5) (by decide) hl,?_⟩,fun S5 c1 c2 b2 c3=>?_⟩
 ·show((AA 5).es.length+1)*8≤_;omega
 have hB6:=hB5.push (j:=5) (by decide) c1 c2 c3 (.int .i64 (rows.length:Int)) rfl
 clear hB5 c1 c2 c3;conv=>whnf
 refine⟨_,_,hB6.at_,?_⟩;conv=>whnf
 refine hK _ _ ?_;clear hK hQ K;have hB7:=hB6.put (rmC (setA AA 5 ((AA 5).push b2 (.int .i64 (rows.length:Int)))));clear hB6;obtain⟨d1,d2⟩:=hB7.down q3;have hinv:RmInv (setA AA 5 ((AA 5).push b2 (.int .i64 (rows.length:Int)))) (N+1):=by
  have hp:=(hI.p).push bf b1 b2 i rows (by omega)
  rw[hes,← hAA];refine⟨?_,?_,?_,?_,?_⟩<;>first | exact hp | exact hI.i.mono (Nat.le_succ _) | exact hI.t.mono (Nat.le_succ _) | exact hI.p.mono (Nat.le_succ _) | exact hI.o.mono (Nat.le_succ _) | exact hI.s.mono (Nat.le_succ _)
 conv=>whnf
 intro hlen1;conv=>whnf
 intro hlen2;conv=>whnf
 cases hz:(((rows.length:Nat):Int) == 0 && (((rows++mks mkP i).length:Nat):Int) == 0) with
 | true=>
   have hz0:rows=[]:=by
    simp only[Bool.and_eq_true,beq_iff_eq] at hz;exact List.eq_nil_of_length_eq_zero (by omega)
   conv=>whnf
   exact⟨_,_,⟨rfl,_,d1,hinv⟩,d2,⟨rfl,hz0.symm⟩⟩
 | false=>
   conv=>whnf
   refine⟨⟨by omega,by rw[List.length_append];omega,by omega⟩,?_⟩
   conv=>whnf
   exact⟨_,_,⟨rfl,_,d1,hinv⟩,d2,⟨rfl,by rw[Int.toNat_natCast];simp⟩⟩
theorem layOps_ok{S₀ S:St}{rb N:Nat}(h:Rm S₀ S rb N)(hN:N≤100000000)(rows:List (List AV))(hr:rows.length≤100000000)(n:Nat)(hn:n≤1000) :
 Triple P (C G) 75 [.ref rb 0,.sl .any 3 rows,.int .i64 (n:Int)] S fun o S'=>o=.ret (.sl .any 3 rows)∧Rm S₀ S' rb (N+1):=by
 -- (*hallmark/hallmarkroom.Room).layOps function,3 k,85 the elements' type,mkO mk,lot_ok the mark's contract,6 j,7 j+1,32 bytes of an element,hI.o the kind's invariant
 obtain⟨A,hB,hI⟩:=h;have hlot:=fun i S=>lot_ok (G:=G) i S
 obtain⟨lE,hE1,hE2,hE3,hE4⟩:=(hI.o).ex;have hl1:(A 6).es.length≤N:=by rw[hE1,List.length_map];exact hE3
 have hl2:(A 7).es.length≤N:=by rw[hE2,List.length_map];exact hE3
 clear hE1 hE2 hE3 hE4 lE;refine triple_of_awp (hT G) hm Tryz.func75 rfl (by decide +kernel) rfl (by decide +kernel) (by show 3≤_;decide +kernel) rfl ?_
 refine awp_seq2 fun K hK hQ=>?_
 conv=>whnf
 refine hK _ _ ?_;clear hK hQ K;refine awp_seq2 fun K hK hQ=>?_
 conv=>whnf
 intro b0 hb0;conv=>whnf
 refine hK _ _ ?_;clear hK hQ K;refine awp_seq2 fun K hK hQ=>?_
 conv=>whnf
 refine⟨⟨St.upd_same _ _ _,?_⟩,?_⟩
 ·show(0+rows.length)*32≤_;omega
 conv=>whnf
 intro bf hbf;rw[St.del_upd hb0] at hbf ⊢;conv=>whnf
 refine hK _ _ ?_;clear hK hQ K;refine awp_seq2 fun K hK hQ=>?_
 conv=>whnf
 refine⟨⟨Nat×Nat,fun z=>[(0,.ref rb 0),(1,.sl .any 3 rows),(2,.int .i64 (n:Int)),(7,.sl (.own z.2) 3 (rows++mks mkO z.1)),(8,.int .i64 (z.1:Int))],
  fun z S1=>St.le S S1∧S z.2=none∧S1 z.2=some (.tip 85 3 (rows.length+z.1))∧z.1≤n,fun z=>n-z.1⟩,
  ⟨(0,bf),⟨rfl,⟨rfl,rfl⟩,rfl,congrArg (AV.sl (.own bf) 3) (show[]++rows=rows++mks mkO 0 by simp[mks]),rfl,trivial⟩,_,St.leW_refl _,St.le_upd' (St.le_refl S) hbf _,hbf,(St.upd_same _ _ _).trans (congrArg (fun x=>some (Own.tip 85 3 x)) (show 0+rows.length=rows.length+0 by omega)),by omega⟩,?_⟩
 clear hbf hb0 bf;rintro⟨i,bf⟩ S1 ⟨g1,g2,g3,g4⟩;dsimp only at g1 g2 g3 g4;conv=>whnf
 refine split_of (fun hlt=>?_) (fun hlt=>?_)
 ·have hlt:i<n:=by have:=of_decide_eq_true hlt;omega
  have w1:IntKind.i64.wrap ((i:Int)+1)=((i+1:Nat):Int):=wrap_nat (by omega)
  conv=>whnf
  refine(hlot i _).mono ?_;rintro o T ⟨rfl,rfl⟩;conv=>whnf
  intro bb hbb;conv=>whnf
  refine⟨⟨(St.up hbb g3).trans (congrArg (fun x=>some (Own.tip 85 3 x)) (show rows.length+i=(rows++mks mkO i).length by simp)),?_⟩,fun b2 hb2=>?_⟩
  ·show((rows++mks mkO i).length+1)*32≤_;rw[List.length_append,mks_len];omega
  have hn2:S b2=none:=by
   cases hh:S b2 with
   | none=>rfl
   | some o=>
     have h1:b2≠bf:=fun e=>by rw[e,g2] at hh;cases hh
     rw[St.del_ne _ _ _ h1] at hb2;rw[St.le_upd' g1 hbb _ _ _ hh] at hb2;cases hb2
  have hle2:∀ X,St.le S (((T.upd bb (.tip 85 3 1)).del bf).upd b2 X):=fun X=>St.le_upd (St.le_del (St.le_upd' g1 hbb _) g2) hn2 X
  conv=>whnf
  exact⟨(i+1,b2),⟨rfl,⟨rfl,rfl⟩,rfl,congrArg (AV.sl (.own b2) 3) (show(rows++mks mkO i)++[mkO i]=rows++mks mkO (i+1) by rw[mks_succ,List.append_assoc]),congrArg _ w1,trivial⟩,⟨_,St.leW_refl _,hle2 _,hn2,(St.upd_same _ _ _).trans (congrArg (fun x=>some (Own.tip 85 3 x)) (show(rows++mks mkO i).length+1=rows.length+(i+1) by simp;omega)),hlt⟩,by show n-(i+1)<n-i;omega⟩
 have hlt:i=n:=by have:=of_decide_eq_false hlt;omega
 subst hlt;conv=>whnf
 refine hK _ _ ?_;clear hK hQ K;obtain⟨S₁,q1,hB1,_⟩:=hB.lift g1;clear hB g3;unfold rmC AccL.av at hB1;refine awp_seq2 fun K hK hQ=>?_
 conv=>whnf
 refine⟨_,_,hB1.at_,?_⟩;conv=>whnf
 intro bb hbb;have hB2:=hB1.over hbb (.tip (tyA 6) 1 1);have q2:=St.le_upd' q1 (St.le_none hB1.le hbb) (.tip (tyA 6) 1 1);clear hB1;conv=>whnf
 refine⟨⟨fun hl=>hB2.tip (j:=6) (by decide) hl,?_⟩,fun S4 c1 c2 b1 c3=>?_⟩
 ·show((A 6).es.length+1)*24≤_;omega
 have hB3:=hB2.push (j:=6) (by decide) c1 c2 c3 (.sl (.own bf) 3 (rows++mks mkO i)) rfl
 clear hB2 c1 c2 c3;conv=>whnf
 refine⟨_,_,hB3.at_,?_⟩;conv=>whnf
 refine hK _ _ ?_;clear hK hQ K;have hB4:=hB3.put (rmC (setA A 6 ((A 6).push b1 (.sl (.own bf) 3 (rows++mks mkO i)))));clear hB3;have hes:(setA A 6 ((A 6).push b1 (.sl (.own bf) 3 (rows++mks mkO i)))) 7=A 7:=rfl;change awp _ _ _ _ (St.upd _ _ (.obj 44 (rmC (setA A 6 ((A 6).push b1 (.sl (.own bf) 3 (rows++mks mkO i))))))) _;generalize hAA:setA A 6 ((A 6).push b1 (.sl (.own bf) 3 (rows++mks mkO i)))=AA at *;have hal:(AA 7).es.length≤N:=by rw[hes];exact hl2
 unfold rmC AccL.av at hB4;refine awp_seq2 fun K hK hQ=>?_
 conv=>whnf
 refine⟨_,_,hB4.at_,?_⟩;conv=>whnf
 intro hlen;conv=>whnf
 intro bc hbc;have hB5:=hB4.over hbc (.tip 3 1 1);have q3:=St.le_upd' q2 (St.le_none hB4.le hbc) (.tip 3 1 1);clear hB4;conv=>whnf
 refine⟨⟨fun hl=>hB5.tip (j:=7) (by decide) hl,?_⟩,fun S5 c1 c2 b2 c3=>?_⟩
 ·show((AA 7).es.length+1)*8≤_;omega
 have hB6:=hB5.push (j:=7) (by decide) c1 c2 c3 (.int .i64 (rows.length:Int)) rfl
 clear hB5 c1 c2 c3;conv=>whnf
 refine⟨_,_,hB6.at_,?_⟩;conv=>whnf
 refine hK _ _ ?_;clear hK hQ K;have hB7:=hB6.put (rmC (setA AA 7 ((AA 7).push b2 (.int .i64 (rows.length:Int)))));clear hB6;obtain⟨d1,d2⟩:=hB7.down q3;have hinv:RmInv (setA AA 7 ((AA 7).push b2 (.int .i64 (rows.length:Int)))) (N+1):=by
  have hp:=(hI.o).push bf b1 b2 i rows (by omega)
  rw[hes,← hAA];refine⟨?_,?_,?_,?_,?_⟩<;>first | exact hp | exact hI.i.mono (Nat.le_succ _) | exact hI.t.mono (Nat.le_succ _) | exact hI.p.mono (Nat.le_succ _) | exact hI.o.mono (Nat.le_succ _) | exact hI.s.mono (Nat.le_succ _)
 conv=>whnf
 intro hlen1;conv=>whnf
 intro hlen2;conv=>whnf
 cases hz:(((rows.length:Nat):Int) == 0 && (((rows++mks mkO i).length:Nat):Int) == 0) with
 | true=>
   have hz0:rows=[]:=by
    simp only[Bool.and_eq_true,beq_iff_eq] at hz;exact List.eq_nil_of_length_eq_zero (by omega)
   conv=>whnf
   exact⟨_,_,⟨rfl,_,d1,hinv⟩,d2,⟨rfl,hz0.symm⟩⟩
 | false=>
   conv=>whnf
   refine⟨⟨by omega,by rw[List.length_append];omega,by omega⟩,?_⟩
   conv=>whnf
   exact⟨_,_,⟨rfl,_,d1,hinv⟩,d2,⟨rfl,by rw[Int.toNat_natCast];simp⟩⟩
theorem ov_upd_out{S₀:St}{x:Nat}{o:Own}:∀ fp:List (Nat×Own),x ∉ fp.map (·.1)→(ov S₀ fp).upd x o=ov (S₀.upd x o) fp
 | [],_=>rfl
 | (c,q)::r,h=>by
  simp only[List.map_cons,List.mem_cons,not_or] at h;simp only[ov];rw[St.upd_comm (Ne.symm h.1),ov_upd_out r h.2]
theorem ov_del_out{S₀:St}{x:Nat}:∀ fp:List (Nat×Own),x ∉ fp.map (·.1)→(ov S₀ fp).del x=ov (S₀.del x) fp
 | [],_=>rfl
 | (c,q)::r,h=>by
  simp only[List.map_cons,List.mem_cons,not_or] at h;simp only[ov];rw[← ov_del_out r h.2]
  funext y
  by_cases hy:y=x
  ·subst hy;rw[St.del_same,St.upd_ne _ _ _ _ h.1,St.del_same]
  ·rw[St.del_ne _ _ _ hy]
   by_cases hc:y=c
   ·subst hc;rw[St.upd_same,St.upd_same]
   ·rw[St.upd_ne _ _ _ _ hc,St.upd_ne _ _ _ _ hc,St.del_ne _ _ _ hy]
theorem RmB.out{S₀ S:St}{rb:Nat}{cells:List AV}{A:RmA}(h:RmB S₀ S rb cells A){x:Nat}(hx:S x=none∨∃ o,S₀ x=some o):x ∉ (((rb,Own.obj 44 cells)::fpsA A).map (·.1)):=by
 rcases hx with hx | ⟨o,hx⟩
 ·rw[h.eq] at hx;exact(ov_none h.ok.nd hx).2
 ·intro hm;obtain⟨p,q1,rfl⟩:=List.mem_map.1 hm;rw[h.ok.new p q1] at hx;cases hx
theorem RmB.set{S₀ S:St}{rb:Nat}{cells:List AV}{A:RmA}(h:RmB S₀ S rb cells A){x:Nat}(hx:S x=none∨∃ o,S₀ x=some o)(o:Own):RmB (S₀.upd x o) (S.upd x o) rb cells A:=by
 have hn:=h.out hx
 refine⟨by rw[h.eq];exact ov_upd_out _ hn,h.ok.nd,fun p hp=>?_⟩
 have hne:p.1≠x:=fun e=>hn (by rw[← e];exact List.mem_map.2 ⟨p,hp,rfl⟩)
 rw[St.upd_ne _ _ _ _ hne];exact h.ok.new p hp
theorem RmB.del{S₀ S:St}{rb:Nat}{cells:List AV}{A:RmA}(h:RmB S₀ S rb cells A){x:Nat}(hx:∃ o,S₀ x=some o):RmB (S₀.del x) (S.del x) rb cells A:=by
 have hn:=h.out (.inr hx)
 refine⟨by rw[h.eq];exact ov_del_out _ hn,h.ok.nd,fun p hp=>?_⟩
 have hne:p.1≠x:=fun e=>hn (by rw[← e];exact List.mem_map.2 ⟨p,hp,rfl⟩)
 rw[St.del_ne _ _ _ hne];exact h.ok.new p hp
theorem Rm.set{S₀ S:St}{rb N:Nat}(h:Rm S₀ S rb N){x:Nat}(hx:S x=none∨∃ o,S₀ x=some o)(o:Own):Rm (S₀.upd x o) (S.upd x o) rb N:=by
 obtain⟨A,h1,h2⟩:=h;exact⟨A,h1.set hx o,h2⟩
theorem Rm.le{S₀ S:St}{rb N:Nat}(h:Rm S₀ S rb N):St.le S₀ S:=by
 obtain⟨A,h1,h2⟩:=h;exact h1.le
theorem Rm.down{S₀ S₁ S:St}{rb N:Nat}(h:Rm S₁ S rb N)(hle:St.le S₀ S₁):∃ S',Rm S₀ S' rb N∧St.le S' S:=by
 obtain⟨A,h1,h2⟩:=h;obtain⟨k1,k2⟩:=h1.down hle;exact⟨_,⟨A,k1,h2⟩,k2⟩
theorem row_r_ok{S₀ S:St}{rb N:Nat}(h:Rm S₀ S rb N)(hN:N≤100000000)(ps:List (List AV))(hr:ps.length≤100000000)(bound:ByteArray) :
 Triple P (C G) 76 [.ref rb 0,.ag [.sl .any 2 ps,.str bound]] S fun o S'=>o=.ret (.ag [.sl .any 2 ps,.str bound])∧Rm S₀ S' rb (N+1):=by
 refine triple_of_awp (hT G) hm Tryz.func76 rfl (by decide +kernel) rfl (by decide +kernel) (by show 2≤_;decide +kernel) rfl ?_
 refine awp_seq2 fun K hK hQ=>?_
 conv=>whnf
 intro b3 hb3;conv=>whnf
 intro b4 hb4;conv=>whnf
 refine hK _ _ ?_;clear hK hQ K;have z3:=St.le_none h.le hb3;have n43:b4≠b3:=St.ne_upd hb4;have z4:=St.le_none h.le (St.no hb4);have h3:=h.set (.inl hb3) (.obj 51 [.sl .any 2 ps,.str bound]);have h4:=h3.set (.inl hb4) (.obj 51 [.nils,.str ByteArray.empty]);have q3:((S₀.upd b3 (.obj 51 [.sl .any 2 ps,.str bound])).upd b4 (.obj 51 [.nils,.str ByteArray.empty])) b3=some (.obj 51 [.sl .any 2 ps,.str bound]):=St.ov n43.symm (St.upd_same _ _ _);have q4:((S₀.upd b3 (.obj 51 [.sl .any 2 ps,.str bound])).upd b4 (.obj 51 [.nils,.str ByteArray.empty])) b4=some (.obj 51 [.nils,.str ByteArray.empty]):=St.upd_same _ _ _;have hle0:St.le S₀ ((S₀.upd b3 (.obj 51 [.sl .any 2 ps,.str bound])).upd b4 (.obj 51 [.nils,.str ByteArray.empty])):=St.le_upd (St.le_upd (St.le_refl S₀) z3 _) z4 _;generalize (S₀.upd b3 (.obj 51 [.sl .any 2 ps,.str bound])).upd b4 (.obj 51 [.nils,.str ByteArray.empty])=S₄ at *;clear h3;refine awp_seq2 fun K hK hQ=>?_
 conv=>whnf
 refine⟨_,_,h4.le _ _ q3,?_⟩;conv=>whnf
 refine(layPieces_ok h4 hN ps hr 4 (by decide)).mono ?_
 rintro o T ⟨rfl,h5⟩;conv=>whnf
 refine⟨_,_,h5.le _ _ q3,?_⟩;conv=>whnf
 refine hK _ _ ?_;clear hK hQ K;have h6:=h5.set (.inr ⟨_,q3⟩) (.obj 51 [.sl .any 2 ps,.str bound]);rw[St.upd_self q3] at h6;have q3':=h6.le _ _ q3;have q4':=h6.le _ _ q4;conv=>whnf
 refine⟨_,_,q3',?_⟩;conv=>whnf
 refine⟨_,_,q4',?_⟩;conv=>whnf
 refine⟨_,_,St.upd_same _ _ _,?_⟩;conv=>whnf
 have h7:=h6.set (.inr ⟨_,q4⟩) (.obj 51 [.sl .any 2 ps,.str bound])
 obtain⟨S',d1,d2⟩:=h7.down (St.le_upd hle0 z4 _);exact⟨_,_,⟨rfl,d1⟩,d2,AV.leS_refl _ _ _⟩
theorem Step_r_ok{S₀ S:St}{rb N:Nat}(h:Rm S₀ S rb N)(hN:N≤10000000)(v:StepV)(h1:v.ops.length≤100000000)(h2:v.pieces.length≤100000000)(h3:v.lits.length≤100000000)(h4:v.ids.length≤100000000) :
 Triple P (C G) 49 [.ref rb 0,stepAV v] S fun o S'=>o=.ret (stepAV v)∧Rm S₀ S' rb (N+4):=by
 refine triple_of_awp (hT G) hm Tryz.func49 rfl (by decide +kernel) rfl (by decide +kernel) (by show 2≤_;decide +kernel) rfl ?_
 refine awp_seq2 fun K hK hQ=>?_
 conv=>whnf
 intro b3 hb3;conv=>whnf
 intro b4 hb4;conv=>whnf
 refine hK _ _ ?_;clear hK hQ K;have z3:=St.le_none h.le hb3;have n43:b4≠b3:=St.ne_upd hb4;have z4:=St.le_none h.le (St.no hb4);have g3:=h.set (.inl hb3) (.obj 54 [.int .i64 v.kind,.str v.num,.sl .any 3 (rowsO v.ops),.sl .any 2 (rowsP v.pieces),.str v.bound,.sl .any 1 (rowsI v.lits),.sl .any 1 (rowsS v.ids),.int .i64 v.n6,.str v.s7,.str v.s8]);have g4:=g3.set (.inl hb4) (.obj 54 stepZ);have q3:((S₀.upd b3 (.obj 54 [.int .i64 v.kind,.str v.num,.sl .any 3 (rowsO v.ops),.sl .any 2 (rowsP v.pieces),.str v.bound,.sl .any 1 (rowsI v.lits),.sl .any 1 (rowsS v.ids),.int .i64 v.n6,.str v.s7,.str v.s8])).upd b4 (.obj 54 stepZ)) b3=some (.obj 54 [.int .i64 v.kind,.str v.num,.sl .any 3 (rowsO v.ops),.sl .any 2 (rowsP v.pieces),.str v.bound,.sl .any 1 (rowsI v.lits),.sl .any 1 (rowsS v.ids),.int .i64 v.n6,.str v.s7,.str v.s8]):=St.ov n43.symm (St.upd_same _ _ _);have q4:((S₀.upd b3 (.obj 54 [.int .i64 v.kind,.str v.num,.sl .any 3 (rowsO v.ops),.sl .any 2 (rowsP v.pieces),.str v.bound,.sl .any 1 (rowsI v.lits),.sl .any 1 (rowsS v.ids),.int .i64 v.n6,.str v.s7,.str v.s8])).upd b4 (.obj 54 stepZ)) b4=some (.obj 54 stepZ):=St.upd_same _ _ _;have hle0:St.le S₀ ((S₀.upd b3 (.obj 54 [.int .i64 v.kind,.str v.num,.sl .any 3 (rowsO v.ops),.sl .any 2 (rowsP v.pieces),.str v.bound,.sl .any 1 (rowsI v.lits),.sl .any 1 (rowsS v.ids),.int .i64 v.n6,.str v.s7,.str v.s8])).upd b4 (.obj 54 stepZ)):=St.le_upd (St.le_upd (St.le_refl S₀) z3 _) z4 _;generalize (S₀.upd b3 (.obj 54 [.int .i64 v.kind,.str v.num,.sl .any 3 (rowsO v.ops),.sl .any 2 (rowsP v.pieces),.str v.bound,.sl .any 1 (rowsI v.lits),.sl .any 1 (rowsS v.ids),.int .i64 v.n6,.str v.s7,.str v.s8])).upd b4 (.obj 54 stepZ)=S₄ at *;clear g3
 -- layOps_ok g4 (by omega) (rowsO v.ops) (by rw[rowsO_len];exact h1) 4 (by decide) the contract's call,g4 h before,g5 h after
 refine awp_seq2 fun K hK hQ=>?_
 conv=>whnf
 refine⟨_,_,(g4).le _ _ q3,?_⟩;conv=>whnf
 refine(layOps_ok g4 (by omega) (rowsO v.ops) (by rw[rowsO_len];exact h1) 4 (by decide)).mono ?_
 rintro o T ⟨rfl,g5⟩;conv=>whnf
 refine⟨_,_,(g5).le _ _ q3,?_⟩;conv=>whnf
 refine hK _ _ ?_;clear hK hQ K;have g5:=(g5).set (.inr ⟨_,q3⟩) (.obj 54 [.int .i64 v.kind,.str v.num,.sl .any 3 (rowsO v.ops),.sl .any 2 (rowsP v.pieces),.str v.bound,.sl .any 1 (rowsI v.lits),.sl .any 1 (rowsS v.ids),.int .i64 v.n6,.str v.s7,.str v.s8]);rw[St.upd_self q3] at g5
 -- row_r_ok g5 (by omega) (rowsP v.pieces) (by rw[rowsP_len];exact h2) v.bound the contract's call,g5 h before,g6 h after
 refine awp_seq2 fun K hK hQ=>?_
 conv=>whnf
 refine⟨_,_,(g5).le _ _ q3,?_⟩;conv=>whnf
 refine(row_r_ok g5 (by omega) (rowsP v.pieces) (by rw[rowsP_len];exact h2) v.bound).mono ?_
 rintro o T ⟨rfl,g6⟩;conv=>whnf
 refine⟨_,_,(g6).le _ _ q3,?_⟩;conv=>whnf
 refine hK _ _ ?_;clear hK hQ K;have g6:=(g6).set (.inr ⟨_,q3⟩) (.obj 54 [.int .i64 v.kind,.str v.num,.sl .any 3 (rowsO v.ops),.sl .any 2 (rowsP v.pieces),.str v.bound,.sl .any 1 (rowsI v.lits),.sl .any 1 (rowsS v.ids),.int .i64 v.n6,.str v.s7,.str v.s8]);rw[St.upd_self q3] at g6
 -- layInts_ok g6 (by omega) (rowsI v.lits) (by rw[rowsI_len];exact h3) 4 (by decide) the contract's call,g6 h before,g7 h after
 refine awp_seq2 fun K hK hQ=>?_
 conv=>whnf
 refine⟨_,_,(g6).le _ _ q3,?_⟩;conv=>whnf
 refine(layInts_ok g6 (by omega) (rowsI v.lits) (by rw[rowsI_len];exact h3) 4 (by decide)).mono ?_
 rintro o T ⟨rfl,g7⟩;conv=>whnf
 refine⟨_,_,(g7).le _ _ q3,?_⟩;conv=>whnf
 refine hK _ _ ?_;clear hK hQ K;have g7:=(g7).set (.inr ⟨_,q3⟩) (.obj 54 [.int .i64 v.kind,.str v.num,.sl .any 3 (rowsO v.ops),.sl .any 2 (rowsP v.pieces),.str v.bound,.sl .any 1 (rowsI v.lits),.sl .any 1 (rowsS v.ids),.int .i64 v.n6,.str v.s7,.str v.s8]);rw[St.upd_self q3] at g7
 -- layTexts_ok g7 (by omega) (rowsS v.ids) (by rw[rowsS_len];exact h4) 4 (by decide) the contract's call,g7 h before,g8 h after
 refine awp_seq2 fun K hK hQ=>?_
 conv=>whnf
 refine⟨_,_,(g7).le _ _ q3,?_⟩;conv=>whnf
 refine(layTexts_ok g7 (by omega) (rowsS v.ids) (by rw[rowsS_len];exact h4) 4 (by decide)).mono ?_
 rintro o T ⟨rfl,g8⟩;conv=>whnf
 refine⟨_,_,(g8).le _ _ q3,?_⟩;conv=>whnf
 refine hK _ _ ?_;clear hK hQ K;have g8:=(g8).set (.inr ⟨_,q3⟩) (.obj 54 [.int .i64 v.kind,.str v.num,.sl .any 3 (rowsO v.ops),.sl .any 2 (rowsP v.pieces),.str v.bound,.sl .any 1 (rowsI v.lits),.sl .any 1 (rowsS v.ids),.int .i64 v.n6,.str v.s7,.str v.s8]);rw[St.upd_self q3] at g8;have q3':=g8.le _ _ q3;have q4':=g8.le _ _ q4;unfold stepZ at q4';conv=>whnf
 refine⟨_,_,q3',?_⟩;conv=>whnf
 refine⟨_,_,q4',?_⟩;conv=>whnf
 refine⟨_,_,St.upd_same _ _ _,?_⟩;conv=>whnf
 have g9:=g8.set (.inr ⟨_,q4⟩) (.obj 54 [.int .i64 v.kind,.str v.num,.sl .any 3 (rowsO v.ops),.sl .any 2 (rowsP v.pieces),.str v.bound,.sl .any 1 (rowsI v.lits),.sl .any 1 (rowsS v.ids),.int .i64 v.n6,.str v.s7,.str v.s8])
 obtain⟨S',d1,d2⟩:=g9.down (St.le_upd hle0 z4 _);exact⟨_,_,⟨rfl,d1⟩,d2,AV.leS_refl _ _ _⟩
def FullS(S₀ S1:St)(rb N bf:Nat)(n:Nat):Prop:=∃ S₁,St.le S₀ S₁∧S₀ bf=none∧S₁ bf=some (.tip 54 10 n)∧Rm S₁ S1 rb N
theorem FullS.tip{S₀ S1:St}{rb N bf n:Nat}(h:FullS S₀ S1 rb N bf n):S1 bf=some (.tip 54 10 n):=by
 obtain⟨S₁,h1,h2,h3,h4⟩:=h;exact h4.le _ _ h3
theorem FullS.step{S₀ S1:St}{rb N bf n bb b2 m:Nat}(h:FullS S₀ S1 rb N bf n)(hbb:S1 bb=none)(o:Own)(hb2:((S1.upd bb o).del bf) b2=none)(hm:m=n+1):FullS S₀ (((S1.upd bb o).del bf).upd b2 (.tip 54 10 m)) rb N b2 (n+1):=by
 subst hm;obtain⟨S₁,h1,h2,h3,A,h4,h5⟩:=h;have k1:=h4.set (.inl hbb) o;have zb:=St.le_none h4.le hbb;have hne:bf≠bb:=fun e=>by rw[e,zb] at h3;cases h3
 have k2:=k1.del (x:=bf) ⟨_,St.ov hne h3⟩
 have k3:=k2.set (.inl hb2) (.tip 54 10 (n+1))
 have z2:S₀ b2=none:=by
  have h6:St.le S₀ ((S₁.upd bb o).del bf):=St.le_del (St.le_upd' h1 zb _) h2
  exact St.le_none h6 (St.le_none k2.le hb2)
 exact⟨_,St.le_upd (St.le_del (St.le_upd' h1 zb _) h2) z2 _,z2,St.upd_same _ _ _,A,k3,h5⟩
theorem laySteps_ok{S₀ S:St}{rb N:Nat}(h:Rm S₀ S rb N)(l:List StepV)(hN:N+4*l.length≤1000000)(hl:∀ v∈l,v.ops.length≤100000000∧v.pieces.length≤100000000∧v.lits.length≤100000000∧v.ids.length≤100000000)(n:Nat)(hn:n≤1000) :
 Triple P (C G) 19 [.ref rb 0,.sl .any 10 (rowsT l),.int .i64 (n:Int)] S fun o S'=>o=.ret (.sl .any 10 (rowsT l))∧Rm S₀ S' rb (N+4*l.length+1):=by
 have hlot:=fun i S=>lot_ok (G:=G) i S
 refine triple_of_awp (hT G) hm Tryz.func19 rfl (by decide +kernel) rfl (by decide +kernel) (by show 3≤_;decide +kernel) rfl ?_
 refine awp_seq2 fun K hK hQ=>?_
 conv=>whnf
 refine hK _ _ ?_;clear hK hQ K;refine awp_seq2 fun K hK hQ=>?_
 conv=>whnf
 intro b0 hb0;conv=>whnf
 refine hK _ _ ?_;clear hK hQ K;have hF:FullS S₀ (S.upd b0 (.tip 54 10 0)) rb N b0 0:=⟨_,St.le_upd' (St.le_refl _) (St.le_none h.le hb0) _,St.le_none h.le hb0,St.upd_same _ _ _,h.set (.inl hb0) _⟩;refine awp_seq2 fun K hK hQ=>?_
 conv=>whnf
 refine⟨⟨Nat×Nat,fun z=>[(0,.ref rb 0),(1,.sl .any 10 (rowsT l)),(2,.int .i64 (n:Int)),(7,.sl (.own z.2) 10 (rowsT (l.take z.1))),(8,.int .i64 (z.1:Int))],
  fun z S1=>FullS S₀ S1 rb (N+4*z.1) z.2 z.1∧z.1≤l.length,fun z=>l.length-z.1⟩,
  ⟨(0,b0),⟨rfl,⟨rfl,rfl⟩,rfl,rfl,rfl,trivial⟩,_,St.leW_refl _,hF,by omega⟩,?_⟩
 clear hF hb0 b0 h S;rintro⟨i,bf⟩ S1 ⟨hF,hi⟩;dsimp only at hF hi;conv=>whnf
 intro hlen;conv=>whnf
 refine split_of (fun hlt=>?_) (fun hlt=>?_)
 ·have hlt:i<l.length:=by have:=of_decide_eq_true hlt;rw[rowsT_len] at this;omega
  have ga:(rowsT l)[(i:Int).toNat]? = some (stepR l[i]):=by simp[rowsT,hlt]
  have w1:IntKind.i64.wrap ((i:Int)+1)=((i+1:Nat):Int):=wrap_nat (by omega)
  have hsn:rowsT (l.take (i+1))=rowsT (l.take i)++[stepR l[i]]:=by rw[List.take_add_one,rowsT,List.map_append];simp[rowsT,hlt]
  have hti:(l.take i).length=i:=by rw[List.length_take];omega
  obtain⟨e1,e2,e3,e4⟩:=hl _ (List.getElem_mem hlt);generalize l[i]=v at *;conv=>whnf
  refine⟨_,⟨by dsimp only;omega,ga⟩,?_⟩
  conv=>whnf
  obtain⟨S₁,f1,f2,f3,f4⟩:=hF;refine(Step_r_ok f4 (by omega) v e1 e2 e3 e4).mono ?_
  rintro o T ⟨rfl,f5⟩;have hF2:FullS S₀ T rb (N+4*i+4) bf i:=⟨S₁,f1,f2,f3,f5⟩;conv=>whnf
  intro bb hbb;conv=>whnf
  refine⟨⟨(St.up hbb hF2.tip).trans (congrArg (fun x=>some (Own.tip 54 10 x)) (show i=(rowsT (l.take i)).length by rw[rowsT_len,hti])),?_⟩,fun b2 hb2=>?_⟩
  ·show((rowsT (l.take i)).length+1)*176≤_;rw[rowsT_len,hti];omega
  have hF3:=hF2.step hbb _ hb2 (show(rowsT (l.take i)).length+1=i+1 by rw[rowsT_len,hti])
  have hsn':rowsT (l.take i)++[[.int .i64 v.kind,.str v.num,.sl .any 3 (rowsO v.ops),.sl .any 2 (rowsP v.pieces),.str v.bound,.sl .any 1 (rowsI v.lits),.sl .any 1 (rowsS v.ids),.int .i64 v.n6,.str v.s7,.str v.s8]]=rowsT (l.take (i+1)):=by rw[hsn];rfl
  conv=>whnf
  exact⟨(i+1,b2),⟨rfl,⟨rfl,rfl⟩,rfl,congrArg (AV.sl (.own b2) 10) hsn',congrArg _ w1,trivial⟩,⟨_,St.leW_refl _,(show N+4*i+4=N+4*(i+1) by omega) ▸ hF3,hlt⟩,by show l.length-(i+1)<l.length-i;omega⟩
 have hlt:i=l.length:=by have:=of_decide_eq_false hlt;rw[rowsT_len] at this;omega
 subst hlt;conv=>whnf
 refine hK _ _ ?_;clear hK hQ K;refine awp_seq2 fun K hK hQ=>?_
 conv=>whnf
 refine⟨⟨Nat×Nat,fun z=>[(0,.ref rb 0),(1,.sl .any 10 (rowsT l)),(2,.int .i64 (n:Int)),(7,.sl (.own z.2) 10 (rowsT l++mks mkS z.1)),(9,.int .i64 (z.1:Int))],
  fun z S1=>FullS S₀ S1 rb (N+4*l.length) z.2 (l.length+z.1)∧z.1≤n,fun z=>n-z.1⟩,
  ⟨(0,bf),⟨rfl,⟨rfl,rfl⟩,rfl,congrArg (AV.sl (.own bf) 10) (show rowsT (l.take l.length)=rowsT l++mks mkS 0 by rw[List.take_length];simp[mks]),rfl,trivial⟩,_,St.leW_refl _,hF,by omega⟩,?_⟩
 clear hF hlt hi bf S1;rintro⟨i,bf⟩ S1 ⟨hF,hi⟩;dsimp only at hF hi;conv=>whnf
 refine split_of (fun hlt=>?_) (fun hlt=>?_)
 ·have hlt:i<n:=by have:=of_decide_eq_true hlt;omega
  have w1:IntKind.i64.wrap ((i:Int)+1)=((i+1:Nat):Int):=wrap_nat (by omega)
  have hle:(rowsT l++mks mkS i).length=l.length+i:=by simp
  conv=>whnf
  refine(hlot i _).mono ?_;rintro o T ⟨rfl,rfl⟩;conv=>whnf
  intro bb hbb;conv=>whnf
  refine⟨⟨(St.up hbb hF.tip).trans (congrArg (fun x=>some (Own.tip 54 10 x)) hle.symm),?_⟩,fun b2 hb2=>?_⟩
  ·show((rowsT l++mks mkS i).length+1)*176≤_;rw[hle];omega
  have hF3:=hF.step hbb _ hb2 (show(rowsT l++mks mkS i).length+1=l.length+i+1 by rw[hle])
  conv=>whnf
  exact⟨(i+1,b2),⟨rfl,⟨rfl,rfl⟩,rfl,congrArg (AV.sl (.own b2) 10) (show(rowsT l++mks mkS i)++[mkS i]=rowsT l++mks mkS (i+1) by rw[mks_succ,List.append_assoc]),congrArg _ w1,trivial⟩,⟨_,St.leW_refl _,hF3,hlt⟩,by show n-(i+1)<n-i;omega⟩
 have hlt:i=n:=by have:=of_decide_eq_false hlt;omega
 subst hlt;conv=>whnf
 refine hK _ _ ?_;clear hK hQ K;obtain⟨S₁,q1,_,_,A,hB1,hI⟩:=hF;obtain⟨lE,hE1,hE2,hE3,hE4⟩:=hI.s.ex;have hl1:(A 8).es.length≤N+4*l.length:=by rw[hE1,List.length_map];exact hE3
 have hl2:(A 9).es.length≤N+4*l.length:=by rw[hE2,List.length_map];exact hE3
 clear hE1 hE2 hE3 hE4 lE;have hrl:=rowsT_len l;generalize rowsT l=rows at *;generalize hLL:l.length=LL at *;unfold rmC AccL.av at hB1;refine awp_seq2 fun K hK hQ=>?_
 conv=>whnf
 refine⟨_,_,hB1.at_,?_⟩;conv=>whnf
 intro bb hbb;have hB2:=hB1.over hbb (.tip (tyA 8) 1 1);have q2:=St.le_upd' q1 (St.le_none hB1.le hbb) (.tip (tyA 8) 1 1);clear hB1;conv=>whnf
 refine⟨⟨fun hl=>hB2.tip (j:=8) (by decide) hl,?_⟩,fun S4 c1 c2 b1 c3=>?_⟩
 ·show((A 8).es.length+1)*24≤_;omega
 have hB3:=hB2.push (j:=8) (by decide) c1 c2 c3 (.sl (.own bf) 10 (rows++mks mkS i)) rfl
 clear hB2 c1 c2 c3;conv=>whnf
 refine⟨_,_,hB3.at_,?_⟩;conv=>whnf
 refine hK _ _ ?_;clear hK hQ K;have hB4:=hB3.put (rmC (setA A 8 ((A 8).push b1 (.sl (.own bf) 10 (rows++mks mkS i)))));clear hB3;have hes:(setA A 8 ((A 8).push b1 (.sl (.own bf) 10 (rows++mks mkS i)))) 9=A 9:=rfl;change awp _ _ _ _ (St.upd _ _ (.obj 44 (rmC (setA A 8 ((A 8).push b1 (.sl (.own bf) 10 (rows++mks mkS i))))))) _;generalize hAA:setA A 8 ((A 8).push b1 (.sl (.own bf) 10 (rows++mks mkS i)))=AA at *;have hal:(AA 9).es.length≤N+4*LL:=by rw[hes];exact hl2
 unfold rmC AccL.av at hB4;refine awp_seq2 fun K hK hQ=>?_
 conv=>whnf
 refine⟨_,_,hB4.at_,?_⟩;conv=>whnf
 intro hlen;conv=>whnf
 intro bc hbc;have hB5:=hB4.over hbc (.tip 3 1 1);have q3:=St.le_upd' q2 (St.le_none hB4.le hbc) (.tip 3 1 1);clear hB4;conv=>whnf
 refine⟨⟨fun hl=>hB5.tip (j:=9) (by decide) hl,?_⟩,fun S5 c1 c2 b2 c3=>?_⟩
 ·show((AA 9).es.length+1)*8≤_;omega
 have hB6:=hB5.push (j:=9) (by decide) c1 c2 c3 (.int .i64 (rows.length:Int)) rfl
 clear hB5 c1 c2 c3;conv=>whnf
 refine⟨_,_,hB6.at_,?_⟩;conv=>whnf
 refine hK _ _ ?_;clear hK hQ K;have hB7:=hB6.put (rmC (setA AA 9 ((AA 9).push b2 (.int .i64 (rows.length:Int)))));clear hB6;obtain⟨d1,d2⟩:=hB7.down q3;have hinv:RmInv (setA AA 9 ((AA 9).push b2 (.int .i64 (rows.length:Int)))) (N+4*LL+1):=by
  have hp:=(hI.s).push bf b1 b2 i rows (by omega)
  rw[hes,← hAA];refine⟨?_,?_,?_,?_,?_⟩<;>first | exact hp | exact hI.i.mono (Nat.le_succ _) | exact hI.t.mono (Nat.le_succ _) | exact hI.p.mono (Nat.le_succ _) | exact hI.o.mono (Nat.le_succ _) | exact hI.s.mono (Nat.le_succ _)
 conv=>whnf
 intro hlen1;conv=>whnf
 intro hlen2;conv=>whnf
 cases hz:(((rows.length:Nat):Int) == 0 && (((rows++mks mkS i).length:Nat):Int) == 0) with
 | true=>
   have hz0:rows=[]:=by
    simp only[Bool.and_eq_true,beq_iff_eq] at hz;exact List.eq_nil_of_length_eq_zero (by omega)
   conv=>whnf
   exact⟨_,_,⟨rfl,_,d1,hinv⟩,d2,⟨rfl,hz0.symm⟩⟩
 | false=>
   conv=>whnf
   refine⟨⟨by omega,by rw[List.length_append];omega,by omega⟩,?_⟩
   conv=>whnf
   exact⟨_,_,⟨rfl,_,d1,hinv⟩,d2,⟨rfl,by rw[Int.toNat_natCast];simp⟩⟩
theorem Steps_r_ok{S₀ S:St}{rb N:Nat}(h:Rm S₀ S rb N)(l:List StepV)(hN:N+4*l.length≤1000000)(hl:∀ v∈l,v.ops.length≤100000000∧v.pieces.length≤100000000∧v.lits.length≤100000000∧v.ids.length≤100000000) :
 Triple P (C G) 8 [.ref rb 0,.sl .any 10 (rowsT l)] S fun o S'=>o=.ret (.sl .any 10 (rowsT l))∧Rm S₀ S' rb (N+4*l.length+1):=by
 have hs:=laySteps_ok (G:=G) h l hN hl 40 (by decide)
 refine triple_of_awp (hT G) hm Tryz.func8 rfl (by decide +kernel) rfl (by decide +kernel) (by show 2≤_;decide +kernel) rfl ?_
 conv=>whnf
 refine hs.mono ?_;rintro o T ⟨rfl,h2⟩;conv=>whnf
 exact⟨_,_,⟨rfl,h2⟩,St.le_refl _,AV.leS_refl _ _ _⟩
theorem awp_blk{C:Cx}{id:Nat}{c:Go.Code}{env:Env}{S:St}{Q:AExit→Env→St→Prop}(h:awp P C c env S fun e env' S'=>match e with
 | .exit id'=>(bif Nat.beq id' id then Q .normal env' S' else Q (.exit id') env' S')
 | e=>Q e env' S'):awp P C (.block id c) env S Q:=h
theorem ent_get{mk:Nat→List AV}{base:List (List AV)}{n k:Nat}(hk:k<n):(base++mks mk n)[((base.length+k:Nat):Int).toNat]? = some (mk k):=by
 rw[Int.toNat_natCast,List.getElem?_append_right (by omega),Nat.add_sub_cancel_left]
 simp[mks,hk]
theorem holdInts_ok{S₀ S:St}{rb N:Nat}(h:Rm S₀ S rb N)(hN:N≤100000000):Triple P (C G) 28 [.ref rb 0] S fun o S'=>o=.ret (.bool true)∧S'=S:=by
 -- (*hallmark/hallmarkroom.Room).holdInts function,1 k,mkI mk,lot_ok the mark's contract,0 j,hI.i the kind's invariant,midI the middle
 obtain⟨A,hB,hI⟩:=h;have hlot:=fun i S=>lot_ok (G:=G) i S
 obtain⟨lE,hE1,hE2,hE3,hE4⟩:=(hI.i).ex;have hat:=hB.at_;unfold rmC AccL.av at hat;rw[hE1,hE2] at hat;clear hE1 hE2 hB hI;refine triple_of_awp (hT G) hm Tryz.func28 rfl (by decide +kernel) rfl (by decide +kernel) (by show 1≤_;decide +kernel) rfl ?_
 refine awp_seq2 fun K hK hQ=>?_
 conv=>whnf
 refine hK _ _ ?_;clear hK hQ K;refine awp_seq2 fun K hK hQ=>?_
 conv=>whnf
 refine⟨⟨Nat,fun i=>[(0,.ref rb 0),(3,.int .i64 (i:Int))],fun i S1=>St.le S S1∧i≤lE.length,fun i=>lE.length-i⟩,
  ⟨0,⟨rfl,rfl,trivial⟩,_,St.leW_refl _,St.le_refl _,by omega⟩,?_⟩
 rintro(i:Nat) S1 ⟨hle,hi⟩;refine awp_seq2 fun K2 hK2 hQ2=>?_
 conv=>whnf
 refine⟨_,_,hle _ _ hat,?_⟩;conv=>whnf
 intro _;conv=>whnf
 refine split_of (fun hlt=>?_) (fun hlt=>?_)
 ·have hlt:i<lE.length:=by have:=of_decide_eq_true hlt;rw[List.length_map] at this;omega
  have ga:(lE.map fun e=>[entAV mkI 1 e])[(i:Int).toNat]? = some [entAV mkI 1 lE[i]]:=by simp[hlt]
  have gb:(lE.map fun e=>[AV.int .i64 (e.2.1.length:Int)])[(i:Int).toNat]? = some [AV.int .i64 (lE[i].2.1.length:Int)]:=by simp[hlt]
  have hb:=hE4 _ (List.getElem_mem hlt)
  have w1:IntKind.i64.wrap ((i:Int)+1)=((i+1:Nat):Int):=wrap_nat (by omega)
  generalize lE[i]=e at *;obtain⟨eb,base,n⟩:=e;dsimp only at gb hb;unfold entAV at ga;dsimp only at ga;conv=>whnf
  refine hK2 _ _ ?_;clear hK2 hQ2 K2;refine awp_seq2 fun K2 hK2 hQ2=>?_
  refine awp_blk ?_;refine awp_seq2 fun K3 hK3 hQ3=>?_
  conv=>whnf
  refine⟨_,_,hle _ _ hat,?_⟩;conv=>whnf
  refine⟨_,⟨by omega,gb⟩,?_⟩
  conv=>whnf
  refine hK3 _ _ ?_;clear hK3 hQ3 K3;conv=>whnf
  refine⟨⟨Nat,fun k=>[(0,.ref rb 0),(3,.int .i64 (i:Int)),(4,.int .i64 (base.length:Int)),(5,.int .i64 ((base.length+k:Nat):Int))],fun k S2=>St.le S S2∧k≤n,fun k=>n-k⟩,
   ⟨0,⟨rfl,rfl,rfl,rfl,trivial⟩,_,St.leW_refl _,hle,by omega⟩,?_⟩
  rintro(k:Nat) S2 ⟨hle2,hk⟩;refine awp_seq2 fun K4 hK4 hQ4=>?_
  conv=>whnf
  refine⟨_,_,hle2 _ _ hat,?_⟩;conv=>whnf
  refine⟨_,⟨by omega,ga⟩,?_⟩
  conv=>whnf
  intro _;conv=>whnf
  refine split_of (fun hlt2=>?_) (fun hlt2=>?_)
  ·have hlt2:k<n:=by have:=of_decide_eq_true hlt2;rw[List.length_append,mks_len] at this;omega
   have gk:=ent_get (mk:=mkI) (base:=base) hlt2
   have w2:IntKind.i64.wrap (((base.length+k:Nat):Int)-(base.length:Int))=(k:Int):=by
    rw[show((base.length+k:Nat):Int)-(base.length:Int)=(k:Int) by omega]
    exact wrap_i64 (by omega) (by omega)
   have w3:IntKind.i64.wrap (((base.length+k:Nat):Int)+1)=((base.length+(k+1):Nat):Int):=wrap_nat (by omega)
   conv=>whnf
   refine hK4 _ _ ?_;clear hK4 hQ4 K4;refine awp_seq2 fun K4 hK4 hQ4=>?_
   refine awp_blk ?_;refine awp_seq2 fun K5 hK5 hQ5=>?_
   conv=>whnf
   refine⟨_,_,hle2 _ _ hat,?_⟩;conv=>whnf
   refine⟨_,⟨by omega,ga⟩,?_⟩
   conv=>whnf
   refine⟨_,⟨by omega,gk⟩,?_⟩
   conv=>whnf
   refine hK5 _ _ ?_;clear hK5 hQ5 K5;conv=>whnf
   rw[w2];refine(hlot k _).mono ?_;rintro o T ⟨rfl,rfl⟩;conv=>whnf
   rw[show(lotV k != lotV k)=false from bne_self_eq_false _];conv=>whnf
   refine hK4 _ _ ?_;clear hK4 hQ4 K4;conv=>whnf
   exact⟨k+1,⟨rfl,rfl,rfl,congrArg _ w3,trivial⟩,⟨_,St.leW_refl _,hle2,hlt2⟩,by show n-(k+1)<n-k;omega⟩
  ·conv=>whnf
   refine hQ4 _ _ _ (by simp) ?_
   clear hK4 hQ4 K4;conv=>whnf
   refine hK2 _ _ ?_;clear hK2 hQ2 K2;conv=>whnf
   exact⟨i+1,⟨rfl,congrArg _ w1,trivial⟩,⟨_,St.leW_refl _,hle2,hlt⟩,by show lE.length-(i+1)<lE.length-i;omega⟩
 ·conv=>whnf
  refine hQ2 _ _ _ (by simp) ?_
  clear hK2 hQ2 K2;conv=>whnf
  refine hK _ _ ?_;clear hK hQ K;conv=>whnf
  exact⟨_,_,⟨rfl,rfl⟩,hle,AV.leS_refl _ _ _⟩
theorem holdTexts_ok{S₀ S:St}{rb N:Nat}(h:Rm S₀ S rb N)(hN:N≤100000000):Triple P (C G) 29 [.ref rb 0] S fun o S'=>o=.ret (.bool true)∧S'=S:=by
 -- (*hallmark/hallmarkroom.Room).holdTexts function,1 k,mkT mk,word_ok the mark's contract,2 j,hI.t the kind's invariant,midT the middle
 obtain⟨A,hB,hI⟩:=h;have hlot:=fun i S=>word_ok (G:=G) i S
 obtain⟨lE,hE1,hE2,hE3,hE4⟩:=(hI.t).ex;have hat:=hB.at_;unfold rmC AccL.av at hat;rw[hE1,hE2] at hat;clear hE1 hE2 hB hI;refine triple_of_awp (hT G) hm Tryz.func29 rfl (by decide +kernel) rfl (by decide +kernel) (by show 1≤_;decide +kernel) rfl ?_
 refine awp_seq2 fun K hK hQ=>?_
 conv=>whnf
 refine hK _ _ ?_;clear hK hQ K;refine awp_seq2 fun K hK hQ=>?_
 conv=>whnf
 refine⟨⟨Nat,fun i=>[(0,.ref rb 0),(3,.int .i64 (i:Int))],fun i S1=>St.le S S1∧i≤lE.length,fun i=>lE.length-i⟩,
  ⟨0,⟨rfl,rfl,trivial⟩,_,St.leW_refl _,St.le_refl _,by omega⟩,?_⟩
 rintro(i:Nat) S1 ⟨hle,hi⟩;refine awp_seq2 fun K2 hK2 hQ2=>?_
 conv=>whnf
 refine⟨_,_,hle _ _ hat,?_⟩;conv=>whnf
 intro _;conv=>whnf
 refine split_of (fun hlt=>?_) (fun hlt=>?_)
 ·have hlt:i<lE.length:=by have:=of_decide_eq_true hlt;rw[List.length_map] at this;omega
  have ga:(lE.map fun e=>[entAV mkT 1 e])[(i:Int).toNat]? = some [entAV mkT 1 lE[i]]:=by simp[hlt]
  have gb:(lE.map fun e=>[AV.int .i64 (e.2.1.length:Int)])[(i:Int).toNat]? = some [AV.int .i64 (lE[i].2.1.length:Int)]:=by simp[hlt]
  have hb:=hE4 _ (List.getElem_mem hlt)
  have w1:IntKind.i64.wrap ((i:Int)+1)=((i+1:Nat):Int):=wrap_nat (by omega)
  generalize lE[i]=e at *;obtain⟨eb,base,n⟩:=e;dsimp only at gb hb;unfold entAV at ga;dsimp only at ga;conv=>whnf
  refine hK2 _ _ ?_;clear hK2 hQ2 K2;refine awp_seq2 fun K2 hK2 hQ2=>?_
  refine awp_blk ?_;refine awp_seq2 fun K3 hK3 hQ3=>?_
  conv=>whnf
  refine⟨_,_,hle _ _ hat,?_⟩;conv=>whnf
  refine⟨_,⟨by omega,gb⟩,?_⟩
  conv=>whnf
  refine hK3 _ _ ?_;clear hK3 hQ3 K3;conv=>whnf
  refine⟨⟨Nat,fun k=>[(0,.ref rb 0),(3,.int .i64 (i:Int)),(4,.int .i64 (base.length:Int)),(5,.int .i64 ((base.length+k:Nat):Int))],fun k S2=>St.le S S2∧k≤n,fun k=>n-k⟩,
   ⟨0,⟨rfl,rfl,rfl,rfl,trivial⟩,_,St.leW_refl _,hle,by omega⟩,?_⟩
  rintro(k:Nat) S2 ⟨hle2,hk⟩;refine awp_seq2 fun K4 hK4 hQ4=>?_
  conv=>whnf
  refine⟨_,_,hle2 _ _ hat,?_⟩;conv=>whnf
  refine⟨_,⟨by omega,ga⟩,?_⟩
  conv=>whnf
  intro _;conv=>whnf
  refine split_of (fun hlt2=>?_) (fun hlt2=>?_)
  ·have hlt2:k<n:=by have:=of_decide_eq_true hlt2;rw[List.length_append,mks_len] at this;omega
   have gk:=ent_get (mk:=mkT) (base:=base) hlt2
   have w2:IntKind.i64.wrap (((base.length+k:Nat):Int)-(base.length:Int))=(k:Int):=by
    rw[show((base.length+k:Nat):Int)-(base.length:Int)=(k:Int) by omega]
    exact wrap_i64 (by omega) (by omega)
   have w3:IntKind.i64.wrap (((base.length+k:Nat):Int)+1)=((base.length+(k+1):Nat):Int):=wrap_nat (by omega)
   conv=>whnf
   refine hK4 _ _ ?_;clear hK4 hQ4 K4;refine awp_seq2 fun K4 hK4 hQ4=>?_
   refine awp_blk ?_;refine awp_seq2 fun K5 hK5 hQ5=>?_
   conv=>whnf
   refine⟨_,_,hle2 _ _ hat,?_⟩;conv=>whnf
   refine⟨_,⟨by omega,ga⟩,?_⟩
   conv=>whnf
   refine⟨_,⟨by omega,gk⟩,?_⟩
   conv=>whnf
   refine hK5 _ _ ?_;clear hK5 hQ5 K5;conv=>whnf
   rw[w2];refine(hlot k _).mono ?_;rintro o T ⟨rfl,rfl⟩;conv=>whnf
   rw[show(!decide (wordV k=wordV k))=false from by simp]
   conv=>whnf
   refine hK4 _ _ ?_;clear hK4 hQ4 K4;conv=>whnf
   exact⟨k+1,⟨rfl,rfl,rfl,congrArg _ w3,trivial⟩,⟨_,St.leW_refl _,hle2,hlt2⟩,by show n-(k+1)<n-k;omega⟩
  ·conv=>whnf
   refine hQ4 _ _ _ (by simp) ?_
   clear hK4 hQ4 K4;conv=>whnf
   refine hK2 _ _ ?_;clear hK2 hQ2 K2;conv=>whnf
   exact⟨i+1,⟨rfl,congrArg _ w1,trivial⟩,⟨_,St.leW_refl _,hle2,hlt⟩,by show lE.length-(i+1)<lE.length-i;omega⟩
 ·conv=>whnf
  refine hQ2 _ _ _ (by simp) ?_
  clear hK2 hQ2 K2;conv=>whnf
  refine hK _ _ ?_;clear hK hQ K;conv=>whnf
  exact⟨_,_,⟨rfl,rfl⟩,hle,AV.leS_refl _ _ _⟩
theorem holdPieces_ok{S₀ S:St}{rb N:Nat}(h:Rm S₀ S rb N)(hN:N≤100000000):Triple P (C G) 32 [.ref rb 0] S fun o S'=>o=.ret (.bool true)∧S'=S:=by
 -- (*hallmark/hallmarkroom.Room).holdPieces function,2 k,mkP mk,lot_ok the mark's contract,4 j,hI.p the kind's invariant,midPP the middle
 obtain⟨A,hB,hI⟩:=h;have hlot:=fun i S=>lot_ok (G:=G) i S
 obtain⟨lE,hE1,hE2,hE3,hE4⟩:=(hI.p).ex;have hat:=hB.at_;unfold rmC AccL.av at hat;rw[hE1,hE2] at hat;clear hE1 hE2 hB hI;refine triple_of_awp (hT G) hm Tryz.func32 rfl (by decide +kernel) rfl (by decide +kernel) (by show 1≤_;decide +kernel) rfl ?_
 refine awp_seq2 fun K hK hQ=>?_
 conv=>whnf
 refine hK _ _ ?_;clear hK hQ K;refine awp_seq2 fun K hK hQ=>?_
 conv=>whnf
 refine⟨⟨Nat,fun i=>[(0,.ref rb 0),(3,.int .i64 (i:Int))],fun i S1=>St.le S S1∧i≤lE.length,fun i=>lE.length-i⟩,
  ⟨0,⟨rfl,rfl,trivial⟩,_,St.leW_refl _,St.le_refl _,by omega⟩,?_⟩
 rintro(i:Nat) S1 ⟨hle,hi⟩;refine awp_seq2 fun K2 hK2 hQ2=>?_
 conv=>whnf
 refine⟨_,_,hle _ _ hat,?_⟩;conv=>whnf
 intro _;conv=>whnf
 refine split_of (fun hlt=>?_) (fun hlt=>?_)
 ·have hlt:i<lE.length:=by have:=of_decide_eq_true hlt;rw[List.length_map] at this;omega
  have ga:(lE.map fun e=>[entAV mkP 2 e])[(i:Int).toNat]? = some [entAV mkP 2 lE[i]]:=by simp[hlt]
  have gb:(lE.map fun e=>[AV.int .i64 (e.2.1.length:Int)])[(i:Int).toNat]? = some [AV.int .i64 (lE[i].2.1.length:Int)]:=by simp[hlt]
  have hb:=hE4 _ (List.getElem_mem hlt)
  have w1:IntKind.i64.wrap ((i:Int)+1)=((i+1:Nat):Int):=wrap_nat (by omega)
  generalize lE[i]=e at *;obtain⟨eb,base,n⟩:=e;dsimp only at gb hb;unfold entAV at ga;dsimp only at ga;conv=>whnf
  refine hK2 _ _ ?_;clear hK2 hQ2 K2;refine awp_seq2 fun K2 hK2 hQ2=>?_
  refine awp_blk ?_;refine awp_seq2 fun K3 hK3 hQ3=>?_
  conv=>whnf
  refine⟨_,_,hle _ _ hat,?_⟩;conv=>whnf
  refine⟨_,⟨by omega,gb⟩,?_⟩
  conv=>whnf
  refine hK3 _ _ ?_;clear hK3 hQ3 K3;conv=>whnf
  refine⟨⟨Nat,fun k=>[(0,.ref rb 0),(3,.int .i64 (i:Int)),(4,.int .i64 (base.length:Int)),(5,.int .i64 ((base.length+k:Nat):Int))],fun k S2=>St.le S S2∧k≤n,fun k=>n-k⟩,
   ⟨0,⟨rfl,rfl,rfl,rfl,trivial⟩,_,St.leW_refl _,hle,by omega⟩,?_⟩
  rintro(k:Nat) S2 ⟨hle2,hk⟩;refine awp_seq2 fun K4 hK4 hQ4=>?_
  conv=>whnf
  refine⟨_,_,hle2 _ _ hat,?_⟩;conv=>whnf
  refine⟨_,⟨by omega,ga⟩,?_⟩
  conv=>whnf
  intro _;conv=>whnf
  refine split_of (fun hlt2=>?_) (fun hlt2=>?_)
  ·have hlt2:k<n:=by have:=of_decide_eq_true hlt2;rw[List.length_append,mks_len] at this;omega
   have gk:=ent_get (mk:=mkP) (base:=base) hlt2
   have w2:IntKind.i64.wrap (((base.length+k:Nat):Int)-(base.length:Int))=(k:Int):=by
    rw[show((base.length+k:Nat):Int)-(base.length:Int)=(k:Int) by omega]
    exact wrap_i64 (by omega) (by omega)
   have w3:IntKind.i64.wrap (((base.length+k:Nat):Int)+1)=((base.length+(k+1):Nat):Int):=wrap_nat (by omega)
   conv=>whnf
   refine hK4 _ _ ?_;clear hK4 hQ4 K4;refine awp_seq2 fun K4 hK4 hQ4=>?_
   refine awp_blk ?_;refine awp_seq2 fun K5 hK5 hQ5=>?_
   conv=>whnf
   refine⟨_,_,hle2 _ _ hat,?_⟩;conv=>whnf
   refine⟨_,⟨by omega,ga⟩,?_⟩
   conv=>whnf
   refine⟨_,⟨by omega,gk⟩,?_⟩
   conv=>whnf
   -- (*hallmark/hallmarkroom.Room).holdPieces function,4 quiet
   intro b6 hb6;conv=>whnf
   refine⟨_,_,St.upd_same _ _ _,?_⟩;conv=>whnf
   rw[St.upd_upd];refine hK5 _ _ ?_;clear hK5 hQ5 K5;have hle2:=St.le_upd' hle2 hb6 (.obj (126) (mkP k));unfold mkP at hle2;refine⟨[4],(.free 0 (.free 1 (.free 2 (.free 3 (.free 4 (.free 5 (.free 6 .done))))))),_,by decide +kernel,?_,fun _ _ h=>⟨_,.inl rfl,h⟩⟩
   conv=>whnf
   refine⟨_,_,St.upd_same _ _ _,?_⟩;conv=>whnf
   rw[w2];refine⟨.int .i64 (lotV k),(hlot k _).mono ?_,?_⟩
   ·rintro o S' ⟨rfl,rfl⟩;exact⟨rfl,rfl⟩
   conv=>whnf
   simp only[beq_self_eq_true,decide_true,Bool.and_self,Bool.not_true,bne_self_eq_false];conv=>whnf
   refine hK4 _ _ ?_;clear hK4 hQ4 K4;conv=>whnf
   exact⟨k+1,⟨rfl,rfl,rfl,congrArg _ w3,trivial⟩,⟨_,St.leW_refl _,hle2,hlt2⟩,by show n-(k+1)<n-k;omega⟩
  ·conv=>whnf
   refine hQ4 _ _ _ (by simp) ?_
   clear hK4 hQ4 K4;conv=>whnf
   refine hK2 _ _ ?_;clear hK2 hQ2 K2;conv=>whnf
   exact⟨i+1,⟨rfl,congrArg _ w1,trivial⟩,⟨_,St.leW_refl _,hle2,hlt⟩,by show lE.length-(i+1)<lE.length-i;omega⟩
 ·conv=>whnf
  refine hQ2 _ _ _ (by simp) ?_
  clear hK2 hQ2 K2;conv=>whnf
  refine hK _ _ ?_;clear hK hQ K;conv=>whnf
  exact⟨_,_,⟨rfl,rfl⟩,hle,AV.leS_refl _ _ _⟩
theorem holdOps_ok{S₀ S:St}{rb N:Nat}(h:Rm S₀ S rb N)(hN:N≤100000000):Triple P (C G) 33 [.ref rb 0] S fun o S'=>o=.ret (.bool true)∧S'=S:=by
 -- (*hallmark/hallmarkroom.Room).holdOps function,3 k,mkO mk,lot_ok the mark's contract,6 j,hI.o the kind's invariant,midOO the middle
 obtain⟨A,hB,hI⟩:=h;have hlot:=fun i S=>lot_ok (G:=G) i S
 obtain⟨lE,hE1,hE2,hE3,hE4⟩:=(hI.o).ex;have hat:=hB.at_;unfold rmC AccL.av at hat;rw[hE1,hE2] at hat;clear hE1 hE2 hB hI;refine triple_of_awp (hT G) hm Tryz.func33 rfl (by decide +kernel) rfl (by decide +kernel) (by show 1≤_;decide +kernel) rfl ?_
 refine awp_seq2 fun K hK hQ=>?_
 conv=>whnf
 refine hK _ _ ?_;clear hK hQ K;refine awp_seq2 fun K hK hQ=>?_
 conv=>whnf
 refine⟨⟨Nat,fun i=>[(0,.ref rb 0),(3,.int .i64 (i:Int))],fun i S1=>St.le S S1∧i≤lE.length,fun i=>lE.length-i⟩,
  ⟨0,⟨rfl,rfl,trivial⟩,_,St.leW_refl _,St.le_refl _,by omega⟩,?_⟩
 rintro(i:Nat) S1 ⟨hle,hi⟩;refine awp_seq2 fun K2 hK2 hQ2=>?_
 conv=>whnf
 refine⟨_,_,hle _ _ hat,?_⟩;conv=>whnf
 intro _;conv=>whnf
 refine split_of (fun hlt=>?_) (fun hlt=>?_)
 ·have hlt:i<lE.length:=by have:=of_decide_eq_true hlt;rw[List.length_map] at this;omega
  have ga:(lE.map fun e=>[entAV mkO 3 e])[(i:Int).toNat]? = some [entAV mkO 3 lE[i]]:=by simp[hlt]
  have gb:(lE.map fun e=>[AV.int .i64 (e.2.1.length:Int)])[(i:Int).toNat]? = some [AV.int .i64 (lE[i].2.1.length:Int)]:=by simp[hlt]
  have hb:=hE4 _ (List.getElem_mem hlt)
  have w1:IntKind.i64.wrap ((i:Int)+1)=((i+1:Nat):Int):=wrap_nat (by omega)
  generalize lE[i]=e at *;obtain⟨eb,base,n⟩:=e;dsimp only at gb hb;unfold entAV at ga;dsimp only at ga;conv=>whnf
  refine hK2 _ _ ?_;clear hK2 hQ2 K2;refine awp_seq2 fun K2 hK2 hQ2=>?_
  refine awp_blk ?_;refine awp_seq2 fun K3 hK3 hQ3=>?_
  conv=>whnf
  refine⟨_,_,hle _ _ hat,?_⟩;conv=>whnf
  refine⟨_,⟨by omega,gb⟩,?_⟩
  conv=>whnf
  refine hK3 _ _ ?_;clear hK3 hQ3 K3;conv=>whnf
  refine⟨⟨Nat,fun k=>[(0,.ref rb 0),(3,.int .i64 (i:Int)),(4,.int .i64 (base.length:Int)),(5,.int .i64 ((base.length+k:Nat):Int))],fun k S2=>St.le S S2∧k≤n,fun k=>n-k⟩,
   ⟨0,⟨rfl,rfl,rfl,rfl,trivial⟩,_,St.leW_refl _,hle,by omega⟩,?_⟩
  rintro(k:Nat) S2 ⟨hle2,hk⟩;refine awp_seq2 fun K4 hK4 hQ4=>?_
  conv=>whnf
  refine⟨_,_,hle2 _ _ hat,?_⟩;conv=>whnf
  refine⟨_,⟨by omega,ga⟩,?_⟩
  conv=>whnf
  intro _;conv=>whnf
  refine split_of (fun hlt2=>?_) (fun hlt2=>?_)
  ·have hlt2:k<n:=by have:=of_decide_eq_true hlt2;rw[List.length_append,mks_len] at this;omega
   have gk:=ent_get (mk:=mkO) (base:=base) hlt2
   have w2:IntKind.i64.wrap (((base.length+k:Nat):Int)-(base.length:Int))=(k:Int):=by
    rw[show((base.length+k:Nat):Int)-(base.length:Int)=(k:Int) by omega]
    exact wrap_i64 (by omega) (by omega)
   have w3:IntKind.i64.wrap (((base.length+k:Nat):Int)+1)=((base.length+(k+1):Nat):Int):=wrap_nat (by omega)
   conv=>whnf
   refine hK4 _ _ ?_;clear hK4 hQ4 K4;refine awp_seq2 fun K4 hK4 hQ4=>?_
   refine awp_blk ?_;refine awp_seq2 fun K5 hK5 hQ5=>?_
   conv=>whnf
   refine⟨_,_,hle2 _ _ hat,?_⟩;conv=>whnf
   refine⟨_,⟨by omega,ga⟩,?_⟩
   conv=>whnf
   refine⟨_,⟨by omega,gk⟩,?_⟩
   conv=>whnf
   -- (*hallmark/hallmarkroom.Room).holdOps function,4 quiet
   intro b6 hb6;conv=>whnf
   refine⟨_,_,St.upd_same _ _ _,?_⟩;conv=>whnf
   rw[St.upd_upd];refine hK5 _ _ ?_;clear hK5 hQ5 K5;have hle2:=St.le_upd' hle2 hb6 (.obj (85) (mkO k));unfold mkO at hle2;refine⟨[4],(.free 0 (.free 1 (.free 2 (.free 3 (.free 4 (.free 5 (.free 6 .done))))))),_,by decide +kernel,?_,fun _ _ h=>⟨_,.inl rfl,h⟩⟩
   conv=>whnf
   refine⟨_,_,St.upd_same _ _ _,?_⟩;conv=>whnf
   rw[w2];refine⟨.int .i64 (lotV k),(hlot k _).mono ?_,?_⟩
   ·rintro o S' ⟨rfl,rfl⟩;exact⟨rfl,rfl⟩
   conv=>whnf
   simp only[beq_self_eq_true,decide_true,Bool.and_self,Bool.not_true,bne_self_eq_false];conv=>whnf
   refine hK4 _ _ ?_;clear hK4 hQ4 K4;conv=>whnf
   exact⟨k+1,⟨rfl,rfl,rfl,congrArg _ w3,trivial⟩,⟨_,St.leW_refl _,hle2,hlt2⟩,by show n-(k+1)<n-k;omega⟩
  ·conv=>whnf
   refine hQ4 _ _ _ (by simp) ?_
   clear hK4 hQ4 K4;conv=>whnf
   refine hK2 _ _ ?_;clear hK2 hQ2 K2;conv=>whnf
   exact⟨i+1,⟨rfl,congrArg _ w1,trivial⟩,⟨_,St.leW_refl _,hle2,hlt⟩,by show lE.length-(i+1)<lE.length-i;omega⟩
 ·conv=>whnf
  refine hQ2 _ _ _ (by simp) ?_
  clear hK2 hQ2 K2;conv=>whnf
  refine hK _ _ ?_;clear hK hQ K;conv=>whnf
  exact⟨_,_,⟨rfl,rfl⟩,hle,AV.leS_refl _ _ _⟩
theorem holdSteps_ok{S₀ S:St}{rb N:Nat}(h:Rm S₀ S rb N)(hN:N≤100000000):Triple P (C G) 39 [.ref rb 0] S fun o S'=>o=.ret (.bool true)∧S'=S:=by
 -- (*hallmark/hallmarkroom.Room).holdSteps function,10 k,mkS mk,lot_ok the mark's contract,8 j,hI.s the kind's invariant,midS the middle
 obtain⟨A,hB,hI⟩:=h;have hlot:=fun i S=>lot_ok (G:=G) i S
 obtain⟨lE,hE1,hE2,hE3,hE4⟩:=(hI.s).ex;have hat:=hB.at_;unfold rmC AccL.av at hat;rw[hE1,hE2] at hat;clear hE1 hE2 hB hI;refine triple_of_awp (hT G) hm Tryz.func39 rfl (by decide +kernel) rfl (by decide +kernel) (by show 1≤_;decide +kernel) rfl ?_
 refine awp_seq2 fun K hK hQ=>?_
 conv=>whnf
 refine hK _ _ ?_;clear hK hQ K;refine awp_seq2 fun K hK hQ=>?_
 conv=>whnf
 refine⟨⟨Nat,fun i=>[(0,.ref rb 0),(3,.int .i64 (i:Int))],fun i S1=>St.le S S1∧i≤lE.length,fun i=>lE.length-i⟩,
  ⟨0,⟨rfl,rfl,trivial⟩,_,St.leW_refl _,St.le_refl _,by omega⟩,?_⟩
 rintro(i:Nat) S1 ⟨hle,hi⟩;refine awp_seq2 fun K2 hK2 hQ2=>?_
 conv=>whnf
 refine⟨_,_,hle _ _ hat,?_⟩;conv=>whnf
 intro _;conv=>whnf
 refine split_of (fun hlt=>?_) (fun hlt=>?_)
 ·have hlt:i<lE.length:=by have:=of_decide_eq_true hlt;rw[List.length_map] at this;omega
  have ga:(lE.map fun e=>[entAV mkS 10 e])[(i:Int).toNat]? = some [entAV mkS 10 lE[i]]:=by simp[hlt]
  have gb:(lE.map fun e=>[AV.int .i64 (e.2.1.length:Int)])[(i:Int).toNat]? = some [AV.int .i64 (lE[i].2.1.length:Int)]:=by simp[hlt]
  have hb:=hE4 _ (List.getElem_mem hlt)
  have w1:IntKind.i64.wrap ((i:Int)+1)=((i+1:Nat):Int):=wrap_nat (by omega)
  generalize lE[i]=e at *;obtain⟨eb,base,n⟩:=e;dsimp only at gb hb;unfold entAV at ga;dsimp only at ga;conv=>whnf
  refine hK2 _ _ ?_;clear hK2 hQ2 K2;refine awp_seq2 fun K2 hK2 hQ2=>?_
  refine awp_blk ?_;refine awp_seq2 fun K3 hK3 hQ3=>?_
  conv=>whnf
  refine⟨_,_,hle _ _ hat,?_⟩;conv=>whnf
  refine⟨_,⟨by omega,gb⟩,?_⟩
  conv=>whnf
  refine hK3 _ _ ?_;clear hK3 hQ3 K3;conv=>whnf
  refine⟨⟨Nat,fun k=>[(0,.ref rb 0),(3,.int .i64 (i:Int)),(4,.int .i64 (base.length:Int)),(5,.int .i64 ((base.length+k:Nat):Int))],fun k S2=>St.le S S2∧k≤n,fun k=>n-k⟩,
   ⟨0,⟨rfl,rfl,rfl,rfl,trivial⟩,_,St.leW_refl _,hle,by omega⟩,?_⟩
  rintro(k:Nat) S2 ⟨hle2,hk⟩;refine awp_seq2 fun K4 hK4 hQ4=>?_
  conv=>whnf
  refine⟨_,_,hle2 _ _ hat,?_⟩;conv=>whnf
  refine⟨_,⟨by omega,ga⟩,?_⟩
  conv=>whnf
  intro _;conv=>whnf
  refine split_of (fun hlt2=>?_) (fun hlt2=>?_)
  ·have hlt2:k<n:=by have:=of_decide_eq_true hlt2;rw[List.length_append,mks_len] at this;omega
   have gk:=ent_get (mk:=mkS) (base:=base) hlt2
   have w2:IntKind.i64.wrap (((base.length+k:Nat):Int)-(base.length:Int))=(k:Int):=by
    rw[show((base.length+k:Nat):Int)-(base.length:Int)=(k:Int) by omega]
    exact wrap_i64 (by omega) (by omega)
   have w3:IntKind.i64.wrap (((base.length+k:Nat):Int)+1)=((base.length+(k+1):Nat):Int):=wrap_nat (by omega)
   conv=>whnf
   refine hK4 _ _ ?_;clear hK4 hQ4 K4;refine awp_seq2 fun K4 hK4 hQ4=>?_
   refine awp_blk ?_;refine awp_seq2 fun K5 hK5 hQ5=>?_
   conv=>whnf
   refine⟨_,_,hle2 _ _ hat,?_⟩;conv=>whnf
   refine⟨_,⟨by omega,ga⟩,?_⟩
   conv=>whnf
   refine⟨_,⟨by omega,gk⟩,?_⟩
   conv=>whnf
   intro b6 hb6;conv=>whnf
   refine⟨_,_,St.upd_same _ _ _,?_⟩;conv=>whnf
   rw[St.upd_upd];refine hK5 _ _ ?_;clear hK5 hQ5 K5;have hle2:=St.le_upd' hle2 hb6 (.obj 54 (mkS k));unfold mkS at hle2;refine⟨[5],(.free 0 (.free 1 (.free 2 (.free 3 (.free 4 (.free 5 (.free 6 (.free 7 (.free 8 (.free 9 (.free 10 (.free 11 .done)))))))))))),_,by decide +kernel,?_,fun _ _ h=>⟨_,.inl rfl,h⟩⟩
   conv=>whnf
   refine⟨_,_,St.upd_same _ _ _,?_⟩;conv=>whnf
   rw[w2];refine⟨.int .i64 (lotV k),(hlot k _).mono ?_,?_⟩
   ·rintro o S' ⟨rfl,rfl⟩;exact⟨rfl,rfl⟩
   conv=>whnf
   rw[show(lotV k != lotV k)=false from bne_self_eq_false _];conv=>whnf
   refine⟨_,_,St.upd_same _ _ _,?_⟩;conv=>whnf
   refine hK4 _ _ ?_;clear hK4 hQ4 K4;conv=>whnf
   exact⟨k+1,⟨rfl,rfl,rfl,congrArg _ w3,trivial⟩,⟨_,St.leW_refl _,hle2,hlt2⟩,by show n-(k+1)<n-k;omega⟩
  ·conv=>whnf
   refine hQ4 _ _ _ (by simp) ?_
   clear hK4 hQ4 K4;conv=>whnf
   refine hK2 _ _ ?_;clear hK2 hQ2 K2;conv=>whnf
   exact⟨i+1,⟨rfl,congrArg _ w1,trivial⟩,⟨_,St.leW_refl _,hle2,hlt⟩,by show lE.length-(i+1)<lE.length-i;omega⟩
 ·conv=>whnf
  refine hQ2 _ _ _ (by simp) ?_
  clear hK2 hQ2 K2;conv=>whnf
  refine hK _ _ ?_;clear hK hQ K;conv=>whnf
  exact⟨_,_,⟨rfl,rfl⟩,hle,AV.leS_refl _ _ _⟩
theorem holdTerms_ok{S₀ S:St}{rb N:Nat}(h:Rm S₀ S rb N):Triple P (C G) 30 [.ref rb 0] S fun o S'=>o=.ret (.bool true)∧S'=S:=by
 obtain⟨A,hB,hI⟩:=h;have hat:=hB.at_;unfold rmC AccL.av at hat;clear hB hI;refine triple_of_awp (hT G) hm Tryz.func30 rfl (by decide +kernel) rfl (by decide +kernel) (by show 1≤_;decide +kernel) rfl ?_
 refine awp_seq2 fun K hK hQ=>?_
 conv=>whnf
 refine hK _ _ ?_;clear hK hQ K;refine awp_seq2 fun K hK hQ=>?_
 conv=>whnf
 refine⟨⟨Nat,fun i=>[(0,.ref rb 0),(3,.int .i64 (i:Int))],fun i S1=>i=0∧St.le S S1,fun i=>1-i⟩,
  ⟨0,⟨rfl,rfl,trivial⟩,_,St.leW_refl _,rfl,St.le_refl _⟩,?_⟩
 rintro(i:Nat) S1 ⟨rfl,hle⟩;conv=>whnf
 refine⟨_,_,hle _ _ hat,?_⟩;conv=>whnf
 refine hK _ _ ?_;clear hK hQ K;conv=>whnf
 exact⟨_,_,⟨rfl,rfl⟩,hle,AV.leS_refl _ _ _⟩
theorem holdVars_ok{S₀ S:St}{rb N:Nat}(h:Rm S₀ S rb N):Triple P (C G) 31 [.ref rb 0] S fun o S'=>o=.ret (.bool true)∧S'=S:=by
 obtain⟨A,hB,hI⟩:=h;have hat:=hB.at_;unfold rmC AccL.av at hat;clear hB hI;refine triple_of_awp (hT G) hm Tryz.func31 rfl (by decide +kernel) rfl (by decide +kernel) (by show 1≤_;decide +kernel) rfl ?_
 refine awp_seq2 fun K hK hQ=>?_
 conv=>whnf
 refine hK _ _ ?_;clear hK hQ K;refine awp_seq2 fun K hK hQ=>?_
 conv=>whnf
 refine⟨⟨Nat,fun i=>[(0,.ref rb 0),(3,.int .i64 (i:Int))],fun i S1=>i=0∧St.le S S1,fun i=>1-i⟩,
  ⟨0,⟨rfl,rfl,trivial⟩,_,St.leW_refl _,rfl,St.le_refl _⟩,?_⟩
 rintro(i:Nat) S1 ⟨rfl,hle⟩;conv=>whnf
 refine⟨_,_,hle _ _ hat,?_⟩;conv=>whnf
 refine hK _ _ ?_;clear hK hQ K;conv=>whnf
 exact⟨_,_,⟨rfl,rfl⟩,hle,AV.leS_refl _ _ _⟩
theorem holdCuts_ok{S₀ S:St}{rb N:Nat}(h:Rm S₀ S rb N):Triple P (C G) 34 [.ref rb 0] S fun o S'=>o=.ret (.bool true)∧S'=S:=by
 obtain⟨A,hB,hI⟩:=h;have hat:=hB.at_;unfold rmC AccL.av at hat;clear hB hI;refine triple_of_awp (hT G) hm Tryz.func34 rfl (by decide +kernel) rfl (by decide +kernel) (by show 1≤_;decide +kernel) rfl ?_
 refine awp_seq2 fun K hK hQ=>?_
 conv=>whnf
 refine hK _ _ ?_;clear hK hQ K;refine awp_seq2 fun K hK hQ=>?_
 conv=>whnf
 refine⟨⟨Nat,fun i=>[(0,.ref rb 0),(3,.int .i64 (i:Int))],fun i S1=>i=0∧St.le S S1,fun i=>1-i⟩,
  ⟨0,⟨rfl,rfl,trivial⟩,_,St.leW_refl _,rfl,St.le_refl _⟩,?_⟩
 rintro(i:Nat) S1 ⟨rfl,hle⟩;conv=>whnf
 refine⟨_,_,hle _ _ hat,?_⟩;conv=>whnf
 refine hK _ _ ?_;clear hK hQ K;conv=>whnf
 exact⟨_,_,⟨rfl,rfl⟩,hle,AV.leS_refl _ _ _⟩
theorem holdMeans_ok{S₀ S:St}{rb N:Nat}(h:Rm S₀ S rb N):Triple P (C G) 35 [.ref rb 0] S fun o S'=>o=.ret (.bool true)∧S'=S:=by
 obtain⟨A,hB,hI⟩:=h;have hat:=hB.at_;unfold rmC AccL.av at hat;clear hB hI;refine triple_of_awp (hT G) hm Tryz.func35 rfl (by decide +kernel) rfl (by decide +kernel) (by show 1≤_;decide +kernel) rfl ?_
 refine awp_seq2 fun K hK hQ=>?_
 conv=>whnf
 refine hK _ _ ?_;clear hK hQ K;refine awp_seq2 fun K hK hQ=>?_
 conv=>whnf
 refine⟨⟨Nat,fun i=>[(0,.ref rb 0),(3,.int .i64 (i:Int))],fun i S1=>i=0∧St.le S S1,fun i=>1-i⟩,
  ⟨0,⟨rfl,rfl,trivial⟩,_,St.leW_refl _,rfl,St.le_refl _⟩,?_⟩
 rintro(i:Nat) S1 ⟨rfl,hle⟩;conv=>whnf
 refine⟨_,_,hle _ _ hat,?_⟩;conv=>whnf
 refine hK _ _ ?_;clear hK hQ K;conv=>whnf
 exact⟨_,_,⟨rfl,rfl⟩,hle,AV.leS_refl _ _ _⟩
theorem holdLists_ok{S₀ S:St}{rb N:Nat}(h:Rm S₀ S rb N):Triple P (C G) 36 [.ref rb 0] S fun o S'=>o=.ret (.bool true)∧S'=S:=by
 obtain⟨A,hB,hI⟩:=h;have hat:=hB.at_;unfold rmC AccL.av at hat;clear hB hI;refine triple_of_awp (hT G) hm Tryz.func36 rfl (by decide +kernel) rfl (by decide +kernel) (by show 1≤_;decide +kernel) rfl ?_
 refine awp_seq2 fun K hK hQ=>?_
 conv=>whnf
 refine hK _ _ ?_;clear hK hQ K;refine awp_seq2 fun K hK hQ=>?_
 conv=>whnf
 refine⟨⟨Nat,fun i=>[(0,.ref rb 0),(3,.int .i64 (i:Int))],fun i S1=>i=0∧St.le S S1,fun i=>1-i⟩,
  ⟨0,⟨rfl,rfl,trivial⟩,_,St.leW_refl _,rfl,St.le_refl _⟩,?_⟩
 rintro(i:Nat) S1 ⟨rfl,hle⟩;conv=>whnf
 refine⟨_,_,hle _ _ hat,?_⟩;conv=>whnf
 refine hK _ _ ?_;clear hK hQ K;conv=>whnf
 exact⟨_,_,⟨rfl,rfl⟩,hle,AV.leS_refl _ _ _⟩
theorem holdCons_ok{S₀ S:St}{rb N:Nat}(h:Rm S₀ S rb N):Triple P (C G) 37 [.ref rb 0] S fun o S'=>o=.ret (.bool true)∧S'=S:=by
 obtain⟨A,hB,hI⟩:=h;have hat:=hB.at_;unfold rmC AccL.av at hat;clear hB hI;refine triple_of_awp (hT G) hm Tryz.func37 rfl (by decide +kernel) rfl (by decide +kernel) (by show 1≤_;decide +kernel) rfl ?_
 refine awp_seq2 fun K hK hQ=>?_
 conv=>whnf
 refine hK _ _ ?_;clear hK hQ K;refine awp_seq2 fun K hK hQ=>?_
 conv=>whnf
 refine⟨⟨Nat,fun i=>[(0,.ref rb 0),(3,.int .i64 (i:Int))],fun i S1=>i=0∧St.le S S1,fun i=>1-i⟩,
  ⟨0,⟨rfl,rfl,trivial⟩,_,St.leW_refl _,rfl,St.le_refl _⟩,?_⟩
 rintro(i:Nat) S1 ⟨rfl,hle⟩;conv=>whnf
 refine⟨_,_,hle _ _ hat,?_⟩;conv=>whnf
 refine hK _ _ ?_;clear hK hQ K;conv=>whnf
 exact⟨_,_,⟨rfl,rfl⟩,hle,AV.leS_refl _ _ _⟩
theorem holdRows_ok{S₀ S:St}{rb N:Nat}(h:Rm S₀ S rb N):Triple P (C G) 38 [.ref rb 0] S fun o S'=>o=.ret (.bool true)∧S'=S:=by
 obtain⟨A,hB,hI⟩:=h;have hat:=hB.at_;unfold rmC AccL.av at hat;clear hB hI;refine triple_of_awp (hT G) hm Tryz.func38 rfl (by decide +kernel) rfl (by decide +kernel) (by show 1≤_;decide +kernel) rfl ?_
 refine awp_seq2 fun K hK hQ=>?_
 conv=>whnf
 refine hK _ _ ?_;clear hK hQ K;refine awp_seq2 fun K hK hQ=>?_
 conv=>whnf
 refine⟨⟨Nat,fun i=>[(0,.ref rb 0),(3,.int .i64 (i:Int))],fun i S1=>i=0∧St.le S S1,fun i=>1-i⟩,
  ⟨0,⟨rfl,rfl,trivial⟩,_,St.leW_refl _,rfl,St.le_refl _⟩,?_⟩
 rintro(i:Nat) S1 ⟨rfl,hle⟩;conv=>whnf
 refine⟨_,_,hle _ _ hat,?_⟩;conv=>whnf
 refine hK _ _ ?_;clear hK hQ K;conv=>whnf
 exact⟨_,_,⟨rfl,rfl⟩,hle,AV.leS_refl _ _ _⟩
theorem holdCauses_ok{S₀ S:St}{rb N:Nat}(h:Rm S₀ S rb N):Triple P (C G) 40 [.ref rb 0] S fun o S'=>o=.ret (.bool true)∧S'=S:=by
 obtain⟨A,hB,hI⟩:=h;have hat:=hB.at_;unfold rmC AccL.av at hat;clear hB hI;refine triple_of_awp (hT G) hm Tryz.func40 rfl (by decide +kernel) rfl (by decide +kernel) (by show 1≤_;decide +kernel) rfl ?_
 refine awp_seq2 fun K hK hQ=>?_
 conv=>whnf
 refine hK _ _ ?_;clear hK hQ K;refine awp_seq2 fun K hK hQ=>?_
 conv=>whnf
 refine⟨⟨Nat,fun i=>[(0,.ref rb 0),(3,.int .i64 (i:Int))],fun i S1=>i=0∧St.le S S1,fun i=>1-i⟩,
  ⟨0,⟨rfl,rfl,trivial⟩,_,St.leW_refl _,rfl,St.le_refl _⟩,?_⟩
 rintro(i:Nat) S1 ⟨rfl,hle⟩;conv=>whnf
 refine⟨_,_,hle _ _ hat,?_⟩;conv=>whnf
 refine hK _ _ ?_;clear hK hQ K;conv=>whnf
 exact⟨_,_,⟨rfl,rfl⟩,hle,AV.leS_refl _ _ _⟩
theorem holdActs_ok{S₀ S:St}{rb N:Nat}(h:Rm S₀ S rb N):Triple P (C G) 41 [.ref rb 0] S fun o S'=>o=.ret (.bool true)∧S'=S:=by
 obtain⟨A,hB,hI⟩:=h;have hat:=hB.at_;unfold rmC AccL.av at hat;clear hB hI;refine triple_of_awp (hT G) hm Tryz.func41 rfl (by decide +kernel) rfl (by decide +kernel) (by show 1≤_;decide +kernel) rfl ?_
 refine awp_seq2 fun K hK hQ=>?_
 conv=>whnf
 refine hK _ _ ?_;clear hK hQ K;refine awp_seq2 fun K hK hQ=>?_
 conv=>whnf
 refine⟨⟨Nat,fun i=>[(0,.ref rb 0),(3,.int .i64 (i:Int))],fun i S1=>i=0∧St.le S S1,fun i=>1-i⟩,
  ⟨0,⟨rfl,rfl,trivial⟩,_,St.leW_refl _,rfl,St.le_refl _⟩,?_⟩
 rintro(i:Nat) S1 ⟨rfl,hle⟩;conv=>whnf
 refine⟨_,_,hle _ _ hat,?_⟩;conv=>whnf
 refine hK _ _ ?_;clear hK hQ K;conv=>whnf
 exact⟨_,_,⟨rfl,rfl⟩,hle,AV.leS_refl _ _ _⟩
theorem RHold_ok{S₀ S:St}{rb N:Nat}(h:Rm S₀ S rb N)(hN:N≤100000000):Triple P (C G) 13 [.ref rb 0] S fun o S'=>o=.ret (.bool true)∧S'=S:=by
 refine triple_of_awp (hT G) hm Tryz.func13 rfl (by decide +kernel) rfl (by decide +kernel) (by show 1≤_;decide +kernel) rfl ?_
 refine awp_seq2 fun K hK hQ=>?_
 conv=>whnf
 refine hK _ _ ?_;clear hK hQ K;refine awp_seq2 fun K hK hQ=>?_
 conv=>whnf
 refine hK _ _ ?_;clear hK hQ K
 -- holdInts_ok (G:=G) h hN the contract
 refine awp_seq2 fun K hK hQ=>?_
 conv=>whnf
 refine(holdInts_ok (G:=G) h hN).mono ?_;rintro o T ⟨rfl,rfl⟩;conv=>whnf
 refine hK _ _ ?_;clear hK hQ K
 -- holdTexts_ok (G:=G) h hN the contract
 refine awp_seq2 fun K hK hQ=>?_
 conv=>whnf
 refine(holdTexts_ok (G:=G) h hN).mono ?_;rintro o T ⟨rfl,rfl⟩;conv=>whnf
 refine hK _ _ ?_;clear hK hQ K
 -- holdTerms_ok (G:=G) h the contract
 refine awp_seq2 fun K hK hQ=>?_
 conv=>whnf
 refine(holdTerms_ok (G:=G) h).mono ?_;rintro o T ⟨rfl,rfl⟩;conv=>whnf
 refine hK _ _ ?_;clear hK hQ K
 -- holdVars_ok (G:=G) h the contract
 refine awp_seq2 fun K hK hQ=>?_
 conv=>whnf
 refine(holdVars_ok (G:=G) h).mono ?_;rintro o T ⟨rfl,rfl⟩;conv=>whnf
 refine hK _ _ ?_;clear hK hQ K
 -- holdPieces_ok (G:=G) h hN the contract
 refine awp_seq2 fun K hK hQ=>?_
 conv=>whnf
 refine(holdPieces_ok (G:=G) h hN).mono ?_;rintro o T ⟨rfl,rfl⟩;conv=>whnf
 refine hK _ _ ?_;clear hK hQ K
 -- holdOps_ok (G:=G) h hN the contract
 refine awp_seq2 fun K hK hQ=>?_
 conv=>whnf
 refine(holdOps_ok (G:=G) h hN).mono ?_;rintro o T ⟨rfl,rfl⟩;conv=>whnf
 refine hK _ _ ?_;clear hK hQ K
 -- holdCuts_ok (G:=G) h the contract
 refine awp_seq2 fun K hK hQ=>?_
 conv=>whnf
 refine(holdCuts_ok (G:=G) h).mono ?_;rintro o T ⟨rfl,rfl⟩;conv=>whnf
 refine hK _ _ ?_;clear hK hQ K
 -- holdMeans_ok (G:=G) h the contract
 refine awp_seq2 fun K hK hQ=>?_
 conv=>whnf
 refine(holdMeans_ok (G:=G) h).mono ?_;rintro o T ⟨rfl,rfl⟩;conv=>whnf
 refine hK _ _ ?_;clear hK hQ K
 -- holdLists_ok (G:=G) h the contract
 refine awp_seq2 fun K hK hQ=>?_
 conv=>whnf
 refine(holdLists_ok (G:=G) h).mono ?_;rintro o T ⟨rfl,rfl⟩;conv=>whnf
 refine hK _ _ ?_;clear hK hQ K
 -- holdCons_ok (G:=G) h the contract
 refine awp_seq2 fun K hK hQ=>?_
 conv=>whnf
 refine(holdCons_ok (G:=G) h).mono ?_;rintro o T ⟨rfl,rfl⟩;conv=>whnf
 refine hK _ _ ?_;clear hK hQ K
 -- holdRows_ok (G:=G) h the contract
 refine awp_seq2 fun K hK hQ=>?_
 conv=>whnf
 refine(holdRows_ok (G:=G) h).mono ?_;rintro o T ⟨rfl,rfl⟩;conv=>whnf
 refine hK _ _ ?_;clear hK hQ K
 -- holdSteps_ok (G:=G) h hN the contract
 refine awp_seq2 fun K hK hQ=>?_
 conv=>whnf
 refine(holdSteps_ok (G:=G) h hN).mono ?_;rintro o T ⟨rfl,rfl⟩;conv=>whnf
 refine hK _ _ ?_;clear hK hQ K
 -- holdCauses_ok (G:=G) h the contract
 refine awp_seq2 fun K hK hQ=>?_
 conv=>whnf
 refine(holdCauses_ok (G:=G) h).mono ?_;rintro o T ⟨rfl,rfl⟩;conv=>whnf
 refine hK _ _ ?_;clear hK hQ K
 -- holdActs_ok (G:=G) h the contract
 refine awp_seq2 fun K hK hQ=>?_
 conv=>whnf
 refine(holdActs_ok (G:=G) h).mono ?_;rintro o T ⟨rfl,rfl⟩;conv=>whnf
 refine hK _ _ ?_;clear hK hQ K;conv=>whnf
 exact⟨_,_,⟨rfl,rfl⟩,St.le_refl _,AV.leS_refl _ _ _⟩
def nils28:List AV:=[.nils,.nils,.nils,.nils,.nils,.nils,.nils,.nils,.nils,.nils,.nils,.nils,.nils,.nils,.nils,.nils,.nils,.nils,.nils,.nils,.nils,.nils,.nils,.nils,.nils,.nils,.nils,.nils]
theorem KInv.none(mk:Nat→List AV)(k N:Nat):KInv mk k AccL.empty AccL.empty N:=⟨[],rfl,rfl,Nat.zero_le _,fun _ h=>by cases h⟩
theorem Rm.new{S:St}{b:Nat}(hb:S b=none):∃ S',Rm S S' b 0∧St.leW S' (S.upd b (.obj 44 nils28)):=by
 refine⟨S.upd b (.obj 44 (rmC fun _=>AccL.empty)),⟨fun _=>AccL.empty,⟨rfl,?_⟩,⟨KInv.none _ _ _,KInv.none _ _ _,KInv.none _ _ _,KInv.none _ _ _,KInv.none _ _ _⟩⟩,?_⟩
 ·rw[show fpsA (fun _=>AccL.empty)=[] from rfl]
  exact⟨by simp,by intro p hp;rw[List.mem_singleton] at hp;rw[hp];exact hb⟩
 ·have:=St.leW_upd (cs':=rmC fun _=>AccL.empty) (St.upd_same S b (.obj 44 nils28)) ⟨rfl,rfl,rfl,rfl,rfl,rfl,rfl,rfl,rfl,rfl,rfl,rfl,rfl,rfl,rfl,rfl,rfl,rfl,rfl,rfl,rfl,rfl,rfl,rfl,rfl,rfl,rfl,rfl,trivial⟩
  rw[St.upd_upd] at this;exact this
theorem writes_agree(hG:GS G)(hA:GAs G)(l:List StepV)(hl:l.length≤1000000)(hok:∀ v∈l,OkStep v∧(textT v).size≤8999999∧(lineV v).size≤8999999) :
 ∃ (tx:ByteArray) (i c:Int) (e:AV),(e=.nili∨∃ te cs,e=.ifc te (.imm cs))∧(∀ S,Triple P (C G) 15 [.sl .any 10 (rowsT l)] S fun o S'=>o=.ret (.tu [.str tx,e])∧S'=S)
  ∧(∀ S,Triple P (C G) 14 [.sl .any 10 (rowsT l)] S fun o S'=>o=.ret (.tu [.str tx,.ag [.int .i64 i,.int .i64 c]])∧S'=S)
  ∧(∀ S,Triple P (C G) 16 [e] S fun o S'=>o=.ret (.tu [.ag [.int .i64 i,.int .i64 c],.bool true])∧S'=S):=by
 have h1:=fun S=>Write_ok (G:=G) hG hA l hl (fun v hv=>⟨(hok v hv).1,(hok v hv).2.1⟩) S
 have h2:=fun S=>Write_r_ok (G:=G) hG.tab l hl hok S
 rcases hwl:writeL l [] 0 with ⟨B,_ | ⟨k,c⟩⟩
 ·rw[hwl] at h1 h2;exact⟨_,_,_,_,.inl rfl,h1,h2,fun S=>told_nil S⟩
 ·obtain⟨w0,j,hj,hk,hcj,rfl⟩:=writeL_some l [] 0 k c (by rw[hwl])
  rw[hwl] at h1 h2;exact⟨_,_,_,_,.inr ⟨_,_,rfl⟩,h1,h2,fun S=>told_fault _ _ (by decide) (by decide) S⟩
theorem lawWrites_ok(hG:GS G)(hA:GAs G)(l:List StepV)(hsz:∀ v∈l,SzStep v)(hint:∀ v∈l,IntStep v)(S:St) :
 Triple P (C G) 4 [.sl .any 10 (rowsT l)] S fun o S'=>o=.ret (.bool true)∧S'=S:=by
 refine triple_of_awp (hT G) hm Tryz.func4 rfl (by decide +kernel) rfl (by decide +kernel) (by show 1≤_;decide +kernel) rfl ?_
 refine awp_seq2 fun K hK hQ=>?_
 conv=>whnf
 refine hK _ _ ?_;clear hK hQ K;refine awp_seq2 fun K hK hQ=>?_
 conv=>whnf
 refine(CMany_ok 200000 _).mono ?_;rintro o T2 ⟨b3,hb3,rfl,rfl⟩;conv=>whnf
 refine hK _ _ ?_;clear hK hQ K;have hc:=Steps_c (G:=G) (S:=S.upd b3 (.obj 73 [.int .i64 200000])) (St.upd_same _ _ _) (x:=200000) ⟨by decide,by decide⟩ l hsz
 rw[St.upd_upd] at hc;have hback:=cntSs_back (l:=l) (x:=200000);generalize cntSs 200000 l=z at *;refine awp_seq2 fun K hK hQ=>?_
 conv=>whnf
 refine hc.mono ?_;rintro o T2 ⟨rfl,rfl⟩;conv=>whnf
 refine hK _ _ ?_;clear hK hQ K;have hle3:St.le S (S.upd b3 (.obj 73 [.int .i64 z])):=St.le_upd' (St.le_refl _) hb3 _;have hok:=COk_ok (G:=G) (S:=S.upd b3 (.obj 73 [.int .i64 z])) (b:=b3) (x:=z) (St.upd_same _ _ _);generalize S.upd b3 (.obj 73 [.int .i64 z])=T3 at *;refine awp_seq2 fun K hK hQ=>?_
 conv=>whnf
 refine hok.mono ?_;rintro o T2 ⟨rfl,rfl⟩
 by_cases hz:0≤z
 ·rw[decide_eq_true hz];conv=>whnf
  refine hK _ _ ?_;clear hK hQ K;obtain⟨_,hz2⟩:=hback hz;have hw:wts l≤200000:=by omega
  have hll:=wts_len l
  have hst:∀ v∈l,OkStep v∧(textT v).size≤8999999∧(lineV v).size≤8999999:=fun v hv=>by
   have h1:=wts_mem v hv
   have h2:=textT_wt (hint v hv)
   have h3:=lineV_wt (hint v hv)
   exact⟨ok_of_wt (by omega) (hint v hv),by omega,by omega⟩
  have hsm:=fun S=>sameSteps_self (G:=G) l (by omega) (fun v hv=>(hst v hv).1.len) S
  obtain⟨tx,fi,fc,e,hee,hwr,hwr2,htold⟩:=writes_agree (G:=G) hG hA l (by omega) hst
  refine awp_seq2 fun K hK hQ=>?_
  conv=>whnf
  intro b4 hb4;conv=>whnf
  refine hK _ _ ?_;clear hK hQ K;obtain⟨R0,hR0,hw0⟩:=Rm.new hb4;have hrs:=(Steps_r_ok (G:=G) hR0 l (by omega) (fun v hv=>by
   have h:=(hst v hv).1
   exact⟨by have:=h.ops.1;omega,by have:=h.row.1;omega,by have:=h.lits.1;omega,by have:=h.ids.1;omega⟩)).weakS hw0
  unfold nils28 at hrs;refine awp_seq2 fun K hK hQ=>?_
  conv=>whnf
  refine hrs.mono ?_;rintro o R ⟨rfl,hR⟩;clear hrs hw0 hR0 R0;conv=>whnf
  refine hK _ _ ?_;clear hK hQ K;refine awp_seq2 fun K hK hQ=>?_
  conv=>whnf
  refine(hwr2 _).mono ?_;rintro o T ⟨rfl,rfl⟩;conv=>whnf
  intro b7 hb7;conv=>whnf
  refine⟨_,_,St.upd_same _ _ _,?_⟩;conv=>whnf
  rw[St.upd_upd];refine hK _ _ ?_;clear hK hQ K;have hn7:T2 b7=none:=St.le_none hR.le hb7;have hle7:St.le S (T2.upd b7 (.obj 62 [.int .i64 fi,.int .i64 fc])):=St.le_upd' hle3 hn7 _;have hR7:=hR.set (.inl hb7) (.obj 62 [.int .i64 fi,.int .i64 fc]);have q7:=St.upd_same T2 b7 (.obj 62 [.int .i64 fi,.int .i64 fc]);generalize T2.upd b7 (.obj 62 [.int .i64 fi,.int .i64 fc])=T7 at *;generalize T.upd b7 (.obj 62 [.int .i64 fi,.int .i64 fc])=F7 at *;refine awp_seq2 fun K hK hQ=>?_
  conv=>whnf
  refine⟨⟨Nat,fun i=>[(0,.sl .any 10 (rowsT l)),(4,.ref b4 0),(5,.sl .any 10 (rowsT l)),(6,.str tx),(7,.ref b7 0),(8,.int .i64 (i:Int))],
   fun i S1=>(∃ T0,St.le T7 T0∧Rm T0 S1 b4 (0+4*l.length+1))∧i≤2,fun i=>2-i⟩,
   ⟨0,⟨⟨rfl,rfl⟩,rfl,⟨rfl,rfl⟩,rfl,rfl,rfl,trivial⟩,_,St.leW_refl _,⟨T7,St.le_refl _,hR7⟩,by omega⟩,?_⟩
  rintro(i:Nat) S1 ⟨⟨T0,hT0,hR1⟩,hi⟩;have q71:=hR1.le _ _ (hT0 _ _ q7);conv=>whnf
  refine split_of (fun hlt=>?_) (fun hlt=>?_)
  ·have hlt:i<2:=by have:=of_decide_eq_true hlt;omega
   have w1:IntKind.i64.wrap ((i:Int)+1)=((i+1:Nat):Int):=wrap_nat (by omega)
   rcases hee with rfl | ⟨te,cs,rfl⟩
   ·skip
    conv=>whnf
    refine(hwr _).mono ?_;rintro o T ⟨rfl,rfl⟩;conv=>whnf
    refine(htold _).mono ?_;rintro o T ⟨rfl,rfl⟩;conv=>whnf
    intro b11 hb11;conv=>whnf
    refine⟨_,_,St.upd_same _ _ _,?_⟩;conv=>whnf
    rw[St.upd_upd];have h11:T0 b11=none:=St.le_none hR1.le hb11;have hR11:=hR1.set (.inl hb11) (.obj 62 [.int .i64 fi,.int .i64 fc]);have hle11:=St.le_upd' hT0 h11 (.obj 62 [.int .i64 fi,.int .i64 fc]);refine⟨_,_,St.upd_same _ _ _,?_⟩;conv=>whnf
    refine⟨_,_,St.up hb11 q71,?_⟩;conv=>whnf
    rw[show(!(fi == fi && (fc == fc && true)))=false from by simp]
    conv=>whnf
    rw[show decide (tx=tx)=true from decide_eq_true rfl];conv=>whnf
    refine(hsm _).mono ?_;rintro o T ⟨rfl,rfl⟩;conv=>whnf
    exact⟨i+1,⟨⟨rfl,rfl⟩,rfl,⟨rfl,rfl⟩,rfl,rfl,congrArg _ w1,trivial⟩,⟨_,St.leW_refl _,⟨_,hle11,hR11⟩,hlt⟩,by show 2-(i+1)<2-i;omega⟩
   ·skip
    conv=>whnf
    refine(hwr _).mono ?_;rintro o T ⟨rfl,rfl⟩;conv=>whnf
    refine(htold _).mono ?_;rintro o T ⟨rfl,rfl⟩;conv=>whnf
    intro b11 hb11;conv=>whnf
    refine⟨_,_,St.upd_same _ _ _,?_⟩;conv=>whnf
    rw[St.upd_upd];have h11:T0 b11=none:=St.le_none hR1.le hb11;have hR11:=hR1.set (.inl hb11) (.obj 62 [.int .i64 fi,.int .i64 fc]);have hle11:=St.le_upd' hT0 h11 (.obj 62 [.int .i64 fi,.int .i64 fc]);refine⟨_,_,St.upd_same _ _ _,?_⟩;conv=>whnf
    refine⟨_,_,St.up hb11 q71,?_⟩;conv=>whnf
    rw[show(!(fi == fi && (fc == fc && true)))=false from by simp]
    conv=>whnf
    rw[show decide (tx=tx)=true from decide_eq_true rfl];conv=>whnf
    refine(hsm _).mono ?_;rintro o T ⟨rfl,rfl⟩;conv=>whnf
    exact⟨i+1,⟨⟨rfl,rfl⟩,rfl,⟨rfl,rfl⟩,rfl,rfl,congrArg _ w1,trivial⟩,⟨_,St.leW_refl _,⟨_,hle11,hR11⟩,hlt⟩,by show 2-(i+1)<2-i;omega⟩
  ·have hlt:i=2:=by have:=of_decide_eq_false hlt;omega
   conv=>whnf
   refine hK _ _ ?_;clear hK hQ K;conv=>whnf
   refine(RHold_ok hR1 (by omega)).mono ?_
   rintro o T ⟨rfl,rfl⟩;conv=>whnf
   exact⟨_,_,⟨rfl,rfl⟩,St.le_trans hle7 (St.le_trans hT0 hR1.le),AV.leS_refl _ _ _⟩
 ·rw[decide_eq_false hz];conv=>whnf
  refine hQ _ _ _ (by simp) ?_
  conv=>whnf
  exact⟨_,_,⟨rfl,rfl⟩,hle3,AV.leS_refl _ _ _⟩
end Go.Proofs.YtogipknpafkfpaaGreatDoor.Aw
