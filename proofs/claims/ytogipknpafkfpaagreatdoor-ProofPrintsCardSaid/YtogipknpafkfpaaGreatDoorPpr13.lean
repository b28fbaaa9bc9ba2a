/- The room whose numbers and texts may be written over: no mark is written over, walked. Lists that may be written over, l -/
import Derived.Test.YtogipknpafkfpaaGreatDoorPpr12
import Derived.Test.YtogipknpafkfpaaGreatDoorPpr7
set_option linter.all false
set_option maxRecDepth 100000
namespace Go.Proofs.YtogipknpafkfpaaGreatDoor.Aw
open Go Go.RowKit
variable {G:Nat→Option (List AV)}
theorem awp_blk{C:Cx}{id:Nat}{c:Go.Code}{env:Env}{S:St}{Q:AExit→Env→St→Prop}(h:awp P C c env S fun e env' S'=>match e with
 | .exit id'=>(bif Nat.beq id' id then Q .normal env' S' else Q (.exit id') env' S')
 | e=>Q e env' S'):awp P C (.block id c) env S Q:=h
theorem ent_get{mk:Nat→List AV}{base:List (List AV)}{n k:Nat}(hk:k<n):(base++mks mk n)[((base.length+k:Nat):Int).toNat]? = some (mk k):=by
 rw[Int.toNat_natCast,List.getElem?_append_right (by omega),Nat.add_sub_cancel_left]
 simp[mks,hk]
def hd(l:List AV):AV:=l.headD .top
theorem has_get{mk:Nat→List AV}(hm:∀ i,(mk i).length=1){xs:List (List AV)}(hx:∀ x∈xs,x.length=1){n k:Nat}(hk:k<n)(junk:List AV):(xs.flatten++((mks mk n).flatten++junk))[0+((xs.length+k:Nat):Int).toNat*1]? = some (hd (mk k)):=by
 have e:0+((xs.length+k:Nat):Int).toNat*1=xs.flatten.length+k:=by rw[flat1_len hx];omega
 rw[e,List.getElem?_append_right (Nat.le_add_right _ _),Nat.add_sub_cancel_left];have h2:n=k+1+(n-(k+1)):=by omega
 have h3:∀ d,(mks mk (k+1+d)).flatten[k]? = some (hd (mk k)):=by
  intro d
  induction d with
  | zero=>
    rw[Nat.add_zero,mks_succ,List.flatten_append,List.getElem?_append_right (Nat.le_of_eq (mks_flat hm k)),mks_flat hm,Nat.sub_self];obtain⟨z,hz⟩:=List.length_eq_one_iff.1 (hm k);rw[hz];rfl
  | succ d ih=>
    rw[show k+1+(d+1)=(k+1+d)+1 by omega,mks_succ,List.flatten_append,List.getElem?_append_left (by rw[mks_flat hm];omega),ih]
 rw[List.getElem?_append_left (by rw[mks_flat hm];exact hk),h2,h3]
theorem holdInts_ok{S₀ S:St}{Kn:Nat→Nat}{rb N:Nat}(h:Rm S₀ Kn S rb N)(hN:N≤100000000):Triple P (C G) 28 [.ref rb 0] S fun o S'=>o=.ret (.bool true)∧S'=S:=by
 -- (*hallmark/hallmarkroom.Room).holdInts function,3 the elements' type,mkI mk,lot_ok the mark's contract,0 j,hI.i the kind's invariant,midI the middle,mkI_len every mark's length
 obtain⟨A,hB,hI⟩:=h;have hlot:=fun i S=>lot_ok (G:=G) i S
 obtain⟨lE,hE1,hE2,hE3,hE4⟩:=(hI.i).ex;have hat:=hB.at_;have hSS:=hB.le;unfold rmC AccL.av at hat;rw[hE1,hE2] at hat;clear hE1 hE2 hB hI;refine triple_of_awp (hT G) hm Tryz.func28 rfl (by decide +kernel) rfl (by decide +kernel) (by show 1≤_;decide +kernel) rfl ?_
 refine awp_seq2 fun K hK hQ=>?_
 conv=>whnf
 refine hK _ _ ?_;clear hK hQ K;refine awp_seq2 fun K hK hQ=>?_
 conv=>whnf
 refine⟨⟨Nat,fun i=>[(0,.ref rb 0),(3,.int .i64 (i:Int))],fun i S1=>St.le S S1∧i≤lE.length,fun i=>lE.length-i⟩,
  ⟨0,⟨rfl,rfl,trivial⟩,_,St.leW_refl _,St.le_refl _,by omega⟩,?_⟩
 rintro(i:Nat) S1 ⟨hle,hi⟩;refine awp_seq2 fun K2 hK2 hQ2=>?_
 conv=>whnf
 refine⟨_,_,hle _ _ hat,?_⟩;conv=>whnf
 intro _;conv=>whnf
 refine split_of (fun hlt=>?_) (fun hlt=>?_)
 ·have hlt:i<lE.length:=by have:=of_decide_eq_true hlt;rw[List.length_map] at this;omega
  have ga:(lE.map fun x=>[AV.arr x.1 0 (x.2.1+x.2.2.1) x.2.2.2])[(i:Int).toNat]? = some [AV.arr lE[i].1 0 (lE[i].2.1+lE[i].2.2.1) lE[i].2.2.2]:=by simp[hlt]
  have gb:(lE.map fun x=>[AV.int .i64 (x.2.1:Int)])[(i:Int).toNat]? = some [AV.int .i64 (lE[i].2.1:Int)]:=by simp[hlt]
  obtain⟨hb,_,xs,hxs,junk,hhas,hx1,hc1,hc2,hc3⟩:=hE4 _ (List.getElem_mem hlt);have hat2:=hSS _ _ hhas;have w1:IntKind.i64.wrap ((i:Int)+1)=((i+1:Nat):Int):=wrap_nat (by omega)
  generalize lE[i]=e at *;obtain⟨eb,nb,n,cap⟩:=e;dsimp only at ga gb hb hxs hat2 hc1 hc2;clear hhas hSS;subst hxs;conv=>whnf
  refine hK2 _ _ ?_;clear hK2 hQ2 K2;refine awp_seq2 fun K2 hK2 hQ2=>?_
  refine awp_blk ?_;refine awp_seq2 fun K3 hK3 hQ3=>?_
  conv=>whnf
  refine⟨_,_,hle _ _ hat,?_⟩;conv=>whnf
  refine⟨_,⟨by omega,gb⟩,?_⟩
  conv=>whnf
  refine hK3 _ _ ?_;clear hK3 hQ3 K3;conv=>whnf
  refine⟨⟨Nat,fun k=>[(0,.ref rb 0),(3,.int .i64 (i:Int)),(4,.int .i64 (xs.length:Int)),(5,.int .i64 ((xs.length+k:Nat):Int))],fun k S2=>St.le S S2∧k≤n,fun k=>n-k⟩,
   ⟨0,⟨rfl,rfl,rfl,rfl,trivial⟩,_,St.leW_refl _,hle,by omega⟩,?_⟩
  rintro(k:Nat) S2 ⟨hle2,hk⟩;refine awp_seq2 fun K4 hK4 hQ4=>?_
  conv=>whnf
  refine⟨_,_,hle2 _ _ hat,?_⟩;conv=>whnf
  refine⟨_,⟨by omega,ga⟩,?_⟩
  conv=>whnf
  refine split_of (fun hlt2=>?_) (fun hlt2=>?_)
  ·have hlt2:k<n:=by have:=of_decide_eq_true hlt2;omega
   have gk:(xs.flatten++((mks mkI n).flatten++junk))[0+((xs.length+k:Nat):Int).toNat*1]? = some (hd (mkI k)):=has_get mkI_len hx1 hlt2 junk
   have w2:IntKind.i64.wrap (((xs.length+k:Nat):Int)-(xs.length:Int))=(k:Int):=by
    rw[show((xs.length+k:Nat):Int)-(xs.length:Int)=(k:Int) by omega]
    exact wrap_i64 (by omega) (by omega)
   have w3:IntKind.i64.wrap (((xs.length+k:Nat):Int)+1)=((xs.length+(k+1):Nat):Int):=wrap_nat (by omega)
   conv=>whnf
   refine hK4 _ _ ?_;clear hK4 hQ4 K4;refine awp_seq2 fun K4 hK4 hQ4=>?_
   refine awp_blk ?_;refine awp_seq2 fun K5 hK5 hQ5=>?_
   conv=>whnf
   refine⟨_,_,hle2 _ _ hat,?_⟩;conv=>whnf
   refine⟨_,⟨by omega,ga⟩,?_⟩
   conv=>whnf
   refine⟨⟨by omega,by omega⟩,?_⟩
   conv=>whnf
   refine⟨_,_,hle2 _ _ hat2,aPart_cell rfl gk ?_⟩;conv=>whnf
   refine hK5 _ _ ?_;clear hK5 hQ5 K5;conv=>whnf
   rw[w2];refine(hlot k _).mono ?_;rintro o T ⟨rfl,rfl⟩;conv=>whnf
   rw[show(lotV k != lotV k)=false from bne_self_eq_false _];conv=>whnf
   refine hK4 _ _ ?_;clear hK4 hQ4 K4;conv=>whnf
   exact⟨k+1,⟨rfl,rfl,rfl,congrArg _ w3,trivial⟩,⟨_,St.leW_refl _,hle2,hlt2⟩,by show n-(k+1)<n-k;omega⟩
  ·conv=>whnf
   refine hQ4 _ _ _ (by simp) ?_
   clear hK4 hQ4 K4;conv=>whnf
   refine hK2 _ _ ?_;clear hK2 hQ2 K2;conv=>whnf
   exact⟨i+1,⟨rfl,congrArg _ w1,trivial⟩,⟨_,St.leW_refl _,hle2,hlt⟩,by show lE.length-(i+1)<lE.length-i;omega⟩
 ·conv=>whnf
  refine hQ2 _ _ _ (by simp) ?_
  clear hK2 hQ2 K2;conv=>whnf
  refine hK _ _ ?_;clear hK hQ K;conv=>whnf
  exact⟨_,_,⟨rfl,rfl⟩,hle,AV.leS_refl _ _ _⟩
theorem holdTexts_ok{S₀ S:St}{Kn:Nat→Nat}{rb N:Nat}(h:Rm S₀ Kn S rb N)(hN:N≤100000000):Triple P (C G) 29 [.ref rb 0] S fun o S'=>o=.ret (.bool true)∧S'=S:=by
 -- (*hallmark/hallmarkroom.Room).holdTexts function,9 the elements' type,mkT mk,word_ok the mark's contract,2 j,hI.t the kind's invariant,midT the middle,mkT_len every mark's length
 obtain⟨A,hB,hI⟩:=h;have hlot:=fun i S=>word_ok (G:=G) i S
 obtain⟨lE,hE1,hE2,hE3,hE4⟩:=(hI.t).ex;have hat:=hB.at_;have hSS:=hB.le;unfold rmC AccL.av at hat;rw[hE1,hE2] at hat;clear hE1 hE2 hB hI;refine triple_of_awp (hT G) hm Tryz.func29 rfl (by decide +kernel) rfl (by decide +kernel) (by show 1≤_;decide +kernel) rfl ?_
 refine awp_seq2 fun K hK hQ=>?_
 conv=>whnf
 refine hK _ _ ?_;clear hK hQ K;refine awp_seq2 fun K hK hQ=>?_
 conv=>whnf
 refine⟨⟨Nat,fun i=>[(0,.ref rb 0),(3,.int .i64 (i:Int))],fun i S1=>St.le S S1∧i≤lE.length,fun i=>lE.length-i⟩,
  ⟨0,⟨rfl,rfl,trivial⟩,_,St.leW_refl _,St.le_refl _,by omega⟩,?_⟩
 rintro(i:Nat) S1 ⟨hle,hi⟩;refine awp_seq2 fun K2 hK2 hQ2=>?_
 conv=>whnf
 refine⟨_,_,hle _ _ hat,?_⟩;conv=>whnf
 intro _;conv=>whnf
 refine split_of (fun hlt=>?_) (fun hlt=>?_)
 ·have hlt:i<lE.length:=by have:=of_decide_eq_true hlt;rw[List.length_map] at this;omega
  have ga:(lE.map fun x=>[AV.arr x.1 0 (x.2.1+x.2.2.1) x.2.2.2])[(i:Int).toNat]? = some [AV.arr lE[i].1 0 (lE[i].2.1+lE[i].2.2.1) lE[i].2.2.2]:=by simp[hlt]
  have gb:(lE.map fun x=>[AV.int .i64 (x.2.1:Int)])[(i:Int).toNat]? = some [AV.int .i64 (lE[i].2.1:Int)]:=by simp[hlt]
  obtain⟨hb,_,xs,hxs,junk,hhas,hx1,hc1,hc2,hc3⟩:=hE4 _ (List.getElem_mem hlt);have hat2:=hSS _ _ hhas;have w1:IntKind.i64.wrap ((i:Int)+1)=((i+1:Nat):Int):=wrap_nat (by omega)
  generalize lE[i]=e at *;obtain⟨eb,nb,n,cap⟩:=e;dsimp only at ga gb hb hxs hat2 hc1 hc2;clear hhas hSS;subst hxs;conv=>whnf
  refine hK2 _ _ ?_;clear hK2 hQ2 K2;refine awp_seq2 fun K2 hK2 hQ2=>?_
  refine awp_blk ?_;refine awp_seq2 fun K3 hK3 hQ3=>?_
  conv=>whnf
  refine⟨_,_,hle _ _ hat,?_⟩;conv=>whnf
  refine⟨_,⟨by omega,gb⟩,?_⟩
  conv=>whnf
  refine hK3 _ _ ?_;clear hK3 hQ3 K3;conv=>whnf
  refine⟨⟨Nat,fun k=>[(0,.ref rb 0),(3,.int .i64 (i:Int)),(4,.int .i64 (xs.length:Int)),(5,.int .i64 ((xs.length+k:Nat):Int))],fun k S2=>St.le S S2∧k≤n,fun k=>n-k⟩,
   ⟨0,⟨rfl,rfl,rfl,rfl,trivial⟩,_,St.leW_refl _,hle,by omega⟩,?_⟩
  rintro(k:Nat) S2 ⟨hle2,hk⟩;refine awp_seq2 fun K4 hK4 hQ4=>?_
  conv=>whnf
  refine⟨_,_,hle2 _ _ hat,?_⟩;conv=>whnf
  refine⟨_,⟨by omega,ga⟩,?_⟩
  conv=>whnf
  refine split_of (fun hlt2=>?_) (fun hlt2=>?_)
  ·have hlt2:k<n:=by have:=of_decide_eq_true hlt2;omega
   have gk:(xs.flatten++((mks mkT n).flatten++junk))[0+((xs.length+k:Nat):Int).toNat*1]? = some (hd (mkT k)):=has_get mkT_len hx1 hlt2 junk
   have w2:IntKind.i64.wrap (((xs.length+k:Nat):Int)-(xs.length:Int))=(k:Int):=by
    rw[show((xs.length+k:Nat):Int)-(xs.length:Int)=(k:Int) by omega]
    exact wrap_i64 (by omega) (by omega)
   have w3:IntKind.i64.wrap (((xs.length+k:Nat):Int)+1)=((xs.length+(k+1):Nat):Int):=wrap_nat (by omega)
   conv=>whnf
   refine hK4 _ _ ?_;clear hK4 hQ4 K4;refine awp_seq2 fun K4 hK4 hQ4=>?_
   refine awp_blk ?_;refine awp_seq2 fun K5 hK5 hQ5=>?_
   conv=>whnf
   refine⟨_,_,hle2 _ _ hat,?_⟩;conv=>whnf
   refine⟨_,⟨by omega,ga⟩,?_⟩
   conv=>whnf
   refine⟨⟨by omega,by omega⟩,?_⟩
   conv=>whnf
   refine⟨_,_,hle2 _ _ hat2,aPart_cell rfl gk ?_⟩;conv=>whnf
   refine hK5 _ _ ?_;clear hK5 hQ5 K5;conv=>whnf
   rw[w2];refine(hlot k _).mono ?_;rintro o T ⟨rfl,rfl⟩;conv=>whnf
   rw[show(!decide (wordV k=wordV k))=false from by simp]
   conv=>whnf
   refine hK4 _ _ ?_;clear hK4 hQ4 K4;conv=>whnf
   exact⟨k+1,⟨rfl,rfl,rfl,congrArg _ w3,trivial⟩,⟨_,St.leW_refl _,hle2,hlt2⟩,by show n-(k+1)<n-k;omega⟩
  ·conv=>whnf
   refine hQ4 _ _ _ (by simp) ?_
   clear hK4 hQ4 K4;conv=>whnf
   refine hK2 _ _ ?_;clear hK2 hQ2 K2;conv=>whnf
   exact⟨i+1,⟨rfl,congrArg _ w1,trivial⟩,⟨_,St.leW_refl _,hle2,hlt⟩,by show lE.length-(i+1)<lE.length-i;omega⟩
 ·conv=>whnf
  refine hQ2 _ _ _ (by simp) ?_
  clear hK2 hQ2 K2;conv=>whnf
  refine hK _ _ ?_;clear hK hQ K;conv=>whnf
  exact⟨_,_,⟨rfl,rfl⟩,hle,AV.leS_refl _ _ _⟩
theorem holdPieces_ok{S₀ S:St}{Kn:Nat→Nat}{rb N:Nat}(h:Rm S₀ Kn S rb N)(hN:N≤100000000):Triple P (C G) 32 [.ref rb 0] S fun o S'=>o=.ret (.bool true)∧S'=S:=by
 -- (*hallmark/hallmarkroom.Room).holdPieces function,2 k,mkP mk,lot_ok the mark's contract,4 j,hI.p the kind's invariant,midPP the middle
 obtain⟨A,hB,hI⟩:=h;have hlot:=fun i S=>lot_ok (G:=G) i S
 obtain⟨lE,hE1,hE2,hE3,hE4⟩:=(hI.p).ex;have hat:=hB.at_;unfold rmC AccL.av at hat;rw[hE1,hE2] at hat;clear hE1 hE2 hB hI;refine triple_of_awp (hT G) hm Tryz.func32 rfl (by decide +kernel) rfl (by decide +kernel) (by show 1≤_;decide +kernel) rfl ?_
 refine awp_seq2 fun K hK hQ=>?_
 conv=>whnf
 refine hK _ _ ?_;clear hK hQ K;refine awp_seq2 fun K hK hQ=>?_
 conv=>whnf
 refine⟨⟨Nat,fun i=>[(0,.ref rb 0),(3,.int .i64 (i:Int))],fun i S1=>St.le S S1∧i≤lE.length,fun i=>lE.length-i⟩,
  ⟨0,⟨rfl,rfl,trivial⟩,_,St.leW_refl _,St.le_refl _,by omega⟩,?_⟩
 rintro(i:Nat) S1 ⟨hle,hi⟩;refine awp_seq2 fun K2 hK2 hQ2=>?_
 conv=>whnf
 refine⟨_,_,hle _ _ hat,?_⟩;conv=>whnf
 intro _;conv=>whnf
 refine split_of (fun hlt=>?_) (fun hlt=>?_)
 ·have hlt:i<lE.length:=by have:=of_decide_eq_true hlt;rw[List.length_map] at this;omega
  have ga:(lE.map fun e=>[entAV mkP 2 e])[(i:Int).toNat]? = some [entAV mkP 2 lE[i]]:=by simp[hlt]
  have gb:(lE.map fun e=>[AV.int .i64 (e.2.1.length:Int)])[(i:Int).toNat]? = some [AV.int .i64 (lE[i].2.1.length:Int)]:=by simp[hlt]
  have hb:=hE4 _ (List.getElem_mem hlt)
  have w1:IntKind.i64.wrap ((i:Int)+1)=((i+1:Nat):Int):=wrap_nat (by omega)
  generalize lE[i]=e at *;obtain⟨eb,base,n⟩:=e;dsimp only at gb hb;unfold entAV at ga;dsimp only at ga;conv=>whnf
  refine hK2 _ _ ?_;clear hK2 hQ2 K2;refine awp_seq2 fun K2 hK2 hQ2=>?_
  refine awp_blk ?_;refine awp_seq2 fun K3 hK3 hQ3=>?_
  conv=>whnf
  refine⟨_,_,hle _ _ hat,?_⟩;conv=>whnf
  refine⟨_,⟨by omega,gb⟩,?_⟩
  conv=>whnf
  refine hK3 _ _ ?_;clear hK3 hQ3 K3;conv=>whnf
  refine⟨⟨Nat,fun k=>[(0,.ref rb 0),(3,.int .i64 (i:Int)),(4,.int .i64 (base.length:Int)),(5,.int .i64 ((base.length+k:Nat):Int))],fun k S2=>St.le S S2∧k≤n,fun k=>n-k⟩,
   ⟨0,⟨rfl,rfl,rfl,rfl,trivial⟩,_,St.leW_refl _,hle,by omega⟩,?_⟩
  rintro(k:Nat) S2 ⟨hle2,hk⟩;refine awp_seq2 fun K4 hK4 hQ4=>?_
  conv=>whnf
  refine⟨_,_,hle2 _ _ hat,?_⟩;conv=>whnf
  refine⟨_,⟨by omega,ga⟩,?_⟩
  conv=>whnf
  intro _;conv=>whnf
  refine split_of (fun hlt2=>?_) (fun hlt2=>?_)
  ·have hlt2:k<n:=by have:=of_decide_eq_true hlt2;rw[List.length_append,mks_len] at this;omega
   have gk:=ent_get (mk:=mkP) (base:=base) hlt2
   have w2:IntKind.i64.wrap (((base.length+k:Nat):Int)-(base.length:Int))=(k:Int):=by
    rw[show((base.length+k:Nat):Int)-(base.length:Int)=(k:Int) by omega]
    exact wrap_i64 (by omega) (by omega)
   have w3:IntKind.i64.wrap (((base.length+k:Nat):Int)+1)=((base.length+(k+1):Nat):Int):=wrap_nat (by omega)
   conv=>whnf
   refine hK4 _ _ ?_;clear hK4 hQ4 K4;refine awp_seq2 fun K4 hK4 hQ4=>?_
   refine awp_blk ?_;refine awp_seq2 fun K5 hK5 hQ5=>?_
   conv=>whnf
   refine⟨_,_,hle2 _ _ hat,?_⟩;conv=>whnf
   refine⟨_,⟨by omega,ga⟩,?_⟩
   conv=>whnf
   refine⟨_,⟨by omega,gk⟩,?_⟩
   conv=>whnf
   -- (*hallmark/hallmarkroom.Room).holdPieces function,4 quiet
   intro b6 hb6;conv=>whnf
   refine⟨_,_,St.upd_same _ _ _,?_⟩;conv=>whnf
   rw[St.upd_upd];refine hK5 _ _ ?_;clear hK5 hQ5 K5;have hle2:=St.le_upd' hle2 hb6 (.obj (126) (mkP k));unfold mkP at hle2;refine⟨[4],(.free 0 (.free 1 (.free 2 (.free 3 (.free 4 (.free 5 (.free 6 .done))))))),_,by decide +kernel,?_,fun _ _ h=>⟨_,.inl rfl,h⟩⟩
   conv=>whnf
   refine⟨_,_,St.upd_same _ _ _,?_⟩;conv=>whnf
   rw[w2];refine⟨.int .i64 (lotV k),(hlot k _).mono ?_,?_⟩
   ·rintro o S' ⟨rfl,rfl⟩;exact⟨rfl,rfl⟩
   conv=>whnf
   simp only[beq_self_eq_true,decide_true,Bool.and_self,Bool.not_true,bne_self_eq_false];conv=>whnf
   refine hK4 _ _ ?_;clear hK4 hQ4 K4;conv=>whnf
   exact⟨k+1,⟨rfl,rfl,rfl,congrArg _ w3,trivial⟩,⟨_,St.leW_refl _,hle2,hlt2⟩,by show n-(k+1)<n-k;omega⟩
  ·conv=>whnf
   refine hQ4 _ _ _ (by simp) ?_
   clear hK4 hQ4 K4;conv=>whnf
   refine hK2 _ _ ?_;clear hK2 hQ2 K2;conv=>whnf
   exact⟨i+1,⟨rfl,congrArg _ w1,trivial⟩,⟨_,St.leW_refl _,hle2,hlt⟩,by show lE.length-(i+1)<lE.length-i;omega⟩
 ·conv=>whnf
  refine hQ2 _ _ _ (by simp) ?_
  clear hK2 hQ2 K2;conv=>whnf
  refine hK _ _ ?_;clear hK hQ K;conv=>whnf
  exact⟨_,_,⟨rfl,rfl⟩,hle,AV.leS_refl _ _ _⟩
theorem holdOps_ok{S₀ S:St}{Kn:Nat→Nat}{rb N:Nat}(h:Rm S₀ Kn S rb N)(hN:N≤100000000):Triple P (C G) 33 [.ref rb 0] S fun o S'=>o=.ret (.bool true)∧S'=S:=by
 -- (*hallmark/hallmarkroom.Room).holdOps function,3 k,mkO mk,lot_ok the mark's contract,6 j,hI.o the kind's invariant,midOO the middle
 obtain⟨A,hB,hI⟩:=h;have hlot:=fun i S=>lot_ok (G:=G) i S
 obtain⟨lE,hE1,hE2,hE3,hE4⟩:=(hI.o).ex;have hat:=hB.at_;unfold rmC AccL.av at hat;rw[hE1,hE2] at hat;clear hE1 hE2 hB hI;refine triple_of_awp (hT G) hm Tryz.func33 rfl (by decide +kernel) rfl (by decide +kernel) (by show 1≤_;decide +kernel) rfl ?_
 refine awp_seq2 fun K hK hQ=>?_
 conv=>whnf
 refine hK _ _ ?_;clear hK hQ K;refine awp_seq2 fun K hK hQ=>?_
 conv=>whnf
 refine⟨⟨Nat,fun i=>[(0,.ref rb 0),(3,.int .i64 (i:Int))],fun i S1=>St.le S S1∧i≤lE.length,fun i=>lE.length-i⟩,
  ⟨0,⟨rfl,rfl,trivial⟩,_,St.leW_refl _,St.le_refl _,by omega⟩,?_⟩
 rintro(i:Nat) S1 ⟨hle,hi⟩;refine awp_seq2 fun K2 hK2 hQ2=>?_
 conv=>whnf
 refine⟨_,_,hle _ _ hat,?_⟩;conv=>whnf
 intro _;conv=>whnf
 refine split_of (fun hlt=>?_) (fun hlt=>?_)
 ·have hlt:i<lE.length:=by have:=of_decide_eq_true hlt;rw[List.length_map] at this;omega
  have ga:(lE.map fun e=>[entAV mkO 3 e])[(i:Int).toNat]? = some [entAV mkO 3 lE[i]]:=by simp[hlt]
  have gb:(lE.map fun e=>[AV.int .i64 (e.2.1.length:Int)])[(i:Int).toNat]? = some [AV.int .i64 (lE[i].2.1.length:Int)]:=by simp[hlt]
  have hb:=hE4 _ (List.getElem_mem hlt)
  have w1:IntKind.i64.wrap ((i:Int)+1)=((i+1:Nat):Int):=wrap_nat (by omega)
  generalize lE[i]=e at *;obtain⟨eb,base,n⟩:=e;dsimp only at gb hb;unfold entAV at ga;dsimp only at ga;conv=>whnf
  refine hK2 _ _ ?_;clear hK2 hQ2 K2;refine awp_seq2 fun K2 hK2 hQ2=>?_
  refine awp_blk ?_;refine awp_seq2 fun K3 hK3 hQ3=>?_
  conv=>whnf
  refine⟨_,_,hle _ _ hat,?_⟩;conv=>whnf
  refine⟨_,⟨by omega,gb⟩,?_⟩
  conv=>whnf
  refine hK3 _ _ ?_;clear hK3 hQ3 K3;conv=>whnf
  refine⟨⟨Nat,fun k=>[(0,.ref rb 0),(3,.int .i64 (i:Int)),(4,.int .i64 (base.length:Int)),(5,.int .i64 ((base.length+k:Nat):Int))],fun k S2=>St.le S S2∧k≤n,fun k=>n-k⟩,
   ⟨0,⟨rfl,rfl,rfl,rfl,trivial⟩,_,St.leW_refl _,hle,by omega⟩,?_⟩
  rintro(k:Nat) S2 ⟨hle2,hk⟩;refine awp_seq2 fun K4 hK4 hQ4=>?_
  conv=>whnf
  refine⟨_,_,hle2 _ _ hat,?_⟩;conv=>whnf
  refine⟨_,⟨by omega,ga⟩,?_⟩
  conv=>whnf
  intro _;conv=>whnf
  refine split_of (fun hlt2=>?_) (fun hlt2=>?_)
  ·have hlt2:k<n:=by have:=of_decide_eq_true hlt2;rw[List.length_append,mks_len] at this;omega
   have gk:=ent_get (mk:=mkO) (base:=base) hlt2
   have w2:IntKind.i64.wrap (((base.length+k:Nat):Int)-(base.length:Int))=(k:Int):=by
    rw[show((base.length+k:Nat):Int)-(base.length:Int)=(k:Int) by omega]
    exact wrap_i64 (by omega) (by omega)
   have w3:IntKind.i64.wrap (((base.length+k:Nat):Int)+1)=((base.length+(k+1):Nat):Int):=wrap_nat (by omega)
   conv=>whnf
   refine hK4 _ _ ?_;clear hK4 hQ4 K4;refine awp_seq2 fun K4 hK4 hQ4=>?_
   refine awp_blk ?_;refine awp_seq2 fun K5 hK5 hQ5=>?_
   conv=>whnf
   refine⟨_,_,hle2 _ _ hat,?_⟩;conv=>whnf
   refine⟨_,⟨by omega,ga⟩,?_⟩
   conv=>whnf
   refine⟨_,⟨by omega,gk⟩,?_⟩
   conv=>whnf
   -- (*hallmark/hallmarkroom.Room).holdOps function,4 quiet
   intro b6 hb6;conv=>whnf
   refine⟨_,_,St.upd_same _ _ _,?_⟩;conv=>whnf
   rw[St.upd_upd];refine hK5 _ _ ?_;clear hK5 hQ5 K5;have hle2:=St.le_upd' hle2 hb6 (.obj (85) (mkO k));unfold mkO at hle2;refine⟨[4],(.free 0 (.free 1 (.free 2 (.free 3 (.free 4 (.free 5 (.free 6 .done))))))),_,by decide +kernel,?_,fun _ _ h=>⟨_,.inl rfl,h⟩⟩
   conv=>whnf
   refine⟨_,_,St.upd_same _ _ _,?_⟩;conv=>whnf
   rw[w2];refine⟨.int .i64 (lotV k),(hlot k _).mono ?_,?_⟩
   ·rintro o S' ⟨rfl,rfl⟩;exact⟨rfl,rfl⟩
   conv=>whnf
   simp only[beq_self_eq_true,decide_true,Bool.and_self,Bool.not_true,bne_self_eq_false];conv=>whnf
   refine hK4 _ _ ?_;clear hK4 hQ4 K4;conv=>whnf
   exact⟨k+1,⟨rfl,rfl,rfl,congrArg _ w3,trivial⟩,⟨_,St.leW_refl _,hle2,hlt2⟩,by show n-(k+1)<n-k;omega⟩
  ·conv=>whnf
   refine hQ4 _ _ _ (by simp) ?_
   clear hK4 hQ4 K4;conv=>whnf
   refine hK2 _ _ ?_;clear hK2 hQ2 K2;conv=>whnf
   exact⟨i+1,⟨rfl,congrArg _ w1,trivial⟩,⟨_,St.leW_refl _,hle2,hlt⟩,by show lE.length-(i+1)<lE.length-i;omega⟩
 ·conv=>whnf
  refine hQ2 _ _ _ (by simp) ?_
  clear hK2 hQ2 K2;conv=>whnf
  refine hK _ _ ?_;clear hK hQ K;conv=>whnf
  exact⟨_,_,⟨rfl,rfl⟩,hle,AV.leS_refl _ _ _⟩
theorem holdSteps_ok{S₀ S:St}{Kn:Nat→Nat}{rb N:Nat}(h:Rm S₀ Kn S rb N)(hN:N≤100000000):Triple P (C G) 39 [.ref rb 0] S fun o S'=>o=.ret (.bool true)∧S'=S:=by
 -- (*hallmark/hallmarkroom.Room).holdSteps function,10 k,mkS mk,lot_ok the mark's contract,8 j,hI.s the kind's invariant,midS the middle
 obtain⟨A,hB,hI⟩:=h;have hlot:=fun i S=>lot_ok (G:=G) i S
 obtain⟨lE,hE1,hE2,hE3,hE4⟩:=(hI.s).ex;have hat:=hB.at_;unfold rmC AccL.av at hat;rw[hE1,hE2] at hat;clear hE1 hE2 hB hI;refine triple_of_awp (hT G) hm Tryz.func39 rfl (by decide +kernel) rfl (by decide +kernel) (by show 1≤_;decide +kernel) rfl ?_
 refine awp_seq2 fun K hK hQ=>?_
 conv=>whnf
 refine hK _ _ ?_;clear hK hQ K;refine awp_seq2 fun K hK hQ=>?_
 conv=>whnf
 refine⟨⟨Nat,fun i=>[(0,.ref rb 0),(3,.int .i64 (i:Int))],fun i S1=>St.le S S1∧i≤lE.length,fun i=>lE.length-i⟩,
  ⟨0,⟨rfl,rfl,trivial⟩,_,St.leW_refl _,St.le_refl _,by omega⟩,?_⟩
 rintro(i:Nat) S1 ⟨hle,hi⟩;refine awp_seq2 fun K2 hK2 hQ2=>?_
 conv=>whnf
 refine⟨_,_,hle _ _ hat,?_⟩;conv=>whnf
 intro _;conv=>whnf
 refine split_of (fun hlt=>?_) (fun hlt=>?_)
 ·have hlt:i<lE.length:=by have:=of_decide_eq_true hlt;rw[List.length_map] at this;omega
  have ga:(lE.map fun e=>[entAV mkS 10 e])[(i:Int).toNat]? = some [entAV mkS 10 lE[i]]:=by simp[hlt]
  have gb:(lE.map fun e=>[AV.int .i64 (e.2.1.length:Int)])[(i:Int).toNat]? = some [AV.int .i64 (lE[i].2.1.length:Int)]:=by simp[hlt]
  have hb:=hE4 _ (List.getElem_mem hlt)
  have w1:IntKind.i64.wrap ((i:Int)+1)=((i+1:Nat):Int):=wrap_nat (by omega)
  generalize lE[i]=e at *;obtain⟨eb,base,n⟩:=e;dsimp only at gb hb;unfold entAV at ga;dsimp only at ga;conv=>whnf
  refine hK2 _ _ ?_;clear hK2 hQ2 K2;refine awp_seq2 fun K2 hK2 hQ2=>?_
  refine awp_blk ?_;refine awp_seq2 fun K3 hK3 hQ3=>?_
  conv=>whnf
  refine⟨_,_,hle _ _ hat,?_⟩;conv=>whnf
  refine⟨_,⟨by omega,gb⟩,?_⟩
  conv=>whnf
  refine hK3 _ _ ?_;clear hK3 hQ3 K3;conv=>whnf
  refine⟨⟨Nat,fun k=>[(0,.ref rb 0),(3,.int .i64 (i:Int)),(4,.int .i64 (base.length:Int)),(5,.int .i64 ((base.length+k:Nat):Int))],fun k S2=>St.le S S2∧k≤n,fun k=>n-k⟩,
   ⟨0,⟨rfl,rfl,rfl,rfl,trivial⟩,_,St.leW_refl _,hle,by omega⟩,?_⟩
  rintro(k:Nat) S2 ⟨hle2,hk⟩;refine awp_seq2 fun K4 hK4 hQ4=>?_
  conv=>whnf
  refine⟨_,_,hle2 _ _ hat,?_⟩;conv=>whnf
  refine⟨_,⟨by omega,ga⟩,?_⟩
  conv=>whnf
  intro _;conv=>whnf
  refine split_of (fun hlt2=>?_) (fun hlt2=>?_)
  ·have hlt2:k<n:=by have:=of_decide_eq_true hlt2;rw[List.length_append,mks_len] at this;omega
   have gk:=ent_get (mk:=mkS) (base:=base) hlt2
   have w2:IntKind.i64.wrap (((base.length+k:Nat):Int)-(base.length:Int))=(k:Int):=by
    rw[show((base.length+k:Nat):Int)-(base.length:Int)=(k:Int) by omega]
    exact wrap_i64 (by omega) (by omega)
   have w3:IntKind.i64.wrap (((base.length+k:Nat):Int)+1)=((base.length+(k+1):Nat):Int):=wrap_nat (by omega)
   conv=>whnf
   refine hK4 _ _ ?_;clear hK4 hQ4 K4;refine awp_seq2 fun K4 hK4 hQ4=>?_
   refine awp_blk ?_;refine awp_seq2 fun K5 hK5 hQ5=>?_
   conv=>whnf
   refine⟨_,_,hle2 _ _ hat,?_⟩;conv=>whnf
   refine⟨_,⟨by omega,ga⟩,?_⟩
   conv=>whnf
   refine⟨_,⟨by omega,gk⟩,?_⟩
   conv=>whnf
   intro b6 hb6;conv=>whnf
   refine⟨_,_,St.upd_same _ _ _,?_⟩;conv=>whnf
   rw[St.upd_upd];refine hK5 _ _ ?_;clear hK5 hQ5 K5;have hle2:=St.le_upd' hle2 hb6 (.obj 54 (mkS k));unfold mkS at hle2;refine⟨[5],(.free 0 (.free 1 (.free 2 (.free 3 (.free 4 (.free 5 (.free 6 (.free 7 (.free 8 (.free 9 (.free 10 (.free 11 .done)))))))))))),_,by decide +kernel,?_,fun _ _ h=>⟨_,.inl rfl,h⟩⟩
   conv=>whnf
   refine⟨_,_,St.upd_same _ _ _,?_⟩;conv=>whnf
   rw[w2];refine⟨.int .i64 (lotV k),(hlot k _).mono ?_,?_⟩
   ·rintro o S' ⟨rfl,rfl⟩;exact⟨rfl,rfl⟩
   conv=>whnf
   rw[show(lotV k != lotV k)=false from bne_self_eq_false _];conv=>whnf
   refine⟨_,_,St.upd_same _ _ _,?_⟩;conv=>whnf
   refine hK4 _ _ ?_;clear hK4 hQ4 K4;conv=>whnf
   exact⟨k+1,⟨rfl,rfl,rfl,congrArg _ w3,trivial⟩,⟨_,St.leW_refl _,hle2,hlt2⟩,by show n-(k+1)<n-k;omega⟩
  ·conv=>whnf
   refine hQ4 _ _ _ (by simp) ?_
   clear hK4 hQ4 K4;conv=>whnf
   refine hK2 _ _ ?_;clear hK2 hQ2 K2;conv=>whnf
   exact⟨i+1,⟨rfl,congrArg _ w1,trivial⟩,⟨_,St.leW_refl _,hle2,hlt⟩,by show lE.length-(i+1)<lE.length-i;omega⟩
 ·conv=>whnf
  refine hQ2 _ _ _ (by simp) ?_
  clear hK2 hQ2 K2;conv=>whnf
  refine hK _ _ ?_;clear hK hQ K;conv=>whnf
  exact⟨_,_,⟨rfl,rfl⟩,hle,AV.leS_refl _ _ _⟩
theorem holdTerms_ok{S₀ S:St}{Kn:Nat→Nat}{rb N:Nat}(h:Rm S₀ Kn S rb N):Triple P (C G) 30 [.ref rb 0] S fun o S'=>o=.ret (.bool true)∧S'=S:=by
 obtain⟨A,hB,hI⟩:=h;have hat:=hB.at_;unfold rmC AccL.av at hat;clear hB hI;refine triple_of_awp (hT G) hm Tryz.func30 rfl (by decide +kernel) rfl (by decide +kernel) (by show 1≤_;decide +kernel) rfl ?_
 refine awp_seq2 fun K hK hQ=>?_
 conv=>whnf
 refine hK _ _ ?_;clear hK hQ K;refine awp_seq2 fun K hK hQ=>?_
 conv=>whnf
 refine⟨⟨Nat,fun i=>[(0,.ref rb 0),(3,.int .i64 (i:Int))],fun i S1=>i=0∧St.le S S1,fun i=>1-i⟩,
  ⟨0,⟨rfl,rfl,trivial⟩,_,St.leW_refl _,rfl,St.le_refl _⟩,?_⟩
 rintro(i:Nat) S1 ⟨rfl,hle⟩;conv=>whnf
 refine⟨_,_,hle _ _ hat,?_⟩;conv=>whnf
 refine hK _ _ ?_;clear hK hQ K;conv=>whnf
 exact⟨_,_,⟨rfl,rfl⟩,hle,AV.leS_refl _ _ _⟩
theorem holdVars_ok{S₀ S:St}{Kn:Nat→Nat}{rb N:Nat}(h:Rm S₀ Kn S rb N):Triple P (C G) 31 [.ref rb 0] S fun o S'=>o=.ret (.bool true)∧S'=S:=by
 obtain⟨A,hB,hI⟩:=h;have hat:=hB.at_;unfold rmC AccL.av at hat;clear hB hI;refine triple_of_awp (hT G) hm Tryz.func31 rfl (by decide +kernel) rfl (by decide +kernel) (by show 1≤_;decide +kernel) rfl ?_
 refine awp_seq2 fun K hK hQ=>?_
 conv=>whnf
 refine hK _ _ ?_;clear hK hQ K;refine awp_seq2 fun K hK hQ=>?_
 conv=>whnf
 refine⟨⟨Nat,fun i=>[(0,.ref rb 0),(3,.int .i64 (i:Int))],fun i S1=>i=0∧St.le S S1,fun i=>1-i⟩,
  ⟨0,⟨rfl,rfl,trivial⟩,_,St.leW_refl _,rfl,St.le_refl _⟩,?_⟩
 rintro(i:Nat) S1 ⟨rfl,hle⟩;conv=>whnf
 refine⟨_,_,hle _ _ hat,?_⟩;conv=>whnf
 refine hK _ _ ?_;clear hK hQ K;conv=>whnf
 exact⟨_,_,⟨rfl,rfl⟩,hle,AV.leS_refl _ _ _⟩
theorem holdCuts_ok{S₀ S:St}{Kn:Nat→Nat}{rb N:Nat}(h:Rm S₀ Kn S rb N):Triple P (C G) 34 [.ref rb 0] S fun o S'=>o=.ret (.bool true)∧S'=S:=by
 obtain⟨A,hB,hI⟩:=h;have hat:=hB.at_;unfold rmC AccL.av at hat;clear hB hI;refine triple_of_awp (hT G) hm Tryz.func34 rfl (by decide +kernel) rfl (by decide +kernel) (by show 1≤_;decide +kernel) rfl ?_
 refine awp_seq2 fun K hK hQ=>?_
 conv=>whnf
 refine hK _ _ ?_;clear hK hQ K;refine awp_seq2 fun K hK hQ=>?_
 conv=>whnf
 refine⟨⟨Nat,fun i=>[(0,.ref rb 0),(3,.int .i64 (i:Int))],fun i S1=>i=0∧St.le S S1,fun i=>1-i⟩,
  ⟨0,⟨rfl,rfl,trivial⟩,_,St.leW_refl _,rfl,St.le_refl _⟩,?_⟩
 rintro(i:Nat) S1 ⟨rfl,hle⟩;conv=>whnf
 refine⟨_,_,hle _ _ hat,?_⟩;conv=>whnf
 refine hK _ _ ?_;clear hK hQ K;conv=>whnf
 exact⟨_,_,⟨rfl,rfl⟩,hle,AV.leS_refl _ _ _⟩
theorem holdMeans_ok{S₀ S:St}{Kn:Nat→Nat}{rb N:Nat}(h:Rm S₀ Kn S rb N):Triple P (C G) 35 [.ref rb 0] S fun o S'=>o=.ret (.bool true)∧S'=S:=by
 obtain⟨A,hB,hI⟩:=h;have hat:=hB.at_;unfold rmC AccL.av at hat;clear hB hI;refine triple_of_awp (hT G) hm Tryz.func35 rfl (by decide +kernel) rfl (by decide +kernel) (by show 1≤_;decide +kernel) rfl ?_
 refine awp_seq2 fun K hK hQ=>?_
 conv=>whnf
 refine hK _ _ ?_;clear hK hQ K;refine awp_seq2 fun K hK hQ=>?_
 conv=>whnf
 refine⟨⟨Nat,fun i=>[(0,.ref rb 0),(3,.int .i64 (i:Int))],fun i S1=>i=0∧St.le S S1,fun i=>1-i⟩,
  ⟨0,⟨rfl,rfl,trivial⟩,_,St.leW_refl _,rfl,St.le_refl _⟩,?_⟩
 rintro(i:Nat) S1 ⟨rfl,hle⟩;conv=>whnf
 refine⟨_,_,hle _ _ hat,?_⟩;conv=>whnf
 refine hK _ _ ?_;clear hK hQ K;conv=>whnf
 exact⟨_,_,⟨rfl,rfl⟩,hle,AV.leS_refl _ _ _⟩
theorem holdLists_ok{S₀ S:St}{Kn:Nat→Nat}{rb N:Nat}(h:Rm S₀ Kn S rb N):Triple P (C G) 36 [.ref rb 0] S fun o S'=>o=.ret (.bool true)∧S'=S:=by
 obtain⟨A,hB,hI⟩:=h;have hat:=hB.at_;unfold rmC AccL.av at hat;clear hB hI;refine triple_of_awp (hT G) hm Tryz.func36 rfl (by decide +kernel) rfl (by decide +kernel) (by show 1≤_;decide +kernel) rfl ?_
 refine awp_seq2 fun K hK hQ=>?_
 conv=>whnf
 refine hK _ _ ?_;clear hK hQ K;refine awp_seq2 fun K hK hQ=>?_
 conv=>whnf
 refine⟨⟨Nat,fun i=>[(0,.ref rb 0),(3,.int .i64 (i:Int))],fun i S1=>i=0∧St.le S S1,fun i=>1-i⟩,
  ⟨0,⟨rfl,rfl,trivial⟩,_,St.leW_refl _,rfl,St.le_refl _⟩,?_⟩
 rintro(i:Nat) S1 ⟨rfl,hle⟩;conv=>whnf
 refine⟨_,_,hle _ _ hat,?_⟩;conv=>whnf
 refine hK _ _ ?_;clear hK hQ K;conv=>whnf
 exact⟨_,_,⟨rfl,rfl⟩,hle,AV.leS_refl _ _ _⟩
theorem holdCons_ok{S₀ S:St}{Kn:Nat→Nat}{rb N:Nat}(h:Rm S₀ Kn S rb N):Triple P (C G) 37 [.ref rb 0] S fun o S'=>o=.ret (.bool true)∧S'=S:=by
 obtain⟨A,hB,hI⟩:=h;have hat:=hB.at_;unfold rmC AccL.av at hat;clear hB hI;refine triple_of_awp (hT G) hm Tryz.func37 rfl (by decide +kernel) rfl (by decide +kernel) (by show 1≤_;decide +kernel) rfl ?_
 refine awp_seq2 fun K hK hQ=>?_
 conv=>whnf
 refine hK _ _ ?_;clear hK hQ K;refine awp_seq2 fun K hK hQ=>?_
 conv=>whnf
 refine⟨⟨Nat,fun i=>[(0,.ref rb 0),(3,.int .i64 (i:Int))],fun i S1=>i=0∧St.le S S1,fun i=>1-i⟩,
  ⟨0,⟨rfl,rfl,trivial⟩,_,St.leW_refl _,rfl,St.le_refl _⟩,?_⟩
 rintro(i:Nat) S1 ⟨rfl,hle⟩;conv=>whnf
 refine⟨_,_,hle _ _ hat,?_⟩;conv=>whnf
 refine hK _ _ ?_;clear hK hQ K;conv=>whnf
 exact⟨_,_,⟨rfl,rfl⟩,hle,AV.leS_refl _ _ _⟩
theorem holdRows_ok{S₀ S:St}{Kn:Nat→Nat}{rb N:Nat}(h:Rm S₀ Kn S rb N):Triple P (C G) 38 [.ref rb 0] S fun o S'=>o=.ret (.bool true)∧S'=S:=by
 obtain⟨A,hB,hI⟩:=h;have hat:=hB.at_;unfold rmC AccL.av at hat;clear hB hI;refine triple_of_awp (hT G) hm Tryz.func38 rfl (by decide +kernel) rfl (by decide +kernel) (by show 1≤_;decide +kernel) rfl ?_
 refine awp_seq2 fun K hK hQ=>?_
 conv=>whnf
 refine hK _ _ ?_;clear hK hQ K;refine awp_seq2 fun K hK hQ=>?_
 conv=>whnf
 refine⟨⟨Nat,fun i=>[(0,.ref rb 0),(3,.int .i64 (i:Int))],fun i S1=>i=0∧St.le S S1,fun i=>1-i⟩,
  ⟨0,⟨rfl,rfl,trivial⟩,_,St.leW_refl _,rfl,St.le_refl _⟩,?_⟩
 rintro(i:Nat) S1 ⟨rfl,hle⟩;conv=>whnf
 refine⟨_,_,hle _ _ hat,?_⟩;conv=>whnf
 refine hK _ _ ?_;clear hK hQ K;conv=>whnf
 exact⟨_,_,⟨rfl,rfl⟩,hle,AV.leS_refl _ _ _⟩
theorem holdCauses_ok{S₀ S:St}{Kn:Nat→Nat}{rb N:Nat}(h:Rm S₀ Kn S rb N):Triple P (C G) 40 [.ref rb 0] S fun o S'=>o=.ret (.bool true)∧S'=S:=by
 obtain⟨A,hB,hI⟩:=h;have hat:=hB.at_;unfold rmC AccL.av at hat;clear hB hI;refine triple_of_awp (hT G) hm Tryz.func40 rfl (by decide +kernel) rfl (by decide +kernel) (by show 1≤_;decide +kernel) rfl ?_
 refine awp_seq2 fun K hK hQ=>?_
 conv=>whnf
 refine hK _ _ ?_;clear hK hQ K;refine awp_seq2 fun K hK hQ=>?_
 conv=>whnf
 refine⟨⟨Nat,fun i=>[(0,.ref rb 0),(3,.int .i64 (i:Int))],fun i S1=>i=0∧St.le S S1,fun i=>1-i⟩,
  ⟨0,⟨rfl,rfl,trivial⟩,_,St.leW_refl _,rfl,St.le_refl _⟩,?_⟩
 rintro(i:Nat) S1 ⟨rfl,hle⟩;conv=>whnf
 refine⟨_,_,hle _ _ hat,?_⟩;conv=>whnf
 refine hK _ _ ?_;clear hK hQ K;conv=>whnf
 exact⟨_,_,⟨rfl,rfl⟩,hle,AV.leS_refl _ _ _⟩
theorem holdActs_ok{S₀ S:St}{Kn:Nat→Nat}{rb N:Nat}(h:Rm S₀ Kn S rb N):Triple P (C G) 41 [.ref rb 0] S fun o S'=>o=.ret (.bool true)∧S'=S:=by
 obtain⟨A,hB,hI⟩:=h;have hat:=hB.at_;unfold rmC AccL.av at hat;clear hB hI;refine triple_of_awp (hT G) hm Tryz.func41 rfl (by decide +kernel) rfl (by decide +kernel) (by show 1≤_;decide +kernel) rfl ?_
 refine awp_seq2 fun K hK hQ=>?_
 conv=>whnf
 refine hK _ _ ?_;clear hK hQ K;refine awp_seq2 fun K hK hQ=>?_
 conv=>whnf
 refine⟨⟨Nat,fun i=>[(0,.ref rb 0),(3,.int .i64 (i:Int))],fun i S1=>i=0∧St.le S S1,fun i=>1-i⟩,
  ⟨0,⟨rfl,rfl,trivial⟩,_,St.leW_refl _,rfl,St.le_refl _⟩,?_⟩
 rintro(i:Nat) S1 ⟨rfl,hle⟩;conv=>whnf
 refine⟨_,_,hle _ _ hat,?_⟩;conv=>whnf
 refine hK _ _ ?_;clear hK hQ K;conv=>whnf
 exact⟨_,_,⟨rfl,rfl⟩,hle,AV.leS_refl _ _ _⟩
theorem RHold_ok{S₀ S:St}{Kn:Nat→Nat}{rb N:Nat}(h:Rm S₀ Kn S rb N)(hN:N≤100000000):Triple P (C G) 13 [.ref rb 0] S fun o S'=>o=.ret (.bool true)∧S'=S:=by
 refine triple_of_awp (hT G) hm Tryz.func13 rfl (by decide +kernel) rfl (by decide +kernel) (by show 1≤_;decide +kernel) rfl ?_
 refine awp_seq2 fun K hK hQ=>?_
 conv=>whnf
 refine hK _ _ ?_;clear hK hQ K;refine awp_seq2 fun K hK hQ=>?_
 conv=>whnf
 refine hK _ _ ?_;clear hK hQ K
 -- holdInts_ok (G:=G) h hN the contract
 refine awp_seq2 fun K hK hQ=>?_
 conv=>whnf
 refine(holdInts_ok (G:=G) h hN).mono ?_;rintro o T ⟨rfl,rfl⟩;conv=>whnf
 refine hK _ _ ?_;clear hK hQ K
 -- holdTexts_ok (G:=G) h hN the contract
 refine awp_seq2 fun K hK hQ=>?_
 conv=>whnf
 refine(holdTexts_ok (G:=G) h hN).mono ?_;rintro o T ⟨rfl,rfl⟩;conv=>whnf
 refine hK _ _ ?_;clear hK hQ K
 -- holdTerms_ok (G:=G) h the contract
 refine awp_seq2 fun K hK hQ=>?_
 conv=>whnf
 refine(holdTerms_ok (G:=G) h).mono ?_;rintro o T ⟨rfl,rfl⟩;conv=>whnf
 refine hK _ _ ?_;clear hK hQ K
 -- holdVars_ok (G:=G) h the contract
 refine awp_seq2 fun K hK hQ=>?_
 conv=>whnf
 refine(holdVars_ok (G:=G) h).mono ?_;rintro o T ⟨rfl,rfl⟩;conv=>whnf
 refine hK _ _ ?_;clear hK hQ K
 -- holdPieces_ok (G:=G) h hN the contract
 refine awp_seq2 fun K hK hQ=>?_
 conv=>whnf
 refine(holdPieces_ok (G:=G) h hN).mono ?_;rintro o T ⟨rfl,rfl⟩;conv=>whnf
 refine hK _ _ ?_;clear hK hQ K
 -- holdOps_ok (G:=G) h hN the contract
 refine awp_seq2 fun K hK hQ=>?_
 conv=>whnf
 refine(holdOps_ok (G:=G) h hN).mono ?_;rintro o T ⟨rfl,rfl⟩;conv=>whnf
 refine hK _ _ ?_;clear hK hQ K
 -- holdCuts_ok (G:=G) h the contract
 refine awp_seq2 fun K hK hQ=>?_
 conv=>whnf
 refine(holdCuts_ok (G:=G) h).mono ?_;rintro o T ⟨rfl,rfl⟩;conv=>whnf
 refine hK _ _ ?_;clear hK hQ K
 -- holdMeans_ok (G:=G) h the contract
 refine awp_seq2 fun K hK hQ=>?_
 conv=>whnf
 refine(holdMeans_ok (G:=G) h).mono ?_;rintro o T ⟨rfl,rfl⟩;conv=>whnf
 refine hK _ _ ?_;clear hK hQ K
 -- holdLists_ok (G:=G) h the contract
 refine awp_seq2 fun K hK hQ=>?_
 conv=>whnf
 refine(holdLists_ok (G:=G) h).mono ?_;rintro o T ⟨rfl,rfl⟩;conv=>whnf
 refine hK _ _ ?_;clear hK hQ K
 -- holdCons_ok (G:=G) h the contract
 refine awp_seq2 fun K hK hQ=>?_
 conv=>whnf
 refine(holdCons_ok (G:=G) h).mono ?_;rintro o T ⟨rfl,rfl⟩;conv=>whnf
 refine hK _ _ ?_;clear hK hQ K
 -- holdRows_ok (G:=G) h the contract
 refine awp_seq2 fun K hK hQ=>?_
 conv=>whnf
 refine(holdRows_ok (G:=G) h).mono ?_;rintro o T ⟨rfl,rfl⟩;conv=>whnf
 refine hK _ _ ?_;clear hK hQ K
 -- holdSteps_ok (G:=G) h hN the contract
 refine awp_seq2 fun K hK hQ=>?_
 conv=>whnf
 refine(holdSteps_ok (G:=G) h hN).mono ?_;rintro o T ⟨rfl,rfl⟩;conv=>whnf
 refine hK _ _ ?_;clear hK hQ K
 -- holdCauses_ok (G:=G) h the contract
 refine awp_seq2 fun K hK hQ=>?_
 conv=>whnf
 refine(holdCauses_ok (G:=G) h).mono ?_;rintro o T ⟨rfl,rfl⟩;conv=>whnf
 refine hK _ _ ?_;clear hK hQ K
 -- holdActs_ok (G:=G) h the contract
 refine awp_seq2 fun K hK hQ=>?_
 conv=>whnf
 refine(holdActs_ok (G:=G) h).mono ?_;rintro o T ⟨rfl,rfl⟩;conv=>whnf
 refine hK _ _ ?_;clear hK hQ K;conv=>whnf
 exact⟨_,_,⟨rfl,rfl⟩,St.le_refl _,AV.leS_refl _ _ _⟩
theorem St.emp_le(S:St):St.le St.emp S:=fun b o h=>by cases h
def FlatV(r:AV):Prop:=∀ (w:World) (rd rd':Nat→Nat→Prop) (v:Value),Rel w rd r v→Rel w rd' r v
theorem FlatV.bool(b:Bool):FlatV (.bool b):=fun w rd rd' v h=>by simpa only[Rel] using h
theorem FlatV.pair(s:ByteArray)(k:IntKind)(n:Int):FlatV (.tu [.str s,.int k n]):=fun w rd rd' v h=>by simpa only[Rel,RelL] using h
theorem Triple.lend{P:Program}{C:Cx}{f:FuncId}{args args':List AV}{S:St}{r:AV}(h:Triple P C f args' St.emp fun o S'=>o=.ret r∧S'=St.emp)(hl:AV.leSL S St.emp args args')(hf:FlatV r) :
 Triple P C f args S fun o S'=>o=.ret r∧S'=S:=by
 refine⟨fun w vs hY hg hr=>(h.out w vs (hY.mono (Adv.shrink (St.emp_le S))) (hg.shrink (St.emp_le S)) (AV.leSL_sound hg.1 (St.emp_le S) _ _ _ hl hr)).mono fun en w' ⟨o,S',h1,h2,h3,ho,hS⟩=>?_⟩
 subst ho;subst hS
 cases en with
 | returned v=>
   have hadv:Adv w S w' S:=
    ⟨h3.os,h3.tape,h3.output,h3.size,fun x hx hn=>⟨hn,(h3.old x hx rfl).2⟩,fun x off hx hr=>⟨hr,cell_of_block (h3.old x hx rfl).2 off⟩,h3.shape⟩
   refine⟨.ret r,S,?_,hg.mk (fun x o ho=>OwnOk.mono hadv (h3.old x (hg.1.lt ho) rfl).2 (hg.1 x o ho)) hadv,hadv,rfl,rfl⟩
   simp only[OutRel] at h1 ⊢;exact hf _ _ _ _ h1
 | _=>exact h1.elim
def spc:ByteArray:=⟨#[32]⟩
def catB(l:List ByteArray):ByteArray:=⟨(l.flatMap (·.data.toList)).toArray⟩
theorem catB_snoc(l:List ByteArray)(x:ByteArray):catB (l++[x])=catB l++x:=by
 apply ByteArray.ext
 apply Array.toList_inj.1
 rw[ByteArray.data_append,Array.toList_append]
 simp[catB]
theorem catB_size(l:List ByteArray)(k:Nat)(h:∀ x∈l,x.size≤k):(catB l).size≤l.length*k:=by
 induction l with
 | nil=>exact Nat.zero_le _
 | cons x l ih=>
   have h1:(catB (x::l)).size=x.size+(catB l).size:=by
    have hx:x.data.toList.length=x.size:=by rw[Array.length_toList];rfl
    simp only[catB,ByteArray.size,List.flatMap_cons,List.size_toArray,List.length_append,hx]
   have:=ih fun y hy=>h y (by simp[hy])
   have:=h x (by simp)
   rw[h1,List.length_cons,Nat.succ_mul];omega
theorem ba_assoc(a b c:ByteArray):(a++b)++c=a++(b++c):=by
 apply ByteArray.ext
 apply Array.toList_inj.1
 simp only[ByteArray.data_append,Array.toList_append,List.append_assoc]
def litRR(z:Int):ByteArray:=if z<0 then (⟨#[32,126,120]⟩:ByteArray)++itoaS (IntKind.i64.wrap (0-z)) else (⟨#[32,120]⟩:ByteArray)++itoaS z
theorem litRR_size(z:Int)(hz:okI z):(litRR z).size≤24:=by
 unfold litRR
 split
 ·have:=itoaS_le (IntKind.i64.wrap (0-z)) (wrap_okI _).1 (wrap_okI _).2
  rw[ba_size_append];show 3+_≤_;omega
 ·have:=itoaS_le z hz.1 hz.2
  rw[ba_size_append];show 2+_≤_;omega
theorem litText_r_ok(hG:G10 G)(z:Int)(hz:okI z)(S:St):Triple P (C G) 54 [.int .i64 z] S fun o S'=>o=.ret (.str (litRR z))∧S'=S:=by
 have h1:=fun S=>itoa_ok hG (IntKind.i64.wrap (0-z)) (wrap_okI _).1 (wrap_okI _).2 S
 have h2:=fun S=>itoa_ok hG z hz.1 hz.2 S
 have s1:=itoaS_le (IntKind.i64.wrap (0-z)) (wrap_okI _).1 (wrap_okI _).2
 have s2:=itoaS_le z hz.1 hz.2
 unfold litRR;refine triple_of_awp (hT G) hm Tryz.func54 rfl (by decide +kernel) rfl (by decide +kernel) (by show 1≤_;decide +kernel) rfl ?_
 conv=>whnf
 refine split_of (fun hlt=>?_) (fun hlt=>?_)
 ·have hlt:z<0:=of_decide_eq_true hlt
  rw[if_pos hlt];conv=>whnf
  refine(h1 _).mono ?_;rintro o T ⟨rfl,rfl⟩;conv=>whnf
  refine⟨by show 3+_≤_;omega,?_⟩
  conv=>whnf
  exact⟨_,_,⟨rfl,rfl⟩,St.le_refl _,AV.leS_refl _ _ _⟩
 ·have hlt:¬ z<0:=of_decide_eq_false hlt
  rw[if_neg hlt];conv=>whnf
  refine(h2 _).mono ?_;rintro o T ⟨rfl,rfl⟩;conv=>whnf
  refine⟨by show 2+_≤_;omega,?_⟩
  conv=>whnf
  exact⟨_,_,⟨rfl,rfl⟩,St.le_refl _,AV.leS_refl _ _ _⟩
def textsR(l:List ByteArray):ByteArray:=catB (l.map fun x=>spc++x)
theorem texts_r_ok(l:List ByteArray)(hl:l.length≤1000000)(hs:∀ x∈l,x.size≤10000000)(S:St):Triple P (C G) 53 [.sl .any 1 (rowsS l)] S fun o S'=>o=.ret (.str (textsR l))∧S'=S:=by
 have hsz:∀ i,i≤l.length→(catB ((l.take i).map fun x=>spc++x)).size≤i*10000001:=fun i hi=>by
  refine Nat.le_trans (catB_size _ 10000001 fun x hx=>?_) ?_
  ·obtain⟨y,hy,rfl⟩:=List.mem_map.1 hx;have:=hs y (List.mem_of_mem_take hy);rw[ba_size_append];show 1+_≤_;omega
  ·rw[List.length_map,List.length_take];exact Nat.mul_le_mul_right _ (Nat.min_le_left _ _)
 unfold textsR;refine triple_of_awp (hT G) hm Tryz.func53 rfl (by decide +kernel) rfl (by decide +kernel) (by show 1≤_;decide +kernel) rfl ?_
 refine awp_seq2 fun K hK hQ=>?_
 conv=>whnf
 refine hK _ _ ?_;clear hK hQ K;refine awp_seq2 fun K hK hQ=>?_
 conv=>whnf
 refine hK _ _ ?_;clear hK hQ K;refine awp_seq2 fun K hK hQ=>?_
 conv=>whnf
 refine⟨⟨Nat,fun i=>[(0,.sl .any 1 (rowsS l)),(3,.str (catB ((l.take i).map fun x=>spc++x))),(4,.int .i64 (i:Int))],fun i S1=>S1=S∧i≤l.length,fun i=>l.length-i⟩,
  ⟨0,⟨⟨rfl,rfl⟩,rfl,rfl,trivial⟩,_,St.leW_refl _,rfl,by omega⟩,?_⟩
 rintro(i:Nat) S1 ⟨rfl,hi⟩;have hb:=hsz i hi;conv=>whnf
 intro _;conv=>whnf
 refine split_of (fun hlt=>?_) (fun hlt=>?_)
 ·have hlt:i<l.length:=by have:=of_decide_eq_true hlt;rw[rowsS_len] at this;omega
  have ga:(rowsS l)[(i:Int).toNat]? = some [.str l[i]]:=by simp[rowsS,hlt]
  have w1:IntKind.i64.wrap ((i:Int)+1)=((i+1:Nat):Int):=wrap_nat (by omega)
  have hx:=hs _ (List.getElem_mem hlt)
  have hsn:catB ((l.take (i+1)).map fun x=>spc++x)=(catB ((l.take i).map fun x=>spc++x)++spc)++l[i]:=by
   rw[List.take_add_one,List.getElem?_eq_getElem hlt,List.map_append,ba_assoc];exact catB_snoc _ _
  generalize l[i]=x at *;conv=>whnf
  refine⟨by show _+1≤_;omega,?_⟩
  conv=>whnf
  refine⟨_,⟨by omega,ga⟩,?_⟩
  conv=>whnf
  refine⟨by rw[ba_size_append];show _+1+_≤_;omega,?_⟩
  conv=>whnf
  exact⟨i+1,⟨⟨rfl,rfl⟩,congrArg AV.str hsn.symm,congrArg _ w1,trivial⟩,⟨_,St.leW_refl _,rfl,hlt⟩,by show l.length-(i+1)<l.length-i;omega⟩
 ·have hlt:i=l.length:=by have:=of_decide_eq_false hlt;rw[rowsS_len] at this;omega
  subst hlt;conv=>whnf
  refine hK _ _ ?_;clear hK hQ K;conv=>whnf
  rw[List.take_length];exact⟨_,_,⟨rfl,rfl⟩,St.le_refl _,AV.leS_refl _ _ _⟩
def opR(o:OpV):ByteArray:=
 if o.1=1 then spc++o.2.1 else if o.1=2 then litRR o.2.2 else if o.1=3 then ⟨#[32,43]⟩ else if o.1=4 then (spc++o.2.1)++(⟨#[32,42]⟩:ByteArray) else if o.1=5 then (spc++o.2.1)++(⟨#[32,100]⟩:ByteArray)
 else if o.1=6 then ⟨#[32,115]⟩ else if o.1=7 then litRR o.2.2++(⟨#[32,119]⟩:ByteArray) else ⟨#[32,63]⟩
theorem opR_size(o:OpV)(hz:okI o.2.2)(hs:o.2.1.size≤10000000):(opR o).size≤10000030:=by
 have h1:=litRR_size o.2.2 hz
 unfold opR
 repeat' split
 all_goals first
  | (rw[ba_size_append,ba_size_append];show 1+_+2≤_;omega)
  | (rw[ba_size_append];show 1+_≤_;omega)
  | (rw[ba_size_append];show _+2≤_;omega)
  | omega
  | decide
theorem opText_r_ok(hG:G10 G)(o:OpV)(hz:okI o.2.2)(hs:o.2.1.size≤10000000)(S:St):Triple P (C G) 51 [opAV o] S fun r S'=>r=.ret (.str (opR o))∧S'=S:=by
 obtain⟨k,num,z⟩:=o;have hl:=fun S=>litText_r_ok hG z hz S
 have hls:=litRR_size z hz
 dsimp only at hs
 show Triple P (C G) 51 [.ag [.int .i64 k,.str num,.int .i64 z]] S fun r S'=>r=.ret (.str (opR (k,num,z)))∧S'=S
 have hk0:(k == 1)=true∨(k == 2)=true∨(k == 3)=true∨(k == 4)=true∨(k == 5)=true∨(k == 6)=true∨(k == 7)=true∨((k == 1)=false∧(k == 2)=false∧(k == 3)=false∧(k == 4)=false∧(k == 5)=false∧(k == 6)=false∧(k == 7)=false):=by
  simp only[beq_iff_eq,beq_eq_false_iff_ne];omega
 refine triple_of_awp (hT G) hm Tryz.func51 rfl (by decide +kernel) rfl (by decide +kernel) (by show 1≤_;decide +kernel) rfl ?_
 refine awp_seq2 fun K hK hQ=>?_
 conv=>whnf
 intro b hb;conv=>whnf
 refine hK _ _ ?_;clear hK hQ K;have hle:=St.le_upd' (St.le_refl S) hb (.obj 85 [.int .i64 k,.str num,.int .i64 z]);have q:=St.upd_same S b (.obj 85 [.int .i64 k,.str num,.int .i64 z]);generalize S.upd b (.obj 85 [.int .i64 k,.str num,.int .i64 z])=F at *;refine awp_seq2 fun K hK hQ=>?_
 rcases hk0 with h | h | h | h | h | h | h | ⟨h1,h2,h3,h4,h5,h6,h7⟩
 ·obtain rfl:k=1:=by simpa using h
  conv=>whnf
  refine⟨_,_,q,?_⟩;conv=>whnf
  refine⟨_,_,q,?_⟩;conv=>whnf
  refine⟨by show 1+_≤_;omega,?_⟩
  conv=>whnf
  refine hQ _ _ _ (by simp) ?_
  conv=>whnf
  exact⟨_,_,⟨rfl,rfl⟩,hle,AV.leS_refl _ _ _⟩
 ·obtain rfl:k=2:=by simpa using h
  conv=>whnf
  refine⟨_,_,q,?_⟩;conv=>whnf
  refine⟨_,_,q,?_⟩;conv=>whnf
  refine(hl _).mono ?_;rintro o T ⟨rfl,rfl⟩;conv=>whnf
  refine hQ _ _ _ (by simp) ?_
  conv=>whnf
  exact⟨_,_,⟨rfl,rfl⟩,hle,AV.leS_refl _ _ _⟩
 ·obtain rfl:k=3:=by simpa using h
  conv=>whnf
  refine⟨_,_,q,?_⟩;conv=>whnf
  refine hQ _ _ _ (by simp) ?_
  conv=>whnf
  exact⟨_,_,⟨rfl,rfl⟩,hle,AV.leS_refl _ _ _⟩
 ·obtain rfl:k=4:=by simpa using h
  conv=>whnf
  refine⟨_,_,q,?_⟩;conv=>whnf
  refine⟨_,_,q,?_⟩;conv=>whnf
  refine⟨by show 1+_≤_;omega,?_⟩
  conv=>whnf
  refine⟨by rw[ba_size_append];show 1+_+2≤_;omega,?_⟩
  conv=>whnf
  refine hQ _ _ _ (by simp) ?_
  conv=>whnf
  exact⟨_,_,⟨rfl,rfl⟩,hle,AV.leS_refl _ _ _⟩
 ·obtain rfl:k=5:=by simpa using h
  conv=>whnf
  refine⟨_,_,q,?_⟩;conv=>whnf
  refine⟨_,_,q,?_⟩;conv=>whnf
  refine⟨by show 1+_≤_;omega,?_⟩
  conv=>whnf
  refine⟨by rw[ba_size_append];show 1+_+2≤_;omega,?_⟩
  conv=>whnf
  refine hQ _ _ _ (by simp) ?_
  conv=>whnf
  exact⟨_,_,⟨rfl,rfl⟩,hle,AV.leS_refl _ _ _⟩
 ·obtain rfl:k=6:=by simpa using h
  conv=>whnf
  refine⟨_,_,q,?_⟩;conv=>whnf
  refine hQ _ _ _ (by simp) ?_
  conv=>whnf
  exact⟨_,_,⟨rfl,rfl⟩,hle,AV.leS_refl _ _ _⟩
 ·obtain rfl:k=7:=by simpa using h
  conv=>whnf
  refine⟨_,_,q,?_⟩;conv=>whnf
  refine⟨_,_,q,?_⟩;conv=>whnf
  refine(hl _).mono ?_;rintro o T ⟨rfl,rfl⟩;conv=>whnf
  refine⟨by show _+2≤_;omega,?_⟩
  conv=>whnf
  refine hQ _ _ _ (by simp) ?_
  conv=>whnf
  exact⟨_,_,⟨rfl,rfl⟩,hle,AV.leS_refl _ _ _⟩
 ·have e:opR (k,num,z)=⟨#[32,63]⟩:=by
   simp only[beq_eq_false_iff_ne] at h1 h2 h3 h4 h5 h6 h7;unfold opR;rw[if_neg h1,if_neg h2,if_neg h3,if_neg h4,if_neg h5,if_neg h6,if_neg h7]
  rw[e] at hK hQ;conv=>whnf
  refine⟨_,_,q,?_⟩;conv=>whnf
  rw[h1];conv=>whnf
  rw[h2];conv=>whnf
  rw[h3];conv=>whnf
  rw[h4];conv=>whnf
  rw[h5];conv=>whnf
  rw[h6];conv=>whnf
  rw[h7];conv=>whnf
  refine hK _ _ ?_;clear hK hQ K;conv=>whnf
  exact⟨_,_,⟨rfl,rfl⟩,hle,AV.leS_refl _ _ _⟩
structure TxAt (S₀ S:St) (b:Nat) (l:List ByteArray) (t:Nat):Prop where
 le:St.le S₀ S
 new:S₀ b=none
 at_:S b=some (.obj 52 [.sl (.acc t) 1 (rowsS l)])
 tip:TipOk S₀ S t 9 1 l.length
def Tx(S₀ S:St)(b:Nat)(l:List ByteArray):Prop:=∃ t,TxAt S₀ S b l t
theorem say_ok{S₀ S:St}{b:Nat}{l:List ByteArray}(h:Tx S₀ S b l)(xs:List ByteArray)(hn:l.length+xs.length≤100000000)(sh:Sh):Triple P (C G) 60 [.sl sh 1 (rowsS xs),.ref b 0] S fun o S'=>o=.ret (.tu [])∧Tx S₀ S' b (l++xs):=by
 obtain⟨t,hat⟩:=h;have hb:=hat.at_;refine triple_of_awp (hT G) hm Tryz.func60 rfl (by decide +kernel) rfl (by decide +kernel) (by show 2≤_;decide +kernel) rfl ?_
 conv=>whnf
 refine⟨_,_,hb,?_⟩;conv=>whnf
 cases xs with
 | nil=>
   conv=>whnf
   refine⟨⟨fun hl=>?_,?_⟩,?_⟩
   ·rw[rowsS_len];exact(hat.tip (by cases l<;>simp_all [rowsS])).1
   ·show((rowsS l).length+0)*16≤_
    rw[rowsS_len];omega
   conv=>whnf
   refine⟨_,_,hb,?_⟩;conv=>whnf
   refine⟨_,_,⟨rfl,t,?_⟩,St.le_refl _,AV.leS_refl _ _ _⟩;rw[St.upd_id hb,List.append_nil];exact hat
 | cons x xs=>
   conv=>whnf
   refine⟨⟨fun hl=>?_,?_⟩,fun S4 c1 c2 b' c3=>?_⟩
   ·rw[rowsS_len];exact(hat.tip (by cases l<;>simp_all [rowsS])).1
   ·show((rowsS l).length+(rowsS (x::xs)).length)*16≤_
    rw[rowsS_len,rowsS_len];simp at hn ⊢;omega
   have ha:AccStep S t 9 1 l.length (x::xs).length b' (S4.upd b' (.tip 9 1 (l.length+(x::xs).length))):=.inr ⟨by simp,S4,fun e=>c1 (by rw[List.eq_nil_of_length_eq_zero e];rfl),fun e=>c2 (by cases l<;>simp_all [rowsS]),c3,rfl⟩
   obtain⟨k1,k2⟩:=AccStep.tipOk hat.tip hat.le ha;have hk:=AccStep.other (fun hn=>(hat.tip hn).1) ha hb (by intro n' e;cases e)
   have er:rowsS l++rowsS (x::xs)=rowsS (l++(x::xs)):=by simp[rowsS]
   rw[show([AV.str x]::List.map (fun s=>[AV.str s]) xs)=rowsS (x::xs) from rfl,er,rowsS_len,rowsS_len]
   conv=>whnf
   refine⟨_,_,hk,?_⟩;conv=>whnf
   refine⟨_,_,⟨rfl,b',?_⟩,St.le_refl _,AV.leS_refl _ _ _⟩;exact⟨St.le_upd k2 hat.new _,hat.new,St.upd_same _ _ _,TipOk.upd (by rw[List.length_append];exact k1) hk _⟩
def sumS(l:List ByteArray):Nat:=(l.map (·.size)).sum
theorem sumS_append(a b:List ByteArray):sumS (a++b)=sumS a+sumS b:=by simp[sumS]
theorem sumS_le{l:List ByteArray}{k:Nat}(h:∀ x∈l,x.size≤k):sumS l≤l.length*k:=by
 induction l with
 | nil=>simp[sumS]
 | cons x l ih=>
   have:=ih (fun y hy=>h y (by simp[hy]))
   have hx:=h x (by simp)
   simp only[sumS,List.map_cons,List.sum_cons,List.length_cons,Nat.succ_mul] at this ⊢;omega
theorem joinS_sum(l:List ByteArray)(sep:ByteArray):(joinS l sep).size≤sumS l+l.length*sep.size:=by
 have e:∀ b:ByteArray,b.data.toList.length=b.size:=fun b=>by rw[Array.length_toList];rfl
 have h1:(joinS l sep).size=(Lib.join (l.map (·.data.toList)) sep.data.toList).length:=by unfold joinS;simp[ByteArray.size]
 rw[h1]
 cases l with
 | nil=>simp[Lib.join_nil]
 | cons x l=>
   rw[List.map_cons,Lib.join_cons,List.length_append,e];have ht:∀ l:List ByteArray,(Lib.joinTail sep.data.toList (l.map (·.data.toList))).length≤sumS l+l.length*sep.size:=by
    intro l
    induction l with
    | nil=>simp[Lib.joinTail]
    | cons y l ih=>
      unfold Lib.joinTail at ih ⊢;rw[List.map_cons,List.map_cons,List.flatten_cons,List.length_append,List.length_append,e,e,List.length_cons,Nat.succ_mul];simp only[sumS,List.map_cons,List.sum_cons] at ih ⊢;omega
   have:=ht l
   simp only[sumS,List.map_cons,List.sum_cons,List.length_cons,Nat.succ_mul] at this ⊢;omega
def w1S:ByteArray:=⟨#[112,115,101,117,100,111,45,66,111,111,108,101,97,110,32,112,114,111,111,102,32,118,101,114,115,105,111,110,32,50,46,48]⟩
def w8S:ByteArray:=⟨#[111,117,116,112,117,116,32,78,79,78,69]⟩
def w10S:ByteArray:=⟨#[101,110,100,32,112,115,101,117,100,111,45,66,111,111,108,101,97,110,32,112,114,111,111,102]⟩
def textW(v:StepV):List ByteArray:=
 if v.kind=1 then [w1S] else if v.kind=2 then [kF,v.num] else if v.kind=3 then [kPol]++v.ops.map opT
 else if v.kind=4 then [kRup,rowT v.pieces v.bound]++v.ids else if v.kind=12 then ([kE]++v.ids)++[rowT v.pieces v.bound]
 else if v.kind=5 then [kSoli]++litsT v.lits else if v.kind=11 then [kSolx]++litsT v.lits else if v.kind=6 then [kDel,⟨#[105,100]⟩]++v.ids
 else if v.kind=7 then [kStar] else if v.kind=8 then [w8S] else if v.kind=9 then [kConc,endT v] else if v.kind=10 then [w10S] else []
def textT(v:StepV):ByteArray:=joinS (textW v) spaceS
theorem Tx.new{S:St}{b:Nat}(hb:S b=none):∃ S3,St.leW S3 (S.upd b (.obj 52 [.nils]))∧Tx S S3 b []:=by
 have h1:=St.leW_upd (cs':=[.sl (.acc 0) 1 (rowsS [])]) (St.upd_same S b (.obj 52 [.nils])) ⟨rfl,trivial⟩
 rw[St.upd_upd] at h1;exact⟨_,h1,0,St.le_upd' (St.le_refl _) hb _,hb,St.upd_same _ _ _,fun h=>absurd h (by decide)⟩
theorem sumS_cons(x:ByteArray)(l:List ByteArray):sumS (x::l)=x.size+sumS l:=by simp[sumS]
theorem sumS_nil:sumS []=0:=rfl
theorem opT_size(o:OpV)(h:okI o.2.2∧o.2.1.size≤10000000):(opT o).size≤10000025:=by
 have hl:=litT_size o.2.2 h.1
 have hs:=h.2
 unfold opT
 split
 ·omega
 split
 ·omega
 split
 ·decide
 split
 ·rw[ba_size_append];show _+2≤_;omega
 split
 ·rw[ba_size_append];show _+2≤_;omega
 split
 ·decide
 split
 ·rw[ba_size_append];show _+2≤_;omega
 ·decide
theorem endT_size{v:StepV}(h:OkStep v):(endT v).size≤40000000:=by
 have h1:=idT_size h.ids.2
 have h7:=h.s7
 have h8:=h.s8
 unfold endT
 split
 ·decide
 split
 ·decide
 split
 ·rw[ba_size_append];show 5+_≤_;omega
 split
 ·rw[ba_size_append,ba_size_append];show 4+_+_≤_;omega
 split
 ·rw[ba_size_append,ba_size_append,ba_size_append,ba_size_append];show 7+_+_+1+_≤_;omega
 ·decide
theorem rowT_size{ps:List (ByteArray×Int)}{bound:ByteArray}(h:OkRow ps bound):(rowT ps bound).size≤30000000000000:=by
 have hj:=joinS_size (pieceT ps++[geS,bound,semiS]) spaceS (pieceT_size h) (m:=1) (by decide)
 have:=h.1
 have hp:=pieceT_len ps
 unfold rowT;rw[List.length_append,hp] at hj;simp only[List.length_cons,List.length_nil] at hj;omega
set_option maxHeartbeats 1000000 in
theorem textW_bound{v:StepV}(h:OkStep v):(textW v).length≤2000000∧sumS (textW v)≤100000000000000:=by
 have hr:=rowT_size h.row
 have he:=endT_size h
 have ho:sumS (v.ops.map opT)≤(v.ops.map opT).length*10000025:=sumS_le (fun x hx=>by
  obtain⟨o,ho,rfl⟩:=List.mem_map.1 hx;exact opT_size o (h.ops.2 o ho))
 have hi:sumS v.ids≤v.ids.length*10000000:=sumS_le h.ids.2
 have hl:sumS (litsT v.lits)≤(litsT v.lits).length*23:=sumS_le (fun x hx=>by
  unfold litsT at hx;obtain⟨z,hz,rfl⟩:=List.mem_map.1 hx;exact litT_size z (h.lits.2 z hz))
 have hll:(litsT v.lits).length=v.lits.length:=by simp[litsT]
 rw[List.length_map] at ho;rw[hll] at hl;have h1:=h.ops.1;have h2:=h.ids.1;have h3:=h.lits.1;have h4:=h.num;have e1:w1S.size=32:=rfl;have e2:kF.size=1:=rfl;have e3:kPol.size=3:=rfl;have e4:kRup.size=3:=rfl;have e5:kE.size=1:=rfl;have e6:kSoli.size=4:=rfl;have e7:kSolx.size=4:=rfl;have e8:kDel.size=3:=rfl;have e9:kStar.size=1:=rfl;have e10:w8S.size=11:=rfl;have e11:kConc.size=10:=rfl;have e12:w10S.size=24:=rfl;have e13:(⟨#[105,100]⟩:ByteArray).size=2:=rfl;unfold textW
 by_cases k0:v.kind=1
 ·rw[if_pos k0];(simp only[sumS_append,sumS_cons,sumS_nil,List.length_append,List.length_cons,List.length_nil,List.length_map,hll];constructor<;>omega)
 rw[if_neg k0]
 by_cases k1:v.kind=2
 ·rw[if_pos k1];(simp only[sumS_append,sumS_cons,sumS_nil,List.length_append,List.length_cons,List.length_nil,List.length_map,hll];constructor<;>omega)
 rw[if_neg k1]
 by_cases k2:v.kind=3
 ·rw[if_pos k2];(simp only[sumS_append,sumS_cons,sumS_nil,List.length_append,List.length_cons,List.length_nil,List.length_map,hll];constructor<;>omega)
 rw[if_neg k2]
 by_cases k3:v.kind=4
 ·rw[if_pos k3];(simp only[sumS_append,sumS_cons,sumS_nil,List.length_append,List.length_cons,List.length_nil,List.length_map,hll];constructor<;>omega)
 rw[if_neg k3]
 by_cases k4:v.kind=12
 ·rw[if_pos k4];(simp only[sumS_append,sumS_cons,sumS_nil,List.length_append,List.length_cons,List.length_nil,List.length_map,hll];constructor<;>omega)
 rw[if_neg k4]
 by_cases k5:v.kind=5
 ·rw[if_pos k5];(simp only[sumS_append,sumS_cons,sumS_nil,List.length_append,List.length_cons,List.length_nil,List.length_map,hll];constructor<;>omega)
 rw[if_neg k5]
 by_cases k6:v.kind=11
 ·rw[if_pos k6];(simp only[sumS_append,sumS_cons,sumS_nil,List.length_append,List.length_cons,List.length_nil,List.length_map,hll];constructor<;>omega)
 rw[if_neg k6]
 by_cases k7:v.kind=6
 ·rw[if_pos k7];(simp only[sumS_append,sumS_cons,sumS_nil,List.length_append,List.length_cons,List.length_nil,List.length_map,hll];constructor<;>omega)
 rw[if_neg k7]
 by_cases k8:v.kind=7
 ·rw[if_pos k8];(simp only[sumS_append,sumS_cons,sumS_nil,List.length_append,List.length_cons,List.length_nil,List.length_map,hll];constructor<;>omega)
 rw[if_neg k8]
 by_cases k9:v.kind=8
 ·rw[if_pos k9];(simp only[sumS_append,sumS_cons,sumS_nil,List.length_append,List.length_cons,List.length_nil,List.length_map,hll];constructor<;>omega)
 rw[if_neg k9]
 by_cases k10:v.kind=9
 ·rw[if_pos k10];(simp only[sumS_append,sumS_cons,sumS_nil,List.length_append,List.length_cons,List.length_nil,List.length_map,hll];constructor<;>omega)
 rw[if_neg k10]
 by_cases k11:v.kind=10
 ·rw[if_pos k11];(simp only[sumS_append,sumS_cons,sumS_nil,List.length_append,List.length_cons,List.length_nil,List.length_map,hll];constructor<;>omega)
 rw[if_neg k11];exact⟨by decide,by rw[sumS_nil];exact Nat.zero_le _⟩
theorem textT_size{v:StepV}(h:OkStep v):(textT v).size≤140737488355328:=by
 have h1:=joinS_sum (textW v) spaceS
 obtain⟨h2,h3⟩:=textW_bound h;have e:spaceS.size=1:=rfl;rw[e,Nat.mul_one] at h1;unfold textT;omega
def pieceR(p:ByteArray×Int):ByteArray:=(spc++p.1)++litRR p.2
def rowR(ps:List (ByteArray×Int))(bound:ByteArray):ByteArray:=((catB (ps.map pieceR)++(⟨#[32,62,61,32]⟩:ByteArray))++bound)++(⟨#[32,59]⟩:ByteArray)
theorem rowText_r_ok(hG:G10 G)(ps:List (ByteArray×Int))(bound:ByteArray)(h:OkRow ps bound)(S:St):Triple P (C G) 52 [.ag [.sl .any 2 (rowsP ps),.str bound]] S fun r S'=>r=.ret (.str (rowR ps bound))∧S'=S:=by
 obtain⟨hn,hp,hbo⟩:=h;have hsz:∀ i,i≤ps.length→(catB ((ps.take i).map pieceR)).size≤i*10000100:=fun i hi=>by
  refine Nat.le_trans (catB_size _ 10000100 fun x hx=>?_) ?_
  ·obtain⟨y,hy,rfl⟩:=List.mem_map.1 hx;obtain⟨h1,h2⟩:=hp y (List.mem_of_mem_take hy);have:=litRR_size y.2 h1;unfold pieceR;rw[ba_size_append,ba_size_append];show 1+_+_≤_;omega
  ·rw[List.length_map,List.length_take];exact Nat.mul_le_mul_right _ (Nat.min_le_left _ _)
 unfold rowR;refine triple_of_awp (hT G) hm Tryz.func52 rfl (by decide +kernel) rfl (by decide +kernel) (by show 1≤_;decide +kernel) rfl ?_
 refine awp_seq2 fun K hK hQ=>?_
 conv=>whnf
 intro b1 hb1;conv=>whnf
 refine hK _ _ ?_;clear hK hQ K;have hle:=St.le_upd' (St.le_refl S) hb1 (.obj 51 [.sl .any 2 (rowsP ps),.str bound]);have q:=St.upd_same S b1 (.obj 51 [.sl .any 2 (rowsP ps),.str bound]);generalize S.upd b1 (.obj 51 [.sl .any 2 (rowsP ps),.str bound])=F at *;refine awp_seq2 fun K hK hQ=>?_
 conv=>whnf
 refine hK _ _ ?_;clear hK hQ K;refine awp_seq2 fun K hK hQ=>?_
 conv=>whnf
 refine⟨⟨Nat,fun i=>[(1,.ref b1 0),(3,.str (catB ((ps.take i).map pieceR))),(4,.int .i64 (i:Int))],fun i S1=>S1=F∧i≤ps.length,fun i=>ps.length-i⟩,
  ⟨0,⟨rfl,rfl,rfl,trivial⟩,_,St.leW_refl _,rfl,by omega⟩,?_⟩
 rintro(i:Nat) S1 ⟨rfl,hi⟩;have hb:=hsz i hi;conv=>whnf
 refine⟨_,_,q,?_⟩;conv=>whnf
 intro _;conv=>whnf
 refine split_of (fun hlt=>?_) (fun hlt=>?_)
 ·have hlt:i<ps.length:=by have:=of_decide_eq_true hlt;rw[rowsP_len] at this;omega
  have ga:(rowsP ps)[(i:Int).toNat]? = some [.str ps[i].1,.int .i64 ps[i].2]:=by simp[rowsP,hlt]
  have w1:IntKind.i64.wrap ((i:Int)+1)=((i+1:Nat):Int):=wrap_nat (by omega)
  obtain⟨hx1,hx2⟩:=hp _ (List.getElem_mem hlt);have hsn:catB ((ps.take (i+1)).map pieceR)=((catB ((ps.take i).map pieceR)++spc)++ps[i].1)++litRR ps[i].2:=by
   rw[List.take_add_one,List.getElem?_eq_getElem hlt,List.map_append,ba_assoc,ba_assoc];exact(catB_snoc _ _).trans (by unfold pieceR;rw[ba_assoc])
  generalize ps[i]=x at *;obtain⟨xc,xl⟩:=x;dsimp only at ga hx1 hx2 hsn;have hls:=litRR_size xl hx1;have hl:=fun S=>litText_r_ok hG xl hx1 S
  conv=>whnf
  refine⟨[15],(.free 0 (.free 1 (.free 2 (.free 3 (.free 4 (.free 5 (.free 6 (.free 7 (.free 8 (.free 9 (.free 10 (.free 11 (.free 12 (.free 13 (.free 14 (.free 15 (.free 16 (.free 17 .done)))))))))))))))))),_,by decide +kernel,?_,fun _ _ h=>⟨_,.inl rfl,h⟩⟩
  conv=>whnf
  refine⟨by show _+1≤_;omega,?_⟩
  conv=>whnf
  refine⟨_,_,q,?_⟩;conv=>whnf
  refine⟨_,⟨by omega,ga⟩,?_⟩
  conv=>whnf
  refine⟨by rw[ba_size_append];show _+1+_≤_;omega,?_⟩
  conv=>whnf
  refine⟨_,_,q,?_⟩;conv=>whnf
  refine⟨_,⟨by omega,ga⟩,?_⟩
  conv=>whnf
  refine⟨.str (litRR xl),(hl _).mono ?_,?_⟩
  ·rintro o S' ⟨rfl,rfl⟩;exact⟨rfl,rfl⟩
  conv=>whnf
  refine⟨by rw[ba_size_append,ba_size_append];show _+1+_+_≤_;omega,?_⟩
  conv=>whnf
  exact⟨i+1,⟨rfl,congrArg AV.str hsn.symm,congrArg _ w1,trivial⟩,⟨_,St.leW_refl _,rfl,hlt⟩,by show ps.length-(i+1)<ps.length-i;omega⟩
 ·have hlt:i=ps.length:=by have:=of_decide_eq_false hlt;rw[rowsP_len] at this;omega
  subst hlt;conv=>whnf
  refine hK _ _ ?_;clear hK hQ K;rw[List.take_length] at hb;conv=>whnf
  rw[List.take_length];refine⟨by show _+4≤_;omega,?_⟩
  conv=>whnf
  refine⟨_,_,q,?_⟩;conv=>whnf
  refine⟨by rw[ba_size_append];show _+4+_≤_;omega,?_⟩
  conv=>whnf
  refine⟨by rw[ba_size_append,ba_size_append];show _+4+_+2≤_;omega,?_⟩
  conv=>whnf
  exact⟨_,_,⟨rfl,rfl⟩,hle,AV.leS_refl _ _ _⟩
def idR(ids:List ByteArray):ByteArray:=match ids with | []=>⟨#[]⟩ | x::l=>(⟨#[32,58]⟩:ByteArray)++textsR (x::l)
def endR(v:StepV):ByteArray:=
 if v.n6=1 then (⟨#[32,78,79,78,69]⟩:ByteArray) else if v.n6=2 then (⟨#[32,85,78,83,65,84]⟩:ByteArray)++idR v.ids else if v.n6=3 then (⟨#[32,83,65,84]⟩:ByteArray) else if v.n6=5 then ((((⟨#[32,66,79,85,78,68,83,32]⟩:ByteArray)++v.s7)++idR v.ids)++spc)++v.s8 else if v.n6=6 then ((⟨#[32,65,76,76,32]⟩:ByteArray)++v.s8)++idR v.ids else (⟨#[32,63]⟩:ByteArray)
theorem textsR_size(l:List ByteArray)(hl:l.length≤1000000)(hs:∀ x∈l,x.size≤10000000):(textsR l).size≤10000001000000:=by
 unfold textsR;refine Nat.le_trans (catB_size _ 10000001 fun x hx=>?_) ?_
 ·obtain⟨y,hy,rfl⟩:=List.mem_map.1 hx;have:=hs y hy;rw[ba_size_append];show 1+_≤_;omega
 ·rw[List.length_map];omega
theorem idR_size(l:List ByteArray)(hl:l.length≤1000000)(hs:∀ x∈l,x.size≤10000000):(idR l).size≤10000001000002:=by
 have:=textsR_size l hl hs
 cases l with
 | nil=>exact Nat.zero_le _
 | cons x l=>unfold idR;rw[ba_size_append];show 2+_≤_;omega
theorem endR_size{v:StepV}(h:OkStep v):(endR v).size≤10000100000000:=by
 have:=idR_size v.ids h.ids.1 h.ids.2
 have:=h.s7
 have:=h.s8
 unfold endR
 repeat' split
 all_goals first
  | (rw[ba_size_append,ba_size_append,ba_size_append,ba_size_append];show 8+_+_+1+_≤_;omega)
  | (rw[ba_size_append,ba_size_append];show 5+_+_≤_;omega)
  | (rw[ba_size_append];show 6+_≤_;omega)
  | decide
theorem endText_r_ok(v:StepV)(h:OkStep v)(S:St):Triple P (C G) 55 [stepAV v] S fun r S'=>r=.ret (.str (endR v))∧S'=S:=by
 have htx:=fun S=>texts_r_ok (G:=G) v.ids h.ids.1 h.ids.2 S
 have hts:=textsR_size v.ids h.ids.1 h.ids.2
 have hid:=idR_size v.ids h.ids.1 h.ids.2
 have hs7:=h.s7
 have hs8:=h.s8
 clear h;refine triple_of_awp (hT G) hm Tryz.func55 rfl (by decide +kernel) rfl (by decide +kernel) (by show 1≤_;decide +kernel) rfl ?_
 refine awp_seq2 fun K hK hQ=>?_
 conv=>whnf
 intro b1 hb1;conv=>whnf
 refine hK _ _ ?_;clear hK hQ K;have hle:=St.le_upd' (St.le_refl S) hb1 (.obj 54 (stepR v));have q:=St.upd_same S b1 (.obj 54 (stepR v));unfold stepR at hle q;change awp _ _ _ _ (S.upd b1 (.obj 54 [.int .i64 v.kind,.str v.num,.sl .any 3 (rowsO v.ops),.sl .any 2 (rowsP v.pieces),.str v.bound,.sl .any 1 (rowsI v.lits),.sl .any 1 (rowsS v.ids),.int .i64 v.n6,.str v.s7,.str v.s8])) _;generalize S.upd b1 (.obj 54 [.int .i64 v.kind,.str v.num,.sl .any 3 (rowsO v.ops),.sl .any 2 (rowsP v.pieces),.str v.bound,.sl .any 1 (rowsI v.lits),.sl .any 1 (rowsS v.ids),.int .i64 v.n6,.str v.s7,.str v.s8])=F at *;refine awp_seq2 fun K hK hQ=>?_
 conv=>whnf
 refine hK _ _ ?_;clear hK hQ K;refine awp_seq2 fun K hK hQ=>?_
 cases hv:v.ids with
 | nil=>
   have hir:idR v.ids=⟨#[]⟩:=by rw[hv];rfl
   rw[hv] at q;conv=>whnf
   refine⟨_,_,q,?_⟩;conv=>whnf
   intro _;conv=>whnf
   refine hK _ _ ?_;clear hK hQ K;rw[show(⟨#[]⟩:ByteArray)=idR v.ids from hir.symm];obtain⟨ID,hID⟩:∃ x,idR v.ids=x:=⟨_,rfl⟩;rw[hID] at hid ⊢
   -- #1 q
   have hk0:(v.n6 == 1)=true∨(v.n6 == 2)=true∨(v.n6 == 3)=true∨(v.n6 == 5)=true∨(v.n6 == 6)=true∨((v.n6 == 1)=false∧(v.n6 == 2)=false∧(v.n6 == 3)=false∧(v.n6 == 5)=false∧(v.n6 == 6)=false):=by
    simp only[beq_iff_eq,beq_eq_false_iff_ne];omega
   refine awp_seq2 fun K hK hQ=>?_
   rcases hk0 with h | h | h | h | h | ⟨h1,h2,h3,h5,h6⟩
   ·skip
    have hk:v.n6=1:=by simpa using h
    have e:endR v=(if (1:Int)=1 then (⟨#[32,78,79,78,69]⟩:ByteArray) else if (1:Int)=2 then (⟨#[32,85,78,83,65,84]⟩:ByteArray)++ID else if (1:Int)=3 then (⟨#[32,83,65,84]⟩:ByteArray) else if (1:Int)=5 then ((((⟨#[32,66,79,85,78,68,83,32]⟩:ByteArray)++v.s7)++ID)++spc)++v.s8 else if (1:Int)=6 then ((⟨#[32,65,76,76,32]⟩:ByteArray)++v.s8)++ID else (⟨#[32,63]⟩:ByteArray)):=by unfold endR;rw[hk,hID]
    rw[e] at hK hQ;rw[hk] at q;conv=>whnf
    refine⟨_,_,q,?_⟩;conv=>whnf
    refine hQ _ _ _ (by simp) ?_
    conv=>whnf
    exact⟨_,_,⟨rfl,rfl⟩,hle,AV.leS_refl _ _ _⟩
   ·skip
    have hk:v.n6=2:=by simpa using h
    have e:endR v=(if (2:Int)=1 then (⟨#[32,78,79,78,69]⟩:ByteArray) else if (2:Int)=2 then (⟨#[32,85,78,83,65,84]⟩:ByteArray)++ID else if (2:Int)=3 then (⟨#[32,83,65,84]⟩:ByteArray) else if (2:Int)=5 then ((((⟨#[32,66,79,85,78,68,83,32]⟩:ByteArray)++v.s7)++ID)++spc)++v.s8 else if (2:Int)=6 then ((⟨#[32,65,76,76,32]⟩:ByteArray)++v.s8)++ID else (⟨#[32,63]⟩:ByteArray)):=by unfold endR;rw[hk,hID]
    rw[e] at hK hQ;rw[hk] at q;conv=>whnf
    refine⟨_,_,q,?_⟩;conv=>whnf
    refine⟨by show 6+_≤_;omega,?_⟩
    conv=>whnf
    refine hQ _ _ _ (by simp) ?_
    conv=>whnf
    exact⟨_,_,⟨rfl,rfl⟩,hle,AV.leS_refl _ _ _⟩
   ·skip
    have hk:v.n6=3:=by simpa using h
    have e:endR v=(if (3:Int)=1 then (⟨#[32,78,79,78,69]⟩:ByteArray) else if (3:Int)=2 then (⟨#[32,85,78,83,65,84]⟩:ByteArray)++ID else if (3:Int)=3 then (⟨#[32,83,65,84]⟩:ByteArray) else if (3:Int)=5 then ((((⟨#[32,66,79,85,78,68,83,32]⟩:ByteArray)++v.s7)++ID)++spc)++v.s8 else if (3:Int)=6 then ((⟨#[32,65,76,76,32]⟩:ByteArray)++v.s8)++ID else (⟨#[32,63]⟩:ByteArray)):=by unfold endR;rw[hk,hID]
    rw[e] at hK hQ;rw[hk] at q;conv=>whnf
    refine⟨_,_,q,?_⟩;conv=>whnf
    refine hQ _ _ _ (by simp) ?_
    conv=>whnf
    exact⟨_,_,⟨rfl,rfl⟩,hle,AV.leS_refl _ _ _⟩
   ·skip
    have hk:v.n6=5:=by simpa using h
    have e:endR v=(if (5:Int)=1 then (⟨#[32,78,79,78,69]⟩:ByteArray) else if (5:Int)=2 then (⟨#[32,85,78,83,65,84]⟩:ByteArray)++ID else if (5:Int)=3 then (⟨#[32,83,65,84]⟩:ByteArray) else if (5:Int)=5 then ((((⟨#[32,66,79,85,78,68,83,32]⟩:ByteArray)++v.s7)++ID)++spc)++v.s8 else if (5:Int)=6 then ((⟨#[32,65,76,76,32]⟩:ByteArray)++v.s8)++ID else (⟨#[32,63]⟩:ByteArray)):=by unfold endR;rw[hk,hID]
    rw[e] at hK hQ;rw[hk] at q;conv=>whnf
    refine⟨_,_,q,?_⟩;conv=>whnf
    refine⟨_,_,q,?_⟩;conv=>whnf
    refine⟨by show 8+_≤_;omega,?_⟩
    conv=>whnf
    refine⟨by rw[ba_size_append];show 8+_+_≤_;omega,?_⟩
    conv=>whnf
    refine⟨by rw[ba_size_append,ba_size_append];show 8+_+_+1≤_;omega,?_⟩
    conv=>whnf
    refine⟨_,_,q,?_⟩;conv=>whnf
    refine⟨by rw[ba_size_append,ba_size_append,ba_size_append];show 8+_+_+1+_≤_;omega,?_⟩
    conv=>whnf
    refine hQ _ _ _ (by simp) ?_
    conv=>whnf
    exact⟨_,_,⟨rfl,rfl⟩,hle,AV.leS_refl _ _ _⟩
   ·skip
    have hk:v.n6=6:=by simpa using h
    have e:endR v=(if (6:Int)=1 then (⟨#[32,78,79,78,69]⟩:ByteArray) else if (6:Int)=2 then (⟨#[32,85,78,83,65,84]⟩:ByteArray)++ID else if (6:Int)=3 then (⟨#[32,83,65,84]⟩:ByteArray) else if (6:Int)=5 then ((((⟨#[32,66,79,85,78,68,83,32]⟩:ByteArray)++v.s7)++ID)++spc)++v.s8 else if (6:Int)=6 then ((⟨#[32,65,76,76,32]⟩:ByteArray)++v.s8)++ID else (⟨#[32,63]⟩:ByteArray)):=by unfold endR;rw[hk,hID]
    rw[e] at hK hQ;rw[hk] at q;conv=>whnf
    refine⟨_,_,q,?_⟩;conv=>whnf
    refine⟨_,_,q,?_⟩;conv=>whnf
    refine⟨by show 5+_≤_;omega,?_⟩
    conv=>whnf
    refine⟨by rw[ba_size_append];show 5+_+_≤_;omega,?_⟩
    conv=>whnf
    refine hQ _ _ _ (by simp) ?_
    conv=>whnf
    exact⟨_,_,⟨rfl,rfl⟩,hle,AV.leS_refl _ _ _⟩
   ·have e:endR v=(⟨#[32,63]⟩:ByteArray):=by
     simp only[beq_eq_false_iff_ne] at h1 h2 h3 h5 h6;unfold endR;rw[if_neg h1,if_neg h2,if_neg h3,if_neg h5,if_neg h6]
    rw[e] at hK hQ;conv=>whnf
    refine⟨_,_,q,?_⟩;conv=>whnf
    rw[h1];conv=>whnf
    rw[h2];conv=>whnf
    rw[h3];conv=>whnf
    rw[h5];conv=>whnf
    rw[h6];conv=>whnf
    refine hK _ _ ?_;clear hK hQ K;conv=>whnf
    exact⟨_,_,⟨rfl,rfl⟩,hle,AV.leS_refl _ _ _⟩
 | cons x l=>
   have hir:idR v.ids=(⟨#[32,58]⟩:ByteArray)++textsR v.ids:=by rw[hv];rfl
   have hpos:(((rowsS v.ids).length:Int) > 0):=by rw[rowsS_len,hv];simp
   conv=>whnf
   refine⟨_,_,q,?_⟩;conv=>whnf
   intro _;conv=>whnf
   rw[decide_eq_true hpos];conv=>whnf
   refine⟨_,_,q,?_⟩;conv=>whnf
   refine(htx _).mono ?_;rintro o T ⟨rfl,rfl⟩;conv=>whnf
   refine⟨by show 2+_≤_;omega,?_⟩
   conv=>whnf
   refine hK _ _ ?_;clear hK hQ K;rw[show(⟨#[32,58]⟩:ByteArray)++textsR v.ids=idR v.ids from hir.symm];obtain⟨ID,hID⟩:∃ x,idR v.ids=x:=⟨_,rfl⟩;rw[hID] at hid ⊢
   -- #1 q
   have hk0:(v.n6 == 1)=true∨(v.n6 == 2)=true∨(v.n6 == 3)=true∨(v.n6 == 5)=true∨(v.n6 == 6)=true∨((v.n6 == 1)=false∧(v.n6 == 2)=false∧(v.n6 == 3)=false∧(v.n6 == 5)=false∧(v.n6 == 6)=false):=by
    simp only[beq_iff_eq,beq_eq_false_iff_ne];omega
   refine awp_seq2 fun K hK hQ=>?_
   rcases hk0 with h | h | h | h | h | ⟨h1,h2,h3,h5,h6⟩
   ·skip
    have hk:v.n6=1:=by simpa using h
    have e:endR v=(if (1:Int)=1 then (⟨#[32,78,79,78,69]⟩:ByteArray) else if (1:Int)=2 then (⟨#[32,85,78,83,65,84]⟩:ByteArray)++ID else if (1:Int)=3 then (⟨#[32,83,65,84]⟩:ByteArray) else if (1:Int)=5 then ((((⟨#[32,66,79,85,78,68,83,32]⟩:ByteArray)++v.s7)++ID)++spc)++v.s8 else if (1:Int)=6 then ((⟨#[32,65,76,76,32]⟩:ByteArray)++v.s8)++ID else (⟨#[32,63]⟩:ByteArray)):=by unfold endR;rw[hk,hID]
    rw[e] at hK hQ;rw[hk] at q;conv=>whnf
    refine⟨_,_,q,?_⟩;conv=>whnf
    refine hQ _ _ _ (by simp) ?_
    conv=>whnf
    exact⟨_,_,⟨rfl,rfl⟩,hle,AV.leS_refl _ _ _⟩
   ·skip
    have hk:v.n6=2:=by simpa using h
    have e:endR v=(if (2:Int)=1 then (⟨#[32,78,79,78,69]⟩:ByteArray) else if (2:Int)=2 then (⟨#[32,85,78,83,65,84]⟩:ByteArray)++ID else if (2:Int)=3 then (⟨#[32,83,65,84]⟩:ByteArray) else if (2:Int)=5 then ((((⟨#[32,66,79,85,78,68,83,32]⟩:ByteArray)++v.s7)++ID)++spc)++v.s8 else if (2:Int)=6 then ((⟨#[32,65,76,76,32]⟩:ByteArray)++v.s8)++ID else (⟨#[32,63]⟩:ByteArray)):=by unfold endR;rw[hk,hID]
    rw[e] at hK hQ;rw[hk] at q;conv=>whnf
    refine⟨_,_,q,?_⟩;conv=>whnf
    refine⟨by show 6+_≤_;omega,?_⟩
    conv=>whnf
    refine hQ _ _ _ (by simp) ?_
    conv=>whnf
    exact⟨_,_,⟨rfl,rfl⟩,hle,AV.leS_refl _ _ _⟩
   ·skip
    have hk:v.n6=3:=by simpa using h
    have e:endR v=(if (3:Int)=1 then (⟨#[32,78,79,78,69]⟩:ByteArray) else if (3:Int)=2 then (⟨#[32,85,78,83,65,84]⟩:ByteArray)++ID else if (3:Int)=3 then (⟨#[32,83,65,84]⟩:ByteArray) else if (3:Int)=5 then ((((⟨#[32,66,79,85,78,68,83,32]⟩:ByteArray)++v.s7)++ID)++spc)++v.s8 else if (3:Int)=6 then ((⟨#[32,65,76,76,32]⟩:ByteArray)++v.s8)++ID else (⟨#[32,63]⟩:ByteArray)):=by unfold endR;rw[hk,hID]
    rw[e] at hK hQ;rw[hk] at q;conv=>whnf
    refine⟨_,_,q,?_⟩;conv=>whnf
    refine hQ _ _ _ (by simp) ?_
    conv=>whnf
    exact⟨_,_,⟨rfl,rfl⟩,hle,AV.leS_refl _ _ _⟩
   ·skip
    have hk:v.n6=5:=by simpa using h
    have e:endR v=(if (5:Int)=1 then (⟨#[32,78,79,78,69]⟩:ByteArray) else if (5:Int)=2 then (⟨#[32,85,78,83,65,84]⟩:ByteArray)++ID else if (5:Int)=3 then (⟨#[32,83,65,84]⟩:ByteArray) else if (5:Int)=5 then ((((⟨#[32,66,79,85,78,68,83,32]⟩:ByteArray)++v.s7)++ID)++spc)++v.s8 else if (5:Int)=6 then ((⟨#[32,65,76,76,32]⟩:ByteArray)++v.s8)++ID else (⟨#[32,63]⟩:ByteArray)):=by unfold endR;rw[hk,hID]
    rw[e] at hK hQ;rw[hk] at q;conv=>whnf
    refine⟨_,_,q,?_⟩;conv=>whnf
    refine⟨_,_,q,?_⟩;conv=>whnf
    refine⟨by show 8+_≤_;omega,?_⟩
    conv=>whnf
    refine⟨by rw[ba_size_append];show 8+_+_≤_;omega,?_⟩
    conv=>whnf
    refine⟨by rw[ba_size_append,ba_size_append];show 8+_+_+1≤_;omega,?_⟩
    conv=>whnf
    refine⟨_,_,q,?_⟩;conv=>whnf
    refine⟨by rw[ba_size_append,ba_size_append,ba_size_append];show 8+_+_+1+_≤_;omega,?_⟩
    conv=>whnf
    refine hQ _ _ _ (by simp) ?_
    conv=>whnf
    exact⟨_,_,⟨rfl,rfl⟩,hle,AV.leS_refl _ _ _⟩
   ·skip
    have hk:v.n6=6:=by simpa using h
    have e:endR v=(if (6:Int)=1 then (⟨#[32,78,79,78,69]⟩:ByteArray) else if (6:Int)=2 then (⟨#[32,85,78,83,65,84]⟩:ByteArray)++ID else if (6:Int)=3 then (⟨#[32,83,65,84]⟩:ByteArray) else if (6:Int)=5 then ((((⟨#[32,66,79,85,78,68,83,32]⟩:ByteArray)++v.s7)++ID)++spc)++v.s8 else if (6:Int)=6 then ((⟨#[32,65,76,76,32]⟩:ByteArray)++v.s8)++ID else (⟨#[32,63]⟩:ByteArray)):=by unfold endR;rw[hk,hID]
    rw[e] at hK hQ;rw[hk] at q;conv=>whnf
    refine⟨_,_,q,?_⟩;conv=>whnf
    refine⟨_,_,q,?_⟩;conv=>whnf
    refine⟨by show 5+_≤_;omega,?_⟩
    conv=>whnf
    refine⟨by rw[ba_size_append];show 5+_+_≤_;omega,?_⟩
    conv=>whnf
    refine hQ _ _ _ (by simp) ?_
    conv=>whnf
    exact⟨_,_,⟨rfl,rfl⟩,hle,AV.leS_refl _ _ _⟩
   ·have e:endR v=(⟨#[32,63]⟩:ByteArray):=by
     simp only[beq_eq_false_iff_ne] at h1 h2 h3 h5 h6;unfold endR;rw[if_neg h1,if_neg h2,if_neg h3,if_neg h5,if_neg h6]
    rw[e] at hK hQ;conv=>whnf
    refine⟨_,_,q,?_⟩;conv=>whnf
    rw[h1];conv=>whnf
    rw[h2];conv=>whnf
    rw[h3];conv=>whnf
    rw[h5];conv=>whnf
    rw[h6];conv=>whnf
    refine hK _ _ ?_;clear hK hQ K;conv=>whnf
    exact⟨_,_,⟨rfl,rfl⟩,hle,AV.leS_refl _ _ _⟩
def lineV(v:StepV):ByteArray:=
 if v.kind=1 then w1S else if v.kind=2 then (⟨#[102,32]⟩:ByteArray)++v.num else if v.kind=3 then catB (kPol::v.ops.map opR) else if v.kind=4 then (kRup++rowR v.pieces v.bound)++textsR v.ids
 else if v.kind=12 then (kE++textsR v.ids)++rowR v.pieces v.bound else if v.kind=5 then catB (kSoli::v.lits.map litRR) else if v.kind=11 then catB (kSolx::v.lits.map litRR)
 else if v.kind=6 then (⟨#[100,101,108,32,105,100]⟩:ByteArray)++textsR v.ids else if v.kind=7 then kStar else if v.kind=8 then w8S else if v.kind=9 then kConc++endR v else if v.kind=10 then w10S else (⟨#[63]⟩:ByteArray)
theorem rowR_size{ps:List (ByteArray×Int)}{bound:ByteArray}(h:OkRow ps bound):(rowR ps bound).size≤10000200000000:=by
 obtain⟨hn,hp,hbo⟩:=h;have:(catB (ps.map pieceR)).size≤ps.length*10000100:=by
  refine Nat.le_trans (catB_size _ 10000100 fun x hx=>?_) (by rw[List.length_map];exact Nat.le_refl _)
  obtain⟨y,hy,rfl⟩:=List.mem_map.1 hx;obtain⟨h1,h2⟩:=hp y hy;have:=litRR_size y.2 h1;unfold pieceR;rw[ba_size_append,ba_size_append];show 1+_+_≤_;omega
 unfold rowR;rw[ba_size_append,ba_size_append,ba_size_append]
 show _+4+_+2≤_
 omega
theorem Line_r_ok(hG:G10 G)(v:StepV)(hok:OkStep v)(S:St):Triple P (C G) 20 [stepAV v] S fun r S'=>r=.ret (.str (lineV v))∧S'=S:=by
 have hn:=hok.num
 have hts:=textsR_size v.ids hok.ids.1 hok.ids.2
 have hrs:=rowR_size hok.row
 have hes:=endR_size hok
 have htx:=fun S=>texts_r_ok (G:=G) v.ids hok.ids.1 hok.ids.2 S
 have hrx:=fun S=>rowText_r_ok (G:=G) hG v.pieces v.bound hok.row S
 have hex:=fun S=>endText_r_ok (G:=G) v hok S
 refine triple_of_awp (hT G) hm Tryz.func20 rfl (by decide +kernel) rfl (by decide +kernel) (by show 1≤_;decide +kernel) rfl ?_
 refine awp_seq2 fun K hK hQ=>?_
 conv=>whnf
 intro b1 hb1;conv=>whnf
 refine hK _ _ ?_;clear hK hQ K;have hle:=St.le_upd' (St.le_refl S) hb1 (.obj 54 (stepR v));have q:=St.upd_same S b1 (.obj 54 (stepR v));unfold stepR at hle q;change awp _ _ _ _ (S.upd b1 (.obj 54 [.int .i64 v.kind,.str v.num,.sl .any 3 (rowsO v.ops),.sl .any 2 (rowsP v.pieces),.str v.bound,.sl .any 1 (rowsI v.lits),.sl .any 1 (rowsS v.ids),.int .i64 v.n6,.str v.s7,.str v.s8])) _;generalize S.upd b1 (.obj 54 [.int .i64 v.kind,.str v.num,.sl .any 3 (rowsO v.ops),.sl .any 2 (rowsP v.pieces),.str v.bound,.sl .any 1 (rowsI v.lits),.sl .any 1 (rowsS v.ids),.int .i64 v.n6,.str v.s7,.str v.s8])=F at *;have hk0:(v.kind == 1)=true∨(v.kind == 2)=true∨(v.kind == 3)=true∨(v.kind == 4)=true∨(v.kind == 12)=true∨(v.kind == 5)=true∨(v.kind == 11)=true∨(v.kind == 6)=true∨(v.kind == 7)=true∨(v.kind == 8)=true∨(v.kind == 9)=true∨(v.kind == 10)=true∨
  ((v.kind == 1)=false∧(v.kind == 2)=false∧(v.kind == 3)=false∧(v.kind == 4)=false∧(v.kind == 12)=false∧(v.kind == 5)=false∧(v.kind == 11)=false∧(v.kind == 6)=false∧(v.kind == 7)=false∧(v.kind == 8)=false∧(v.kind == 9)=false∧(v.kind == 10)=false):=by
  simp only[beq_iff_eq,beq_eq_false_iff_ne];omega
 refine awp_seq2 fun K hK hQ=>?_
 rcases hk0 with h | h | h | h | h | h | h | h | h | h | h | h | ⟨h1,h2,h3,h4,h12,h5,h11,h6,h7,h8,h9,h10⟩
 ·skip
  -- 1 kind,w1S its line
  have hk:v.kind=1:=by simpa using h
  have e:lineV v=w1S:=by unfold lineV;rw[hk];rfl
  rw[e] at hK hQ;rw[hk] at q;conv=>whnf
  refine⟨_,_,q,?_⟩;conv=>whnf
  refine hQ _ _ _ (by simp) ?_
  conv=>whnf
  exact⟨_,_,⟨rfl,rfl⟩,hle,AV.leS_refl _ _ _⟩
 ·skip
  -- 2 kind,(⟨#[102,32]⟩:ByteArray)++v.num its line
  have hk:v.kind=2:=by simpa using h
  have e:lineV v=(⟨#[102,32]⟩:ByteArray)++v.num:=by unfold lineV;rw[hk];rfl
  rw[e] at hK hQ;rw[hk] at q;conv=>whnf
  refine⟨_,_,q,?_⟩;conv=>whnf
  refine⟨_,_,q,?_⟩;conv=>whnf
  refine⟨by show 2+_≤_;omega,?_⟩
  conv=>whnf
  refine hQ _ _ _ (by simp) ?_
  conv=>whnf
  exact⟨_,_,⟨rfl,rfl⟩,hle,AV.leS_refl _ _ _⟩
 ·skip
  -- 3 kind,catB (kPol::v.ops.map opR) its line
  have hk:v.kind=3:=by simpa using h
  have e:lineV v=catB (kPol::v.ops.map opR):=by unfold lineV;rw[hk];rfl
  rw[e] at hK hQ;rw[hk] at q;conv=>whnf
  refine⟨_,_,q,?_⟩;conv=>whnf
  refine⟨⟨Nat,fun i=>[(1,.ref b1 0),(3,.str (catB (kPol::(v.ops.take i).map opR))),(4,.int .i64 (i:Int))],fun i S1=>S1=F∧i≤v.ops.length,fun i=>v.ops.length-i⟩,
   ⟨0,⟨rfl,congrArg AV.str (show _=catB [kPol] by decide +kernel),rfl,trivial⟩,_,St.leW_refl _,rfl,by omega⟩,?_⟩
  rintro(i:Nat) S1 ⟨rfl,hi⟩;have hb:(catB (kPol::(v.ops.take i).map opR)).size≤(i+1)*10000030:=by
   refine Nat.le_trans (catB_size _ 10000030 fun x hx=>?_) (by rw[List.length_cons,List.length_map,List.length_take];exact Nat.mul_le_mul_right _ (by omega))
   rcases List.mem_cons.1 hx with rfl | hx
   ·decide
   ·obtain⟨y,hy,rfl⟩:=List.mem_map.1 hx;obtain⟨h1,h2⟩:=hok.ops.2 y (List.mem_of_mem_take hy);exact opR_size y h1 h2
  conv=>whnf
  refine⟨_,_,q,?_⟩;conv=>whnf
  intro _;conv=>whnf
  refine split_of (fun hlt=>?_) (fun hlt=>?_)
  ·have hlt:i<v.ops.length:=by have:=of_decide_eq_true hlt;rw[rowsO_len] at this;omega
   have ga:(rowsO v.ops)[(i:Int).toNat]? = some [.int .i64 v.ops[i].1,.str v.ops[i].2.1,.int .i64 v.ops[i].2.2]:=by simp[rowsO,hlt]
   have hln:=hok.ops.1
   have w1:IntKind.i64.wrap ((i:Int)+1)=((i+1:Nat):Int):=wrap_nat (by omega)
   obtain⟨hz1,hz2⟩:=hok.ops.2 _ (List.getElem_mem hlt);have hsn:catB (kPol::(v.ops.take (i+1)).map opR)=catB (kPol::(v.ops.take i).map opR)++opR v.ops[i]:=by
    rw[List.take_add_one,List.getElem?_eq_getElem hlt,List.map_append];exact catB_snoc (kPol::(v.ops.take i).map opR) _
   generalize v.ops[i]=z at *;have hls:=opR_size z hz1 hz2;conv=>whnf
   refine⟨_,_,q,?_⟩;conv=>whnf
   refine⟨_,⟨by omega,ga⟩,?_⟩
   conv=>whnf
   refine(opText_r_ok hG z hz1 hz2 _).mono ?_;rintro o T ⟨rfl,rfl⟩;conv=>whnf
   refine⟨by omega,?_⟩
   conv=>whnf
   exact⟨i+1,⟨rfl,congrArg AV.str hsn.symm,congrArg _ w1,trivial⟩,⟨_,St.leW_refl _,rfl,hlt⟩,by show v.ops.length-(i+1)<v.ops.length-i;omega⟩
  have hlt:i=v.ops.length:=by have:=of_decide_eq_false hlt;rw[rowsO_len] at this;omega
  subst hlt;conv=>whnf
  refine hQ _ _ _ (by simp) ?_
  conv=>whnf
  rw[List.take_length];exact⟨_,_,⟨rfl,rfl⟩,hle,AV.leS_refl _ _ _⟩
 ·skip
  -- 4 kind,(kRup++rowR v.pieces v.bound)++textsR v.ids its line
  have hk:v.kind=4:=by simpa using h
  have e:lineV v=(kRup++rowR v.pieces v.bound)++textsR v.ids:=by unfold lineV;rw[hk];rfl
  rw[e] at hK hQ;rw[hk] at q;conv=>whnf
  refine⟨_,_,q,?_⟩;conv=>whnf
  refine⟨[2,6],(.free 0 (.free 1 (.free 2 (.free 3 (.free 4 (.free 5 (.free 6 (.free 7 (.free 8 .done))))))))),_,by decide +kernel,?_,fun _ _ h=>⟨_,.inl rfl,h⟩⟩
  conv=>whnf
  refine⟨_,_,q,?_⟩;conv=>whnf
  refine⟨.str (rowR v.pieces v.bound),(hrx _).mono ?_,?_⟩
  ·rintro o S' ⟨rfl,rfl⟩;exact⟨rfl,rfl⟩
  conv=>whnf
  refine⟨by show 3+_≤_;omega,?_⟩
  conv=>whnf
  refine⟨_,_,q,?_⟩;conv=>whnf
  refine⟨.str (textsR v.ids),(htx _).mono ?_,?_⟩
  ·rintro o S' ⟨rfl,rfl⟩;exact⟨rfl,rfl⟩
  conv=>whnf
  refine⟨by rw[ba_size_append];show 3+_+_≤_;omega,?_⟩
  conv=>whnf
  refine hQ _ _ _ (by simp) ?_
  conv=>whnf
  exact⟨_,_,⟨rfl,rfl⟩,hle,AV.leS_refl _ _ _⟩
 ·skip
  -- 12 kind,(kE++textsR v.ids)++rowR v.pieces v.bound its line
  have hk:v.kind=12:=by simpa using h
  have e:lineV v=(kE++textsR v.ids)++rowR v.pieces v.bound:=by unfold lineV;rw[hk];rfl
  rw[e] at hK hQ;rw[hk] at q;conv=>whnf
  refine⟨_,_,q,?_⟩;conv=>whnf
  refine⟨[2,6],(.free 0 (.free 1 (.free 2 (.free 3 (.free 4 (.free 5 (.free 6 (.free 7 (.free 8 .done))))))))),_,by decide +kernel,?_,fun _ _ h=>⟨_,.inl rfl,h⟩⟩
  conv=>whnf
  refine⟨_,_,q,?_⟩;conv=>whnf
  refine⟨.str (textsR v.ids),(htx _).mono ?_,?_⟩
  ·rintro o S' ⟨rfl,rfl⟩;exact⟨rfl,rfl⟩
  conv=>whnf
  refine⟨by show 1+_≤_;omega,?_⟩
  conv=>whnf
  refine⟨_,_,q,?_⟩;conv=>whnf
  refine⟨.str (rowR v.pieces v.bound),(hrx _).mono ?_,?_⟩
  ·rintro o S' ⟨rfl,rfl⟩;exact⟨rfl,rfl⟩
  conv=>whnf
  refine⟨by rw[ba_size_append];show 1+_+_≤_;omega,?_⟩
  conv=>whnf
  refine hQ _ _ _ (by simp) ?_
  conv=>whnf
  exact⟨_,_,⟨rfl,rfl⟩,hle,AV.leS_refl _ _ _⟩
 ·skip
  -- 5 kind,catB (kSoli::v.lits.map litRR) its line
  have hk:v.kind=5:=by simpa using h
  have e:lineV v=catB (kSoli::v.lits.map litRR):=by unfold lineV;rw[hk];rfl
  rw[e] at hK hQ;rw[hk] at q;conv=>whnf
  refine⟨_,_,q,?_⟩;conv=>whnf
  refine⟨_,_,q,?_⟩;conv=>whnf
  -- kSoli the word,#2 its cell
  refine⟨⟨Nat,fun i=>[(1,.ref b1 0),(5,.str (catB (kSoli::(v.lits.take i).map litRR))),(6,.int .i64 (i:Int))],fun i S1=>S1=F∧i≤v.lits.length,fun i=>v.lits.length-i⟩,
   ⟨0,⟨rfl,congrArg AV.str (show _=catB [kSoli] by decide +kernel),rfl,trivial⟩,_,St.leW_refl _,rfl,by omega⟩,?_⟩
  rintro(i:Nat) S1 ⟨rfl,hi⟩;have hb:(catB (kSoli::(v.lits.take i).map litRR)).size≤(i+1)*24:=by
   refine Nat.le_trans (catB_size _ 24 fun x hx=>?_) (by rw[List.length_cons,List.length_map,List.length_take];exact Nat.mul_le_mul_right _ (by omega))
   rcases List.mem_cons.1 hx with rfl | hx
   ·decide
   ·obtain⟨y,hy,rfl⟩:=List.mem_map.1 hx;exact litRR_size y (hok.lits.2 y (List.mem_of_mem_take hy))
  conv=>whnf
  refine⟨_,_,q,?_⟩;conv=>whnf
  intro _;conv=>whnf
  refine split_of (fun hlt=>?_) (fun hlt=>?_)
  ·have hlt:i<v.lits.length:=by have:=of_decide_eq_true hlt;rw[rowsI_len] at this;omega
   have ga:(rowsI v.lits)[(i:Int).toNat]? = some [.int .i64 v.lits[i]]:=by simp[rowsI,hlt]
   have w1:IntKind.i64.wrap ((i:Int)+1)=((i+1:Nat):Int):=wrap_nat (by have:=hok.lits.1;omega)
   have hz:=hok.lits.2 _ (List.getElem_mem hlt)
   have hln:=hok.lits.1
   have hsn:catB (kSoli::(v.lits.take (i+1)).map litRR)=catB (kSoli::(v.lits.take i).map litRR)++litRR v.lits[i]:=by
    rw[List.take_add_one,List.getElem?_eq_getElem hlt,List.map_append];exact catB_snoc (kSoli::(v.lits.take i).map litRR) _
   generalize v.lits[i]=z at *;have hls:=litRR_size z hz;conv=>whnf
   refine⟨_,_,q,?_⟩;conv=>whnf
   refine⟨_,⟨by omega,ga⟩,?_⟩
   conv=>whnf
   refine(litText_r_ok hG z hz _).mono ?_;rintro o T ⟨rfl,rfl⟩;conv=>whnf
   refine⟨by omega,?_⟩
   conv=>whnf
   exact⟨i+1,⟨rfl,congrArg AV.str hsn.symm,congrArg _ w1,trivial⟩,⟨_,St.leW_refl _,rfl,hlt⟩,by show v.lits.length-(i+1)<v.lits.length-i;omega⟩
  have hlt:i=v.lits.length:=by have:=of_decide_eq_false hlt;rw[rowsI_len] at this;omega
  subst hlt;rw[List.take_length] at hb;conv=>whnf
  refine hQ _ _ _ (by simp) ?_
  conv=>whnf
  rw[List.take_length];exact⟨_,_,⟨rfl,rfl⟩,hle,AV.leS_refl _ _ _⟩
 ·skip
  -- 11 kind,catB (kSolx::v.lits.map litRR) its line
  have hk:v.kind=11:=by simpa using h
  have e:lineV v=catB (kSolx::v.lits.map litRR):=by unfold lineV;rw[hk];rfl
  rw[e] at hK hQ;rw[hk] at q;conv=>whnf
  refine⟨_,_,q,?_⟩;conv=>whnf
  refine⟨_,_,q,?_⟩;conv=>whnf
  -- kSolx the word,#2 its cell
  refine⟨⟨Nat,fun i=>[(1,.ref b1 0),(5,.str (catB (kSolx::(v.lits.take i).map litRR))),(6,.int .i64 (i:Int))],fun i S1=>S1=F∧i≤v.lits.length,fun i=>v.lits.length-i⟩,
   ⟨0,⟨rfl,congrArg AV.str (show _=catB [kSolx] by decide +kernel),rfl,trivial⟩,_,St.leW_refl _,rfl,by omega⟩,?_⟩
  rintro(i:Nat) S1 ⟨rfl,hi⟩;have hb:(catB (kSolx::(v.lits.take i).map litRR)).size≤(i+1)*24:=by
   refine Nat.le_trans (catB_size _ 24 fun x hx=>?_) (by rw[List.length_cons,List.length_map,List.length_take];exact Nat.mul_le_mul_right _ (by omega))
   rcases List.mem_cons.1 hx with rfl | hx
   ·decide
   ·obtain⟨y,hy,rfl⟩:=List.mem_map.1 hx;exact litRR_size y (hok.lits.2 y (List.mem_of_mem_take hy))
  conv=>whnf
  refine⟨_,_,q,?_⟩;conv=>whnf
  intro _;conv=>whnf
  refine split_of (fun hlt=>?_) (fun hlt=>?_)
  ·have hlt:i<v.lits.length:=by have:=of_decide_eq_true hlt;rw[rowsI_len] at this;omega
   have ga:(rowsI v.lits)[(i:Int).toNat]? = some [.int .i64 v.lits[i]]:=by simp[rowsI,hlt]
   have w1:IntKind.i64.wrap ((i:Int)+1)=((i+1:Nat):Int):=wrap_nat (by have:=hok.lits.1;omega)
   have hz:=hok.lits.2 _ (List.getElem_mem hlt)
   have hln:=hok.lits.1
   have hsn:catB (kSolx::(v.lits.take (i+1)).map litRR)=catB (kSolx::(v.lits.take i).map litRR)++litRR v.lits[i]:=by
    rw[List.take_add_one,List.getElem?_eq_getElem hlt,List.map_append];exact catB_snoc (kSolx::(v.lits.take i).map litRR) _
   generalize v.lits[i]=z at *;have hls:=litRR_size z hz;conv=>whnf
   refine⟨_,_,q,?_⟩;conv=>whnf
   refine⟨_,⟨by omega,ga⟩,?_⟩
   conv=>whnf
   refine(litText_r_ok hG z hz _).mono ?_;rintro o T ⟨rfl,rfl⟩;conv=>whnf
   refine⟨by omega,?_⟩
   conv=>whnf
   exact⟨i+1,⟨rfl,congrArg AV.str hsn.symm,congrArg _ w1,trivial⟩,⟨_,St.leW_refl _,rfl,hlt⟩,by show v.lits.length-(i+1)<v.lits.length-i;omega⟩
  have hlt:i=v.lits.length:=by have:=of_decide_eq_false hlt;rw[rowsI_len] at this;omega
  subst hlt;rw[List.take_length] at hb;conv=>whnf
  refine hQ _ _ _ (by simp) ?_
  conv=>whnf
  rw[List.take_length];exact⟨_,_,⟨rfl,rfl⟩,hle,AV.leS_refl _ _ _⟩
 ·skip
  -- 6 kind,(⟨#[100,101,108,32,105,100]⟩:ByteArray)++textsR v.ids its line
  have hk:v.kind=6:=by simpa using h
  have e:lineV v=(⟨#[100,101,108,32,105,100]⟩:ByteArray)++textsR v.ids:=by unfold lineV;rw[hk];rfl
  rw[e] at hK hQ;rw[hk] at q;conv=>whnf
  refine⟨_,_,q,?_⟩;conv=>whnf
  refine⟨_,_,q,?_⟩;conv=>whnf
  refine(htx _).mono ?_;rintro o T ⟨rfl,rfl⟩;conv=>whnf
  refine⟨by show 6+_≤_;omega,?_⟩
  conv=>whnf
  refine hQ _ _ _ (by simp) ?_
  conv=>whnf
  exact⟨_,_,⟨rfl,rfl⟩,hle,AV.leS_refl _ _ _⟩
 ·skip
  -- 7 kind,kStar its line
  have hk:v.kind=7:=by simpa using h
  have e:lineV v=kStar:=by unfold lineV;rw[hk];rfl
  rw[e] at hK hQ;rw[hk] at q;conv=>whnf
  refine⟨_,_,q,?_⟩;conv=>whnf
  refine hQ _ _ _ (by simp) ?_
  conv=>whnf
  exact⟨_,_,⟨rfl,rfl⟩,hle,AV.leS_refl _ _ _⟩
 ·skip
  -- 8 kind,w8S its line
  have hk:v.kind=8:=by simpa using h
  have e:lineV v=w8S:=by unfold lineV;rw[hk];rfl
  rw[e] at hK hQ;rw[hk] at q;conv=>whnf
  refine⟨_,_,q,?_⟩;conv=>whnf
  refine hQ _ _ _ (by simp) ?_
  conv=>whnf
  exact⟨_,_,⟨rfl,rfl⟩,hle,AV.leS_refl _ _ _⟩
 ·have hk:v.kind=9:=by simpa using h
  have e:lineV v=kConc++endR v:=by unfold lineV;rw[hk];rfl
  rw[e] at hK hQ;conv=>whnf
  refine⟨_,_,q,?_⟩;conv=>whnf
  rw[hk];conv=>whnf
  refine⟨_,_,q,?_⟩;conv=>whnf
  refine(hex _).mono ?_;rintro o T ⟨rfl,rfl⟩;conv=>whnf
  refine⟨by show 10+_≤_;omega,?_⟩
  conv=>whnf
  refine hQ _ _ _ (by simp) ?_
  conv=>whnf
  exact⟨_,_,⟨rfl,rfl⟩,hle,AV.leS_refl _ _ _⟩
 ·skip
  -- 10 kind,w10S its line
  have hk:v.kind=10:=by simpa using h
  have e:lineV v=w10S:=by unfold lineV;rw[hk];rfl
  rw[e] at hK hQ;rw[hk] at q;conv=>whnf
  refine⟨_,_,q,?_⟩;conv=>whnf
  refine hQ _ _ _ (by simp) ?_
  conv=>whnf
  exact⟨_,_,⟨rfl,rfl⟩,hle,AV.leS_refl _ _ _⟩
 ·have e:lineV v=(⟨#[63]⟩:ByteArray):=by
   simp only[beq_eq_false_iff_ne] at h1 h2 h3 h4 h12 h5 h11 h6 h7 h8 h9 h10;unfold lineV;rw[if_neg h1,if_neg h2,if_neg h3,if_neg h4,if_neg h12,if_neg h5,if_neg h11,if_neg h6,if_neg h7,if_neg h8,if_neg h9,if_neg h10]
  rw[e] at hK hQ;conv=>whnf
  refine⟨_,_,q,?_⟩;conv=>whnf
  rw[h1];conv=>whnf
  rw[h2];conv=>whnf
  rw[h3];conv=>whnf
  rw[h4];conv=>whnf
  rw[h12];conv=>whnf
  rw[h5];conv=>whnf
  rw[h11];conv=>whnf
  rw[h6];conv=>whnf
  rw[h7];conv=>whnf
  rw[h8];conv=>whnf
  rw[h9];conv=>whnf
  rw[h10];conv=>whnf
  refine hK _ _ ?_;clear hK hQ K;conv=>whnf
  exact⟨_,_,⟨rfl,rfl⟩,hle,AV.leS_refl _ _ _⟩
end Go.Proofs.YtogipknpafkfpaaGreatDoor.Aw
