/- Package big, walked: made. Package big, walked: Parse. Package big, walked: Parse, whole. Package big, walked: next, end -/
import Derived.Test.YtogipknpafkfpaaGreatDoorPpr7
import Derived.Laws.RangeAny
import Derived.Laws.RangeString
set_option linter.all false
set_option maxRecDepth 100000
namespace Go.Proofs.YtogipknpafkfpaaGreatDoor.Aw
open Go Go.RowKit
variable {G:Nat→Option (List AV)}
theorem valL_append:∀ (l r:List Nat),valL (l++r)=valL l+1000000000 ^ l.length*valL r
 | [],r=>by simp[valL]
 | d::l,r=>by
   simp only[List.cons_append,valL,valL_append l r,List.length_cons,Nat.pow_succ];rw[Nat.mul_add,Nat.mul_comm (1000000000 ^ l.length) 1000000000,Nat.mul_assoc];omega
def trimZ(l:List Nat):List Nat:=(l.reverse.dropWhile (fun d=>d == 0)).reverse
theorem trimZ_nil:trimZ []=[]:=rfl
theorem trimZ_zero(l:List Nat):trimZ (l++[0])=trimZ l:=by simp[trimZ]
theorem trimZ_pos(l:List Nat){d:Nat}(h:d≠0):trimZ (l++[d])=l++[d]:=by simp[trimZ,h]
theorem valL_trim(l:List Nat):valL (trimZ l)=valL l:=by
 have:∀ r:List Nat,valL (trimZ r.reverse)=valL r.reverse:=by
  intro r
  induction r with
  | nil=>rfl
  | cons d r ih=>
    rw[List.reverse_cons]
    by_cases h:d=0
    ·subst h;rw[trimZ_zero,ih,valL_append];simp[valL]
    ·rw[trimZ_pos _ h]
 simpa using this l.reverse
theorem limbs_of{l:List Nat}(hd:∀ d∈l,d<1000000000)(hl:∀ i d,l=i++[d]→d≠0):l=limbs (valL l):=by
 induction l with
 | nil=>rfl
 | cons d l ih=>
   have h1:l=limbs (valL l):=ih (fun x hx=>hd x (by simp[hx])) (fun i x hx=>hl (d::i) x (by rw[hx];rfl))
   have hdd:=hd d (by simp)
   have hpos:0<valL (d::l):=by
    simp only[valL]
    cases l with
    | nil=>have:=hl [] d rfl;omega
    | cons e r=>
      have:0<valL (e::r):=by
       rcases Nat.eq_zero_or_pos (valL (e::r)) with h0 | h0
       ·rw[h0,limbs_zero] at h1;cases h1
       ·exact h0
      omega
   rw[limbs_pos hpos];simp only[valL];rw[show(d+1000000000*valL l) % 1000000000=d by omega,show(d+1000000000*valL l) / 1000000000=valL l by omega,← h1]
theorem trim_limbs{l:List Nat}(hd:∀ d∈l,d<1000000000):trimZ l=limbs (valL l):=by
 rw[← valL_trim l];refine limbs_of (fun d hd'=>hd d ?_) (fun i d e=>?_)
 ·unfold trimZ at hd';simp only[List.mem_reverse] at hd';have:=List.dropWhile_sublist (fun d=>d == 0) (l:=l.reverse)
  simpa using this.subset hd'
 ·unfold trimZ at e;have e2:=congrArg List.reverse e;simp only[List.reverse_reverse,List.reverse_append,List.reverse_cons,List.reverse_nil,List.nil_append,List.singleton_append] at e2;intro h0;have:=List.head?_dropWhile_not (fun d=>d == 0) l.reverse
  rw[e2] at this
  simp[h0] at this
theorem Backward_ok(l:List Nat)(S:St):Triple P (C G) 179 [.sl .any 1 (rowsU l)] S fun o S'=>∃ bs,S bs=none∧o=.ret (.fn (.func 190) [] [.ref bs 0])∧S'=S.upd bs (.obj 242 [.sl .any 1 (rowsU l)]):=by
 refine triple_of_awp (hT G) hm Tryz.func179 rfl (by decide +kernel) rfl (by decide +kernel) (by show 1≤_;decide +kernel) rfl ?_
 conv=>whnf
 intro bs hbs;rw[forceL_eq];conv=>whnf
 exact⟨_,_,⟨bs,hbs,rfl,rfl⟩,St.le_refl _,AV.leS_refl _ _ _⟩
theorem TripleE.mono{f:FuncId}{C:Cx}{args:List AV}{S:St}{Q Q':Out→St→Prop}(h:TripleE P C f args S Q)(hq:∀ o S',Q o S'→Q' o S'):TripleE P C f args S Q':=
 ⟨h.enter,fun w vs hY hg hr=>(h.out w vs hY hg hr).mono fun e w' ⟨o,S',h1,h2,h3,h4⟩=>⟨o,S',h1,h2,h3,hq _ _ h4⟩⟩
theorem Backward1_ok(l:List Nat)(hl:l.length≤1000000000)(bs l0:Nat)(Y:List AV→St→(Bool→St→Prop)→Prop)(I:Nat→St→Prop)(S0:St)(h0:I 0 S0)
 (hs:∀ k S,k≤l.length→I k S→S bs=some (.obj 242 [.sl .any 1 (rowsU l)]))
 (hstep:∀ k S (h:k<l.length),I k S→∀ K:Bool→St→Prop,(∀ S',I (k+1) S'→K true S')→Y [.int .i64 ((l.length:Int)-1-(k:Int)),.int .u32 ((l[l.length-1-k]:Nat):Int)] S K) :
 TripleE P ((C G).withY ⟨l0,Y⟩) 190 [.fn (.yield l0) [] [],.ref bs 0] S0 fun o S'=>(∃ x,o=.ret x)∧I l.length S':=by
 refine tripleE_of_awp (C:=(C G).withY _) (hT G) hm Tryz.func190 rfl (by decide +kernel) rfl (by decide +kernel) (by show 2≤_;decide +kernel) rfl ?_
 conv=>whnf
 refine⟨_,_,hs 0 _ (by omega) h0,?_⟩
 conv=>whnf
 intro _;conv=>whnf
 refine⟨⟨Nat,fun k=>[(0,.fn (.yield l0) [] []),(1,.ref bs 0),(3,.int .i64 ((l.length:Int)-1-(k:Int)))],
  fun k S'=>I k S'∧k≤l.length,fun k=>l.length-k⟩,
  ⟨0,⟨rfl,rfl,congrArg (AV.int .i64) (show IntKind.i64.wrap (((rowsU l).length:Int)-1)=(l.length:Int)-1-((0:Nat):Int) by rw[rowsU_len,wrap_i64 (by omega) (by omega)];omega),trivial⟩,_,St.leW_refl _,h0,by omega⟩,?_⟩
 rintro(k:Nat) S2 ⟨hI,hk⟩;conv=>whnf
 refine split_of (fun hge=>?_) (fun hge=>?_)
 ·have hk2:k<l.length:=by have:=of_decide_eq_true hge;omega
  conv=>whnf
  refine⟨_,_,hs k _ hk hI,?_⟩;conv=>whnf
  have eix:((l.length:Int)-1-(k:Int)).toNat=l.length-1-k:=by omega
  refine⟨[.int .u32 ((l[l.length-1-k]:Nat):Int)],⟨by omega,by rw[eix];simp only[rowsU,List.getElem?_map];rw[List.getElem?_eq_getElem (by omega)];rfl⟩,?_⟩
  conv=>whnf
  refine⟨rfl,?_⟩;refine hstep k S2 hk2 hI _ fun S3 hI3=>?_
  conv=>whnf
  exact⟨k+1,⟨rfl,rfl,congrArg (AV.int .i64) (show IntKind.i64.wrap ((l.length:Int)-1-(k:Int)-1)=(l.length:Int)-1-((k+1:Nat):Int) by rw[wrap_i64 (by omega) (by omega)];omega),trivial⟩,⟨_,St.leW_refl _,hI3,by omega⟩,by show l.length-(k+1)<l.length-k;omega⟩
 ·obtain rfl:k=l.length:=by have:=of_decide_eq_false hge;omega
  conv=>whnf
  exact⟨_,_,⟨⟨_,rfl⟩,hI⟩,St.le_refl _,AV.leS_refl _ _ _⟩
def MSt(S:St)(b b5 b6 bs l:Nat)(hi u:Nat)(rows:List (List AV))(o:Own):St:=
 ((((S.upd b (.obj 244 [AV.int IntKind.i64 0,AV.bool false,AV.nils])).upd b5 (.obj 228 [.int .u64 (hi:Int)])).upd b6 (.obj 228 [.int .u64 (u:Int)])).upd bs (.obj 242 [.sl .any 1 rows])).upd l o
structure MNe (b b5 b6 bs l:Nat):Prop where
 a1:b5≠b
 a2:b6≠b
 a3:bs≠b
 a4:l≠b
 a5:b6≠b5
 a6:bs≠b5
 a7:l≠b5
 a8:bs≠b6
 a9:l≠b6
 a10:l≠bs
section
variable {S:St} {b b5 b6 bs l:Nat} {hi u:Nat} {rows:List (List AV)} {o:Own} (h:MNe b b5 b6 bs l)
include h
theorem MSt.at_l:MSt S b b5 b6 bs l hi u rows o l=some o:=St.upd_same _ _ _
theorem MSt.at_bs:MSt S b b5 b6 bs l hi u rows o bs=some (.obj 242 [.sl .any 1 rows]):=St.ov h.a10.symm (St.upd_same _ _ _)
theorem MSt.at_b6:MSt S b b5 b6 bs l hi u rows o b6=some (.obj 228 [.int .u64 (u:Int)]):=St.ov h.a9.symm (St.ov h.a8.symm (St.upd_same _ _ _))
theorem MSt.at_b5:MSt S b b5 b6 bs l hi u rows o b5=some (.obj 228 [.int .u64 (hi:Int)]):=St.ov h.a7.symm (St.ov h.a6.symm (St.ov h.a5.symm (St.upd_same _ _ _)))
theorem MSt.at_b:MSt S b b5 b6 bs l hi u rows o b=some (.obj 244 [AV.int IntKind.i64 0,AV.bool false,AV.nils]):=St.ov h.a4.symm (St.ov h.a3.symm (St.ov h.a2.symm (St.ov h.a1.symm (St.upd_same _ _ _))))
omit h in
theorem MSt.put_l(o':Own):(MSt S b b5 b6 bs l hi u rows o).upd l o'=MSt S b b5 b6 bs l hi u rows o':=by unfold MSt;rw[St.upd_upd]
theorem MSt.put_b6(u':Nat):(MSt S b b5 b6 bs l hi u rows o).upd b6 (.obj 228 [.int .u64 (u':Int)])=MSt S b b5 b6 bs l hi u' rows o:=by
 unfold MSt;rw[St.upd_comm h.a9,St.upd_comm h.a8,St.upd_upd]
theorem MSt.put_b5(hi':Nat):(MSt S b b5 b6 bs l hi u rows o).upd b5 (.obj 228 [.int .u64 (hi':Int)])=MSt S b b5 b6 bs l hi' u rows o:=by
 unfold MSt;rw[St.upd_comm h.a7,St.upd_comm h.a6,St.upd_comm h.a5,St.upd_upd]
end
def M4(S:St)(b b5 b6 bs:Nat)(hi u:Int)(rows:List (List AV)):St:=
 (((S.upd b (.obj 244 [AV.int IntKind.i64 0,AV.bool false,AV.nils])).upd b5 (.obj 228 [.int .u64 hi])).upd b6 (.obj 228 [.int .u64 u])).upd bs (.obj 242 [.sl .any 1 rows])
theorem MSt.del_l{S:St}{b b5 b6 bs l:Nat}{hi u:Nat}{rows:List (List AV)}{o:Own}(h:MNe b b5 b6 bs l)(hl:S l=none):(MSt S b b5 b6 bs l hi u rows o).del l=M4 S b b5 b6 bs (hi:Int) (u:Int) rows:=by
 unfold MSt M4;refine St.del_upd ?_;exact(St.upd_ne _ _ _ _ h.a10).trans ((St.upd_ne _ _ _ _ h.a9).trans ((St.upd_ne _ _ _ _ h.a7).trans ((St.upd_ne _ _ _ _ h.a4).trans hl)))
section
variable {S:St} {b b5 b6 bs l:Nat} {hi u:Int} {rows:List (List AV)} (h:MNe b b5 b6 bs l)
include h
theorem M4.at_b6:M4 S b b5 b6 bs hi u rows b6=some (.obj 228 [.int .u64 u]):=St.ov h.a8.symm (St.upd_same _ _ _)
theorem M4.at_b5:M4 S b b5 b6 bs hi u rows b5=some (.obj 228 [.int .u64 hi]):=St.ov h.a6.symm (St.ov h.a5.symm (St.upd_same _ _ _))
theorem M4.at_b:M4 S b b5 b6 bs hi u rows b=some (.obj 244 [AV.int IntKind.i64 0,AV.bool false,AV.nils]):=St.ov h.a3.symm (St.ov h.a2.symm (St.ov h.a1.symm (St.upd_same _ _ _)))
theorem M4.le(hb:S b=none)(h5:S b5=none)(h6:S b6=none)(hs:S bs=none)(o:Own):St.le S ((M4 S b b5 b6 bs hi u rows).upd b o):=by
 unfold M4;exact St.le_upd (St.le_upd (St.le_upd (St.le_upd (St.le_upd (St.le_refl _) hb _) h5 _) h6 _) hs _) hb _
end
def topV(l:List Nat)(k:Nat):Nat:=valL (l.drop (l.length-k))
theorem topV_zero(l:List Nat):topV l 0=0:=by simp[topV,valL]
theorem topV_all(l:List Nat):topV l l.length=valL l:=by simp[topV]
theorem topV_succ{l:List Nat}{k:Nat}(h:k<l.length):topV l (k+1)=l[l.length-1-k]+1000000000*topV l k:=by
 unfold topV;rw[List.drop_eq_getElem_cons (show l.length-(k+1)<l.length by omega)]
 simp only[valL];rw[show l.length-(k+1)+1=l.length-k by omega]
 congr 2
 omega
theorem topV_lt{l:List Nat}(hd:∀ d∈l,d<1000000000):∀ k,k≤l.length→topV l k<1000000000 ^ k
 | 0,_=>by rw[topV_zero];decide
 | k+1,h=>by
   rw[topV_succ (by omega),Nat.pow_succ]
   have:=topV_lt hd k (by omega)
   have:=hd _ (List.getElem_mem (show l.length-1-k<l.length by omega))
   omega
theorem made_far{v:Nat}(h:4611686018427387904≤v)(neg:Bool)(S S':St):AV.leS S S' (.ag [.int .i64 0,.bool neg,.sl .any 1 (rowsU (limbs v))]) (bigAV (if neg then -(v:Int) else (v:Int))):=by
 have hf:¬ near (if neg then -(v:Int) else (v:Int)):=by unfold near;cases neg<;>simp<;>omega
 rw[bigAV_far hf,show(if neg then -(v:Int) else (v:Int)).natAbs=v by cases neg<;>simp,show decide ((if neg then -(v:Int) else (v:Int))<0)=neg by cases neg<;>simp<;>omega]
 exact AV.leS_refl _ _ _
set_option maxHeartbeats 4000000 in
theorem made_ok(neg:Bool)(l:List Nat)(hd:∀ d∈l,d<1000000000)(hlen:l.length≤1000000000)(S:St) :
 Triple P (C G) 172 [.sl .any 1 (rowsU l),.bool neg] S fun o S'=>o=.ret (bigAV (if neg then -(valL l:Int) else (valL l:Int)))∧S'=S:=by
 refine triple_of_awp (hT G) hm Tryz.func172 rfl (by decide +kernel) rfl (by decide +kernel) (by show 2≤_;decide +kernel) rfl ?_
 refine awp_seq2 fun K hK hQ=>?_
 conv=>whnf
 intro b hb;rw[forceL_eq];conv=>whnf
 refine hK _ _ ?_;clear hK hQ K;refine awp_seq2 fun K hK hQ=>?_
 conv=>whnf
 refine⟨⟨List Nat,fun cur=>[(0,.sl .any 1 (rowsU cur)),(1,.bool neg),(4,.ref b 0)],
  fun cur S'=>S'=S.upd b (.obj 244 [AV.int IntKind.i64 0,AV.bool false,AV.nils])∧trimZ cur=trimZ l∧cur.length≤l.length,fun cur=>cur.length⟩,
  ⟨l,⟨⟨rfl,rfl⟩,rfl,rfl,trivial⟩,_,St.leW_refl _,rfl,rfl,Nat.le_refl _⟩,?_⟩
 rintro(cur:List Nat) S₁ ⟨rfl,h2,h3⟩;conv=>whnf
 intro hl64;conv=>whnf
 refine split_of (fun hh=>?_) (fun hh=>?_)
 ·have hpos:0<cur.length:=by simpa [rowsU] using hh
  obtain⟨init,d,hcd⟩:∃ init d,cur=init++[d]:=by
   rcases List.eq_nil_or_concat cur with rfl | ⟨init,d,rfl⟩
   ·simp at hpos
   ·exact⟨init,d,by simp⟩
  have hcl:cur.length=init.length+1:=by rw[hcd];simp
  conv=>whnf
  intro hl64;conv=>whnf
  have e1:IntKind.i64.wrap (((rowsU cur).length:Int)-1)=(init.length:Int):=by simp only[rowsU_len] at *;rw[wrap_i64 (by omega) (by omega)];omega
  refine⟨[.int .u32 (d:Int)],⟨by rw[e1];omega,by rw[e1,hcd];simp[rowsU]⟩,?_⟩
  conv=>whnf
  refine split_of (fun hd0=>?_) (fun hd0=>?_)
  ·have hd0:d=0:=by simpa using hd0
   conv=>whnf
   intro _;conv=>whnf
   refine⟨by rw[e1];simp;omega,?_⟩
   conv=>whnf
   have e2:((rowsU cur).take (IntKind.i64.wrap (((rowsU cur).length:Int)-1)).toNat).drop (0:Int).toNat=rowsU init:=by rw[e1,hcd];simp[rowsU]
   refine⟨init,⟨⟨rfl,e2⟩,rfl,rfl,trivial⟩,⟨_,St.leW_refl _,rfl,by rw[← h2,hcd,hd0,trimZ_zero],by omega⟩,by show init.length<cur.length;omega⟩
  ·have hd0:d≠0:=by simpa using hd0
   conv=>whnf
   refine hK _ _ ?_;have hcur:=h2.symm;rw[hcd,trimZ_pos _ hd0,← hcd] at hcur;have hdc:∀ d∈cur,d<1000000000:=by rw[← hcur,trim_limbs hd];exact limbs_lt _
   clear hK hQ K;refine awp_seq2 fun K hK hQ=>?_
   conv=>whnf
   intro _;conv=>whnf
   refine split_of (fun hle3=>?_) (fun hle3=>?_)
   ·have hle3:(cur).length≤3:=by have:=of_decide_eq_true hle3;rw[rowsU_len] at this;omega
    refine awp_seq2 fun K2 hK2 hQ2=>?_
    conv=>whnf
    intro b5 hb5;conv=>whnf
    intro b6 hb6;conv=>whnf
    refine⟨_,_,St.up hb6 (St.upd_same _ _ _),?_⟩;conv=>whnf
    refine⟨_,_,St.ov (St.ne_upd hb6) (St.upd_same _ _ _),?_⟩;conv=>whnf
    refine hK2 _ _ ?_;clear hK2 hQ2 K2;refine awp_seq2 fun K2 hK2 hQ2=>?_
    conv=>whnf
    refine(Backward_ok cur _).mono ?_;rintro o S' ⟨bs,hbs,rfl,rfl⟩;conv=>whnf
    intro l0 R hl0;have n:MNe b b5 b6 bs l0:=⟨St.ne_upd hb5,St.ne_upd (St.no hb6),St.ne_upd (St.no (St.no (St.no (St.no hbs)))),St.ne_upd (St.no (St.no (St.no (St.no (St.no hl0))))),St.ne_upd hb6,St.ne_upd (St.no hbs),St.ne_upd (St.no (St.no hl0)),St.ne_upd hbs,St.ne_upd (St.no hl0),St.ne_upd hl0⟩;have hst:(((((((S.upd b (.obj 244 [AV.int IntKind.i64 0,AV.bool false,AV.nils])).upd b5 (.obj 228 [.int .u64 0])).upd b6 (.obj 228 [.int .u64 0])).upd b5 (.obj 228 [.int .u64 0])).upd b6 (.obj 228 [.int .u64 0])).upd bs (.obj 242 [.sl .any 1 (rowsU cur)])).upd l0 (.lp R .ready))=MSt S b b5 b6 bs l0 0 0 (rowsU cur) (.lp R .ready):=by
     unfold MSt;rw[St.upd_comm n.a5 _ (.obj 228 [.int .u64 0]),St.upd_upd,St.upd_upd];rfl
    rw[hst];refine(Backward1_ok cur (by omega) bs l0 _ (fun k S'=>S'=MSt S b b5 b6 bs l0 (topV cur k / 18446744073709551616) (topV cur k % 18446744073709551616) (rowsU cur) (.lp R .ready)) _ (by rw[topV_zero]) (fun k S' _ h=>by subst h;exact MSt.at_bs n) (fun k S' hk2 hI K hK=>?_)).mono ?_
    ·subst hI;have hk:k≤cur.length:=by omega
     refine⟨⟨MSt.at_l n,rfl⟩,?_⟩;conv=>whnf
     refine⟨MSt.at_l n,?_⟩;rw[MSt.put_l];have hw0:topV cur k<1000000000000000000:=Nat.lt_of_lt_of_le (topV_lt hdc k hk) (Nat.pow_le_pow_right (by omega) (show k≤2 by omega))
     have hts:=topV_succ hk2
     have hdd:=hdc _ (List.getElem_mem (show cur.length-1-k<cur.length by omega))
     generalize hw1:topV cur (k+1)=w1 at *;generalize topV cur k=w0 at *;generalize cur[cur.length-1-k]=d at *;have hw0m:w0 % 18446744073709551616=w0:=by omega
     rw[hw0m];conv=>whnf
     refine⟨_,_,MSt.at_b6 n,?_⟩;conv=>whnf
     refine(Mul64_ok w0 1000000000 (by omega) (by omega) _).mono ?_
     rintro o S' ⟨rfl,rfl⟩;conv=>whnf
     refine⟨_,_,MSt.at_b5 n,?_⟩;conv=>whnf
     rw[MSt.put_b5 n];refine⟨_,_,MSt.at_b6 n,?_⟩;conv=>whnf
     rw[MSt.put_b6 n];refine⟨_,_,MSt.at_b6 n,?_⟩;conv=>whnf
     have wd:IntKind.u64.wrap (d:Int)=(d:Int):=by rw[IntKind.wrap_u64];omega
     rw[wd];refine(Add64_ok (w0*1000000000 % 18446744073709551616) d _).mono ?_;rintro o S' ⟨rfl,rfl⟩;conv=>whnf
     refine⟨_,_,MSt.at_b6 n,?_⟩;conv=>whnf
     rw[MSt.put_b6 n];refine⟨_,_,MSt.at_b5 n,?_⟩;conv=>whnf
     refine⟨_,_,MSt.at_b5 n,?_⟩;conv=>whnf
     have eu:(w0*1000000000 % 18446744073709551616+d) % 18446744073709551616=w1 % 18446744073709551616:=by omega
     have eh:IntKind.u64.wrap (((w0*1000000000 / 18446744073709551616:Nat):Int)+(((w0*1000000000 % 18446744073709551616+d) / 18446744073709551616:Nat):Int))=((w1 / 18446744073709551616:Nat):Int):=by rw[IntKind.wrap_u64];omega
     rw[eu,eh,MSt.put_b5 n];refine⟨MSt.at_l n,?_⟩;conv=>whnf
     rw[MSt.put_l];exact hK _ rfl
    ·rintro o S' ⟨⟨x,rfl⟩,rfl⟩;refine⟨⟨_,rfl⟩,.ready,MSt.at_l n,?_⟩;conv=>whnf
     refine hK2 _ _ ?_;clear hK2 hQ2 K2;rw[MSt.del_l n (St.no (St.no (St.no (St.no (St.no (St.no hl0)))))),topV_all];have hvl:valL cur=valL l:=by rw[← hcur,valL_trim]
     rw[hvl];have hcl:cur=limbs (valL l):=by rw[← hcur,trim_limbs hd]
     have hv128:valL l<1000000000000000000000000000:=by
      have:=topV_lt hdc cur.length (Nat.le_refl _)
      rw[topV_all,hvl] at this;exact Nat.lt_of_lt_of_le this (Nat.pow_le_pow_right (by omega) hle3)
     generalize hv:valL l=v at *;generalize hum:((v % 18446744073709551616:Nat):Int)=um at *;generalize hhi:((v / 18446744073709551616:Nat):Int)=hi at *;have f0:=St.no (St.no (St.no (St.no (St.no hbs))));have f5:=St.no hb5;have f6:=St.no (St.no hb6);refine awp_seq2 fun K2 hK2 hQ2=>?_
     conv=>whnf
     refine⟨_,_,M4.at_b5 n,?_⟩;conv=>whnf
     refine split_of (fun h0=>?_) (fun h0=>?_)
     ·have h0:hi=0:=by simpa using h0
      conv=>whnf
      refine⟨_,_,M4.at_b6 n,?_⟩;conv=>whnf
      refine hK2 _ _ ?_;clear hK2 hQ2 K2;refine awp_cond rfl (fun h1=>?_) (fun h1=>?_)
      ·have h1:um<4611686018427387904:=by simpa using h1
       have hvu:um=(v:Int):=by omega
       have e1:IntKind.i64.wrap um=(v:Int):=by rw[hvu,wrap_i64 (by omega) (by omega)]
       conv=>whnf
       refine⟨_,_,M4.at_b6 n,?_⟩;conv=>whnf
       rw[e1]
       cases neg with
       | true=>
         conv=>whnf
         refine⟨_,_,M4.at_b n,?_⟩;conv=>whnf
         refine hQ _ _ _ (by simp) ?_
         conv=>whnf
         refine⟨_,_,St.upd_same _ _ _,?_⟩;conv=>whnf
         refine⟨_,_,⟨rfl,rfl⟩,M4.le n hb f5 f6 f0 _,?_⟩;rw[wrap_i64 (by omega) (by omega),show(0:Int)-(v:Int)=-(v:Int) by omega,if_pos rfl,bigAV_near (by unfold near;omega)]
         exact AV.leS_refl _ _ _
       | false=>
         conv=>whnf
         refine⟨_,_,M4.at_b n,?_⟩;conv=>whnf
         refine hQ _ _ _ (by simp) ?_
         conv=>whnf
         refine⟨_,_,St.upd_same _ _ _,?_⟩;conv=>whnf
         refine⟨_,_,⟨rfl,rfl⟩,M4.le n hb f5 f6 f0 _,?_⟩;rw[if_neg (by simp),bigAV_near (by unfold near;omega)]
         exact AV.leS_refl _ _ _
      ·have h1:¬ um<4611686018427387904:=by simpa using h1
       have hfar:4611686018427387904≤v:=by omega
       conv=>whnf
       refine hK _ _ ?_;clear hK hQ K;conv=>whnf
       refine⟨_,_,M4.at_b n,?_⟩;conv=>whnf
       refine⟨_,_,St.upd_same _ _ _,?_⟩;conv=>whnf
       refine⟨_,_,⟨rfl,rfl⟩,M4.le n hb f5 f6 f0 _,?_⟩;rw[hcl];exact made_far hfar neg _ _
     ·have h0:hi≠0:=by simpa using h0
      have hfar:4611686018427387904≤v:=by omega
      conv=>whnf
      refine hK2 _ _ ?_;clear hK2 hQ2 K2;conv=>whnf
      refine hK _ _ ?_;clear hK hQ K;conv=>whnf
      refine⟨_,_,M4.at_b n,?_⟩;conv=>whnf
      refine⟨_,_,St.upd_same _ _ _,?_⟩;conv=>whnf
      refine⟨_,_,⟨rfl,rfl⟩,M4.le n hb f5 f6 f0 _,?_⟩;rw[hcl];exact made_far hfar neg _ _
   ·have hle3:¬ (cur).length≤3:=by have:=of_decide_eq_false hle3;rw[rowsU_len] at this;omega
    have hcl:cur=limbs (valL l):=by rw[← hcur,trim_limbs hd]
    have hfar:4611686018427387904≤valL l:=by
     rcases Nat.lt_or_ge (valL l) (1000000000 ^ 3) with h | h
     ·have:=limbs_len 3 _ h
      rw[← hcl] at this;exact absurd this hle3
     ·exact Nat.le_trans (by decide) h
    generalize hv:valL l=v at *;conv=>whnf
    refine hK _ _ ?_;clear hK hQ K;conv=>whnf
    refine⟨_,_,St.upd_same _ _ _,?_⟩;conv=>whnf
    refine⟨_,_,St.upd_same _ _ _,?_⟩;conv=>whnf
    refine⟨_,_,⟨rfl,rfl⟩,by rw[St.upd_upd];exact St.le_upd' (St.le_refl _) hb _,?_⟩
    rw[hcl];exact made_far hfar neg _ _
 ·have hnil:cur=[]:=by
   have:¬ 0<cur.length:=by simpa [rowsU] using hh
   exact List.length_eq_zero_iff.1 (by omega)
  conv=>whnf
  refine hK _ _ ?_;have hcur:trimZ l=cur:=by rw[← h2,hnil,trimZ_nil]
  have hdc:∀ d∈cur,d<1000000000:=by rw[← hcur,trim_limbs hd];exact limbs_lt _
  clear hK hQ K;refine awp_seq2 fun K hK hQ=>?_
  conv=>whnf
  intro _;conv=>whnf
  refine split_of (fun hle3=>?_) (fun hle3=>?_)
  ·have hle3:(cur).length≤3:=by have:=of_decide_eq_true hle3;rw[rowsU_len] at this;omega
   refine awp_seq2 fun K2 hK2 hQ2=>?_
   conv=>whnf
   intro b5 hb5;conv=>whnf
   intro b6 hb6;conv=>whnf
   refine⟨_,_,St.up hb6 (St.upd_same _ _ _),?_⟩;conv=>whnf
   refine⟨_,_,St.ov (St.ne_upd hb6) (St.upd_same _ _ _),?_⟩;conv=>whnf
   refine hK2 _ _ ?_;clear hK2 hQ2 K2;refine awp_seq2 fun K2 hK2 hQ2=>?_
   conv=>whnf
   refine(Backward_ok cur _).mono ?_;rintro o S' ⟨bs,hbs,rfl,rfl⟩;conv=>whnf
   intro l0 R hl0;have n:MNe b b5 b6 bs l0:=⟨St.ne_upd hb5,St.ne_upd (St.no hb6),St.ne_upd (St.no (St.no (St.no (St.no hbs)))),St.ne_upd (St.no (St.no (St.no (St.no (St.no hl0))))),St.ne_upd hb6,St.ne_upd (St.no hbs),St.ne_upd (St.no (St.no hl0)),St.ne_upd hbs,St.ne_upd (St.no hl0),St.ne_upd hl0⟩;have hst:(((((((S.upd b (.obj 244 [AV.int IntKind.i64 0,AV.bool false,AV.nils])).upd b5 (.obj 228 [.int .u64 0])).upd b6 (.obj 228 [.int .u64 0])).upd b5 (.obj 228 [.int .u64 0])).upd b6 (.obj 228 [.int .u64 0])).upd bs (.obj 242 [.sl .any 1 (rowsU cur)])).upd l0 (.lp R .ready))=MSt S b b5 b6 bs l0 0 0 (rowsU cur) (.lp R .ready):=by
    unfold MSt;rw[St.upd_comm n.a5 _ (.obj 228 [.int .u64 0]),St.upd_upd,St.upd_upd];rfl
   rw[hst];refine(Backward1_ok cur (by omega) bs l0 _ (fun k S'=>S'=MSt S b b5 b6 bs l0 (topV cur k / 18446744073709551616) (topV cur k % 18446744073709551616) (rowsU cur) (.lp R .ready)) _ (by rw[topV_zero]) (fun k S' _ h=>by subst h;exact MSt.at_bs n) (fun k S' hk2 hI K hK=>?_)).mono ?_
   ·subst hI;have hk:k≤cur.length:=by omega
    refine⟨⟨MSt.at_l n,rfl⟩,?_⟩;conv=>whnf
    refine⟨MSt.at_l n,?_⟩;rw[MSt.put_l];have hw0:topV cur k<1000000000000000000:=Nat.lt_of_lt_of_le (topV_lt hdc k hk) (Nat.pow_le_pow_right (by omega) (show k≤2 by omega))
    have hts:=topV_succ hk2
    have hdd:=hdc _ (List.getElem_mem (show cur.length-1-k<cur.length by omega))
    generalize hw1:topV cur (k+1)=w1 at *;generalize topV cur k=w0 at *;generalize cur[cur.length-1-k]=d at *;have hw0m:w0 % 18446744073709551616=w0:=by omega
    rw[hw0m];conv=>whnf
    refine⟨_,_,MSt.at_b6 n,?_⟩;conv=>whnf
    refine(Mul64_ok w0 1000000000 (by omega) (by omega) _).mono ?_
    rintro o S' ⟨rfl,rfl⟩;conv=>whnf
    refine⟨_,_,MSt.at_b5 n,?_⟩;conv=>whnf
    rw[MSt.put_b5 n];refine⟨_,_,MSt.at_b6 n,?_⟩;conv=>whnf
    rw[MSt.put_b6 n];refine⟨_,_,MSt.at_b6 n,?_⟩;conv=>whnf
    have wd:IntKind.u64.wrap (d:Int)=(d:Int):=by rw[IntKind.wrap_u64];omega
    rw[wd];refine(Add64_ok (w0*1000000000 % 18446744073709551616) d _).mono ?_;rintro o S' ⟨rfl,rfl⟩;conv=>whnf
    refine⟨_,_,MSt.at_b6 n,?_⟩;conv=>whnf
    rw[MSt.put_b6 n];refine⟨_,_,MSt.at_b5 n,?_⟩;conv=>whnf
    refine⟨_,_,MSt.at_b5 n,?_⟩;conv=>whnf
    have eu:(w0*1000000000 % 18446744073709551616+d) % 18446744073709551616=w1 % 18446744073709551616:=by omega
    have eh:IntKind.u64.wrap (((w0*1000000000 / 18446744073709551616:Nat):Int)+(((w0*1000000000 % 18446744073709551616+d) / 18446744073709551616:Nat):Int))=((w1 / 18446744073709551616:Nat):Int):=by rw[IntKind.wrap_u64];omega
    rw[eu,eh,MSt.put_b5 n];refine⟨MSt.at_l n,?_⟩;conv=>whnf
    rw[MSt.put_l];exact hK _ rfl
   ·rintro o S' ⟨⟨x,rfl⟩,rfl⟩;refine⟨⟨_,rfl⟩,.ready,MSt.at_l n,?_⟩;conv=>whnf
    refine hK2 _ _ ?_;clear hK2 hQ2 K2;rw[MSt.del_l n (St.no (St.no (St.no (St.no (St.no (St.no hl0)))))),topV_all];have hvl:valL cur=valL l:=by rw[← hcur,valL_trim]
    rw[hvl];have hcl:cur=limbs (valL l):=by rw[← hcur,trim_limbs hd]
    have hv128:valL l<1000000000000000000000000000:=by
     have:=topV_lt hdc cur.length (Nat.le_refl _)
     rw[topV_all,hvl] at this;exact Nat.lt_of_lt_of_le this (Nat.pow_le_pow_right (by omega) hle3)
    generalize hv:valL l=v at *;generalize hum:((v % 18446744073709551616:Nat):Int)=um at *;generalize hhi:((v / 18446744073709551616:Nat):Int)=hi at *;have f0:=St.no (St.no (St.no (St.no (St.no hbs))));have f5:=St.no hb5;have f6:=St.no (St.no hb6);refine awp_seq2 fun K2 hK2 hQ2=>?_
    conv=>whnf
    refine⟨_,_,M4.at_b5 n,?_⟩;conv=>whnf
    refine split_of (fun h0=>?_) (fun h0=>?_)
    ·have h0:hi=0:=by simpa using h0
     conv=>whnf
     refine⟨_,_,M4.at_b6 n,?_⟩;conv=>whnf
     refine hK2 _ _ ?_;clear hK2 hQ2 K2;refine awp_cond rfl (fun h1=>?_) (fun h1=>?_)
     ·have h1:um<4611686018427387904:=by simpa using h1
      have hvu:um=(v:Int):=by omega
      have e1:IntKind.i64.wrap um=(v:Int):=by rw[hvu,wrap_i64 (by omega) (by omega)]
      conv=>whnf
      refine⟨_,_,M4.at_b6 n,?_⟩;conv=>whnf
      rw[e1]
      cases neg with
      | true=>
        conv=>whnf
        refine⟨_,_,M4.at_b n,?_⟩;conv=>whnf
        refine hQ _ _ _ (by simp) ?_
        conv=>whnf
        refine⟨_,_,St.upd_same _ _ _,?_⟩;conv=>whnf
        refine⟨_,_,⟨rfl,rfl⟩,M4.le n hb f5 f6 f0 _,?_⟩;rw[wrap_i64 (by omega) (by omega),show(0:Int)-(v:Int)=-(v:Int) by omega,if_pos rfl,bigAV_near (by unfold near;omega)]
        exact AV.leS_refl _ _ _
      | false=>
        conv=>whnf
        refine⟨_,_,M4.at_b n,?_⟩;conv=>whnf
        refine hQ _ _ _ (by simp) ?_
        conv=>whnf
        refine⟨_,_,St.upd_same _ _ _,?_⟩;conv=>whnf
        refine⟨_,_,⟨rfl,rfl⟩,M4.le n hb f5 f6 f0 _,?_⟩;rw[if_neg (by simp),bigAV_near (by unfold near;omega)]
        exact AV.leS_refl _ _ _
     ·have h1:¬ um<4611686018427387904:=by simpa using h1
      have hfar:4611686018427387904≤v:=by omega
      conv=>whnf
      refine hK _ _ ?_;clear hK hQ K;conv=>whnf
      refine⟨_,_,M4.at_b n,?_⟩;conv=>whnf
      refine⟨_,_,St.upd_same _ _ _,?_⟩;conv=>whnf
      refine⟨_,_,⟨rfl,rfl⟩,M4.le n hb f5 f6 f0 _,?_⟩;rw[hcl];exact made_far hfar neg _ _
    ·have h0:hi≠0:=by simpa using h0
     have hfar:4611686018427387904≤v:=by omega
     conv=>whnf
     refine hK2 _ _ ?_;clear hK2 hQ2 K2;conv=>whnf
     refine hK _ _ ?_;clear hK hQ K;conv=>whnf
     refine⟨_,_,M4.at_b n,?_⟩;conv=>whnf
     refine⟨_,_,St.upd_same _ _ _,?_⟩;conv=>whnf
     refine⟨_,_,⟨rfl,rfl⟩,M4.le n hb f5 f6 f0 _,?_⟩;rw[hcl];exact made_far hfar neg _ _
  ·have hle3:¬ (cur).length≤3:=by have:=of_decide_eq_false hle3;rw[rowsU_len] at this;omega
   have hcl:cur=limbs (valL l):=by rw[← hcur,trim_limbs hd]
   have hfar:4611686018427387904≤valL l:=by
    rcases Nat.lt_or_ge (valL l) (1000000000 ^ 3) with h | h
    ·have:=limbs_len 3 _ h
     rw[← hcl] at this;exact absurd this hle3
    ·exact Nat.le_trans (by decide) h
   generalize hv:valL l=v at *;conv=>whnf
   refine hK _ _ ?_;clear hK hQ K;conv=>whnf
   refine⟨_,_,St.upd_same _ _ _,?_⟩;conv=>whnf
   refine⟨_,_,St.upd_same _ _ _,?_⟩;conv=>whnf
   refine⟨_,_,⟨rfl,rfl⟩,by rw[St.upd_upd];exact St.le_upd' (St.le_refl _) hb _,?_⟩
   rw[hcl];exact made_far hfar neg _ _
theorem predGrows{g:FuncId}{p:Nat→Bool}{w:World}{S:St}(hg:Good (C G) w S)(h:∀ x:Nat,x≤1114111→TripleE P (C G) g [.int .i32 (x:Int)] St.emp fun o S'=>o=.ret (.bool (p x))∧S'=St.emp):PredGrows P g #[] p w:=fun W x hx hb=>by
 have hg0:Good (C G) w St.emp:=hg.shrink (fun b o h=>by cases h)
 have hgW:Good (C G) W St.emp:=hg0.of_below hb
 refine((h x hx).out W (#[encR x]++#[]) (YOk.none rfl _ _) hgW (by simp only[encR,Array.append_empty,RelL,Rel];exact⟨_,_,rfl,rfl,rfl⟩)).mono fun e w' he=>?_
 obtain⟨o,S',h1,h2,h3,rfl,rfl⟩:=he
 cases e with
 | returned v=>simp only[OutRel,Rel] at h1;subst h1;exact⟨rfl,h3.below⟩
 | panicked c=>exact h1.elim
 | outgrown=>exact h1.elim
theorem CutPrefix_ok(s p:ByteArray)(S:St):Triple P (C G) 166 [.str s,.str p] S fun o S'=>
 o=.ret (.tu [.str ⟨(Lib.trimPrefix s.data.toList p.data.toList).toArray⟩,.bool (Lib.hasPrefix s.data.toList p.data.toList)])∧S'=S:=by
 refine Triple.of_calls (x:=.tu [.str ⟨(Lib.trimPrefix s.data.toList p.data.toList).toArray⟩,.bool (Lib.hasPrefix s.data.toList p.data.toList)]) Tryz.func166 rfl (by decide +kernel) (fun w vs hg hr=>?_) ⟨rfl,rfl⟩
 obtain⟨u,v,hv,r1,r2⟩:=RelL.two hr;simp only[Rel] at r1 r2;subst r1 r2;have hvs:vs=#[.string s,.string p]:=by
  have:=congrArg List.toArray hv
  simpa using this
 rw[hvs];refine(Tryz.strings_CutPrefix s p w).mono fun e w' he=>?_
 obtain⟨rfl,rfl⟩:=he;exact⟨_,rfl,by simp only[Rel];exact⟨_,rfl,by simp[RelL,Rel]⟩,Below.refl _ _⟩
theorem ContainsFunc_ok{g:FuncId}{p:Nat→Bool}(h:∀ x:Nat,x≤1114111→TripleE P (C G) g [.int .i32 (x:Int)] St.emp fun o S'=>o=.ret (.bool (p x))∧S'=St.emp)(s:ByteArray)(S:St) :
 Triple P (C G) 170 [.str s,.fn (.func g) [] []] S fun o S'=>o=.ret (.bool (decide (0≤Lib.idxFunc p true s)))∧S'=S:=by
 refine Triple.of_calls (x:=.bool (decide (0≤Lib.idxFunc p true s))) Tryz.func170 rfl (by decide +kernel) (fun w vs hg hr=>?_) ⟨rfl,rfl⟩
 obtain⟨u,v,hv,r1,r2⟩:=RelL.two hr;simp only[Rel] at r1 r2;obtain⟨a1,a2,rfl,q1,q2⟩:=r2;simp only[RelL] at q1 q2;have e1:a1=#[]:=by simpa using q1
 have e2:a2=#[]:=by simpa using q2
 subst r1 e1 e2;have hvs:vs=#[.string s,.func (.func g) #[] #[]]:=by
  have:=congrArg List.toArray hv
  simpa using this
 rw[hvs];refine(Tryz.strings_ContainsFunc_grows g #[] (fun vs w=>(h 0 (by omega)).enter vs w) p s w (predGrows hg h)).mono fun e w' he=>?_
 obtain⟨rfl,hb⟩:=he;exact⟨_,rfl,by simp only[Rel],hb⟩
def noDigit(x:Nat):Bool:=decide (x<48) || decide (57<x)
theorem Parse1_ok(x:Nat)(hx:x≤1114111):TripleE P (C G) 171 [.int .i32 (x:Int)] St.emp fun o S'=>o=.ret (.bool (noDigit x))∧S'=St.emp:=by
 refine tripleE_of_awp (hT G) hm Tryz.func171 rfl (by decide +kernel) rfl (by decide +kernel) (by show 1≤_;decide +kernel) rfl ?_
 conv=>whnf
 refine split_of (fun h=>?_) (fun h=>?_)
 ·have h:x<48:=by have:=of_decide_eq_true h;omega
  conv=>whnf
  exact⟨_,_,⟨rfl,rfl⟩,St.le_refl _,by simp only[noDigit,h,decide_true,Bool.true_or];exact AV.leS_refl _ _ _⟩
 ·have h:¬ x<48:=by have:=of_decide_eq_false h;omega
  conv=>whnf
  refine⟨_,_,⟨rfl,rfl⟩,St.le_refl _,?_⟩;have e:decide ((x:Int) > 57)=noDigit x:=by
   by_cases h2:57<x
   ·simp only[noDigit,h,h2,decide_true,decide_false,Bool.false_or];exact decide_eq_true (by omega)
   ·simp only[noDigit,h,h2,decide_false,Bool.false_or];exact decide_eq_false (by omega)
  rw[e];exact AV.leS_refl _ _ _
def digitB(c:UInt8):Bool:=decide (48≤c.toNat) && decide (c.toNat≤57)
def decV(d:List UInt8):Nat:=d.foldl (fun n c=>10*n+(c.toNat-48)) 0
def parseI(l:List UInt8):Option Int:=
 let d:=Lib.trimPrefix l [45]
 if d=[]∨(d.head? = some 48∧l≠[48])∨d.all digitB=false then none else some (if Lib.hasPrefix l [45] then -(decV d:Int) else (decV d:Int))
theorem size_list(l:List UInt8):(⟨l.toArray⟩:ByteArray).size=l.length:=by simp[ByteArray.size]
theorem noDigit_iff(c:UInt8):noDigit c.toNat=true↔digitB c=false:=by
 unfold noDigit digitB
 by_cases h1:c.toNat<48<;>by_cases h2:57<c.toNat<;>simp[h1,h2]<;>omega
theorem idx_digits(s:ByteArray):∀ (f pos:Nat),s.size-pos≤f→(Lib.idxFuncFrom noDigit true s f pos=-1↔∀ i (h:i<s.size),pos≤i→digitB (s[i]'h)=true)∧(Lib.idxFuncFrom noDigit true s f pos=-1∨0≤Lib.idxFuncFrom noDigit true s f pos)
 | 0,pos,hf=>⟨⟨fun _ i h hp=>by omega,fun _=>rfl⟩,.inl rfl⟩
 | f+1,pos,hf=>by
   unfold Lib.idxFuncFrom
   by_cases hp:pos<s.size
   ·rw[if_pos hp]
    by_cases ha:(s[pos]'hp).toNat<128
    ·rw[decode_ascii s pos hp ha]
     by_cases hd:noDigit (s[pos]'hp).toNat=true
     ·rw[if_pos hd];refine⟨⟨fun h=>by omega,fun h=>?_⟩,.inr (by omega)⟩
      have:=h pos hp (Nat.le_refl _)
      rw[(noDigit_iff _).1 hd] at this;cases this
     ·rw[if_neg hd];obtain⟨k1,k2⟩:=idx_digits s f (pos+1) (by omega)
      refine⟨k1.trans ⟨fun h i hi hpi=>?_,fun h i hi hpi=>h i hi (by omega)⟩,k2⟩
      by_cases e:i=pos
      ·subst e
       cases hb:digitB (s[i]'hi) with
       | true=>rfl
       | false=>exact absurd ((noDigit_iff _).2 hb) hd
      ·exact h i hi (by omega)
    ·obtain⟨h1,h2⟩:=decode_high s pos hp (by omega)
     have hn:noDigit (Utf8.decode s pos).1=true:=by unfold noDigit;simp;omega
     rw[if_pos hn];refine⟨⟨fun h=>by omega,fun h=>?_⟩,.inr (by omega)⟩
     have:=h pos hp (Nat.le_refl _)
     unfold digitB at this
     simp at this
     omega
   ·rw[if_neg hp];exact⟨⟨fun _ i h hpi=>by omega,fun _=>rfl⟩,.inl rfl⟩
theorem idx_all(d:List UInt8):decide (0≤Lib.idxFunc noDigit true ⟨d.toArray⟩)=!(d.all digitB):=by
 obtain⟨k1,k2⟩:=idx_digits ⟨d.toArray⟩ (⟨d.toArray⟩:ByteArray).size 0 (by omega)
 have hall:(∀ i (h:i<(⟨d.toArray⟩:ByteArray).size),0≤i→digitB ((⟨d.toArray⟩:ByteArray)[i]'h)=true)↔d.all digitB=true:=by
  rw[List.all_eq_true]
  constructor
  ·intro h c hc;obtain⟨i,hi,rfl⟩:=List.mem_iff_getElem.1 hc;exact h i (by rw[size_list];exact hi) (by omega)
  ·intro h i hi _;exact h _ (List.getElem_mem (by rw[size_list] at hi;exact hi))
 rw[hall] at k1
 cases hb:d.all digitB with
 | true=>exact decide_eq_false (by show ¬ 0≤Lib.idxFuncFrom _ _ _ _ _;rw[k1.2 hb];decide)
 | false=>
   refine decide_eq_true ?_
   rcases k2 with h | h
   ·rw[k1.1 h] at hb;cases hb
   ·exact h
theorem decV_snoc(l:List UInt8)(c:UInt8):decV (l++[c])=10*decV l+(c.toNat-48):=by simp[decV]
theorem decV_append(a b:List UInt8):decV (a++b)=decV a*10 ^ b.length+decV b:=by
 have:∀ r:List UInt8,decV (a++r.reverse)=decV a*10 ^ r.reverse.length+decV r.reverse:=by
  intro r
  induction r with
  | nil=>simp[decV]
  | cons c r ih=>
    rw[List.reverse_cons,← List.append_assoc,decV_snoc,decV_snoc,ih,List.length_append,List.length_singleton,Nat.pow_succ];rw[Nat.mul_add,← Nat.mul_assoc,Nat.mul_comm 10 (decV a),Nat.mul_assoc (decV a) 10,Nat.mul_comm 10 (10 ^ _)];omega
 simpa using this b.reverse
theorem decV_lt(l:List UInt8)(h:l.all digitB=true):decV l<10 ^ l.length:=by
 have:∀ r:List UInt8,r.reverse.all digitB=true→decV r.reverse<10 ^ r.reverse.length:=by
  intro r
  induction r with
  | nil=>intro _;decide
  | cons c r ih=>
    intro hr;rw[List.reverse_cons] at hr ⊢;rw[List.all_append,Bool.and_eq_true] at hr;have:=ih hr.1;have hc:digitB c=true:=by simpa using hr.2
    unfold digitB at hc;simp only[Bool.and_eq_true,decide_eq_true_eq] at hc;rw[decV_snoc,List.length_append,List.length_singleton,Nat.pow_succ];omega
 simpa using this l.reverse (by simpa using h)
theorem chunk_step{d:List UInt8}{k:Nat}{l:List Nat}(hl:l.length=k)(h:decV d=decV (d.take (d.length-9*k))*1000000000 ^ k+valL l)(hk:9*k<d.length) :
 decV d=decV (d.take (d.length-9*(k+1)))*1000000000 ^ (k+1)+valL (l++[decV ((d.take (d.length-9*k)).drop (d.length-9*k-9))]):=by
 rw[valL_append,hl];simp only[valL];have e:=decV_append ((d.take (d.length-9*k)).take (d.length-9*k-9)) ((d.take (d.length-9*k)).drop (d.length-9*k-9));rw[List.take_append_drop,List.take_take,show min (d.length-9*k-9) (d.length-9*k)=d.length-9*(k+1) by omega] at e
 rw[h,e];generalize decV ((d.take (d.length-9*k)).drop (d.length-9*k-9))=x;have hx:decV (d.take (d.length-9*(k+1)))*10 ^ ((d.take (d.length-9*k)).drop (d.length-9*k-9)).length=decV (d.take (d.length-9*(k+1)))*1000000000:=by
  by_cases h9:9≤d.length-9*k
  ·rw[List.length_drop,List.length_take,show min (d.length-9*k) d.length-(d.length-9*k-9)=9 by omega]
  ·rw[show d.length-9*(k+1)=0 by omega];simp[decV]
 rw[hx,Nat.pow_succ];generalize decV (d.take (d.length-9*(k+1)))=y;generalize (1000000000:Nat) ^ k=p;rw[Nat.add_mul,Nat.mul_zero,Nat.add_zero,Nat.mul_assoc,Nat.mul_comm 1000000000 p,Nat.mul_comm x p];omega
theorem str_nil{d:List UInt8}:(⟨d.toArray⟩:ByteArray)=⟨#[]⟩↔d=[]:=by
 constructor
 ·intro h;have:d.toArray=#[]:=congrArg ByteArray.data h
  simpa using this
 ·rintro rfl;rfl
theorem str_eq{s:ByteArray}{l:List UInt8}:s=⟨l.toArray⟩↔s.data.toList=l:=by
 constructor
 ·rintro rfl;simp
 ·rintro rfl;obtain⟨⟨x⟩⟩:=s;rfl
theorem byte_head{d:List UInt8}(h:d≠[]):byteAt ⟨d.toArray⟩ 0=((d.head h).toNat:Int):=by
 cases d with
 | nil=>exact absurd rfl h
 | cons c r=>simp[byteAt]
theorem extract_list(d:List UInt8)(a b:Nat):(⟨d.toArray⟩:ByteArray).extract a b=⟨((d.take b).drop a).toArray⟩:=by
 rw[str_eq];have h:=Lib.extract_toList ⟨d.toArray⟩ a b;have e:∀ s:ByteArray,s.toList=s.data.toList:=fun s=>by obtain⟨⟨l⟩⟩:=s;simp[ByteArray.toList_eq]
 rw[e] at h;rw[h]
 simp[List.drop_take]
set_option maxHeartbeats 2000000 in
theorem Parse_ok(s:ByteArray)(hs:s.size≤1000000000)(S:St):Triple P (C G) 163 [.str s] S fun o S'=>
 o=.ret (.tu [bigAV ((parseI s.data.toList).getD 0),.int .i64 (if (parseI s.data.toList).isSome then 0 else 10)])∧S'=S:=by
 refine triple_of_awp (hT G) hm Tryz.func163 rfl (by decide +kernel) rfl (by decide +kernel) (by show 1≤_;decide +kernel) rfl ?_
 refine awp_seq2 fun K hK hQ=>?_
 conv=>whnf
 intro rb hrb;conv=>whnf
 refine hK _ _ ?_;clear hK hQ K;refine awp_seq2 fun K hK hQ=>?_
 conv=>whnf
 refine(CutPrefix_ok s _ _).mono ?_;rintro o S' ⟨rfl,rfl⟩;conv=>whnf
 refine hK _ _ ?_;clear hK hQ K;generalize hd:Lib.trimPrefix s.data.toList [45]=d at *;generalize hneg:Lib.hasPrefix s.data.toList [45]=neg at *;have hdl:d.length≤1000000000:=by
  have h1:s.data.toList.length=s.size:=by rw[Array.length_toList];rfl
  rw[← hd];unfold Lib.trimPrefix;split<;>simp[h1]<;>omega
 refine awp_seq2 fun K hK hQ=>?_
 refine awp_seq2 fun K1 hK1 hQ1=>?_
 conv=>whnf
 refine split_of (fun h0=>?_) (fun h0=>?_)
 ·have h0:d=[]:=str_nil.1 (of_decide_eq_true h0)
  conv=>whnf
  refine hK1 _ _ ?_;clear hK1 hQ1 K1;refine awp_cond rfl (fun _=>?_) (fun hh=>by cases hh)
  have hnone:parseI s.data.toList=none:=by
   unfold parseI;rw[hd];exact if_pos (.inl h0)
  conv=>whnf
  refine⟨_,_,St.upd_same _ _ _,?_⟩;conv=>whnf
  refine hQ _ _ _ (by simp) ?_
  conv=>whnf
  refine⟨_,_,St.upd_same _ _ _,?_⟩;conv=>whnf
  refine⟨_,_,⟨rfl,rfl⟩,by rw[St.upd_upd];exact St.le_upd' (St.le_refl _) hrb _,?_⟩
  rw[hnone,Option.getD_none,bigAV_near (by decide)]
  exact AV.leS_refl _ _ _
 ·have h0:d≠[]:=fun e=>absurd (str_nil.2 e) (of_decide_eq_false h0)
  conv=>whnf
  refine⟨⟨by omega,by rw[size_list];have:=List.length_pos_iff.2 h0;omega⟩,?_⟩
  conv=>whnf
  have hhd:d.head? = some (d.head h0):=List.head?_eq_some_head h0
  have hbt:byteAt ⟨d.toArray⟩ (Int.toNat 0)=((d.head h0).toNat:Int):=byte_head h0
  refine split_of (fun h48=>?_) (fun h48=>?_)
  ·have h48:d.head? = some 48:=by
    rw[hbt] at h48;have:(d.head h0).toNat=48:=by have:=of_decide_eq_true h48;omega
    rw[hhd];exact congrArg some (UInt8.toNat_inj.1 this)
   conv=>whnf
   refine split_of (fun hs0=>?_) (fun hs0=>?_)
   ·have hs0:s.data.toList≠[48]:=fun e=>by
     have:=(str_eq (s:=s) (l:=[48])).2 e
     simp[this] at hs0
    conv=>whnf
    refine hK1 _ _ ?_;clear hK1 hQ1 K1;refine awp_cond rfl (fun _=>?_) (fun hh=>by cases hh)
    have hnone:parseI s.data.toList=none:=by
     unfold parseI;rw[hd];exact if_pos (.inr (.inl ⟨h48,hs0⟩))
    conv=>whnf
    refine⟨_,_,St.upd_same _ _ _,?_⟩;conv=>whnf
    refine hQ _ _ _ (by simp) ?_
    conv=>whnf
    refine⟨_,_,St.upd_same _ _ _,?_⟩;conv=>whnf
    refine⟨_,_,⟨rfl,rfl⟩,by rw[St.upd_upd];exact St.le_upd' (St.le_refl _) hrb _,?_⟩
    rw[hnone,Option.getD_none,bigAV_near (by decide)]
    exact AV.leS_refl _ _ _
   ·have hs0:s.data.toList=[48]:=by
     rw[← str_eq (s:=s) (l:=[48])]
     simpa using hs0
    conv=>whnf
    refine(ContainsFunc_ok (p:=noDigit) Parse1_ok _ _).mono ?_;rintro o S' ⟨rfl,rfl⟩;rw[idx_all];conv=>whnf
    refine hK1 _ _ ?_;clear hK1 hQ1 K1;refine awp_cond rfl (fun hall=>?_) (fun hall=>?_)
    ·have hall:d.all digitB=false:=by simpa using hall
     have hnone:parseI s.data.toList=none:=by
      unfold parseI;rw[hd];exact if_pos (.inr (.inr hall))
     conv=>whnf
     refine⟨_,_,St.upd_same _ _ _,?_⟩;conv=>whnf
     refine hQ _ _ _ (by simp) ?_
     conv=>whnf
     refine⟨_,_,St.upd_same _ _ _,?_⟩;conv=>whnf
     refine⟨_,_,⟨rfl,rfl⟩,by rw[St.upd_upd];exact St.le_upd' (St.le_refl _) hrb _,?_⟩
     rw[hnone,Option.getD_none,bigAV_near (by decide)]
     exact AV.leS_refl _ _ _
    ·have hall:d.all digitB=true:=by simpa using hall
     have hsome:parseI s.data.toList=some (if neg=true then -(decV d:Int) else (decV d:Int)):=by
      unfold parseI;rw[hd,hneg];exact if_neg (fun hh=>hh.elim h0 (fun hh=>hh.elim (fun hh=>hh.2 hs0) (fun hh=>by rw[hall] at hh;cases hh)))
     conv=>whnf
     refine hK _ _ ?_;clear hK hQ K;refine awp_seq2 fun K hK hQ=>?_
     conv=>whnf
     refine hK _ _ ?_;clear hK hQ K;refine awp_seq2 fun K hK hQ=>?_
     conv=>whnf
     refine⟨⟨Nat×List Nat×Nat,fun(k,l,bb)=>[(2,.ref rb 0),(4,.str ⟨d.toArray⟩),(5,.bool neg),(6,.sl (.acc bb) 1 (rowsU l)),(7,.int .i64 ((d.length:Int)-9*(k:Int)))],
      fun(k,l,bb) S'=>AccOk (S.upd rb (.obj 244 [AV.int IntKind.i64 0,AV.bool false,AV.nils])) S' 224 1 bb l.length∧l.length=k∧decV d=decV (d.take (d.length-9*k))*1000000000 ^ k+valL l∧(∀ x∈l,x<1000000000)∧9*k≤d.length+8,
      fun(k,_,_)=>d.length+9-9*k⟩,⟨(0,[],0),⟨rfl,rfl,rfl,rfl,congrArg (AV.int .i64) (show(((⟨d.toArray⟩:ByteArray).size:Nat):Int)=(d.length:Int)-9*((0:Nat):Int) by rw[size_list];omega),trivial⟩,_,St.leW_refl _,AccOk.init ..,rfl,by simp[valL],by simp,by omega⟩,?_⟩
     rintro⟨(k:Nat),(l:List Nat),(bb:Nat)⟩ S₁ ⟨h1,h2,h3,h4,h5⟩;conv=>whnf
     refine split_of (fun hlt=>?_) (fun hlt=>?_)
     ·have hlt:9*k<d.length:=by have:=of_decide_eq_true hlt;omega
      have hfr:(if (0:Int) > IntKind.i64.wrap ((d.length:Int)-9*(k:Int)-9) then 0 else IntKind.i64.wrap ((d.length:Int)-9*(k:Int)-9))=((d.length-9*k-9:Nat):Int):=by
       rw[wrap_i64 (by omega) (by omega)];split<;>omega
      conv=>whnf
      refine⟨⟨by show(0:Int)≤ite _ _ _;rw[hfr];omega,by show ite _ _ _≤_;rw[hfr];omega,by rw[size_list];omega⟩,?_⟩
      conv=>whnf
      intro it hit;conv=>whnf
      generalize hch:(d.take (d.length-9*k)).drop (d.length-9*k-9)=ch at *;have hext:(⟨d.toArray⟩:ByteArray).extract (if (0:Int) > IntKind.i64.wrap ((d.length:Int)-9*(k:Int)-9) then 0 else IntKind.i64.wrap ((d.length:Int)-9*(k:Int)-9)).toNat ((d.length:Int)-9*(k:Int)).toNat=⟨ch.toArray⟩:=by
       rw[hfr,extract_list,← hch];congr 4<;>omega
      have hc9:ch.length≤9:=by rw[← hch,List.length_drop,List.length_take];omega
      have hcd:ch.all digitB=true:=by
       rw[List.all_eq_true] at hall ⊢;intro x hx;rw[← hch] at hx;exact hall x (List.mem_of_mem_take (List.mem_of_mem_drop hx))
      refine⟨⟨Nat,fun pos=>[(2,.ref rb 0),(4,.str ⟨d.toArray⟩),(5,.bool neg),(6,.sl (.acc bb) 1 (rowsU l)),(7,.int .i64 ((d.length:Int)-9*(k:Int))),(8,.int .u32 ((decV (ch.take pos):Nat):Int)),(44,.ref it 0)],
       fun pos S'=>S'=S₁.upd it (.siter ⟨ch.toArray⟩ pos)∧pos≤ch.length,fun pos=>ch.length-pos⟩,
       ⟨0,⟨rfl,rfl,rfl,rfl,rfl,rfl,rfl,trivial⟩,_,St.leW_refl _,congrArg (fun x=>S₁.upd it (.siter x 0)) hext,by omega⟩,?_⟩
      rintro(pos:Nat) S₂ ⟨rfl,hpos⟩;conv=>whnf
      refine⟨_,_,St.upd_same _ _ _,?_⟩;conv=>whnf
      refine split_of (fun hlp=>?_) (fun hlp=>?_)
      ·have hlp:pos<ch.length:=by simpa [size_list] using hlp
       have hsz:pos<(⟨ch.toArray⟩:ByteArray).size:=by rw[size_list];exact hlp
       have hdig:digitB ch[pos]=true:=List.all_eq_true.1 hcd _ (List.getElem_mem hlp)
       have hdg:48≤ch[pos].toNat∧ch[pos].toNat≤57:=by unfold digitB at hdig;simpa using hdig
       have hdec:Utf8.decode ⟨ch.toArray⟩ pos=(ch[pos].toNat,1):=decode_ascii ⟨ch.toArray⟩ pos hsz (show ch[pos].toNat<128 by omega)
       rw[hdec];have hx8:decV (ch.take pos)<100000000:=Nat.lt_of_lt_of_le (decV_lt _ (by rw[List.all_eq_true] at hcd ⊢;exact fun x hx=>hcd x (List.mem_of_mem_take hx))) (Nat.le_trans (Nat.pow_le_pow_right (by omega) (show _≤8 by rw[List.length_take];omega)) (by decide))
       have hstep:decV (ch.take (pos+1))=10*decV (ch.take pos)+(ch[pos].toNat-48):=by rw[← decV_snoc,List.take_append_getElem]
       have hval:IntKind.u32.wrap (IntKind.u32.wrap (10*((decV (ch.take pos):Nat):Int))+IntKind.u32.wrap (IntKind.i32.wrap ((ch[pos].toNat:Int)-48)))=((decV (ch.take (pos+1)):Nat):Int):=by
        rw[hstep,IntKind.wrap_u32,IntKind.wrap_u32,IntKind.wrap_u32,show IntKind.i32.wrap ((ch[pos].toNat:Int)-48)=(ch[pos].toNat:Int)-48 by rw[IntKind.wrap_i32];omega];omega
       conv=>whnf
       exact⟨pos+1,⟨rfl,rfl,rfl,rfl,rfl,congrArg (AV.int .u32) hval,rfl,trivial⟩,⟨_,St.leW_refl _,by rw[St.upd_upd],by omega⟩,by show ch.length-(pos+1)<ch.length-pos;omega⟩
      ·have hlp:pos=ch.length:=by
        have:¬ pos<ch.length:=by simpa [size_list] using hlp
        omega
       subst hlp;conv=>whnf
       intro b0 hb0;conv=>whnf
       have h1':=(h1.other hit (.siter ⟨ch.toArray⟩ ch.length)).other hb0 (.tip 224 1 1)
       refine⟨⟨fun h=>by have:=h1'.tip (List.length_pos_iff.2 (fun e=>h (by rw[e];rfl)));rw[rowsU_len];exact this,by show _*4≤_;simp;omega⟩,?_⟩
       conv=>whnf
       intro S₂ k1 k2 b' hb';conv=>whnf
       have hcl:=chunk_step h2 h3 hlt
       rw[hch] at hcl;have hcv:decV ch<1000000000:=Nat.lt_of_lt_of_le (decV_lt _ hcd) (Nat.le_trans (Nat.pow_le_pow_right (by omega) hc9) (by decide))
       refine⟨(k+1,l++[decV ch],b'),⟨rfl,rfl,rfl,congrArg _ (show rowsU l++[[AV.int .u32 ((decV (ch.take ch.length):Nat):Int)]]=rowsU (l++[decV ch]) by rw[List.take_length,rowsU_snoc]),congrArg (AV.int .i64) (show IntKind.i64.wrap ((d.length:Int)-9*(k:Int)-9)=(d.length:Int)-9*((k+1:Nat):Int) by rw[wrap_i64 (by omega) (by omega)];omega),trivial⟩,
        ⟨_,St.leW_refl _,h1'.push (es:=rowsU l) (by simp) k1 k2 hb' (by simp),by simp[h2],hcl,?_,by omega⟩,by show d.length+9-9*(k+1)<d.length+9-9*k;omega⟩
       intro x hx
       rcases List.mem_append.1 hx with hx | hx
       ·exact h4 x hx
       ·simp at hx;omega
     ·have hlt:d.length≤9*k:=by have:=of_decide_eq_false hlt;omega
      have hv:valL l=decV d:=by rw[h3,show d.length-9*k=0 by omega];simp[decV]
      conv=>whnf
      refine hK _ _ ?_;clear hK hQ K;conv=>whnf
      refine Triple.use (made_ok neg l h4 (by omega) _) (by exact⟨⟨rfl,rfl⟩,rfl,trivial⟩) ?_
      rintro o S' ⟨rfl,rfl⟩;rw[hv];generalize hz:(if neg=true then -(decV d:Int) else (decV d:Int))=z at *;have hfin:∀ (x:AV) (T:St),x=bigAV z→AV.leS T S (.tu [x,.int .i64 0]) (.tu [bigAV ((parseI s.data.toList).getD 0),.int .i64 (if (parseI s.data.toList).isSome=true then 0 else 10)]):=by
       rintro x T rfl;rw[hsome];exact AV.leS_refl _ _ _
      by_cases hzn:near z
      ·rw[bigAV_near hzn];conv=>whnf
       refine⟨_,_,h1.le _ _ (St.upd_same _ _ _),?_⟩;conv=>whnf
       refine⟨_,_,St.upd_same _ _ _,?_⟩;conv=>whnf
       exact⟨_,_,⟨rfl,rfl⟩,St.le_upd (St.le_trans (St.le_upd' (St.le_refl _) hrb _) h1.le) hrb _,hfin _ _ (bigAV_near hzn).symm⟩
      ·rw[bigAV_far hzn];conv=>whnf
       refine⟨_,_,h1.le _ _ (St.upd_same _ _ _),?_⟩;conv=>whnf
       refine⟨_,_,St.upd_same _ _ _,?_⟩;conv=>whnf
       exact⟨_,_,⟨rfl,rfl⟩,St.le_upd (St.le_trans (St.le_upd' (St.le_refl _) hrb _) h1.le) hrb _,hfin _ _ (bigAV_far hzn).symm⟩
  ·have h48:¬ d.head? = some 48:=fun e=>by
    rw[hbt] at h48;rw[hhd] at e;have:(d.head h0)=48:=Option.some.inj e;rw[this] at h48;cases h48
   conv=>whnf
   refine(ContainsFunc_ok (p:=noDigit) Parse1_ok _ _).mono ?_;rintro o S' ⟨rfl,rfl⟩;rw[idx_all];conv=>whnf
   refine hK1 _ _ ?_;clear hK1 hQ1 K1;refine awp_cond rfl (fun hall=>?_) (fun hall=>?_)
   ·have hall:d.all digitB=false:=by simpa using hall
    have hnone:parseI s.data.toList=none:=by
     unfold parseI;rw[hd];exact if_pos (.inr (.inr hall))
    conv=>whnf
    refine⟨_,_,St.upd_same _ _ _,?_⟩;conv=>whnf
    refine hQ _ _ _ (by simp) ?_
    conv=>whnf
    refine⟨_,_,St.upd_same _ _ _,?_⟩;conv=>whnf
    refine⟨_,_,⟨rfl,rfl⟩,by rw[St.upd_upd];exact St.le_upd' (St.le_refl _) hrb _,?_⟩
    rw[hnone,Option.getD_none,bigAV_near (by decide)]
    exact AV.leS_refl _ _ _
   ·have hall:d.all digitB=true:=by simpa using hall
    have hsome:parseI s.data.toList=some (if neg=true then -(decV d:Int) else (decV d:Int)):=by
     unfold parseI;rw[hd,hneg];exact if_neg (fun hh=>hh.elim h0 (fun hh=>hh.elim (fun hh=>h48 hh.1) (fun hh=>by rw[hall] at hh;cases hh)))
    conv=>whnf
    refine hK _ _ ?_;clear hK hQ K;refine awp_seq2 fun K hK hQ=>?_
    conv=>whnf
    refine hK _ _ ?_;clear hK hQ K;refine awp_seq2 fun K hK hQ=>?_
    conv=>whnf
    refine⟨⟨Nat×List Nat×Nat,fun(k,l,bb)=>[(2,.ref rb 0),(4,.str ⟨d.toArray⟩),(5,.bool neg),(6,.sl (.acc bb) 1 (rowsU l)),(7,.int .i64 ((d.length:Int)-9*(k:Int)))],
     fun(k,l,bb) S'=>AccOk (S.upd rb (.obj 244 [AV.int IntKind.i64 0,AV.bool false,AV.nils])) S' 224 1 bb l.length∧l.length=k∧decV d=decV (d.take (d.length-9*k))*1000000000 ^ k+valL l∧(∀ x∈l,x<1000000000)∧9*k≤d.length+8,
     fun(k,_,_)=>d.length+9-9*k⟩,⟨(0,[],0),⟨rfl,rfl,rfl,rfl,congrArg (AV.int .i64) (show(((⟨d.toArray⟩:ByteArray).size:Nat):Int)=(d.length:Int)-9*((0:Nat):Int) by rw[size_list];omega),trivial⟩,_,St.leW_refl _,AccOk.init ..,rfl,by simp[valL],by simp,by omega⟩,?_⟩
    rintro⟨(k:Nat),(l:List Nat),(bb:Nat)⟩ S₁ ⟨h1,h2,h3,h4,h5⟩;conv=>whnf
    refine split_of (fun hlt=>?_) (fun hlt=>?_)
    ·have hlt:9*k<d.length:=by have:=of_decide_eq_true hlt;omega
     have hfr:(if (0:Int) > IntKind.i64.wrap ((d.length:Int)-9*(k:Int)-9) then 0 else IntKind.i64.wrap ((d.length:Int)-9*(k:Int)-9))=((d.length-9*k-9:Nat):Int):=by
      rw[wrap_i64 (by omega) (by omega)];split<;>omega
     conv=>whnf
     refine⟨⟨by show(0:Int)≤ite _ _ _;rw[hfr];omega,by show ite _ _ _≤_;rw[hfr];omega,by rw[size_list];omega⟩,?_⟩
     conv=>whnf
     intro it hit;conv=>whnf
     generalize hch:(d.take (d.length-9*k)).drop (d.length-9*k-9)=ch at *;have hext:(⟨d.toArray⟩:ByteArray).extract (if (0:Int) > IntKind.i64.wrap ((d.length:Int)-9*(k:Int)-9) then 0 else IntKind.i64.wrap ((d.length:Int)-9*(k:Int)-9)).toNat ((d.length:Int)-9*(k:Int)).toNat=⟨ch.toArray⟩:=by
      rw[hfr,extract_list,← hch];congr 4<;>omega
     have hc9:ch.length≤9:=by rw[← hch,List.length_drop,List.length_take];omega
     have hcd:ch.all digitB=true:=by
      rw[List.all_eq_true] at hall ⊢;intro x hx;rw[← hch] at hx;exact hall x (List.mem_of_mem_take (List.mem_of_mem_drop hx))
     refine⟨⟨Nat,fun pos=>[(2,.ref rb 0),(4,.str ⟨d.toArray⟩),(5,.bool neg),(6,.sl (.acc bb) 1 (rowsU l)),(7,.int .i64 ((d.length:Int)-9*(k:Int))),(8,.int .u32 ((decV (ch.take pos):Nat):Int)),(44,.ref it 0)],
      fun pos S'=>S'=S₁.upd it (.siter ⟨ch.toArray⟩ pos)∧pos≤ch.length,fun pos=>ch.length-pos⟩,
      ⟨0,⟨rfl,rfl,rfl,rfl,rfl,rfl,rfl,trivial⟩,_,St.leW_refl _,congrArg (fun x=>S₁.upd it (.siter x 0)) hext,by omega⟩,?_⟩
     rintro(pos:Nat) S₂ ⟨rfl,hpos⟩;conv=>whnf
     refine⟨_,_,St.upd_same _ _ _,?_⟩;conv=>whnf
     refine split_of (fun hlp=>?_) (fun hlp=>?_)
     ·have hlp:pos<ch.length:=by simpa [size_list] using hlp
      have hsz:pos<(⟨ch.toArray⟩:ByteArray).size:=by rw[size_list];exact hlp
      have hdig:digitB ch[pos]=true:=List.all_eq_true.1 hcd _ (List.getElem_mem hlp)
      have hdg:48≤ch[pos].toNat∧ch[pos].toNat≤57:=by unfold digitB at hdig;simpa using hdig
      have hdec:Utf8.decode ⟨ch.toArray⟩ pos=(ch[pos].toNat,1):=decode_ascii ⟨ch.toArray⟩ pos hsz (show ch[pos].toNat<128 by omega)
      rw[hdec];have hx8:decV (ch.take pos)<100000000:=Nat.lt_of_lt_of_le (decV_lt _ (by rw[List.all_eq_true] at hcd ⊢;exact fun x hx=>hcd x (List.mem_of_mem_take hx))) (Nat.le_trans (Nat.pow_le_pow_right (by omega) (show _≤8 by rw[List.length_take];omega)) (by decide))
      have hstep:decV (ch.take (pos+1))=10*decV (ch.take pos)+(ch[pos].toNat-48):=by rw[← decV_snoc,List.take_append_getElem]
      have hval:IntKind.u32.wrap (IntKind.u32.wrap (10*((decV (ch.take pos):Nat):Int))+IntKind.u32.wrap (IntKind.i32.wrap ((ch[pos].toNat:Int)-48)))=((decV (ch.take (pos+1)):Nat):Int):=by
       rw[hstep,IntKind.wrap_u32,IntKind.wrap_u32,IntKind.wrap_u32,show IntKind.i32.wrap ((ch[pos].toNat:Int)-48)=(ch[pos].toNat:Int)-48 by rw[IntKind.wrap_i32];omega];omega
      conv=>whnf
      exact⟨pos+1,⟨rfl,rfl,rfl,rfl,rfl,congrArg (AV.int .u32) hval,rfl,trivial⟩,⟨_,St.leW_refl _,by rw[St.upd_upd],by omega⟩,by show ch.length-(pos+1)<ch.length-pos;omega⟩
     ·have hlp:pos=ch.length:=by
       have:¬ pos<ch.length:=by simpa [size_list] using hlp
       omega
      subst hlp;conv=>whnf
      intro b0 hb0;conv=>whnf
      have h1':=(h1.other hit (.siter ⟨ch.toArray⟩ ch.length)).other hb0 (.tip 224 1 1)
      refine⟨⟨fun h=>by have:=h1'.tip (List.length_pos_iff.2 (fun e=>h (by rw[e];rfl)));rw[rowsU_len];exact this,by show _*4≤_;simp;omega⟩,?_⟩
      conv=>whnf
      intro S₂ k1 k2 b' hb';conv=>whnf
      have hcl:=chunk_step h2 h3 hlt
      rw[hch] at hcl;have hcv:decV ch<1000000000:=Nat.lt_of_lt_of_le (decV_lt _ hcd) (Nat.le_trans (Nat.pow_le_pow_right (by omega) hc9) (by decide))
      refine⟨(k+1,l++[decV ch],b'),⟨rfl,rfl,rfl,congrArg _ (show rowsU l++[[AV.int .u32 ((decV (ch.take ch.length):Nat):Int)]]=rowsU (l++[decV ch]) by rw[List.take_length,rowsU_snoc]),congrArg (AV.int .i64) (show IntKind.i64.wrap ((d.length:Int)-9*(k:Int)-9)=(d.length:Int)-9*((k+1:Nat):Int) by rw[wrap_i64 (by omega) (by omega)];omega),trivial⟩,
       ⟨_,St.leW_refl _,h1'.push (es:=rowsU l) (by simp) k1 k2 hb' (by simp),by simp[h2],hcl,?_,by omega⟩,by show d.length+9-9*(k+1)<d.length+9-9*k;omega⟩
      intro x hx
      rcases List.mem_append.1 hx with hx | hx
      ·exact h4 x hx
      ·simp at hx;omega
    ·have hlt:d.length≤9*k:=by have:=of_decide_eq_false hlt;omega
     have hv:valL l=decV d:=by rw[h3,show d.length-9*k=0 by omega];simp[decV]
     conv=>whnf
     refine hK _ _ ?_;clear hK hQ K;conv=>whnf
     refine Triple.use (made_ok neg l h4 (by omega) _) (by exact⟨⟨rfl,rfl⟩,rfl,trivial⟩) ?_
     rintro o S' ⟨rfl,rfl⟩;rw[hv];generalize hz:(if neg=true then -(decV d:Int) else (decV d:Int))=z at *;have hfin:∀ (x:AV) (T:St),x=bigAV z→AV.leS T S (.tu [x,.int .i64 0]) (.tu [bigAV ((parseI s.data.toList).getD 0),.int .i64 (if (parseI s.data.toList).isSome=true then 0 else 10)]):=by
      rintro x T rfl;rw[hsome];exact AV.leS_refl _ _ _
     by_cases hzn:near z
     ·rw[bigAV_near hzn];conv=>whnf
      refine⟨_,_,h1.le _ _ (St.upd_same _ _ _),?_⟩;conv=>whnf
      refine⟨_,_,St.upd_same _ _ _,?_⟩;conv=>whnf
      exact⟨_,_,⟨rfl,rfl⟩,St.le_upd (St.le_trans (St.le_upd' (St.le_refl _) hrb _) h1.le) hrb _,hfin _ _ (bigAV_near hzn).symm⟩
     ·rw[bigAV_far hzn];conv=>whnf
      refine⟨_,_,h1.le _ _ (St.upd_same _ _ _),?_⟩;conv=>whnf
      refine⟨_,_,St.upd_same _ _ _,?_⟩;conv=>whnf
      exact⟨_,_,⟨rfl,rfl⟩,St.le_upd (St.le_trans (St.le_upd' (St.le_refl _) hrb _) h1.le) hrb _,hfin _ _ (bigAV_far hzn).symm⟩
structure CarOk (S₀:St) (b:Nat) (l:List Nat) (c:Int) (bb:Nat) (S:St):Prop where
 le:St.le S₀ S
 nb:S₀ b=none
 at_:S b=some (.obj 282 [.sl (.acc bb) 1 (rowsU l),.int .i64 c])
 tip:l≠[]→S bb=some (.tip 224 1 l.length)
 nbb:l≠[]→S₀ bb=none
theorem CarOk.ne{S₀:St}{b:Nat}{l:List Nat}{c:Int}{bb:Nat}{S:St}(h:CarOk S₀ b l c bb S)(hl:l≠[]):bb≠b:=fun e=>by
 have h1:=h.tip hl;rw[e,h.at_] at h1;cases h1
theorem CarOk.carry{S₀:St}{b:Nat}{l:List Nat}{c:Int}{bb:Nat}{S:St}(h:CarOk S₀ b l c bb S)(c':Int):CarOk S₀ b l c' bb (S.upd b (.obj 282 [.sl (.acc bb) 1 (rowsU l),.int .i64 c'])):=
 ⟨St.le_upd h.le h.nb _,h.nb,St.upd_same _ _ _,fun hl=>St.ov (h.ne hl) (h.tip hl),h.nbb⟩
theorem CarOk.other{S₀:St}{b:Nat}{l:List Nat}{c:Int}{bb:Nat}{S:St}(h:CarOk S₀ b l c bb S){b0:Nat}(hb:S b0=none)(o:Own):CarOk S₀ b l c bb (S.upd b0 o):=
 ⟨St.le_upd' h.le hb o,h.nb,St.up hb h.at_,fun hl=>St.up hb (h.tip hl),h.nbb⟩
theorem CarOk.push{S₀:St}{b:Nat}{l:List Nat}{c:Int}{bb:Nat}{S:St}(h:CarOk S₀ b l c bb S){S₂:St}(k1:rowsU l=[]→S₂=S)(k2:rowsU l≠[]→S₂=S.del bb){b':Nat}(hb:S₂ b'=none)(d:Nat){n:Nat}(hn:n=l.length+1) :
 CarOk S₀ b (l++[d]) c b' ((S₂.upd b' (.tip 224 1 n)).upd b (.obj 282 [.sl (.acc b') 1 (rowsU (l++[d])),.int .i64 c])):=by
 subst hn;have hle:St.le S₀ S₂:=by
  by_cases he:l=[]
  ·rw[k1 (by rw[he];rfl)];exact h.le
  ·rw[k2 (rowsU_ne he)];exact St.le_del h.le (h.nbb he)
 have hS₂b:S₂ b=some (.obj 282 [.sl (.acc bb) 1 (rowsU l),.int .i64 c]):=by
  by_cases he:l=[]
  ·rw[k1 (by rw[he];rfl)];exact h.at_
  ·rw[k2 (rowsU_ne he)];exact(St.del_ne _ _ _ (h.ne he).symm).trans h.at_
 have hne:b'≠b:=St.ne_of' hb hS₂b
 exact⟨St.le_upd (St.le_upd' hle hb _) h.nb _,h.nb,St.upd_same _ _ _,fun _=>St.ov hne (by rw[St.upd_same];simp),fun _=>St.le_none hle hb⟩
theorem CarOk.pushAt{S₀:St}{b:Nat}{l:List Nat}{c:Int}{bb:Nat}{S:St}(h:CarOk S₀ b l c bb S){S₂:St}(k1:rowsU l=[]→S₂=S)(k2:rowsU l≠[]→S₂=S.del bb){b':Nat}(hb:S₂ b'=none)(o:Own) :
 (S₂.upd b' o) b=some (.obj 282 [.sl (.acc bb) 1 (rowsU l),.int .i64 c]):=by
 refine St.up hb ?_
 by_cases he:l=[]
 ·rw[k1 (by rw[he];rfl)];exact h.at_
 ·rw[k2 (rowsU_ne he)];exact(St.del_ne _ _ _ (h.ne he).symm).trans h.at_
theorem tdiv_ten(y:Int):y=1000000000*y.tdiv 1000000000+y.tmod 1000000000∧-1000000000<y.tmod 1000000000∧y.tmod 1000000000<1000000000:=by
 refine⟨(Int.mul_tdiv_add_tmod y 1000000000).symm,?_,Int.tmod_lt_of_pos _ (by decide)⟩
 by_cases h:y<0
 ·have:=Int.neg_tmod (a:=y) (b:=1000000000)
  have h2:=Int.tmod_lt_of_pos (-y) (b:=1000000000) (by decide)
  omega
 ·have:=Int.tmod_nonneg (b:=1000000000) (a:=y) (by omega)
  omega
set_option maxHeartbeats 1000000 in
theorem next_ok{S₀:St}{b:Nat}{l:List Nat}{c:Int}{bb:Nat}{S:St}(h:CarOk S₀ b l c bb S)(hl:l.length≤1000000000)(x:Int)(h0:-4611686018427387904<x+c)(h1:x+c<4611686018427387904) :
 Triple P (C G) 202 [.ref b 0,.int .i64 x] S fun o S'=>o=.ret (.tu [])∧∃ b',CarOk S₀ b (l++[((x+c) % 1000000000).toNat]) ((x+c) / 1000000000) b' S':=by
 refine triple_of_awp (hT G) hm Tryz.func202 rfl (by decide +kernel) rfl (by decide +kernel) (by show 2≤_;decide +kernel) rfl ?_
 conv=>whnf
 refine⟨_,_,h.at_,?_⟩;conv=>whnf
 refine⟨by decide,?_⟩
 conv=>whnf
 refine⟨_,_,h.at_,?_⟩;conv=>whnf
 have h2:=h.carry (IntKind.i64.wrap ((IntKind.i64.wrap (x+c)).tdiv 1000000000))
 have e1:IntKind.i64.wrap (x+c)=x+c:=wrap_i64 (by omega) (by omega)
 obtain⟨hy,hy1,hy2⟩:=tdiv_ten (x+c);refine⟨by decide,?_⟩
 conv=>whnf
 rw[e1] at h2 ⊢;generalize (x+c).tdiv 1000000000=q at *;generalize (x+c).tmod 1000000000=r at *;generalize hyy:x+c=y at *;have e2:IntKind.i64.wrap q=q:=wrap_i64 (by omega) (by omega)
 rw[e2] at h2 ⊢;refine split_of (fun hr=>?_) (fun hr=>?_)
 ·have hr:r<0:=of_decide_eq_true hr
  conv=>whnf
  refine⟨_,_,h2.at_,?_⟩;conv=>whnf
  refine⟨_,_,h2.at_,?_⟩;conv=>whnf
  have h3:=h2.carry (IntKind.i64.wrap (q-1))
  have e3:IntKind.i64.wrap (q-1)=q-1:=wrap_i64 (by omega) (by omega)
  have e4:IntKind.i64.wrap (r+1000000000)=r+1000000000:=wrap_i64 (by omega) (by omega)
  rw[e3] at h3 ⊢;rw[e4];refine⟨_,_,h3.at_,?_⟩;conv=>whnf
  intro b0 hb0;conv=>whnf
  have h4:=h3.other hb0 (.tip 224 1 1)
  refine⟨⟨fun hne=>by have:=h4.tip (fun e=>hne (by rw[e];rfl));rw[rowsU_len];exact this,by show _*4≤_;simp;omega⟩,?_⟩
  conv=>whnf
  intro S₂ k1 k2 b' hb';conv=>whnf
  refine⟨_,_,h4.pushAt k1 k2 hb' _,?_⟩;conv=>whnf
  refine⟨_,_,⟨rfl,b',?_⟩,St.le_refl _,AV.leS_refl _ _ _⟩;have h5:=h4.push k1 k2 hb' (y % 1000000000).toNat (by simp:(rowsU l).length+[[AV.int .u32 (IntKind.u32.wrap (r+1000000000))]].length=l.length+1)
  rw[show rowsU l++[[AV.int .u32 (IntKind.u32.wrap (r+1000000000))]]=rowsU (l++[(y % 1000000000).toNat]) by rw[← rowsU_snoc];congr 4;rw[IntKind.wrap_u32];omega]
  rw[show q-1=y / 1000000000 by omega] at h5 ⊢
  exact h5
 ·have hr:¬ r<0:=of_decide_eq_false hr
  have h3:=h2
  conv=>whnf
  refine⟨_,_,h3.at_,?_⟩;conv=>whnf
  intro b0 hb0;conv=>whnf
  have h4:=h3.other hb0 (.tip 224 1 1)
  refine⟨⟨fun hne=>by have:=h4.tip (fun e=>hne (by rw[e];rfl));rw[rowsU_len];exact this,by show _*4≤_;simp;omega⟩,?_⟩
  conv=>whnf
  intro S₂ k1 k2 b' hb';conv=>whnf
  refine⟨_,_,h4.pushAt k1 k2 hb' _,?_⟩;conv=>whnf
  refine⟨_,_,⟨rfl,b',?_⟩,St.le_refl _,AV.leS_refl _ _ _⟩;have h5:=h4.push k1 k2 hb' (y % 1000000000).toNat (by simp:(rowsU l).length+[[AV.int .u32 (IntKind.u32.wrap r)]].length=l.length+1)
  rw[show rowsU l++[[AV.int .u32 (IntKind.u32.wrap r)]]=rowsU (l++[(y % 1000000000).toNat]) by rw[← rowsU_snoc];congr 4;rw[IntKind.wrap_u32];omega]
  rw[show q=y / 1000000000 by omega] at h5 ⊢
  exact h5
theorem limb_ok(l:List Nat)(hd:∀ d∈l,d<1000000000)(hl:l.length≤1000000000)(i:Nat)(S:St):Triple P (C G) 205 [.sl .any 1 (rowsU l),.int .i64 (i:Int)] S fun o S'=>o=.ret (.int .i64 ((l.getD i 0:Nat):Int))∧S'=S:=by
 refine triple_of_awp (hT G) hm Tryz.func205 rfl (by decide +kernel) rfl (by decide +kernel) (by show 2≤_;decide +kernel) rfl ?_
 conv=>whnf
 intro _;conv=>whnf
 refine split_of (fun h=>?_) (fun h=>?_)
 ·have h:i<l.length:=by have:=of_decide_eq_true h;rw[rowsU_len] at this;omega
  conv=>whnf
  refine⟨[.int .u32 ((l[i]:Nat):Int)],⟨by omega,by simp[rowsU,h]⟩,?_⟩
  conv=>whnf
  have hdd:=hd _ (List.getElem_mem h)
  refine⟨_,_,⟨rfl,rfl⟩,St.le_refl _,?_⟩;rw[wrap_i64 (by omega) (by omega),show l.getD i 0=l[i] by simp[List.getD,h]]
  exact AV.leS_refl _ _ _
 ·have h:l.length≤i:=by have:=of_decide_eq_false h;rw[rowsU_len] at this;omega
  conv=>whnf
  refine⟨_,_,⟨rfl,rfl⟩,St.le_refl _,?_⟩;rw[show l.getD i 0=0 by simp[List.getD,h]]
  exact AV.leS_refl _ _ _
theorem end_awp{S₀:St}{b:Nat}{l:List Nat}{c:Nat}{bb:Nat}{S:St}(h:CarOk S₀ b l (c:Int) bb S)(hl:l.length≤100000000)(hc:c<4611686018427387904) :
 TripleD P (C G) 204 [.ref b 0] S fun o S'=>o=.ret (.tu [])∧∃ b',CarOk S₀ b (l++limbs c) 0 b' S':=by
 have hlen:(limbs c).length≤3:=limbs_len 3 _ (by omega)
 refine tripleD_of_awp (hT G) hm Tryz.func204 rfl (by decide +kernel) rfl (by decide +kernel) (by decide +kernel) (by show 1≤_;decide +kernel) rfl ?_
 conv=>whnf
 refine⟨⟨Nat×List Nat×Nat,fun(c',l',bb')=>[(0,.ref b 0)],fun(c',l',bb') S'=>CarOk S₀ b l' (c':Int) bb' S'∧l'++limbs c'=l++limbs c∧c'≤c,fun(c',_,_)=>c'⟩,
  ⟨(c,l,bb),⟨rfl,trivial⟩,_,St.leW_refl _,h,rfl,Nat.le_refl _⟩,?_⟩
 rintro⟨(c':Nat),(l':List Nat),(bb':Nat)⟩ S₁ ⟨h1,h2,h3⟩;have hl':l'.length≤l.length+3:=by have:=congrArg List.length h2;simp at this;omega
 conv=>whnf
 refine⟨_,_,h1.at_,?_⟩;conv=>whnf
 refine split_of (fun hp=>?_) (fun hp=>?_)
 ·have hp:0<c':=by simpa using hp
  conv=>whnf
  refine(next_ok h1 (by omega) 0 (by omega) (by omega)).mono ?_
  rintro o S' ⟨rfl,b',h5⟩;conv=>whnf
  rw[show((0+(c':Int)) % 1000000000).toNat=c' % 1000000000 by omega,show(0+(c':Int)) / 1000000000=((c' / 1000000000:Nat):Int) by omega] at h5
  exact⟨(c' / 1000000000,l'++[c' % 1000000000],b'),⟨rfl,trivial⟩,⟨_,St.leW_refl _,h5,by rw[← h2,limbs_pos hp];simp,by omega⟩,by show c' / 1000000000<c';omega⟩
 ·have hp:c'=0:=by simpa using hp
  subst hp;conv=>whnf
  have h2:l'=l++limbs c:=by simpa [limbs_zero] using h2
  subst h2;exact⟨_,_,⟨rfl,bb',h1⟩,St.le_refl _,AV.leS_refl _ _ _⟩
def joL(f:Nat→Int):Nat→List Nat×Int
 | 0=>([],0)
 | n+1=>((joL f n).1++[((f n+(joL f n).2) % 1000000000).toNat],(f n+(joL f n).2) / 1000000000)
def joF(a b:List Nat)(s:Int)(i:Nat):Int:=((a.getD i 0:Nat):Int)+s*((b.getD i 0:Nat):Int)
def joG(a b:List Nat)(s:Int):List Nat:=
 (joL (joF a b s) (max a.length b.length)).1++limbs (joL (joF a b s) (max a.length b.length)).2.toNat
theorem joL_len(f:Nat→Int):∀ n,(joL f n).1.length=n
 | 0=>rfl
 | n+1=>by simp[joL,joL_len f n]
theorem joF_bnd{a b:List Nat}(ha:∀ d∈a,d<1000000000)(hb:∀ d∈b,d<1000000000){s:Int}(hs:s=1∨s=-1)(i:Nat):-1000000000<joF a b s i∧joF a b s i≤1999999998:=by
 have h1:∀ l:List Nat,(∀ d∈l,d<1000000000)→l.getD i 0<1000000000:=fun l hl=>by
  by_cases h:i<l.length
  ·rw[show l.getD i 0=l[i] by simp[List.getD,h]];exact hl _ (List.getElem_mem h)
  ·rw[show l.getD i 0=0 by simp[List.getD,Nat.le_of_not_lt h]];decide
 have:=h1 a ha
 have:=h1 b hb
 unfold joF
 rcases hs with rfl | rfl<;>omega
theorem joL_bnd{f:Nat→Int}(hf:∀ i,-1000000000<f i∧f i≤1999999998):∀ n,-1≤(joL f n).2∧(joL f n).2≤1
 | 0=>by simp[joL]
 | n+1=>by
   have:=joL_bnd hf n
   have:=hf n
   simp only[joL];omega
theorem joL_dig(f:Nat→Int):∀ n,∀ d∈(joL f n).1,d<1000000000
 | 0=>by simp[joL]
 | n+1=>by
   intro d hd;simp only[joL,List.mem_append,List.mem_singleton] at hd
   rcases hd with hd | rfl
   ·exact joL_dig f n d hd
   ·omega
theorem joG_dig(a b:List Nat)(s:Int):∀ d∈joG a b s,d<1000000000:=fun d hd=>by
 rcases List.mem_append.1 hd with hd | hd
 ·exact joL_dig _ _ d hd
 ·exact limbs_lt _ d hd
def sumF(f:Nat→Int):Nat→Int
 | 0=>0
 | n+1=>sumF f n+1000000000 ^ n*f n
theorem joL_val(f:Nat→Int):∀ n,(valL (joL f n).1:Int)+1000000000 ^ n*(joL f n).2=sumF f n
 | 0=>by simp[joL,valL,sumF]
 | n+1=>by
   simp only[joL,sumF,valL_append,joL_len,valL];rw[← joL_val f n];generalize (joL f n).2=c;generalize f n=x;have h1:((((x+c) % 1000000000).toNat:Nat):Int)=(x+c) % 1000000000:=by omega
   have h2:(x+c) % 1000000000+1000000000*((x+c) / 1000000000)=x+c:=Int.emod_add_mul_ediv _ _
   have h4:(((1000000000:Nat):Int))=(1000000000:Int):=rfl
   rw[Nat.mul_zero,Nat.add_zero,Int.natCast_add,Int.natCast_mul,Int.natCast_pow,h1,Int.pow_succ,h4];generalize (1000000000:Int) ^ n=p;have h3:p*((x+c) % 1000000000)+p*1000000000*((x+c) / 1000000000)=p*(x+c):=by
    rw[Int.mul_assoc,← Int.mul_add,h2]
   rw[Int.mul_add] at h3;omega
theorem sumF_valL(l:List Nat):∀ n,sumF (fun i=>((l.getD i 0:Nat):Int)) n=(valL (l.take n):Int)
 | 0=>by simp[sumF,valL]
 | n+1=>by
   simp only[sumF];rw[sumF_valL l n]
   by_cases h:n<l.length
   ·rw[show l.take (n+1)=l.take n++[l[n]] by simp[List.take_append_getElem],valL_append,List.length_take,show min n l.length=n by omega,show l.getD n 0=l[n] by simp[List.getD,h]]
    simp only[valL];have h4:(((1000000000:Nat):Int))=(1000000000:Int):=rfl;rw[Nat.mul_zero,Nat.add_zero,Int.natCast_add,Int.natCast_mul,Int.natCast_pow,h4]
   ·rw[show l.getD n 0=0 by simp[List.getD,Nat.le_of_not_lt h],List.take_of_length_le (by omega),List.take_of_length_le (by omega)];simp
theorem sumF_lin(f g:Nat→Int)(s:Int):∀ n,sumF (fun i=>f i+s*g i) n=sumF f n+s*sumF g n
 | 0=>by simp[sumF]
 | n+1=>by
   simp only[sumF];rw[sumF_lin f g s n,Int.mul_add,Int.mul_add,← Int.mul_assoc,← Int.mul_assoc,Int.mul_comm s (1000000000 ^ n)];omega
theorem joG_val{a b:List Nat}{s:Int}(ha:∀ d∈a,d<1000000000)(h:0≤(valL a:Int)+s*(valL b:Int)):(valL (joG a b s):Int)=(valL a:Int)+s*(valL b:Int)∧0≤(joL (joF a b s) (max a.length b.length)).2:=by
 have hv:=joL_val (joF a b s) (max a.length b.length)
 have hs:sumF (joF a b s) (max a.length b.length)=(valL a:Int)+s*(valL b:Int):=by
  show sumF (fun i=>((a.getD i 0:Nat):Int)+s*((b.getD i 0:Nat):Int)) _=_
  rw[sumF_lin,sumF_valL,sumF_valL,List.take_of_length_le (by omega),List.take_of_length_le (by omega)]
 rw[hs] at hv;have hlt:valL (joL (joF a b s) (max a.length b.length)).1<1000000000 ^ (max a.length b.length):=by
  have:=topV_lt (joL_dig (joF a b s) (max a.length b.length)) _ (Nat.le_refl _)
  rwa [topV_all,joL_len] at this
 unfold joG;rw[valL_append,valL_limbs,joL_len];generalize (joL (joF a b s) (max a.length b.length)).2=c at *;generalize valL (joL (joF a b s) (max a.length b.length)).1=v at *;generalize max a.length b.length=n at *;have h4:(((1000000000:Nat):Int))=(1000000000:Int):=rfl;have hlt':(v:Int)<1000000000 ^ n:=by rw[← h4,← Int.natCast_pow];omega
 have hc:0≤c:=by
  by_cases hc:0≤c
  ·exact hc
  ·have h5:(1000000000:Int) ^ n*c≤1000000000 ^ n*(-1):=Int.mul_le_mul_of_nonneg_left (by omega) (by rw[← h4,← Int.natCast_pow];omega)
   omega
 refine⟨?_,hc⟩;rw[Int.natCast_add,Int.natCast_mul,Int.natCast_pow,h4,Int.toNat_of_nonneg hc];exact hv
theorem joined1_ok{S₀:St}{bc b7 b3 b4 b8 b5 bb:Nat}{a b:List Nat}{s:Int}{S:St}(ha:∀ d∈a,d<1000000000)(hb:∀ d∈b,d<1000000000)(hs:s=1∨s=-1)(hal:a.length≤10000000)(hbl:b.length≤10000000)(hv:0≤(valL a:Int)+s*(valL b:Int))
 (h7:S₀ b7=some (.obj 280 [.ref bc 0])) (h3:S₀ b3=some (.obj 242 [.sl .any 1 (rowsU a)])) (h4:S₀ b4=some (.obj 242 [.sl .any 1 (rowsU b)]))
 (h8:S₀ b8=some (.obj 283 [.fn (.func 202) [.ref bc 0] []])) (h5:S₀ b5=some (.obj 2 [.int .i64 s])) (hc:CarOk S₀ bc [] 0 bb S) :
 Triple P (C G) 203 [.ref b7 0,.ref b3 0,.ref b4 0,.ref b8 0,.ref b5 0] S fun o S'=>o=.ret (.tu [])∧∃ b',CarOk S₀ bc (joG a b s) 0 b' S':=by
 refine triple_of_defer (hT G) hm Tryz.func203 rfl (by decide +kernel) rfl (by decide +kernel) (by decide +kernel) (by show 5≤_;decide +kernel) rfl 1 rfl rfl rfl rfl rfl ?_
 conv=>whnf
 refine⟨_,_,hc.le _ _ h7,?_⟩;conv=>whnf
 refine⟨_,rfl,?_⟩;conv=>whnf
 refine⟨_,_,hc.le _ _ h3,?_⟩;conv=>whnf
 intro _;conv=>whnf
 refine⟨_,_,hc.le _ _ h4,?_⟩;conv=>whnf
 intro _;conv=>whnf
 have hmax:(if (((rowsU b).length:Int)) > ((rowsU a).length:Int) then ((rowsU b).length:Int) else ((rowsU a).length:Int))=((max a.length b.length:Nat):Int):=by
  rw[rowsU_len,rowsU_len];split<;>omega
 generalize hn:max a.length b.length=n at *;refine⟨⟨Nat,fun i=>[(0,.ref b7 0),(1,.ref b3 0),(2,.ref b4 0),(3,.ref b8 0),(4,.ref b5 0),(11,.int .i64 (n:Int)),(12,.int .i64 (i:Int))],
  fun i S'=>∃ bb',CarOk S₀ bc (joL (joF a b s) i).1 (joL (joF a b s) i).2 bb' S'∧i≤n,fun i=>n-i⟩,
  ⟨0,⟨rfl,rfl,rfl,rfl,rfl,congrArg (AV.int .i64) hmax,rfl,trivial⟩,_,St.leW_refl _,bb,hc,by omega⟩,?_⟩
 rintro(i:Nat) S₁ ⟨bb',h1,hi⟩;have hcb:=joL_bnd (joF_bnd ha hb hs) i;have hfb:=joF_bnd ha hb hs i;conv=>whnf
 refine split_of (fun hlt=>?_) (fun hlt=>?_)
 ·have hlt:i<n:=by have:=of_decide_eq_true hlt;omega
  conv=>whnf
  refine⟨[3,7],(.free 0 (.free 1 (.free 2 (.free 3 (.free 4 (.free 5 (.free 6 (.free 7 (.free 8 (.free 9 (.one 10 .done .none))))))))))),_,by decide +kernel,?_,fun _ _ h=>⟨_,.inl rfl,h⟩⟩
  conv=>whnf
  refine⟨_,_,h1.le _ _ h8,?_⟩;conv=>whnf
  refine⟨_,_,h1.le _ _ h3,?_⟩;conv=>whnf
  refine⟨.int .i64 ((a.getD i 0:Nat):Int),(limb_ok a ha (by omega) i S₁).mono ?_,?_⟩
  ·rintro o S' ⟨rfl,rfl⟩;exact⟨rfl,rfl⟩
  conv=>whnf
  refine⟨_,_,h1.le _ _ h5,?_⟩;conv=>whnf
  refine⟨_,_,h1.le _ _ h4,?_⟩;conv=>whnf
  refine⟨.int .i64 ((b.getD i 0:Nat):Int),(limb_ok b hb (by omega) i S₁).mono ?_,?_⟩
  ·rintro o S' ⟨rfl,rfl⟩;exact⟨rfl,rfl⟩
  conv=>whnf
  have hx:IntKind.i64.wrap (((a.getD i 0:Nat):Int)+IntKind.i64.wrap (s*((b.getD i 0:Nat):Int)))=joF a b s i:=by
   have hla:a.getD i 0<1000000000:=by
    by_cases h:i<a.length
    ·rw[show a.getD i 0=a[i] by simp[List.getD,h]];exact ha _ (List.getElem_mem h)
    ·rw[show a.getD i 0=0 by simp[List.getD,Nat.le_of_not_lt h]];decide
   have hlb:b.getD i 0<1000000000:=by
    by_cases h:i<b.length
    ·rw[show b.getD i 0=b[i] by simp[List.getD,h]];exact hb _ (List.getElem_mem h)
    ·rw[show b.getD i 0=0 by simp[List.getD,Nat.le_of_not_lt h]];decide
   unfold joF
   rcases hs with rfl | rfl
   ·rw[wrap_i64 (n:=1*_) (by omega) (by omega),wrap_i64 (by omega) (by omega)]
   ·rw[wrap_i64 (n:=-1*_) (by omega) (by omega),wrap_i64 (by omega) (by omega)]
  rw[hx];refine(next_ok h1 (by rw[joL_len];omega) (joF a b s i) (by omega) (by omega)).mono ?_
  rintro o S' ⟨rfl,b',h2⟩;conv=>whnf
  have w1:IntKind.i64.wrap ((i:Int)+1)=((i+1:Nat):Int):=wrap_nat (by omega)
  exact⟨i+1,⟨rfl,rfl,rfl,rfl,rfl,rfl,congrArg _ w1,trivial⟩,⟨_,St.leW_refl _,b',h2,by omega⟩,by show n-(i+1)<n-i;omega⟩
 ·have hlt:i=n:=by have:=of_decide_eq_false hlt;omega
  subst hlt;conv=>whnf
  obtain⟨hval,hnn⟩:=joG_val (b:=b) (s:=s) ha hv;rw[hn] at hnn;obtain⟨c,hc2⟩:=Int.eq_ofNat_of_zero_le hnn;rw[hc2] at h1;refine(end_awp h1 (by rw[joL_len];omega) (by omega)).mono ?_
  rintro o S' ⟨rfl,b',h2⟩;refine⟨⟨_,rfl⟩,?_⟩;conv=>whnf
  refine⟨_,_,⟨rfl,b',?_⟩,St.le_refl _,AV.leS_refl _ _ _⟩;unfold joG;rw[hn,hc2];exact h2
theorem joined_ok{a b:List Nat}{s:Int}(ha:∀ d∈a,d<1000000000)(hb:∀ d∈b,d<1000000000)(hs:s=1∨s=-1)(hal:a.length≤10000000)(hbl:b.length≤10000000)(hv:0≤(valL a:Int)+s*(valL b:Int))(S:St) :
 Triple P (C G) 192 [.sl .any 1 (rowsU a),.sl .any 1 (rowsU b),.int .i64 s] S fun o S'=>o=.ret (.sl .any 1 (rowsU (joG a b s)))∧S'=S:=by
 refine triple_of_awp (hT G) hm Tryz.func192 rfl (by decide +kernel) rfl (by decide +kernel) (by show 3≤_;decide +kernel) rfl ?_
 refine awp_seq2 fun K hK hQ=>?_
 conv=>whnf
 intro b3 hb3;rw[forceL_eq];conv=>whnf
 intro b4 hb4;rw[forceL_eq];conv=>whnf
 intro b5 hb5;conv=>whnf
 refine hK _ _ ?_;clear hK hQ K;refine awp_seq2 fun K hK hQ=>?_
 conv=>whnf
 intro bc hbc;conv=>whnf
 intro b7 hb7;conv=>whnf
 refine⟨_,_,St.upd_same _ _ _,?_⟩;conv=>whnf
 refine hK _ _ ?_;clear hK hQ K;refine awp_seq2 fun K hK hQ=>?_
 conv=>whnf
 refine⟨_,_,St.upd_same _ _ _,?_⟩;conv=>whnf
 intro b8 hb8;conv=>whnf
 refine⟨_,_,St.upd_same _ _ _,?_⟩;conv=>whnf
 refine hK _ _ ?_;clear hK hQ K;refine awp_seq2 fun K hK hQ=>?_
 conv=>whnf
 have nc7:bc≠b7:=(St.ne_upd hb7).symm
 have nc8:bc≠b8:=(St.ne_upd (St.no (St.no hb8))).symm
 have hst:((((((((S.upd b3 (.obj 242 (cellsOf (.sl .any 1 (rowsU a))))).upd b4 (.obj 242 (cellsOf (.sl .any 1 (rowsU b))))).upd b5 (.obj 2 [.int .i64 s])).upd bc (.obj 282 [.nils,.int .i64 0])).upd b7 (.obj 280 [.nilp])).upd b7 (.obj 280 [.ref bc 0])).upd b8 (.obj 283 [.nilf])).upd b8 (.obj 283 [.fn (.func 202) [.ref bc 0] []])) =
  (((((S.upd b3 (.obj 242 [.sl .any 1 (rowsU a)])).upd b4 (.obj 242 [.sl .any 1 (rowsU b)])).upd b5 (.obj 2 [.int .i64 s])).upd b7 (.obj 280 [.ref bc 0])).upd b8 (.obj 283 [.fn (.func 202) [.ref bc 0] []])).upd bc (.obj 282 [.nils,.int .i64 0]):=by
  rw[St.upd_upd,St.upd_upd,St.upd_comm nc7,St.upd_comm nc8];rfl
 rw[hst];have f5:=St.no hbc;have g7:((S.upd b3 (.obj 242 [.sl .any 1 (rowsU a)])).upd b4 (.obj 242 [.sl .any 1 (rowsU b)])).upd b5 (.obj 2 [.int .i64 s]) b7=none:=St.no hb7;have g8:(((S.upd b3 (.obj 242 [.sl .any 1 (rowsU a)])).upd b4 (.obj 242 [.sl .any 1 (rowsU b)])).upd b5 (.obj 2 [.int .i64 s])).upd b7 (.obj 280 [.ref bc 0]) b8=none:=by
  have h1:=St.no (St.no (St.no hb8))
  exact(St.upd_ne _ _ _ _ (St.ne_upd (St.no hb8))).trans h1
 have gc:((((S.upd b3 (.obj 242 [.sl .any 1 (rowsU a)])).upd b4 (.obj 242 [.sl .any 1 (rowsU b)])).upd b5 (.obj 2 [.int .i64 s])).upd b7 (.obj 280 [.ref bc 0])).upd b8 (.obj 283 [.fn (.func 202) [.ref bc 0] []]) bc=none:=
  (St.upd_ne _ _ _ _ nc8).trans ((St.upd_ne _ _ _ _ nc7).trans hbc)
 have k3:((((S.upd b3 (.obj 242 [.sl .any 1 (rowsU a)])).upd b4 (.obj 242 [.sl .any 1 (rowsU b)])).upd b5 (.obj 2 [.int .i64 s])).upd b7 (.obj 280 [.ref bc 0])).upd b8 (.obj 283 [.fn (.func 202) [.ref bc 0] []]) b3=some (.obj 242 [.sl .any 1 (rowsU a)]):=St.up g8 (St.up g7 (St.up hb5 (St.up hb4 (St.upd_same _ _ _))))
 have k4:((((S.upd b3 (.obj 242 [.sl .any 1 (rowsU a)])).upd b4 (.obj 242 [.sl .any 1 (rowsU b)])).upd b5 (.obj 2 [.int .i64 s])).upd b7 (.obj 280 [.ref bc 0])).upd b8 (.obj 283 [.fn (.func 202) [.ref bc 0] []]) b4=some (.obj 242 [.sl .any 1 (rowsU b)]):=St.up g8 (St.up g7 (St.up hb5 (St.upd_same _ _ _)))
 have k5:((((S.upd b3 (.obj 242 [.sl .any 1 (rowsU a)])).upd b4 (.obj 242 [.sl .any 1 (rowsU b)])).upd b5 (.obj 2 [.int .i64 s])).upd b7 (.obj 280 [.ref bc 0])).upd b8 (.obj 283 [.fn (.func 202) [.ref bc 0] []]) b5=some (.obj 2 [.int .i64 s]):=St.up g8 (St.up g7 (St.upd_same _ _ _))
 have k7:((((S.upd b3 (.obj 242 [.sl .any 1 (rowsU a)])).upd b4 (.obj 242 [.sl .any 1 (rowsU b)])).upd b5 (.obj 2 [.int .i64 s])).upd b7 (.obj 280 [.ref bc 0])).upd b8 (.obj 283 [.fn (.func 202) [.ref bc 0] []]) b7=some (.obj 280 [.ref bc 0]):=St.up g8 (St.upd_same _ _ _)
 have k8:((((S.upd b3 (.obj 242 [.sl .any 1 (rowsU a)])).upd b4 (.obj 242 [.sl .any 1 (rowsU b)])).upd b5 (.obj 2 [.int .i64 s])).upd b7 (.obj 280 [.ref bc 0])).upd b8 (.obj 283 [.fn (.func 202) [.ref bc 0] []]) b8=some (.obj 283 [.fn (.func 202) [.ref bc 0] []]):=St.upd_same _ _ _
 have hle:St.le S (((((S.upd b3 (.obj 242 [.sl .any 1 (rowsU a)])).upd b4 (.obj 242 [.sl .any 1 (rowsU b)])).upd b5 (.obj 2 [.int .i64 s])).upd b7 (.obj 280 [.ref bc 0])).upd b8 (.obj 283 [.fn (.func 202) [.ref bc 0] []])):=St.le_upd' (St.le_upd' (St.le_upd' (St.le_upd' (St.le_upd' (St.le_refl _) hb3 _) hb4 _) hb5 _) g7 _) g8 _
 generalize ((((S.upd b3 (.obj 242 [.sl .any 1 (rowsU a)])).upd b4 (.obj 242 [.sl .any 1 (rowsU b)])).upd b5 (.obj 2 [.int .i64 s])).upd b7 (.obj 280 [.ref bc 0])).upd b8 (.obj 283 [.fn (.func 202) [.ref bc 0] []])=Sj at *;have hW:St.leW (Sj.upd bc (.obj 282 [.sl (.acc 0) 1 (rowsU []),.int .i64 0])) (Sj.upd bc (.obj 282 [.nils,.int .i64 0])):=by
  have:=St.leW_upd (cs':=[.sl (.acc 0) 1 (rowsU []),.int .i64 0]) (St.upd_same Sj bc (.obj 282 [.nils,.int .i64 0])) ⟨rfl,rfl,trivial⟩
  rwa [St.upd_upd] at this
 have hc0:CarOk Sj bc [] 0 0 (Sj.upd bc (.obj 282 [.sl (.acc 0) 1 (rowsU []),.int .i64 0])):=⟨St.le_upd' (St.le_refl _) gc _,gc,St.upd_same _ _ _,fun h=>absurd rfl h,fun h=>absurd rfl h⟩
 refine(Triple.weakS (joined1_ok ha hb hs hal hbl hv k7 k3 k4 k8 k5 hc0) hW).mono ?_;rintro o S' ⟨rfl,b',h2⟩;conv=>whnf
 refine hK _ _ ?_;clear hK hQ K;conv=>whnf
 refine⟨_,_,h2.le _ _ k7,?_⟩;conv=>whnf
 refine⟨_,_,h2.at_,?_⟩;conv=>whnf
 exact⟨_,_,⟨rfl,rfl⟩,St.le_trans hle h2.le,rfl,rfl⟩
theorem limbs_len_lo{n:Nat}(h:0<n):1000000000 ^ ((limbs n).length-1)≤n:=by
 by_cases h1:1000000000 ^ ((limbs n).length-1)≤n
 ·exact h1
 ·have:=limbs_len ((limbs n).length-1) n (by omega)
  have h3:(limbs n).length≠0:=fun h0=>limbs_ne h (List.eq_nil_of_length_eq_zero h0)
  omega
theorem limbs_longer{x y:Nat}(h:(limbs y).length<(limbs x).length):y<x:=by
 have hx:0<x:=by
  rcases Nat.eq_zero_or_pos x with h0 | h0
  ·subst h0;rw[limbs_zero] at h;simp at h
  ·exact h0
 have h1:=limbs_len_lo hx
 have h2:y<1000000000 ^ (limbs y).length:=by
  have:=topV_lt (limbs_lt y) _ (Nat.le_refl _)
  rwa [topV_all,valL_limbs] at this
 have:=Nat.pow_le_pow_right (n:=1000000000) (by decide) (show(limbs y).length≤(limbs x).length-1 by omega)
 omega
theorem valL_cmp{a b:List Nat}(ha:∀ d∈a,d<1000000000)(hb:∀ d∈b,d<1000000000)(hl:a.length=b.length){k:Nat}(hk:k<a.length)(he:a.drop (k+1)=b.drop (k+1))(hlt:a[k]<b[k]'(hl ▸ hk)):valL a<valL b:=by
 have e1:a=a.take k++(a[k]::a.drop (k+1)):=by rw[List.getElem_cons_drop hk,List.take_append_drop]
 have e2:b=b.take k++(b[k]::b.drop (k+1)):=by rw[List.getElem_cons_drop (hl ▸ hk),List.take_append_drop]
 rw[e1,e2,valL_append,valL_append];have h1:(a.take k).length=k:=by simp;omega
 have h2:(b.take k).length=k:=by simp;omega
 have h3:valL (a.take k)<1000000000 ^ k:=by
  have:=topV_lt (l:=a.take k) (fun d hd=>ha d (List.mem_of_mem_take hd)) _ (Nat.le_refl _)
  rwa [topV_all,h1] at this
 simp only[h1,h2,valL,he];generalize a[k]=p at *;have hk':k<b.length:=hl ▸ hk;generalize b[k]=q at *;generalize valL (b.drop (k+1))=r at *;have:1000000000 ^ k*(p+1+1000000000*r)≤1000000000 ^ k*(q+1000000000*r):=Nat.mul_le_mul_left _ (by omega)
 rw[show p+1+1000000000*r=(p+1000000000*r)+1 by omega,Nat.mul_add,Nat.mul_one] at this
 omega
theorem sizes_ok(x y:Nat)(hx:(limbs x).length≤100000000)(hy:(limbs y).length≤100000000)(S:St):Triple P (C G) 193 [.sl .any 1 (rowsU (limbs x)),.sl .any 1 (rowsU (limbs y))] S fun o S'=>∃ v:Int,o=.ret (.int .i64 v)∧(0≤v↔y≤x)∧S'=S:=by
 have hxv:=valL_limbs x
 have hyv:=valL_limbs y
 have hxd:=limbs_lt x
 have hyd:=limbs_lt y
 have hlo:(limbs y).length<(limbs x).length→y<x:=limbs_longer
 have hlo2:(limbs x).length<(limbs y).length→x<y:=limbs_longer
 generalize limbs x=a at *;generalize limbs y=b at *;refine triple_of_awp (hT G) hm Tryz.func193 rfl (by decide +kernel) rfl (by decide +kernel) (by show 2≤_;decide +kernel) rfl ?_
 conv=>whnf
 intro _;conv=>whnf
 intro _;conv=>whnf
 refine split_of (fun h=>?_) (fun h=>?_)
 ·have h:a.length≠b.length:=by
   intro hh;rw[rowsU_len,rowsU_len,hh] at h;simp at h
  conv=>whnf
  intro _;conv=>whnf
  intro _;conv=>whnf
  refine⟨_,_,⟨_,rfl,?_,rfl⟩,St.le_refl _,AV.leS_refl _ _ _⟩;rw[rowsU_len,rowsU_len,wrap_i64 (by omega) (by omega)]
  constructor
  ·intro h1;exact Nat.le_of_lt (hlo (by omega))
  ·intro h1;by_cases h2:a.length<b.length
   ·have:=hlo2 h2;omega
   ·omega
 ·have h:a.length=b.length:=by
   by_cases hh:a.length=b.length
   ·exact hh
   ·exfalso;rw[rowsU_len,rowsU_len] at h;simp at h;omega
  conv=>whnf
  intro _;conv=>whnf
  have hw0:IntKind.i64.wrap (((rowsU a).length:Int)-1)=(a.length:Int)-1:=by rw[rowsU_len,wrap_i64 (by omega) (by omega)]
  refine⟨⟨Nat,fun i=>[(0,.sl .any 1 (rowsU a)),(1,.sl .any 1 (rowsU b)),(5,.int .i64 ((i:Int)-1))],fun i S'=>S'=S∧i≤a.length∧a.drop i=b.drop i,fun i=>i⟩,
   ⟨a.length,⟨⟨rfl,rfl⟩,⟨rfl,rfl⟩,congrArg _ hw0,trivial⟩,_,St.leW_refl _,rfl,by omega,by rw[List.drop_of_length_le (by omega),List.drop_of_length_le (by omega)]⟩,?_⟩
  rintro(i:Nat) S' ⟨rfl,hi,he⟩;conv=>whnf
  refine split_of (fun hlt=>?_) (fun hlt=>?_)
  ·have hlt:1≤i:=by have:=of_decide_eq_true hlt;omega
   obtain⟨k,rfl⟩:∃ k,i=k+1:=⟨i-1,by omega⟩
   have hka:k<a.length:=by omega
   have hkb:k<b.length:=by omega
   have ek:(((k+1:Nat):Int)-1)=(k:Int):=by omega
   have ga:(rowsU a)[(((k+1:Nat):Int)-1).toNat]? = some [.int .u32 ((a[k]:Nat):Int)]:=by rw[ek];simp[rowsU,hka]
   have gb:(rowsU b)[(((k+1:Nat):Int)-1).toNat]? = some [.int .u32 ((b[k]:Nat):Int)]:=by rw[ek];simp[rowsU,hkb]
   conv=>whnf
   refine⟨[],(.free 0 (.free 1 (.free 2 (.free 3 (.free 4 (.free 5 (.free 6 (.free 7 (.free 8 .done))))))))),_,by decide +kernel,?_,fun _ _ h=>⟨_,.inl rfl,h⟩⟩
   conv=>whnf
   refine⟨_,⟨by omega,ga⟩,?_⟩
   conv=>whnf
   refine⟨_,⟨by omega,gb⟩,?_⟩
   conv=>whnf
   refine split_of (fun hne=>?_) (fun hne=>?_)
   ·have hne:a[k]≠b[k]:=by
     intro hh;rw[hh] at hne;simp at hne
    conv=>whnf
    refine⟨[],(.free 0 (.free 1 (.free 2 (.free 3 (.free 4 (.free 5 (.free 6 (.free 7 (.free 8 (.free 9 (.free 10 (.free 11 .done)))))))))))),_,by decide +kernel,?_,fun _ _ h=>⟨_,.inl rfl,h⟩⟩
    conv=>whnf
    refine⟨_,⟨by omega,ga⟩,?_⟩
    conv=>whnf
    refine⟨_,⟨by omega,gb⟩,?_⟩
    conv=>whnf
    refine⟨_,_,⟨_,rfl,?_,rfl⟩,St.le_refl _,AV.leS_refl _ _ _⟩;have h1:=hxd _ (List.getElem_mem hka);have h2:=hyd _ (List.getElem_mem hkb);rw[wrap_i64 (n:=((a[k]:Nat):Int)) (by omega) (by omega),wrap_i64 (n:=((b[k]:Nat):Int)) (by omega) (by omega),wrap_i64 (by omega) (by omega)]
    constructor
    ·intro h3;have:=valL_cmp hyd hxd h.symm hkb he.symm (by omega)
     omega
    ·intro h3
     by_cases h4:a[k]<b[k]
     ·have:=valL_cmp hxd hyd h hka he h4
      omega
     ·omega
   ·have hne:a[k]=b[k]:=by
     by_cases hh:a[k]=b[k]
     ·exact hh
     ·exfalso;simp at hne;omega
    conv=>whnf
    have w1:IntKind.i64.wrap ((((k+1:Nat):Int)-1)-1)=(k:Int)-1:=by rw[wrap_i64 (by omega) (by omega)];omega
    refine⟨k,⟨⟨rfl,rfl⟩,⟨rfl,rfl⟩,congrArg _ w1,trivial⟩,⟨_,St.leW_refl _,rfl,by omega,?_⟩,by show k<k+1;omega⟩
    rw[← List.getElem_cons_drop hka,← List.getElem_cons_drop hkb,hne,he]
  ·have hlt:i=0:=by have:=of_decide_eq_false hlt;omega
   subst hlt;conv=>whnf
   refine⟨_,_,⟨_,rfl,?_,rfl⟩,St.le_refl _,AV.leS_refl _ _ _⟩;have:a=b:=by simpa using he
   subst this
   constructor
   ·intro _;omega
   ·intro _;omega
end Go.Proofs.YtogipknpafkfpaaGreatDoor.Aw
