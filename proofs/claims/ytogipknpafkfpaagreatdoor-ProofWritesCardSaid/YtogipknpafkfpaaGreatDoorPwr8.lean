/- Package big, walked: next, end, limb, joined. Package big, walked: joined. Package big, walked: sizes. Package big, walk -/
import Derived.Test.YtogipknpafkfpaaGreatDoorPwr7
import Derived.Lib.FrozenHead
set_option linter.all false
set_option maxRecDepth 100000
namespace Go.Proofs.YtogipknpafkfpaaGreatDoor.Aw
open Go Go.RowKit
variable {G:Nat→Option (List AV)}
structure CarOk (S₀:St) (b:Nat) (l:List Nat) (c:Int) (bb:Nat) (S:St):Prop where
 le:St.le S₀ S
 nb:S₀ b=none
 at_:S b=some (.obj 282 [.sl (.acc bb) 1 (rowsU l),.int .i64 c])
 tip:l≠[]→S bb=some (.tip 224 1 l.length)
 nbb:l≠[]→S₀ bb=none
theorem CarOk.ne{S₀:St}{b:Nat}{l:List Nat}{c:Int}{bb:Nat}{S:St}(h:CarOk S₀ b l c bb S)(hl:l≠[]):bb≠b:=fun e=>by
 have h1:=h.tip hl;rw[e,h.at_] at h1;cases h1
theorem CarOk.carry{S₀:St}{b:Nat}{l:List Nat}{c:Int}{bb:Nat}{S:St}(h:CarOk S₀ b l c bb S)(c':Int):CarOk S₀ b l c' bb (S.upd b (.obj 282 [.sl (.acc bb) 1 (rowsU l),.int .i64 c'])):=
 ⟨St.le_upd h.le h.nb _,h.nb,St.upd_same _ _ _,fun hl=>St.ov (h.ne hl) (h.tip hl),h.nbb⟩
theorem CarOk.other{S₀:St}{b:Nat}{l:List Nat}{c:Int}{bb:Nat}{S:St}(h:CarOk S₀ b l c bb S){b0:Nat}(hb:S b0=none)(o:Own):CarOk S₀ b l c bb (S.upd b0 o):=
 ⟨St.le_upd' h.le hb o,h.nb,St.up hb h.at_,fun hl=>St.up hb (h.tip hl),h.nbb⟩
theorem CarOk.push{S₀:St}{b:Nat}{l:List Nat}{c:Int}{bb:Nat}{S:St}(h:CarOk S₀ b l c bb S){S₂:St}(k1:rowsU l=[]→S₂=S)(k2:rowsU l≠[]→S₂=S.del bb){b':Nat}(hb:S₂ b'=none)(d:Nat){n:Nat}(hn:n=l.length+1) :
 CarOk S₀ b (l++[d]) c b' ((S₂.upd b' (.tip 224 1 n)).upd b (.obj 282 [.sl (.acc b') 1 (rowsU (l++[d])),.int .i64 c])):=by
 subst hn;have hle:St.le S₀ S₂:=by
  by_cases he:l=[]
  ·rw[k1 (by rw[he];rfl)];exact h.le
  ·rw[k2 (rowsU_ne he)];exact St.le_del h.le (h.nbb he)
 have hS₂b:S₂ b=some (.obj 282 [.sl (.acc bb) 1 (rowsU l),.int .i64 c]):=by
  by_cases he:l=[]
  ·rw[k1 (by rw[he];rfl)];exact h.at_
  ·rw[k2 (rowsU_ne he)];exact(St.del_ne _ _ _ (h.ne he).symm).trans h.at_
 have hne:b'≠b:=St.ne_of' hb hS₂b
 exact⟨St.le_upd (St.le_upd' hle hb _) h.nb _,h.nb,St.upd_same _ _ _,fun _=>St.ov hne (by rw[St.upd_same];simp),fun _=>St.le_none hle hb⟩
theorem CarOk.pushAt{S₀:St}{b:Nat}{l:List Nat}{c:Int}{bb:Nat}{S:St}(h:CarOk S₀ b l c bb S){S₂:St}(k1:rowsU l=[]→S₂=S)(k2:rowsU l≠[]→S₂=S.del bb){b':Nat}(hb:S₂ b'=none)(o:Own) :
 (S₂.upd b' o) b=some (.obj 282 [.sl (.acc bb) 1 (rowsU l),.int .i64 c]):=by
 refine St.up hb ?_
 by_cases he:l=[]
 ·rw[k1 (by rw[he];rfl)];exact h.at_
 ·rw[k2 (rowsU_ne he)];exact(St.del_ne _ _ _ (h.ne he).symm).trans h.at_
theorem tdiv_ten(y:Int):y=1000000000*y.tdiv 1000000000+y.tmod 1000000000∧-1000000000<y.tmod 1000000000∧y.tmod 1000000000<1000000000:=by
 refine⟨(Int.mul_tdiv_add_tmod y 1000000000).symm,?_,Int.tmod_lt_of_pos _ (by decide)⟩
 by_cases h:y<0
 ·have:=Int.neg_tmod (a:=y) (b:=1000000000)
  have h2:=Int.tmod_lt_of_pos (-y) (b:=1000000000) (by decide)
  omega
 ·have:=Int.tmod_nonneg (b:=1000000000) (a:=y) (by omega)
  omega
set_option maxHeartbeats 1000000 in
theorem next_ok{S₀:St}{b:Nat}{l:List Nat}{c:Int}{bb:Nat}{S:St}(h:CarOk S₀ b l c bb S)(hl:l.length≤1000000000)(x:Int)(h0:-4611686018427387904<x+c)(h1:x+c<4611686018427387904) :
 Triple P (C G) 202 [.ref b 0,.int .i64 x] S fun o S'=>o=.ret (.tu [])∧∃ b',CarOk S₀ b (l++[((x+c) % 1000000000).toNat]) ((x+c) / 1000000000) b' S':=by
 refine triple_of_awp (hT G) hm Tryz.func202 rfl (by decide +kernel) rfl (by decide +kernel) (by show 2≤_;decide +kernel) rfl ?_
 conv=>whnf
 refine⟨_,_,h.at_,?_⟩;conv=>whnf
 refine⟨by decide,?_⟩
 conv=>whnf
 refine⟨_,_,h.at_,?_⟩;conv=>whnf
 have h2:=h.carry (IntKind.i64.wrap ((IntKind.i64.wrap (x+c)).tdiv 1000000000))
 have e1:IntKind.i64.wrap (x+c)=x+c:=wrap_i64 (by omega) (by omega)
 obtain⟨hy,hy1,hy2⟩:=tdiv_ten (x+c);refine⟨by decide,?_⟩
 conv=>whnf
 rw[e1] at h2 ⊢;generalize (x+c).tdiv 1000000000=q at *;generalize (x+c).tmod 1000000000=r at *;generalize hyy:x+c=y at *;have e2:IntKind.i64.wrap q=q:=wrap_i64 (by omega) (by omega)
 rw[e2] at h2 ⊢;refine split_of (fun hr=>?_) (fun hr=>?_)
 ·have hr:r<0:=of_decide_eq_true hr
  conv=>whnf
  refine⟨_,_,h2.at_,?_⟩;conv=>whnf
  refine⟨_,_,h2.at_,?_⟩;conv=>whnf
  have h3:=h2.carry (IntKind.i64.wrap (q-1))
  have e3:IntKind.i64.wrap (q-1)=q-1:=wrap_i64 (by omega) (by omega)
  have e4:IntKind.i64.wrap (r+1000000000)=r+1000000000:=wrap_i64 (by omega) (by omega)
  rw[e3] at h3 ⊢;rw[e4];refine⟨_,_,h3.at_,?_⟩;conv=>whnf
  intro b0 hb0;conv=>whnf
  have h4:=h3.other hb0 (.tip 224 1 1)
  refine⟨⟨fun hne=>by have:=h4.tip (fun e=>hne (by rw[e];rfl));rw[rowsU_len];exact this,by show _*4≤_;simp;omega⟩,?_⟩
  conv=>whnf
  intro S₂ k1 k2 b' hb';conv=>whnf
  refine⟨_,_,h4.pushAt k1 k2 hb' _,?_⟩;conv=>whnf
  refine⟨_,_,⟨rfl,b',?_⟩,St.le_refl _,AV.leS_refl _ _ _⟩;have h5:=h4.push k1 k2 hb' (y % 1000000000).toNat (by simp:(rowsU l).length+[[AV.int .u32 (IntKind.u32.wrap (r+1000000000))]].length=l.length+1)
  rw[show rowsU l++[[AV.int .u32 (IntKind.u32.wrap (r+1000000000))]]=rowsU (l++[(y % 1000000000).toNat]) by rw[← rowsU_snoc];congr 4;rw[IntKind.wrap_u32];omega]
  rw[show q-1=y / 1000000000 by omega] at h5 ⊢
  exact h5
 ·have hr:¬ r<0:=of_decide_eq_false hr
  have h3:=h2
  conv=>whnf
  refine⟨_,_,h3.at_,?_⟩;conv=>whnf
  intro b0 hb0;conv=>whnf
  have h4:=h3.other hb0 (.tip 224 1 1)
  refine⟨⟨fun hne=>by have:=h4.tip (fun e=>hne (by rw[e];rfl));rw[rowsU_len];exact this,by show _*4≤_;simp;omega⟩,?_⟩
  conv=>whnf
  intro S₂ k1 k2 b' hb';conv=>whnf
  refine⟨_,_,h4.pushAt k1 k2 hb' _,?_⟩;conv=>whnf
  refine⟨_,_,⟨rfl,b',?_⟩,St.le_refl _,AV.leS_refl _ _ _⟩;have h5:=h4.push k1 k2 hb' (y % 1000000000).toNat (by simp:(rowsU l).length+[[AV.int .u32 (IntKind.u32.wrap r)]].length=l.length+1)
  rw[show rowsU l++[[AV.int .u32 (IntKind.u32.wrap r)]]=rowsU (l++[(y % 1000000000).toNat]) by rw[← rowsU_snoc];congr 4;rw[IntKind.wrap_u32];omega]
  rw[show q=y / 1000000000 by omega] at h5 ⊢
  exact h5
theorem limb_ok(l:List Nat)(hd:∀ d∈l,d<1000000000)(hl:l.length≤1000000000)(i:Nat)(S:St):Triple P (C G) 205 [.sl .any 1 (rowsU l),.int .i64 (i:Int)] S fun o S'=>o=.ret (.int .i64 ((l.getD i 0:Nat):Int))∧S'=S:=by
 refine triple_of_awp (hT G) hm Tryz.func205 rfl (by decide +kernel) rfl (by decide +kernel) (by show 2≤_;decide +kernel) rfl ?_
 conv=>whnf
 intro _;conv=>whnf
 refine split_of (fun h=>?_) (fun h=>?_)
 ·have h:i<l.length:=by have:=of_decide_eq_true h;rw[rowsU_len] at this;omega
  conv=>whnf
  refine⟨[.int .u32 ((l[i]:Nat):Int)],⟨by omega,by simp[rowsU,h]⟩,?_⟩
  conv=>whnf
  have hdd:=hd _ (List.getElem_mem h)
  refine⟨_,_,⟨rfl,rfl⟩,St.le_refl _,?_⟩;rw[wrap_i64 (by omega) (by omega),show l.getD i 0=l[i] by simp[List.getD,h]]
  exact AV.leS_refl _ _ _
 ·have h:l.length≤i:=by have:=of_decide_eq_false h;rw[rowsU_len] at this;omega
  conv=>whnf
  refine⟨_,_,⟨rfl,rfl⟩,St.le_refl _,?_⟩;rw[show l.getD i 0=0 by simp[List.getD,h]]
  exact AV.leS_refl _ _ _
theorem end_awp{S₀:St}{b:Nat}{l:List Nat}{c:Nat}{bb:Nat}{S:St}(h:CarOk S₀ b l (c:Int) bb S)(hl:l.length≤100000000)(hc:c<4611686018427387904) :
 TripleD P (C G) 204 [.ref b 0] S fun o S'=>o=.ret (.tu [])∧∃ b',CarOk S₀ b (l++limbs c) 0 b' S':=by
 have hlen:(limbs c).length≤3:=limbs_len 3 _ (by omega)
 refine tripleD_of_awp (hT G) hm Tryz.func204 rfl (by decide +kernel) rfl (by decide +kernel) (by decide +kernel) (by show 1≤_;decide +kernel) rfl ?_
 conv=>whnf
 refine⟨⟨Nat×List Nat×Nat,fun(c',l',bb')=>[(0,.ref b 0)],fun(c',l',bb') S'=>CarOk S₀ b l' (c':Int) bb' S'∧l'++limbs c'=l++limbs c∧c'≤c,fun(c',_,_)=>c'⟩,
  ⟨(c,l,bb),⟨rfl,trivial⟩,_,St.leW_refl _,h,rfl,Nat.le_refl _⟩,?_⟩
 rintro⟨(c':Nat),(l':List Nat),(bb':Nat)⟩ S₁ ⟨h1,h2,h3⟩;have hl':l'.length≤l.length+3:=by have:=congrArg List.length h2;simp at this;omega
 conv=>whnf
 refine⟨_,_,h1.at_,?_⟩;conv=>whnf
 refine split_of (fun hp=>?_) (fun hp=>?_)
 ·have hp:0<c':=by simpa using hp
  conv=>whnf
  refine(next_ok h1 (by omega) 0 (by omega) (by omega)).mono ?_
  rintro o S' ⟨rfl,b',h5⟩;conv=>whnf
  rw[show((0+(c':Int)) % 1000000000).toNat=c' % 1000000000 by omega,show(0+(c':Int)) / 1000000000=((c' / 1000000000:Nat):Int) by omega] at h5
  exact⟨(c' / 1000000000,l'++[c' % 1000000000],b'),⟨rfl,trivial⟩,⟨_,St.leW_refl _,h5,by rw[← h2,limbs_pos hp];simp,by omega⟩,by show c' / 1000000000<c';omega⟩
 ·have hp:c'=0:=by simpa using hp
  subst hp;conv=>whnf
  have h2:l'=l++limbs c:=by simpa [limbs_zero] using h2
  subst h2;exact⟨_,_,⟨rfl,bb',h1⟩,St.le_refl _,AV.leS_refl _ _ _⟩
def joL(f:Nat→Int):Nat→List Nat×Int
 | 0=>([],0)
 | n+1=>((joL f n).1++[((f n+(joL f n).2) % 1000000000).toNat],(f n+(joL f n).2) / 1000000000)
def joF(a b:List Nat)(s:Int)(i:Nat):Int:=((a.getD i 0:Nat):Int)+s*((b.getD i 0:Nat):Int)
def joG(a b:List Nat)(s:Int):List Nat:=
 (joL (joF a b s) (max a.length b.length)).1++limbs (joL (joF a b s) (max a.length b.length)).2.toNat
theorem joL_len(f:Nat→Int):∀ n,(joL f n).1.length=n
 | 0=>rfl
 | n+1=>by simp[joL,joL_len f n]
theorem joF_bnd{a b:List Nat}(ha:∀ d∈a,d<1000000000)(hb:∀ d∈b,d<1000000000){s:Int}(hs:s=1∨s=-1)(i:Nat):-1000000000<joF a b s i∧joF a b s i≤1999999998:=by
 have h1:∀ l:List Nat,(∀ d∈l,d<1000000000)→l.getD i 0<1000000000:=fun l hl=>by
  by_cases h:i<l.length
  ·rw[show l.getD i 0=l[i] by simp[List.getD,h]];exact hl _ (List.getElem_mem h)
  ·rw[show l.getD i 0=0 by simp[List.getD,Nat.le_of_not_lt h]];decide
 have:=h1 a ha
 have:=h1 b hb
 unfold joF
 rcases hs with rfl | rfl<;>omega
theorem joL_bnd{f:Nat→Int}(hf:∀ i,-1000000000<f i∧f i≤1999999998):∀ n,-1≤(joL f n).2∧(joL f n).2≤1
 | 0=>by simp[joL]
 | n+1=>by
   have:=joL_bnd hf n
   have:=hf n
   simp only[joL];omega
theorem joL_dig(f:Nat→Int):∀ n,∀ d∈(joL f n).1,d<1000000000
 | 0=>by simp[joL]
 | n+1=>by
   intro d hd;simp only[joL,List.mem_append,List.mem_singleton] at hd
   rcases hd with hd | rfl
   ·exact joL_dig f n d hd
   ·omega
theorem joG_dig(a b:List Nat)(s:Int):∀ d∈joG a b s,d<1000000000:=fun d hd=>by
 rcases List.mem_append.1 hd with hd | hd
 ·exact joL_dig _ _ d hd
 ·exact limbs_lt _ d hd
def sumF(f:Nat→Int):Nat→Int
 | 0=>0
 | n+1=>sumF f n+1000000000 ^ n*f n
theorem joL_val(f:Nat→Int):∀ n,(valL (joL f n).1:Int)+1000000000 ^ n*(joL f n).2=sumF f n
 | 0=>by simp[joL,valL,sumF]
 | n+1=>by
   simp only[joL,sumF,valL_append,joL_len,valL];rw[← joL_val f n];generalize (joL f n).2=c;generalize f n=x;have h1:((((x+c) % 1000000000).toNat:Nat):Int)=(x+c) % 1000000000:=by omega
   have h2:(x+c) % 1000000000+1000000000*((x+c) / 1000000000)=x+c:=Int.emod_add_mul_ediv _ _
   have h4:(((1000000000:Nat):Int))=(1000000000:Int):=rfl
   rw[Nat.mul_zero,Nat.add_zero,Int.natCast_add,Int.natCast_mul,Int.natCast_pow,h1,Int.pow_succ,h4];generalize (1000000000:Int) ^ n=p;have h3:p*((x+c) % 1000000000)+p*1000000000*((x+c) / 1000000000)=p*(x+c):=by
    rw[Int.mul_assoc,← Int.mul_add,h2]
   rw[Int.mul_add] at h3;omega
theorem sumF_valL(l:List Nat):∀ n,sumF (fun i=>((l.getD i 0:Nat):Int)) n=(valL (l.take n):Int)
 | 0=>by simp[sumF,valL]
 | n+1=>by
   simp only[sumF];rw[sumF_valL l n]
   by_cases h:n<l.length
   ·rw[show l.take (n+1)=l.take n++[l[n]] by simp[List.take_append_getElem],valL_append,List.length_take,show min n l.length=n by omega,show l.getD n 0=l[n] by simp[List.getD,h]]
    simp only[valL];have h4:(((1000000000:Nat):Int))=(1000000000:Int):=rfl;rw[Nat.mul_zero,Nat.add_zero,Int.natCast_add,Int.natCast_mul,Int.natCast_pow,h4]
   ·rw[show l.getD n 0=0 by simp[List.getD,Nat.le_of_not_lt h],List.take_of_length_le (by omega),List.take_of_length_le (by omega)];simp
theorem sumF_lin(f g:Nat→Int)(s:Int):∀ n,sumF (fun i=>f i+s*g i) n=sumF f n+s*sumF g n
 | 0=>by simp[sumF]
 | n+1=>by
   simp only[sumF];rw[sumF_lin f g s n,Int.mul_add,Int.mul_add,← Int.mul_assoc,← Int.mul_assoc,Int.mul_comm s (1000000000 ^ n)];omega
theorem joG_val{a b:List Nat}{s:Int}(ha:∀ d∈a,d<1000000000)(h:0≤(valL a:Int)+s*(valL b:Int)):(valL (joG a b s):Int)=(valL a:Int)+s*(valL b:Int)∧0≤(joL (joF a b s) (max a.length b.length)).2:=by
 have hv:=joL_val (joF a b s) (max a.length b.length)
 have hs:sumF (joF a b s) (max a.length b.length)=(valL a:Int)+s*(valL b:Int):=by
  show sumF (fun i=>((a.getD i 0:Nat):Int)+s*((b.getD i 0:Nat):Int)) _=_
  rw[sumF_lin,sumF_valL,sumF_valL,List.take_of_length_le (by omega),List.take_of_length_le (by omega)]
 rw[hs] at hv;have hlt:valL (joL (joF a b s) (max a.length b.length)).1<1000000000 ^ (max a.length b.length):=by
  have:=topV_lt (joL_dig (joF a b s) (max a.length b.length)) _ (Nat.le_refl _)
  rwa [topV_all,joL_len] at this
 unfold joG;rw[valL_append,valL_limbs,joL_len];generalize (joL (joF a b s) (max a.length b.length)).2=c at *;generalize valL (joL (joF a b s) (max a.length b.length)).1=v at *;generalize max a.length b.length=n at *;have h4:(((1000000000:Nat):Int))=(1000000000:Int):=rfl;have hlt':(v:Int)<1000000000 ^ n:=by rw[← h4,← Int.natCast_pow];omega
 have hc:0≤c:=by
  by_cases hc:0≤c
  ·exact hc
  ·have h5:(1000000000:Int) ^ n*c≤1000000000 ^ n*(-1):=Int.mul_le_mul_of_nonneg_left (by omega) (by rw[← h4,← Int.natCast_pow];omega)
   omega
 refine⟨?_,hc⟩;rw[Int.natCast_add,Int.natCast_mul,Int.natCast_pow,h4,Int.toNat_of_nonneg hc];exact hv
theorem joined1_ok{S₀:St}{bc b7 b3 b4 b8 b5 bb:Nat}{a b:List Nat}{s:Int}{S:St}(ha:∀ d∈a,d<1000000000)(hb:∀ d∈b,d<1000000000)(hs:s=1∨s=-1)(hal:a.length≤10000000)(hbl:b.length≤10000000)(hv:0≤(valL a:Int)+s*(valL b:Int))
 (h7:S₀ b7=some (.obj 280 [.ref bc 0])) (h3:S₀ b3=some (.obj 242 [.sl .any 1 (rowsU a)])) (h4:S₀ b4=some (.obj 242 [.sl .any 1 (rowsU b)]))
 (h8:S₀ b8=some (.obj 283 [.fn (.func 202) [.ref bc 0] []])) (h5:S₀ b5=some (.obj 2 [.int .i64 s])) (hc:CarOk S₀ bc [] 0 bb S) :
 Triple P (C G) 203 [.ref b7 0,.ref b3 0,.ref b4 0,.ref b8 0,.ref b5 0] S fun o S'=>o=.ret (.tu [])∧∃ b',CarOk S₀ bc (joG a b s) 0 b' S':=by
 refine triple_of_defer (hT G) hm Tryz.func203 rfl (by decide +kernel) rfl (by decide +kernel) (by decide +kernel) (by show 5≤_;decide +kernel) rfl 1 rfl rfl rfl rfl rfl ?_
 conv=>whnf
 refine⟨_,_,hc.le _ _ h7,?_⟩;conv=>whnf
 refine⟨_,rfl,?_⟩;conv=>whnf
 refine⟨_,_,hc.le _ _ h3,?_⟩;conv=>whnf
 intro _;conv=>whnf
 refine⟨_,_,hc.le _ _ h4,?_⟩;conv=>whnf
 intro _;conv=>whnf
 have hmax:(if (((rowsU b).length:Int)) > ((rowsU a).length:Int) then ((rowsU b).length:Int) else ((rowsU a).length:Int))=((max a.length b.length:Nat):Int):=by
  rw[rowsU_len,rowsU_len];split<;>omega
 generalize hn:max a.length b.length=n at *;refine⟨⟨Nat,fun i=>[(0,.ref b7 0),(1,.ref b3 0),(2,.ref b4 0),(3,.ref b8 0),(4,.ref b5 0),(11,.int .i64 (n:Int)),(12,.int .i64 (i:Int))],
  fun i S'=>∃ bb',CarOk S₀ bc (joL (joF a b s) i).1 (joL (joF a b s) i).2 bb' S'∧i≤n,fun i=>n-i⟩,
  ⟨0,⟨rfl,rfl,rfl,rfl,rfl,congrArg (AV.int .i64) hmax,rfl,trivial⟩,_,St.leW_refl _,bb,hc,by omega⟩,?_⟩
 rintro(i:Nat) S₁ ⟨bb',h1,hi⟩;have hcb:=joL_bnd (joF_bnd ha hb hs) i;have hfb:=joF_bnd ha hb hs i;conv=>whnf
 refine split_of (fun hlt=>?_) (fun hlt=>?_)
 ·have hlt:i<n:=by have:=of_decide_eq_true hlt;omega
  conv=>whnf
  refine⟨[3,7],(.free 0 (.free 1 (.free 2 (.free 3 (.free 4 (.free 5 (.free 6 (.free 7 (.free 8 (.free 9 (.one 10 .done .none))))))))))),_,by decide +kernel,?_,fun _ _ h=>⟨_,.inl rfl,h⟩⟩
  conv=>whnf
  refine⟨_,_,h1.le _ _ h8,?_⟩;conv=>whnf
  refine⟨_,_,h1.le _ _ h3,?_⟩;conv=>whnf
  refine⟨.int .i64 ((a.getD i 0:Nat):Int),(limb_ok a ha (by omega) i S₁).mono ?_,?_⟩
  ·rintro o S' ⟨rfl,rfl⟩;exact⟨rfl,rfl⟩
  conv=>whnf
  refine⟨_,_,h1.le _ _ h5,?_⟩;conv=>whnf
  refine⟨_,_,h1.le _ _ h4,?_⟩;conv=>whnf
  refine⟨.int .i64 ((b.getD i 0:Nat):Int),(limb_ok b hb (by omega) i S₁).mono ?_,?_⟩
  ·rintro o S' ⟨rfl,rfl⟩;exact⟨rfl,rfl⟩
  conv=>whnf
  have hx:IntKind.i64.wrap (((a.getD i 0:Nat):Int)+IntKind.i64.wrap (s*((b.getD i 0:Nat):Int)))=joF a b s i:=by
   have hla:a.getD i 0<1000000000:=by
    by_cases h:i<a.length
    ·rw[show a.getD i 0=a[i] by simp[List.getD,h]];exact ha _ (List.getElem_mem h)
    ·rw[show a.getD i 0=0 by simp[List.getD,Nat.le_of_not_lt h]];decide
   have hlb:b.getD i 0<1000000000:=by
    by_cases h:i<b.length
    ·rw[show b.getD i 0=b[i] by simp[List.getD,h]];exact hb _ (List.getElem_mem h)
    ·rw[show b.getD i 0=0 by simp[List.getD,Nat.le_of_not_lt h]];decide
   unfold joF
   rcases hs with rfl | rfl
   ·rw[wrap_i64 (n:=1*_) (by omega) (by omega),wrap_i64 (by omega) (by omega)]
   ·rw[wrap_i64 (n:=-1*_) (by omega) (by omega),wrap_i64 (by omega) (by omega)]
  rw[hx];refine(next_ok h1 (by rw[joL_len];omega) (joF a b s i) (by omega) (by omega)).mono ?_
  rintro o S' ⟨rfl,b',h2⟩;conv=>whnf
  have w1:IntKind.i64.wrap ((i:Int)+1)=((i+1:Nat):Int):=wrap_nat (by omega)
  exact⟨i+1,⟨rfl,rfl,rfl,rfl,rfl,rfl,congrArg _ w1,trivial⟩,⟨_,St.leW_refl _,b',h2,by omega⟩,by show n-(i+1)<n-i;omega⟩
 ·have hlt:i=n:=by have:=of_decide_eq_false hlt;omega
  subst hlt;conv=>whnf
  obtain⟨hval,hnn⟩:=joG_val (b:=b) (s:=s) ha hv;rw[hn] at hnn;obtain⟨c,hc2⟩:=Int.eq_ofNat_of_zero_le hnn;rw[hc2] at h1;refine(end_awp h1 (by rw[joL_len];omega) (by omega)).mono ?_
  rintro o S' ⟨rfl,b',h2⟩;refine⟨⟨_,rfl⟩,?_⟩;conv=>whnf
  refine⟨_,_,⟨rfl,b',?_⟩,St.le_refl _,AV.leS_refl _ _ _⟩;unfold joG;rw[hn,hc2];exact h2
theorem joined_ok{a b:List Nat}{s:Int}(ha:∀ d∈a,d<1000000000)(hb:∀ d∈b,d<1000000000)(hs:s=1∨s=-1)(hal:a.length≤10000000)(hbl:b.length≤10000000)(hv:0≤(valL a:Int)+s*(valL b:Int))(S:St) :
 Triple P (C G) 192 [.sl .any 1 (rowsU a),.sl .any 1 (rowsU b),.int .i64 s] S fun o S'=>o=.ret (.sl .any 1 (rowsU (joG a b s)))∧S'=S:=by
 refine triple_of_awp (hT G) hm Tryz.func192 rfl (by decide +kernel) rfl (by decide +kernel) (by show 3≤_;decide +kernel) rfl ?_
 refine awp_seq2 fun K hK hQ=>?_
 conv=>whnf
 intro b3 hb3;rw[forceL_eq];conv=>whnf
 intro b4 hb4;rw[forceL_eq];conv=>whnf
 intro b5 hb5;conv=>whnf
 refine hK _ _ ?_;clear hK hQ K;refine awp_seq2 fun K hK hQ=>?_
 conv=>whnf
 intro bc hbc;conv=>whnf
 intro b7 hb7;conv=>whnf
 refine⟨_,_,St.upd_same _ _ _,?_⟩;conv=>whnf
 refine hK _ _ ?_;clear hK hQ K;refine awp_seq2 fun K hK hQ=>?_
 conv=>whnf
 refine⟨_,_,St.upd_same _ _ _,?_⟩;conv=>whnf
 intro b8 hb8;conv=>whnf
 refine⟨_,_,St.upd_same _ _ _,?_⟩;conv=>whnf
 refine hK _ _ ?_;clear hK hQ K;refine awp_seq2 fun K hK hQ=>?_
 conv=>whnf
 have nc7:bc≠b7:=(St.ne_upd hb7).symm
 have nc8:bc≠b8:=(St.ne_upd (St.no (St.no hb8))).symm
 have hst:((((((((S.upd b3 (.obj 242 (cellsOf (.sl .any 1 (rowsU a))))).upd b4 (.obj 242 (cellsOf (.sl .any 1 (rowsU b))))).upd b5 (.obj 2 [.int .i64 s])).upd bc (.obj 282 [.nils,.int .i64 0])).upd b7 (.obj 280 [.nilp])).upd b7 (.obj 280 [.ref bc 0])).upd b8 (.obj 283 [.nilf])).upd b8 (.obj 283 [.fn (.func 202) [.ref bc 0] []])) =
  (((((S.upd b3 (.obj 242 [.sl .any 1 (rowsU a)])).upd b4 (.obj 242 [.sl .any 1 (rowsU b)])).upd b5 (.obj 2 [.int .i64 s])).upd b7 (.obj 280 [.ref bc 0])).upd b8 (.obj 283 [.fn (.func 202) [.ref bc 0] []])).upd bc (.obj 282 [.nils,.int .i64 0]):=by
  rw[St.upd_upd,St.upd_upd,St.upd_comm nc7,St.upd_comm nc8];rfl
 rw[hst];have f5:=St.no hbc;have g7:((S.upd b3 (.obj 242 [.sl .any 1 (rowsU a)])).upd b4 (.obj 242 [.sl .any 1 (rowsU b)])).upd b5 (.obj 2 [.int .i64 s]) b7=none:=St.no hb7;have g8:(((S.upd b3 (.obj 242 [.sl .any 1 (rowsU a)])).upd b4 (.obj 242 [.sl .any 1 (rowsU b)])).upd b5 (.obj 2 [.int .i64 s])).upd b7 (.obj 280 [.ref bc 0]) b8=none:=by
  have h1:=St.no (St.no (St.no hb8))
  exact(St.upd_ne _ _ _ _ (St.ne_upd (St.no hb8))).trans h1
 have gc:((((S.upd b3 (.obj 242 [.sl .any 1 (rowsU a)])).upd b4 (.obj 242 [.sl .any 1 (rowsU b)])).upd b5 (.obj 2 [.int .i64 s])).upd b7 (.obj 280 [.ref bc 0])).upd b8 (.obj 283 [.fn (.func 202) [.ref bc 0] []]) bc=none:=
  (St.upd_ne _ _ _ _ nc8).trans ((St.upd_ne _ _ _ _ nc7).trans hbc)
 have k3:((((S.upd b3 (.obj 242 [.sl .any 1 (rowsU a)])).upd b4 (.obj 242 [.sl .any 1 (rowsU b)])).upd b5 (.obj 2 [.int .i64 s])).upd b7 (.obj 280 [.ref bc 0])).upd b8 (.obj 283 [.fn (.func 202) [.ref bc 0] []]) b3=some (.obj 242 [.sl .any 1 (rowsU a)]):=St.up g8 (St.up g7 (St.up hb5 (St.up hb4 (St.upd_same _ _ _))))
 have k4:((((S.upd b3 (.obj 242 [.sl .any 1 (rowsU a)])).upd b4 (.obj 242 [.sl .any 1 (rowsU b)])).upd b5 (.obj 2 [.int .i64 s])).upd b7 (.obj 280 [.ref bc 0])).upd b8 (.obj 283 [.fn (.func 202) [.ref bc 0] []]) b4=some (.obj 242 [.sl .any 1 (rowsU b)]):=St.up g8 (St.up g7 (St.up hb5 (St.upd_same _ _ _)))
 have k5:((((S.upd b3 (.obj 242 [.sl .any 1 (rowsU a)])).upd b4 (.obj 242 [.sl .any 1 (rowsU b)])).upd b5 (.obj 2 [.int .i64 s])).upd b7 (.obj 280 [.ref bc 0])).upd b8 (.obj 283 [.fn (.func 202) [.ref bc 0] []]) b5=some (.obj 2 [.int .i64 s]):=St.up g8 (St.up g7 (St.upd_same _ _ _))
 have k7:((((S.upd b3 (.obj 242 [.sl .any 1 (rowsU a)])).upd b4 (.obj 242 [.sl .any 1 (rowsU b)])).upd b5 (.obj 2 [.int .i64 s])).upd b7 (.obj 280 [.ref bc 0])).upd b8 (.obj 283 [.fn (.func 202) [.ref bc 0] []]) b7=some (.obj 280 [.ref bc 0]):=St.up g8 (St.upd_same _ _ _)
 have k8:((((S.upd b3 (.obj 242 [.sl .any 1 (rowsU a)])).upd b4 (.obj 242 [.sl .any 1 (rowsU b)])).upd b5 (.obj 2 [.int .i64 s])).upd b7 (.obj 280 [.ref bc 0])).upd b8 (.obj 283 [.fn (.func 202) [.ref bc 0] []]) b8=some (.obj 283 [.fn (.func 202) [.ref bc 0] []]):=St.upd_same _ _ _
 have hle:St.le S (((((S.upd b3 (.obj 242 [.sl .any 1 (rowsU a)])).upd b4 (.obj 242 [.sl .any 1 (rowsU b)])).upd b5 (.obj 2 [.int .i64 s])).upd b7 (.obj 280 [.ref bc 0])).upd b8 (.obj 283 [.fn (.func 202) [.ref bc 0] []])):=St.le_upd' (St.le_upd' (St.le_upd' (St.le_upd' (St.le_upd' (St.le_refl _) hb3 _) hb4 _) hb5 _) g7 _) g8 _
 generalize ((((S.upd b3 (.obj 242 [.sl .any 1 (rowsU a)])).upd b4 (.obj 242 [.sl .any 1 (rowsU b)])).upd b5 (.obj 2 [.int .i64 s])).upd b7 (.obj 280 [.ref bc 0])).upd b8 (.obj 283 [.fn (.func 202) [.ref bc 0] []])=Sj at *;have hW:St.leW (Sj.upd bc (.obj 282 [.sl (.acc 0) 1 (rowsU []),.int .i64 0])) (Sj.upd bc (.obj 282 [.nils,.int .i64 0])):=by
  have:=St.leW_upd (cs':=[.sl (.acc 0) 1 (rowsU []),.int .i64 0]) (St.upd_same Sj bc (.obj 282 [.nils,.int .i64 0])) ⟨rfl,rfl,trivial⟩
  rwa [St.upd_upd] at this
 have hc0:CarOk Sj bc [] 0 0 (Sj.upd bc (.obj 282 [.sl (.acc 0) 1 (rowsU []),.int .i64 0])):=⟨St.le_upd' (St.le_refl _) gc _,gc,St.upd_same _ _ _,fun h=>absurd rfl h,fun h=>absurd rfl h⟩
 refine(Triple.weakS (joined1_ok ha hb hs hal hbl hv k7 k3 k4 k8 k5 hc0) hW).mono ?_;rintro o S' ⟨rfl,b',h2⟩;conv=>whnf
 refine hK _ _ ?_;clear hK hQ K;conv=>whnf
 refine⟨_,_,h2.le _ _ k7,?_⟩;conv=>whnf
 refine⟨_,_,h2.at_,?_⟩;conv=>whnf
 exact⟨_,_,⟨rfl,rfl⟩,St.le_trans hle h2.le,rfl,rfl⟩
theorem limbs_len_lo{n:Nat}(h:0<n):1000000000 ^ ((limbs n).length-1)≤n:=by
 by_cases h1:1000000000 ^ ((limbs n).length-1)≤n
 ·exact h1
 ·have:=limbs_len ((limbs n).length-1) n (by omega)
  have h3:(limbs n).length≠0:=fun h0=>limbs_ne h (List.eq_nil_of_length_eq_zero h0)
  omega
theorem limbs_longer{x y:Nat}(h:(limbs y).length<(limbs x).length):y<x:=by
 have hx:0<x:=by
  rcases Nat.eq_zero_or_pos x with h0 | h0
  ·subst h0;rw[limbs_zero] at h;simp at h
  ·exact h0
 have h1:=limbs_len_lo hx
 have h2:y<1000000000 ^ (limbs y).length:=by
  have:=topV_lt (limbs_lt y) _ (Nat.le_refl _)
  rwa [topV_all,valL_limbs] at this
 have:=Nat.pow_le_pow_right (n:=1000000000) (by decide) (show(limbs y).length≤(limbs x).length-1 by omega)
 omega
theorem valL_cmp{a b:List Nat}(ha:∀ d∈a,d<1000000000)(hb:∀ d∈b,d<1000000000)(hl:a.length=b.length){k:Nat}(hk:k<a.length)(he:a.drop (k+1)=b.drop (k+1))(hlt:a[k]<b[k]'(hl ▸ hk)):valL a<valL b:=by
 have e1:a=a.take k++(a[k]::a.drop (k+1)):=by rw[List.getElem_cons_drop hk,List.take_append_drop]
 have e2:b=b.take k++(b[k]::b.drop (k+1)):=by rw[List.getElem_cons_drop (hl ▸ hk),List.take_append_drop]
 rw[e1,e2,valL_append,valL_append];have h1:(a.take k).length=k:=by simp;omega
 have h2:(b.take k).length=k:=by simp;omega
 have h3:valL (a.take k)<1000000000 ^ k:=by
  have:=topV_lt (l:=a.take k) (fun d hd=>ha d (List.mem_of_mem_take hd)) _ (Nat.le_refl _)
  rwa [topV_all,h1] at this
 simp only[h1,h2,valL,he];generalize a[k]=p at *;have hk':k<b.length:=hl ▸ hk;generalize b[k]=q at *;generalize valL (b.drop (k+1))=r at *;have:1000000000 ^ k*(p+1+1000000000*r)≤1000000000 ^ k*(q+1000000000*r):=Nat.mul_le_mul_left _ (by omega)
 rw[show p+1+1000000000*r=(p+1000000000*r)+1 by omega,Nat.mul_add,Nat.mul_one] at this
 omega
theorem sizes_ok(x y:Nat)(hx:(limbs x).length≤100000000)(hy:(limbs y).length≤100000000)(S:St):Triple P (C G) 193 [.sl .any 1 (rowsU (limbs x)),.sl .any 1 (rowsU (limbs y))] S fun o S'=>∃ v:Int,o=.ret (.int .i64 v)∧(0≤v↔y≤x)∧S'=S:=by
 have hxv:=valL_limbs x
 have hyv:=valL_limbs y
 have hxd:=limbs_lt x
 have hyd:=limbs_lt y
 have hlo:(limbs y).length<(limbs x).length→y<x:=limbs_longer
 have hlo2:(limbs x).length<(limbs y).length→x<y:=limbs_longer
 generalize limbs x=a at *;generalize limbs y=b at *;refine triple_of_awp (hT G) hm Tryz.func193 rfl (by decide +kernel) rfl (by decide +kernel) (by show 2≤_;decide +kernel) rfl ?_
 conv=>whnf
 intro _;conv=>whnf
 intro _;conv=>whnf
 refine split_of (fun h=>?_) (fun h=>?_)
 ·have h:a.length≠b.length:=by
   intro hh;rw[rowsU_len,rowsU_len,hh] at h;simp at h
  conv=>whnf
  intro _;conv=>whnf
  intro _;conv=>whnf
  refine⟨_,_,⟨_,rfl,?_,rfl⟩,St.le_refl _,AV.leS_refl _ _ _⟩;rw[rowsU_len,rowsU_len,wrap_i64 (by omega) (by omega)]
  constructor
  ·intro h1;exact Nat.le_of_lt (hlo (by omega))
  ·intro h1;by_cases h2:a.length<b.length
   ·have:=hlo2 h2;omega
   ·omega
 ·have h:a.length=b.length:=by
   by_cases hh:a.length=b.length
   ·exact hh
   ·exfalso;rw[rowsU_len,rowsU_len] at h;simp at h;omega
  conv=>whnf
  intro _;conv=>whnf
  have hw0:IntKind.i64.wrap (((rowsU a).length:Int)-1)=(a.length:Int)-1:=by rw[rowsU_len,wrap_i64 (by omega) (by omega)]
  refine⟨⟨Nat,fun i=>[(0,.sl .any 1 (rowsU a)),(1,.sl .any 1 (rowsU b)),(5,.int .i64 ((i:Int)-1))],fun i S'=>S'=S∧i≤a.length∧a.drop i=b.drop i,fun i=>i⟩,
   ⟨a.length,⟨⟨rfl,rfl⟩,⟨rfl,rfl⟩,congrArg _ hw0,trivial⟩,_,St.leW_refl _,rfl,by omega,by rw[List.drop_of_length_le (by omega),List.drop_of_length_le (by omega)]⟩,?_⟩
  rintro(i:Nat) S' ⟨rfl,hi,he⟩;conv=>whnf
  refine split_of (fun hlt=>?_) (fun hlt=>?_)
  ·have hlt:1≤i:=by have:=of_decide_eq_true hlt;omega
   obtain⟨k,rfl⟩:∃ k,i=k+1:=⟨i-1,by omega⟩
   have hka:k<a.length:=by omega
   have hkb:k<b.length:=by omega
   have ek:(((k+1:Nat):Int)-1)=(k:Int):=by omega
   have ga:(rowsU a)[(((k+1:Nat):Int)-1).toNat]? = some [.int .u32 ((a[k]:Nat):Int)]:=by rw[ek];simp[rowsU,hka]
   have gb:(rowsU b)[(((k+1:Nat):Int)-1).toNat]? = some [.int .u32 ((b[k]:Nat):Int)]:=by rw[ek];simp[rowsU,hkb]
   conv=>whnf
   refine⟨[],(.free 0 (.free 1 (.free 2 (.free 3 (.free 4 (.free 5 (.free 6 (.free 7 (.free 8 .done))))))))),_,by decide +kernel,?_,fun _ _ h=>⟨_,.inl rfl,h⟩⟩
   conv=>whnf
   refine⟨_,⟨by omega,ga⟩,?_⟩
   conv=>whnf
   refine⟨_,⟨by omega,gb⟩,?_⟩
   conv=>whnf
   refine split_of (fun hne=>?_) (fun hne=>?_)
   ·have hne:a[k]≠b[k]:=by
     intro hh;rw[hh] at hne;simp at hne
    conv=>whnf
    refine⟨[],(.free 0 (.free 1 (.free 2 (.free 3 (.free 4 (.free 5 (.free 6 (.free 7 (.free 8 (.free 9 (.free 10 (.free 11 .done)))))))))))),_,by decide +kernel,?_,fun _ _ h=>⟨_,.inl rfl,h⟩⟩
    conv=>whnf
    refine⟨_,⟨by omega,ga⟩,?_⟩
    conv=>whnf
    refine⟨_,⟨by omega,gb⟩,?_⟩
    conv=>whnf
    refine⟨_,_,⟨_,rfl,?_,rfl⟩,St.le_refl _,AV.leS_refl _ _ _⟩;have h1:=hxd _ (List.getElem_mem hka);have h2:=hyd _ (List.getElem_mem hkb);rw[wrap_i64 (n:=((a[k]:Nat):Int)) (by omega) (by omega),wrap_i64 (n:=((b[k]:Nat):Int)) (by omega) (by omega),wrap_i64 (by omega) (by omega)]
    constructor
    ·intro h3;have:=valL_cmp hyd hxd h.symm hkb he.symm (by omega)
     omega
    ·intro h3
     by_cases h4:a[k]<b[k]
     ·have:=valL_cmp hxd hyd h hka he h4
      omega
     ·omega
   ·have hne:a[k]=b[k]:=by
     by_cases hh:a[k]=b[k]
     ·exact hh
     ·exfalso;simp at hne;omega
    conv=>whnf
    have w1:IntKind.i64.wrap ((((k+1:Nat):Int)-1)-1)=(k:Int)-1:=by rw[wrap_i64 (by omega) (by omega)];omega
    refine⟨k,⟨⟨rfl,rfl⟩,⟨rfl,rfl⟩,congrArg _ w1,trivial⟩,⟨_,St.leW_refl _,rfl,by omega,?_⟩,by show k<k+1;omega⟩
    rw[← List.getElem_cons_drop hka,← List.getElem_cons_drop hkb,hne,he]
  ·have hlt:i=0:=by have:=of_decide_eq_false hlt;omega
   subst hlt;conv=>whnf
   refine⟨_,_,⟨_,rfl,?_,rfl⟩,St.le_refl _,AV.leS_refl _ _ _⟩;have:a=b:=by simpa using he
   subst this
   constructor
   ·intro _;omega
   ·intro _;omega
def okZ(z:Int)(k:Nat):Prop:=(limbs z.natAbs).length≤k
theorem joG_len(a b:List Nat){s:Int}(ha:∀ d∈a,d<1000000000)(hb:∀ d∈b,d<1000000000)(hs:s=1∨s=-1):(joG a b s).length≤max a.length b.length+1:=by
 have h1:=joL_bnd (joF_bnd ha hb hs) (max a.length b.length)
 have h2:(limbs (joL (joF a b s) (max a.length b.length)).2.toNat).length≤1:=limbs_len 1 _ (by omega)
 unfold joG;rw[List.length_append,joL_len];omega
theorem bSign_neg(z:Int):decide (bSign z<0)=decide (z<0):=by
 unfold bSign
 by_cases h:z<0
 ·simp[h]
 ·rw[if_neg h];by_cases h0:z=0<;>simp[h,h0]
theorem Add_near(x y:Int)(hx:near x)(hy:near y)(S:St):Triple P (C G) 182 [nearAV x,nearAV y] S fun o S'=>o=.ret (bigAV (x+y))∧S'=S:=by
 refine triple_of_awp (hT G) hm Tryz.func182 rfl (by decide +kernel) rfl (by decide +kernel) (by show 2≤_;decide +kernel) rfl ?_
 refine awp_seq2 fun K hK hQ=>?_
 conv=>whnf
 intro b2 hb2;conv=>whnf
 intro b3 hb3;conv=>whnf
 intro b4 hb4;conv=>whnf
 refine hK _ _ ?_;clear hK hQ K;have k2:(((S.upd b2 (.obj 244 [.int .i64 x,.bool false,.nils])).upd b3 (.obj 244 [.int .i64 y,.bool false,.nils])).upd b4 (.obj 244 [.int .i64 0,.bool false,.nils])) b2=some (.obj 244 [.int .i64 x,.bool false,.nils]):=St.up hb4 (St.up hb3 (St.upd_same _ _ _));have k3:(((S.upd b2 (.obj 244 [.int .i64 x,.bool false,.nils])).upd b3 (.obj 244 [.int .i64 y,.bool false,.nils])).upd b4 (.obj 244 [.int .i64 0,.bool false,.nils])) b3=some (.obj 244 [.int .i64 y,.bool false,.nils]):=St.up hb4 (St.upd_same _ _ _);conv=>whnf
 refine⟨_,_,k2,?_⟩;conv=>whnf
 refine⟨_,_,k3,?_⟩;conv=>whnf
 refine⟨_,_,k2,?_⟩;conv=>whnf
 refine⟨_,_,k3,?_⟩;conv=>whnf
 unfold near at hx hy;have hw:IntKind.i64.wrap (x+y)=x+y:=wrap_i64 (by omega) (by omega)
 rw[hw];refine(Of_ok (x+y) (by omega) (by omega) _).mono ?_
 rintro o S' ⟨rfl,rfl⟩
 by_cases hz:near (x+y)
 ·rw[bigAV_near hz];conv=>whnf
  refine⟨_,_,St.upd_same _ _ _,?_⟩;conv=>whnf
  refine⟨_,_,St.upd_same _ _ _,?_⟩;conv=>whnf
  refine⟨_,_,⟨rfl,rfl⟩,?_,AV.leS_refl _ _ _⟩;rw[St.upd_upd];exact St.le_upd' (St.le_upd' (St.le_upd' (St.le_refl _) hb2 _) hb3 _) hb4 _
 ·rw[bigAV_far hz];conv=>whnf
  refine⟨_,_,St.upd_same _ _ _,?_⟩;conv=>whnf
  refine⟨_,_,St.upd_same _ _ _,?_⟩;conv=>whnf
  refine⟨_,_,⟨rfl,rfl⟩,?_,AV.leS_refl _ _ _⟩;rw[St.upd_upd];exact St.le_upd' (St.le_upd' (St.le_upd' (St.le_refl _) hb2 _) hb3 _) hb4 _
theorem Add_ff(x y:Int)(hx:¬ near x)(kx:okZ x 9000000)(ky:okZ y 9000000)(hy:¬ near y)(S:St):Triple P (C G) 182 [bigAV x,bigAV y] S fun o S'=>o=.ret (bigAV (x+y))∧S'=S:=by
 have sx:=fun S=>size_ok (G:=G) x S
 have sy:=fun S=>size_ok (G:=G) y S
 have gx:=fun S=>Sign_ok (G:=G) x S
 have gy:=fun S=>Sign_ok (G:=G) y S
 rw[bigAV_far hx] at *;rw[bigAV_far hy] at *;have nx:=far_pos hx;have ny:=far_pos hy;have lx:=limbs_ne (n:=x.natAbs) (by omega)
 have ly:=limbs_ne (n:=y.natAbs) (by omega)
 refine triple_of_awp (hT G) hm Tryz.func182 rfl (by decide +kernel) rfl (by decide +kernel) (by show 2≤_;decide +kernel) rfl ?_
 refine awp_seq2 fun K hK hQ=>?_
 conv=>whnf
 intro b2 hb2;conv=>whnf
 intro b3 hb3;conv=>whnf
 intro b4 hb4;conv=>whnf
 refine hK _ _ ?_;clear hK hQ K;have k2:(((S.upd b2 (.obj 244 [.int .i64 0,.bool (decide (x<0)),.sl .any 1 (rowsU (limbs x.natAbs))])).upd b3 (.obj 244 [.int .i64 0,.bool (decide (y<0)),.sl .any 1 (rowsU (limbs y.natAbs))])).upd b4 (.obj 244 [.int .i64 0,.bool false,.nils])) b2=some (.obj 244 [.int .i64 0,.bool (decide (x<0)),.sl .any 1 (rowsU (limbs x.natAbs))]):=St.up hb4 (St.up hb3 (St.upd_same _ _ _));have k3:(((S.upd b2 (.obj 244 [.int .i64 0,.bool (decide (x<0)),.sl .any 1 (rowsU (limbs x.natAbs))])).upd b3 (.obj 244 [.int .i64 0,.bool (decide (y<0)),.sl .any 1 (rowsU (limbs y.natAbs))])).upd b4 (.obj 244 [.int .i64 0,.bool false,.nils])) b3=some (.obj 244 [.int .i64 0,.bool (decide (y<0)),.sl .any 1 (rowsU (limbs y.natAbs))]):=St.up hb4 (St.upd_same _ _ _);refine awp_seq2 fun K hK hQ=>?_
 conv=>whnf
 refine⟨_,_,k2,?_⟩;conv=>whnf
 intro c hc;have hc:=hc (rowsU_ne lx);subst hc;conv=>whnf
 -- ,the numbers' cells;sx sy gx gy hx hy in sight
 refine hK _ _ ?_;clear hK hQ K;refine awp_seq2 fun K hK hQ=>?_
 conv=>whnf
 refine⟨[1,3],(.free 0 (.free 1 (.free 2 (.free 3 (.free 4 (.free 5 .done)))))),_,by decide +kernel,?_,fun _ _ h=>⟨_,.inl rfl,h⟩⟩
 conv=>whnf
 refine⟨_,_,k2,?_⟩;conv=>whnf
 refine⟨.sl .any 1 (rowsU (limbs x.natAbs)),(sx _).mono ?_,?_⟩
 ·rintro o S' ⟨rfl,rfl⟩;exact⟨rfl,rfl⟩
 conv=>whnf
 refine⟨_,_,k3,?_⟩;conv=>whnf
 refine⟨.sl .any 1 (rowsU (limbs y.natAbs)),(sy _).mono ?_,?_⟩
 ·rintro o S' ⟨rfl,rfl⟩;exact⟨rfl,rfl⟩
 conv=>whnf
 refine hK _ _ ?_;clear hK hQ K;refine awp_seq2 fun K hK hQ=>?_
 conv=>whnf
 refine⟨[1,4],(.free 0 (.free 1 (.free 2 (.free 3 (.free 4 (.free 5 (.free 6 (.free 7 .done)))))))),_,by decide +kernel,?_,fun _ _ h=>⟨_,.inl rfl,h⟩⟩
 conv=>whnf
 refine⟨_,_,k2,?_⟩;conv=>whnf
 refine⟨.int .i64 (bSign x),(gx _).mono ?_,?_⟩
 ·rintro o S' ⟨rfl,rfl⟩;exact⟨rfl,rfl⟩
 conv=>whnf
 refine⟨_,_,k3,?_⟩;conv=>whnf
 refine⟨.int .i64 (bSign y),(gy _).mono ?_,?_⟩
 ·rintro o S' ⟨rfl,rfl⟩;exact⟨rfl,rfl⟩
 conv=>whnf
 refine hK _ _ ?_;clear hK hQ K;rw[bSign_neg,bSign_neg];generalize hnx:decide (x<0)=nx at *;generalize hny:decide (y<0)=ny at *;have kx':(limbs x.natAbs).length≤10000000:=Nat.le_trans kx (by decide)
 have ky':(limbs y.natAbs).length≤10000000:=Nat.le_trans ky (by decide)
 have vx:=valL_limbs x.natAbs
 have vy:=valL_limbs y.natAbs
 conv=>whnf
 refine split_of (fun hsg=>?_) (fun hsg=>?_)
 ·conv=>whnf
  -- nx sign,joG (limbs x.natAbs) (limbs y.natAbs) 1 list
  refine(joined_ok (limbs_lt _) (limbs_lt _) (.inl rfl) (by assumption) (by assumption) (by omega) _).mono ?_
  rintro o S' ⟨rfl,rfl⟩;conv=>whnf
  have hlen:(joG (limbs x.natAbs) (limbs y.natAbs) 1).length≤1000000000:=by
   have:=joG_len (s:=1) (limbs x.natAbs) (limbs y.natAbs) (limbs_lt _) (limbs_lt _) (.inl rfl)
   omega
  refine(made_ok nx (joG (limbs x.natAbs) (limbs y.natAbs) 1) (joG_dig _ _ _) hlen _).mono ?_;rintro o S' ⟨rfl,rfl⟩;have hval:=(joG_val (a:=(limbs x.natAbs)) (b:=(limbs y.natAbs)) (s:=1) (limbs_lt _) (by omega)).1
  rw[valL_limbs,valL_limbs] at hval;have hsum:(if nx then -(valL (joG (limbs x.natAbs) (limbs y.natAbs) 1):Int) else (valL (joG (limbs x.natAbs) (limbs y.natAbs) 1):Int))=x+y:=by
   rw[hval];clear hval hlen;have f1:nx=true→x<0:=fun h=>of_decide_eq_true (hnx.trans h)
   have f2:nx=false→¬ x<0:=fun h=>of_decide_eq_false (hnx.trans h)
   have g1:ny=true→y<0:=fun h=>of_decide_eq_true (hny.trans h)
   have g2:ny=false→¬ y<0:=fun h=>of_decide_eq_false (hny.trans h)
   clear hnx hny
   cases nx<;>cases ny<;>first | (exact absurd hsg (by decide)) | (simp only[if_true,Bool.false_eq_true,if_false,true_implies,false_implies,reduceCtorEq] at f1 f2 g1 g2 ⊢;omega)
  rw[hsum]
  by_cases hz:near (x+y)
  ·rw[bigAV_near hz];conv=>whnf
   refine⟨_,_,St.upd_same _ _ _,?_⟩;conv=>whnf
   refine⟨_,_,St.upd_same _ _ _,?_⟩;conv=>whnf
   refine⟨_,_,⟨rfl,rfl⟩,?_,AV.leS_refl _ _ _⟩;rw[St.upd_upd];exact St.le_upd' (St.le_upd' (St.le_upd' (St.le_refl _) hb2 _) hb3 _) hb4 _
  ·rw[bigAV_far hz];conv=>whnf
   refine⟨_,_,St.upd_same _ _ _,?_⟩;conv=>whnf
   refine⟨_,_,St.upd_same _ _ _,?_⟩;conv=>whnf
   refine⟨_,_,⟨rfl,rfl⟩,?_,AV.leS_refl _ _ _⟩;rw[St.upd_upd];exact St.le_upd' (St.le_upd' (St.le_upd' (St.le_refl _) hb2 _) hb3 _) hb4 _
 ·conv=>whnf
  refine(sizes_ok x.natAbs y.natAbs (by omega) (by omega) _).mono ?_
  rintro o S' ⟨v,rfl,hv,rfl⟩;conv=>whnf
  refine split_of (fun hge=>?_) (fun hge=>?_)
  ·have hle:=hv.1 (of_decide_eq_true hge)
   conv=>whnf
   -- nx sign,joG (limbs x.natAbs) (limbs y.natAbs) (-1) list
   refine(joined_ok (limbs_lt _) (limbs_lt _) (.inr rfl) (by assumption) (by assumption) (by omega) _).mono ?_
   rintro o S' ⟨rfl,rfl⟩;conv=>whnf
   have hlen:(joG (limbs x.natAbs) (limbs y.natAbs) (-1)).length≤1000000000:=by
    have:=joG_len (s:=(-1)) (limbs x.natAbs) (limbs y.natAbs) (limbs_lt _) (limbs_lt _) (.inr rfl)
    omega
   refine(made_ok nx (joG (limbs x.natAbs) (limbs y.natAbs) (-1)) (joG_dig _ _ _) hlen _).mono ?_;rintro o S' ⟨rfl,rfl⟩;have hval:=(joG_val (a:=(limbs x.natAbs)) (b:=(limbs y.natAbs)) (s:=(-1)) (limbs_lt _) (by omega)).1
   rw[valL_limbs,valL_limbs] at hval;have hsum:(if nx then -(valL (joG (limbs x.natAbs) (limbs y.natAbs) (-1)):Int) else (valL (joG (limbs x.natAbs) (limbs y.natAbs) (-1)):Int))=x+y:=by
    rw[hval];clear hval hlen;have f1:nx=true→x<0:=fun h=>of_decide_eq_true (hnx.trans h)
    have f2:nx=false→¬ x<0:=fun h=>of_decide_eq_false (hnx.trans h)
    have g1:ny=true→y<0:=fun h=>of_decide_eq_true (hny.trans h)
    have g2:ny=false→¬ y<0:=fun h=>of_decide_eq_false (hny.trans h)
    clear hnx hny
    cases nx<;>cases ny<;>first | (exact absurd hsg (by decide)) | (simp only[if_true,Bool.false_eq_true,if_false,true_implies,false_implies,reduceCtorEq] at f1 f2 g1 g2 ⊢;omega)
   rw[hsum]
   by_cases hz:near (x+y)
   ·rw[bigAV_near hz];conv=>whnf
    refine⟨_,_,St.upd_same _ _ _,?_⟩;conv=>whnf
    refine⟨_,_,St.upd_same _ _ _,?_⟩;conv=>whnf
    refine⟨_,_,⟨rfl,rfl⟩,?_,AV.leS_refl _ _ _⟩;rw[St.upd_upd];exact St.le_upd' (St.le_upd' (St.le_upd' (St.le_refl _) hb2 _) hb3 _) hb4 _
   ·rw[bigAV_far hz];conv=>whnf
    refine⟨_,_,St.upd_same _ _ _,?_⟩;conv=>whnf
    refine⟨_,_,St.upd_same _ _ _,?_⟩;conv=>whnf
    refine⟨_,_,⟨rfl,rfl⟩,?_,AV.leS_refl _ _ _⟩;rw[St.upd_upd];exact St.le_upd' (St.le_upd' (St.le_upd' (St.le_refl _) hb2 _) hb3 _) hb4 _
  ·have hle:¬ y.natAbs≤x.natAbs:=fun h=>of_decide_eq_false hge (hv.2 h)
   conv=>whnf
   -- ny sign,joG (limbs y.natAbs) (limbs x.natAbs) (-1) list
   refine(joined_ok (limbs_lt _) (limbs_lt _) (.inr rfl) (by assumption) (by assumption) (by omega) _).mono ?_
   rintro o S' ⟨rfl,rfl⟩;conv=>whnf
   have hlen:(joG (limbs y.natAbs) (limbs x.natAbs) (-1)).length≤1000000000:=by
    have:=joG_len (s:=(-1)) (limbs y.natAbs) (limbs x.natAbs) (limbs_lt _) (limbs_lt _) (.inr rfl)
    omega
   refine(made_ok ny (joG (limbs y.natAbs) (limbs x.natAbs) (-1)) (joG_dig _ _ _) hlen _).mono ?_;rintro o S' ⟨rfl,rfl⟩;have hval:=(joG_val (a:=(limbs y.natAbs)) (b:=(limbs x.natAbs)) (s:=(-1)) (limbs_lt _) (by omega)).1
   rw[valL_limbs,valL_limbs] at hval;have hsum:(if ny then -(valL (joG (limbs y.natAbs) (limbs x.natAbs) (-1)):Int) else (valL (joG (limbs y.natAbs) (limbs x.natAbs) (-1)):Int))=x+y:=by
    rw[hval];clear hval hlen;have f1:nx=true→x<0:=fun h=>of_decide_eq_true (hnx.trans h)
    have f2:nx=false→¬ x<0:=fun h=>of_decide_eq_false (hnx.trans h)
    have g1:ny=true→y<0:=fun h=>of_decide_eq_true (hny.trans h)
    have g2:ny=false→¬ y<0:=fun h=>of_decide_eq_false (hny.trans h)
    clear hnx hny
    cases nx<;>cases ny<;>first | (exact absurd hsg (by decide)) | (simp only[if_true,Bool.false_eq_true,if_false,true_implies,false_implies,reduceCtorEq] at f1 f2 g1 g2 ⊢;omega)
   rw[hsum]
   by_cases hz:near (x+y)
   ·rw[bigAV_near hz];conv=>whnf
    refine⟨_,_,St.upd_same _ _ _,?_⟩;conv=>whnf
    refine⟨_,_,St.upd_same _ _ _,?_⟩;conv=>whnf
    refine⟨_,_,⟨rfl,rfl⟩,?_,AV.leS_refl _ _ _⟩;rw[St.upd_upd];exact St.le_upd' (St.le_upd' (St.le_upd' (St.le_refl _) hb2 _) hb3 _) hb4 _
   ·rw[bigAV_far hz];conv=>whnf
    refine⟨_,_,St.upd_same _ _ _,?_⟩;conv=>whnf
    refine⟨_,_,St.upd_same _ _ _,?_⟩;conv=>whnf
    refine⟨_,_,⟨rfl,rfl⟩,?_,AV.leS_refl _ _ _⟩;rw[St.upd_upd];exact St.le_upd' (St.le_upd' (St.le_upd' (St.le_refl _) hb2 _) hb3 _) hb4 _
theorem Add_fn(x y:Int)(hx:¬ near x)(kx:okZ x 9000000)(ky:okZ y 9000000)(hy:near y)(S:St):Triple P (C G) 182 [bigAV x,bigAV y] S fun o S'=>o=.ret (bigAV (x+y))∧S'=S:=by
 have sx:=fun S=>size_ok (G:=G) x S
 have sy:=fun S=>size_ok (G:=G) y S
 have gx:=fun S=>Sign_ok (G:=G) x S
 have gy:=fun S=>Sign_ok (G:=G) y S
 rw[bigAV_far hx] at *;rw[bigAV_near hy] at *;have nx:=far_pos hx;have lx:=limbs_ne (n:=x.natAbs) (by omega)
 refine triple_of_awp (hT G) hm Tryz.func182 rfl (by decide +kernel) rfl (by decide +kernel) (by show 2≤_;decide +kernel) rfl ?_
 refine awp_seq2 fun K hK hQ=>?_
 conv=>whnf
 intro b2 hb2;conv=>whnf
 intro b3 hb3;conv=>whnf
 intro b4 hb4;conv=>whnf
 refine hK _ _ ?_;clear hK hQ K;have k2:(((S.upd b2 (.obj 244 [.int .i64 0,.bool (decide (x<0)),.sl .any 1 (rowsU (limbs x.natAbs))])).upd b3 (.obj 244 [.int .i64 y,.bool false,.nils])).upd b4 (.obj 244 [.int .i64 0,.bool false,.nils])) b2=some (.obj 244 [.int .i64 0,.bool (decide (x<0)),.sl .any 1 (rowsU (limbs x.natAbs))]):=St.up hb4 (St.up hb3 (St.upd_same _ _ _));have k3:(((S.upd b2 (.obj 244 [.int .i64 0,.bool (decide (x<0)),.sl .any 1 (rowsU (limbs x.natAbs))])).upd b3 (.obj 244 [.int .i64 y,.bool false,.nils])).upd b4 (.obj 244 [.int .i64 0,.bool false,.nils])) b3=some (.obj 244 [.int .i64 y,.bool false,.nils]):=St.up hb4 (St.upd_same _ _ _);refine awp_seq2 fun K hK hQ=>?_
 conv=>whnf
 refine⟨_,_,k2,?_⟩;conv=>whnf
 intro c hc;have hc:=hc (rowsU_ne lx);subst hc;conv=>whnf
 -- ,the numbers' cells;sx sy gx gy hx hy in sight
 refine hK _ _ ?_;clear hK hQ K;refine awp_seq2 fun K hK hQ=>?_
 conv=>whnf
 refine⟨[1,3],(.free 0 (.free 1 (.free 2 (.free 3 (.free 4 (.free 5 .done)))))),_,by decide +kernel,?_,fun _ _ h=>⟨_,.inl rfl,h⟩⟩
 conv=>whnf
 refine⟨_,_,k2,?_⟩;conv=>whnf
 refine⟨.sl .any 1 (rowsU (limbs x.natAbs)),(sx _).mono ?_,?_⟩
 ·rintro o S' ⟨rfl,rfl⟩;exact⟨rfl,rfl⟩
 conv=>whnf
 refine⟨_,_,k3,?_⟩;conv=>whnf
 refine⟨.sl .any 1 (rowsU (limbs y.natAbs)),(sy _).mono ?_,?_⟩
 ·rintro o S' ⟨rfl,rfl⟩;exact⟨rfl,rfl⟩
 conv=>whnf
 refine hK _ _ ?_;clear hK hQ K;refine awp_seq2 fun K hK hQ=>?_
 conv=>whnf
 refine⟨[1,4],(.free 0 (.free 1 (.free 2 (.free 3 (.free 4 (.free 5 (.free 6 (.free 7 .done)))))))),_,by decide +kernel,?_,fun _ _ h=>⟨_,.inl rfl,h⟩⟩
 conv=>whnf
 refine⟨_,_,k2,?_⟩;conv=>whnf
 refine⟨.int .i64 (bSign x),(gx _).mono ?_,?_⟩
 ·rintro o S' ⟨rfl,rfl⟩;exact⟨rfl,rfl⟩
 conv=>whnf
 refine⟨_,_,k3,?_⟩;conv=>whnf
 refine⟨.int .i64 (bSign y),(gy _).mono ?_,?_⟩
 ·rintro o S' ⟨rfl,rfl⟩;exact⟨rfl,rfl⟩
 conv=>whnf
 refine hK _ _ ?_;clear hK hQ K;rw[bSign_neg,bSign_neg];generalize hnx:decide (x<0)=nx at *;generalize hny:decide (y<0)=ny at *;have kx':(limbs x.natAbs).length≤10000000:=Nat.le_trans kx (by decide)
 have ky':(limbs y.natAbs).length≤10000000:=Nat.le_trans ky (by decide)
 have vx:=valL_limbs x.natAbs
 have vy:=valL_limbs y.natAbs
 conv=>whnf
 refine split_of (fun hsg=>?_) (fun hsg=>?_)
 ·conv=>whnf
  -- nx sign,joG (limbs x.natAbs) (limbs y.natAbs) 1 list
  refine(joined_ok (limbs_lt _) (limbs_lt _) (.inl rfl) (by assumption) (by assumption) (by omega) _).mono ?_
  rintro o S' ⟨rfl,rfl⟩;conv=>whnf
  have hlen:(joG (limbs x.natAbs) (limbs y.natAbs) 1).length≤1000000000:=by
   have:=joG_len (s:=1) (limbs x.natAbs) (limbs y.natAbs) (limbs_lt _) (limbs_lt _) (.inl rfl)
   omega
  refine(made_ok nx (joG (limbs x.natAbs) (limbs y.natAbs) 1) (joG_dig _ _ _) hlen _).mono ?_;rintro o S' ⟨rfl,rfl⟩;have hval:=(joG_val (a:=(limbs x.natAbs)) (b:=(limbs y.natAbs)) (s:=1) (limbs_lt _) (by omega)).1
  rw[valL_limbs,valL_limbs] at hval;have hsum:(if nx then -(valL (joG (limbs x.natAbs) (limbs y.natAbs) 1):Int) else (valL (joG (limbs x.natAbs) (limbs y.natAbs) 1):Int))=x+y:=by
   rw[hval];clear hval hlen;have f1:nx=true→x<0:=fun h=>of_decide_eq_true (hnx.trans h)
   have f2:nx=false→¬ x<0:=fun h=>of_decide_eq_false (hnx.trans h)
   have g1:ny=true→y<0:=fun h=>of_decide_eq_true (hny.trans h)
   have g2:ny=false→¬ y<0:=fun h=>of_decide_eq_false (hny.trans h)
   clear hnx hny
   cases nx<;>cases ny<;>first | (exact absurd hsg (by decide)) | (simp only[if_true,Bool.false_eq_true,if_false,true_implies,false_implies,reduceCtorEq] at f1 f2 g1 g2 ⊢;omega)
  rw[hsum]
  by_cases hz:near (x+y)
  ·rw[bigAV_near hz];conv=>whnf
   refine⟨_,_,St.upd_same _ _ _,?_⟩;conv=>whnf
   refine⟨_,_,St.upd_same _ _ _,?_⟩;conv=>whnf
   refine⟨_,_,⟨rfl,rfl⟩,?_,AV.leS_refl _ _ _⟩;rw[St.upd_upd];exact St.le_upd' (St.le_upd' (St.le_upd' (St.le_refl _) hb2 _) hb3 _) hb4 _
  ·rw[bigAV_far hz];conv=>whnf
   refine⟨_,_,St.upd_same _ _ _,?_⟩;conv=>whnf
   refine⟨_,_,St.upd_same _ _ _,?_⟩;conv=>whnf
   refine⟨_,_,⟨rfl,rfl⟩,?_,AV.leS_refl _ _ _⟩;rw[St.upd_upd];exact St.le_upd' (St.le_upd' (St.le_upd' (St.le_refl _) hb2 _) hb3 _) hb4 _
 ·conv=>whnf
  refine(sizes_ok x.natAbs y.natAbs (by omega) (by omega) _).mono ?_
  rintro o S' ⟨v,rfl,hv,rfl⟩;conv=>whnf
  refine split_of (fun hge=>?_) (fun hge=>?_)
  ·have hle:=hv.1 (of_decide_eq_true hge)
   conv=>whnf
   -- nx sign,joG (limbs x.natAbs) (limbs y.natAbs) (-1) list
   refine(joined_ok (limbs_lt _) (limbs_lt _) (.inr rfl) (by assumption) (by assumption) (by omega) _).mono ?_
   rintro o S' ⟨rfl,rfl⟩;conv=>whnf
   have hlen:(joG (limbs x.natAbs) (limbs y.natAbs) (-1)).length≤1000000000:=by
    have:=joG_len (s:=(-1)) (limbs x.natAbs) (limbs y.natAbs) (limbs_lt _) (limbs_lt _) (.inr rfl)
    omega
   refine(made_ok nx (joG (limbs x.natAbs) (limbs y.natAbs) (-1)) (joG_dig _ _ _) hlen _).mono ?_;rintro o S' ⟨rfl,rfl⟩;have hval:=(joG_val (a:=(limbs x.natAbs)) (b:=(limbs y.natAbs)) (s:=(-1)) (limbs_lt _) (by omega)).1
   rw[valL_limbs,valL_limbs] at hval;have hsum:(if nx then -(valL (joG (limbs x.natAbs) (limbs y.natAbs) (-1)):Int) else (valL (joG (limbs x.natAbs) (limbs y.natAbs) (-1)):Int))=x+y:=by
    rw[hval];clear hval hlen;have f1:nx=true→x<0:=fun h=>of_decide_eq_true (hnx.trans h)
    have f2:nx=false→¬ x<0:=fun h=>of_decide_eq_false (hnx.trans h)
    have g1:ny=true→y<0:=fun h=>of_decide_eq_true (hny.trans h)
    have g2:ny=false→¬ y<0:=fun h=>of_decide_eq_false (hny.trans h)
    clear hnx hny
    cases nx<;>cases ny<;>first | (exact absurd hsg (by decide)) | (simp only[if_true,Bool.false_eq_true,if_false,true_implies,false_implies,reduceCtorEq] at f1 f2 g1 g2 ⊢;omega)
   rw[hsum]
   by_cases hz:near (x+y)
   ·rw[bigAV_near hz];conv=>whnf
    refine⟨_,_,St.upd_same _ _ _,?_⟩;conv=>whnf
    refine⟨_,_,St.upd_same _ _ _,?_⟩;conv=>whnf
    refine⟨_,_,⟨rfl,rfl⟩,?_,AV.leS_refl _ _ _⟩;rw[St.upd_upd];exact St.le_upd' (St.le_upd' (St.le_upd' (St.le_refl _) hb2 _) hb3 _) hb4 _
   ·rw[bigAV_far hz];conv=>whnf
    refine⟨_,_,St.upd_same _ _ _,?_⟩;conv=>whnf
    refine⟨_,_,St.upd_same _ _ _,?_⟩;conv=>whnf
    refine⟨_,_,⟨rfl,rfl⟩,?_,AV.leS_refl _ _ _⟩;rw[St.upd_upd];exact St.le_upd' (St.le_upd' (St.le_upd' (St.le_refl _) hb2 _) hb3 _) hb4 _
  ·have hle:¬ y.natAbs≤x.natAbs:=fun h=>of_decide_eq_false hge (hv.2 h)
   conv=>whnf
   -- ny sign,joG (limbs y.natAbs) (limbs x.natAbs) (-1) list
   refine(joined_ok (limbs_lt _) (limbs_lt _) (.inr rfl) (by assumption) (by assumption) (by omega) _).mono ?_
   rintro o S' ⟨rfl,rfl⟩;conv=>whnf
   have hlen:(joG (limbs y.natAbs) (limbs x.natAbs) (-1)).length≤1000000000:=by
    have:=joG_len (s:=(-1)) (limbs y.natAbs) (limbs x.natAbs) (limbs_lt _) (limbs_lt _) (.inr rfl)
    omega
   refine(made_ok ny (joG (limbs y.natAbs) (limbs x.natAbs) (-1)) (joG_dig _ _ _) hlen _).mono ?_;rintro o S' ⟨rfl,rfl⟩;have hval:=(joG_val (a:=(limbs y.natAbs)) (b:=(limbs x.natAbs)) (s:=(-1)) (limbs_lt _) (by omega)).1
   rw[valL_limbs,valL_limbs] at hval;have hsum:(if ny then -(valL (joG (limbs y.natAbs) (limbs x.natAbs) (-1)):Int) else (valL (joG (limbs y.natAbs) (limbs x.natAbs) (-1)):Int))=x+y:=by
    rw[hval];clear hval hlen;have f1:nx=true→x<0:=fun h=>of_decide_eq_true (hnx.trans h)
    have f2:nx=false→¬ x<0:=fun h=>of_decide_eq_false (hnx.trans h)
    have g1:ny=true→y<0:=fun h=>of_decide_eq_true (hny.trans h)
    have g2:ny=false→¬ y<0:=fun h=>of_decide_eq_false (hny.trans h)
    clear hnx hny
    cases nx<;>cases ny<;>first | (exact absurd hsg (by decide)) | (simp only[if_true,Bool.false_eq_true,if_false,true_implies,false_implies,reduceCtorEq] at f1 f2 g1 g2 ⊢;omega)
   rw[hsum]
   by_cases hz:near (x+y)
   ·rw[bigAV_near hz];conv=>whnf
    refine⟨_,_,St.upd_same _ _ _,?_⟩;conv=>whnf
    refine⟨_,_,St.upd_same _ _ _,?_⟩;conv=>whnf
    refine⟨_,_,⟨rfl,rfl⟩,?_,AV.leS_refl _ _ _⟩;rw[St.upd_upd];exact St.le_upd' (St.le_upd' (St.le_upd' (St.le_refl _) hb2 _) hb3 _) hb4 _
   ·rw[bigAV_far hz];conv=>whnf
    refine⟨_,_,St.upd_same _ _ _,?_⟩;conv=>whnf
    refine⟨_,_,St.upd_same _ _ _,?_⟩;conv=>whnf
    refine⟨_,_,⟨rfl,rfl⟩,?_,AV.leS_refl _ _ _⟩;rw[St.upd_upd];exact St.le_upd' (St.le_upd' (St.le_upd' (St.le_refl _) hb2 _) hb3 _) hb4 _
theorem Add_nf(x y:Int)(hx:near x)(kx:okZ x 9000000)(ky:okZ y 9000000)(hy:¬ near y)(S:St):Triple P (C G) 182 [bigAV x,bigAV y] S fun o S'=>o=.ret (bigAV (x+y))∧S'=S:=by
 have sx:=fun S=>size_ok (G:=G) x S
 have sy:=fun S=>size_ok (G:=G) y S
 have gx:=fun S=>Sign_ok (G:=G) x S
 have gy:=fun S=>Sign_ok (G:=G) y S
 rw[bigAV_far hy] at *;rw[bigAV_near hx] at *;have ny:=far_pos hy;have ly:=limbs_ne (n:=y.natAbs) (by omega)
 refine triple_of_awp (hT G) hm Tryz.func182 rfl (by decide +kernel) rfl (by decide +kernel) (by show 2≤_;decide +kernel) rfl ?_
 refine awp_seq2 fun K hK hQ=>?_
 conv=>whnf
 intro b2 hb2;conv=>whnf
 intro b3 hb3;conv=>whnf
 intro b4 hb4;conv=>whnf
 refine hK _ _ ?_;clear hK hQ K;have k2:(((S.upd b2 (.obj 244 [.int .i64 x,.bool false,.nils])).upd b3 (.obj 244 [.int .i64 0,.bool (decide (y<0)),.sl .any 1 (rowsU (limbs y.natAbs))])).upd b4 (.obj 244 [.int .i64 0,.bool false,.nils])) b2=some (.obj 244 [.int .i64 x,.bool false,.nils]):=St.up hb4 (St.up hb3 (St.upd_same _ _ _));have k3:(((S.upd b2 (.obj 244 [.int .i64 x,.bool false,.nils])).upd b3 (.obj 244 [.int .i64 0,.bool (decide (y<0)),.sl .any 1 (rowsU (limbs y.natAbs))])).upd b4 (.obj 244 [.int .i64 0,.bool false,.nils])) b3=some (.obj 244 [.int .i64 0,.bool (decide (y<0)),.sl .any 1 (rowsU (limbs y.natAbs))]):=St.up hb4 (St.upd_same _ _ _);refine awp_seq2 fun K hK hQ=>?_
 conv=>whnf
 refine⟨_,_,k2,?_⟩;conv=>whnf
 refine⟨_,_,k3,?_⟩;conv=>whnf
 intro c hc;have hc:=hc (rowsU_ne ly);subst hc;conv=>whnf
 -- ,the numbers' cells;sx sy gx gy hx hy in sight
 refine hK _ _ ?_;clear hK hQ K;refine awp_seq2 fun K hK hQ=>?_
 conv=>whnf
 refine⟨[1,3],(.free 0 (.free 1 (.free 2 (.free 3 (.free 4 (.free 5 .done)))))),_,by decide +kernel,?_,fun _ _ h=>⟨_,.inl rfl,h⟩⟩
 conv=>whnf
 refine⟨_,_,k2,?_⟩;conv=>whnf
 refine⟨.sl .any 1 (rowsU (limbs x.natAbs)),(sx _).mono ?_,?_⟩
 ·rintro o S' ⟨rfl,rfl⟩;exact⟨rfl,rfl⟩
 conv=>whnf
 refine⟨_,_,k3,?_⟩;conv=>whnf
 refine⟨.sl .any 1 (rowsU (limbs y.natAbs)),(sy _).mono ?_,?_⟩
 ·rintro o S' ⟨rfl,rfl⟩;exact⟨rfl,rfl⟩
 conv=>whnf
 refine hK _ _ ?_;clear hK hQ K;refine awp_seq2 fun K hK hQ=>?_
 conv=>whnf
 refine⟨[1,4],(.free 0 (.free 1 (.free 2 (.free 3 (.free 4 (.free 5 (.free 6 (.free 7 .done)))))))),_,by decide +kernel,?_,fun _ _ h=>⟨_,.inl rfl,h⟩⟩
 conv=>whnf
 refine⟨_,_,k2,?_⟩;conv=>whnf
 refine⟨.int .i64 (bSign x),(gx _).mono ?_,?_⟩
 ·rintro o S' ⟨rfl,rfl⟩;exact⟨rfl,rfl⟩
 conv=>whnf
 refine⟨_,_,k3,?_⟩;conv=>whnf
 refine⟨.int .i64 (bSign y),(gy _).mono ?_,?_⟩
 ·rintro o S' ⟨rfl,rfl⟩;exact⟨rfl,rfl⟩
 conv=>whnf
 refine hK _ _ ?_;clear hK hQ K;rw[bSign_neg,bSign_neg];generalize hnx:decide (x<0)=nx at *;generalize hny:decide (y<0)=ny at *;have kx':(limbs x.natAbs).length≤10000000:=Nat.le_trans kx (by decide)
 have ky':(limbs y.natAbs).length≤10000000:=Nat.le_trans ky (by decide)
 have vx:=valL_limbs x.natAbs
 have vy:=valL_limbs y.natAbs
 conv=>whnf
 refine split_of (fun hsg=>?_) (fun hsg=>?_)
 ·conv=>whnf
  -- nx sign,joG (limbs x.natAbs) (limbs y.natAbs) 1 list
  refine(joined_ok (limbs_lt _) (limbs_lt _) (.inl rfl) (by assumption) (by assumption) (by omega) _).mono ?_
  rintro o S' ⟨rfl,rfl⟩;conv=>whnf
  have hlen:(joG (limbs x.natAbs) (limbs y.natAbs) 1).length≤1000000000:=by
   have:=joG_len (s:=1) (limbs x.natAbs) (limbs y.natAbs) (limbs_lt _) (limbs_lt _) (.inl rfl)
   omega
  refine(made_ok nx (joG (limbs x.natAbs) (limbs y.natAbs) 1) (joG_dig _ _ _) hlen _).mono ?_;rintro o S' ⟨rfl,rfl⟩;have hval:=(joG_val (a:=(limbs x.natAbs)) (b:=(limbs y.natAbs)) (s:=1) (limbs_lt _) (by omega)).1
  rw[valL_limbs,valL_limbs] at hval;have hsum:(if nx then -(valL (joG (limbs x.natAbs) (limbs y.natAbs) 1):Int) else (valL (joG (limbs x.natAbs) (limbs y.natAbs) 1):Int))=x+y:=by
   rw[hval];clear hval hlen;have f1:nx=true→x<0:=fun h=>of_decide_eq_true (hnx.trans h)
   have f2:nx=false→¬ x<0:=fun h=>of_decide_eq_false (hnx.trans h)
   have g1:ny=true→y<0:=fun h=>of_decide_eq_true (hny.trans h)
   have g2:ny=false→¬ y<0:=fun h=>of_decide_eq_false (hny.trans h)
   clear hnx hny
   cases nx<;>cases ny<;>first | (exact absurd hsg (by decide)) | (simp only[if_true,Bool.false_eq_true,if_false,true_implies,false_implies,reduceCtorEq] at f1 f2 g1 g2 ⊢;omega)
  rw[hsum]
  by_cases hz:near (x+y)
  ·rw[bigAV_near hz];conv=>whnf
   refine⟨_,_,St.upd_same _ _ _,?_⟩;conv=>whnf
   refine⟨_,_,St.upd_same _ _ _,?_⟩;conv=>whnf
   refine⟨_,_,⟨rfl,rfl⟩,?_,AV.leS_refl _ _ _⟩;rw[St.upd_upd];exact St.le_upd' (St.le_upd' (St.le_upd' (St.le_refl _) hb2 _) hb3 _) hb4 _
  ·rw[bigAV_far hz];conv=>whnf
   refine⟨_,_,St.upd_same _ _ _,?_⟩;conv=>whnf
   refine⟨_,_,St.upd_same _ _ _,?_⟩;conv=>whnf
   refine⟨_,_,⟨rfl,rfl⟩,?_,AV.leS_refl _ _ _⟩;rw[St.upd_upd];exact St.le_upd' (St.le_upd' (St.le_upd' (St.le_refl _) hb2 _) hb3 _) hb4 _
 ·conv=>whnf
  refine(sizes_ok x.natAbs y.natAbs (by omega) (by omega) _).mono ?_
  rintro o S' ⟨v,rfl,hv,rfl⟩;conv=>whnf
  refine split_of (fun hge=>?_) (fun hge=>?_)
  ·have hle:=hv.1 (of_decide_eq_true hge)
   conv=>whnf
   -- nx sign,joG (limbs x.natAbs) (limbs y.natAbs) (-1) list
   refine(joined_ok (limbs_lt _) (limbs_lt _) (.inr rfl) (by assumption) (by assumption) (by omega) _).mono ?_
   rintro o S' ⟨rfl,rfl⟩;conv=>whnf
   have hlen:(joG (limbs x.natAbs) (limbs y.natAbs) (-1)).length≤1000000000:=by
    have:=joG_len (s:=(-1)) (limbs x.natAbs) (limbs y.natAbs) (limbs_lt _) (limbs_lt _) (.inr rfl)
    omega
   refine(made_ok nx (joG (limbs x.natAbs) (limbs y.natAbs) (-1)) (joG_dig _ _ _) hlen _).mono ?_;rintro o S' ⟨rfl,rfl⟩;have hval:=(joG_val (a:=(limbs x.natAbs)) (b:=(limbs y.natAbs)) (s:=(-1)) (limbs_lt _) (by omega)).1
   rw[valL_limbs,valL_limbs] at hval;have hsum:(if nx then -(valL (joG (limbs x.natAbs) (limbs y.natAbs) (-1)):Int) else (valL (joG (limbs x.natAbs) (limbs y.natAbs) (-1)):Int))=x+y:=by
    rw[hval];clear hval hlen;have f1:nx=true→x<0:=fun h=>of_decide_eq_true (hnx.trans h)
    have f2:nx=false→¬ x<0:=fun h=>of_decide_eq_false (hnx.trans h)
    have g1:ny=true→y<0:=fun h=>of_decide_eq_true (hny.trans h)
    have g2:ny=false→¬ y<0:=fun h=>of_decide_eq_false (hny.trans h)
    clear hnx hny
    cases nx<;>cases ny<;>first | (exact absurd hsg (by decide)) | (simp only[if_true,Bool.false_eq_true,if_false,true_implies,false_implies,reduceCtorEq] at f1 f2 g1 g2 ⊢;omega)
   rw[hsum]
   by_cases hz:near (x+y)
   ·rw[bigAV_near hz];conv=>whnf
    refine⟨_,_,St.upd_same _ _ _,?_⟩;conv=>whnf
    refine⟨_,_,St.upd_same _ _ _,?_⟩;conv=>whnf
    refine⟨_,_,⟨rfl,rfl⟩,?_,AV.leS_refl _ _ _⟩;rw[St.upd_upd];exact St.le_upd' (St.le_upd' (St.le_upd' (St.le_refl _) hb2 _) hb3 _) hb4 _
   ·rw[bigAV_far hz];conv=>whnf
    refine⟨_,_,St.upd_same _ _ _,?_⟩;conv=>whnf
    refine⟨_,_,St.upd_same _ _ _,?_⟩;conv=>whnf
    refine⟨_,_,⟨rfl,rfl⟩,?_,AV.leS_refl _ _ _⟩;rw[St.upd_upd];exact St.le_upd' (St.le_upd' (St.le_upd' (St.le_refl _) hb2 _) hb3 _) hb4 _
  ·have hle:¬ y.natAbs≤x.natAbs:=fun h=>of_decide_eq_false hge (hv.2 h)
   conv=>whnf
   -- ny sign,joG (limbs y.natAbs) (limbs x.natAbs) (-1) list
   refine(joined_ok (limbs_lt _) (limbs_lt _) (.inr rfl) (by assumption) (by assumption) (by omega) _).mono ?_
   rintro o S' ⟨rfl,rfl⟩;conv=>whnf
   have hlen:(joG (limbs y.natAbs) (limbs x.natAbs) (-1)).length≤1000000000:=by
    have:=joG_len (s:=(-1)) (limbs y.natAbs) (limbs x.natAbs) (limbs_lt _) (limbs_lt _) (.inr rfl)
    omega
   refine(made_ok ny (joG (limbs y.natAbs) (limbs x.natAbs) (-1)) (joG_dig _ _ _) hlen _).mono ?_;rintro o S' ⟨rfl,rfl⟩;have hval:=(joG_val (a:=(limbs y.natAbs)) (b:=(limbs x.natAbs)) (s:=(-1)) (limbs_lt _) (by omega)).1
   rw[valL_limbs,valL_limbs] at hval;have hsum:(if ny then -(valL (joG (limbs y.natAbs) (limbs x.natAbs) (-1)):Int) else (valL (joG (limbs y.natAbs) (limbs x.natAbs) (-1)):Int))=x+y:=by
    rw[hval];clear hval hlen;have f1:nx=true→x<0:=fun h=>of_decide_eq_true (hnx.trans h)
    have f2:nx=false→¬ x<0:=fun h=>of_decide_eq_false (hnx.trans h)
    have g1:ny=true→y<0:=fun h=>of_decide_eq_true (hny.trans h)
    have g2:ny=false→¬ y<0:=fun h=>of_decide_eq_false (hny.trans h)
    clear hnx hny
    cases nx<;>cases ny<;>first | (exact absurd hsg (by decide)) | (simp only[if_true,Bool.false_eq_true,if_false,true_implies,false_implies,reduceCtorEq] at f1 f2 g1 g2 ⊢;omega)
   rw[hsum]
   by_cases hz:near (x+y)
   ·rw[bigAV_near hz];conv=>whnf
    refine⟨_,_,St.upd_same _ _ _,?_⟩;conv=>whnf
    refine⟨_,_,St.upd_same _ _ _,?_⟩;conv=>whnf
    refine⟨_,_,⟨rfl,rfl⟩,?_,AV.leS_refl _ _ _⟩;rw[St.upd_upd];exact St.le_upd' (St.le_upd' (St.le_upd' (St.le_refl _) hb2 _) hb3 _) hb4 _
   ·rw[bigAV_far hz];conv=>whnf
    refine⟨_,_,St.upd_same _ _ _,?_⟩;conv=>whnf
    refine⟨_,_,St.upd_same _ _ _,?_⟩;conv=>whnf
    refine⟨_,_,⟨rfl,rfl⟩,?_,AV.leS_refl _ _ _⟩;rw[St.upd_upd];exact St.le_upd' (St.le_upd' (St.le_upd' (St.le_refl _) hb2 _) hb3 _) hb4 _
theorem Add_ok(x y:Int)(kx:okZ x 9000000)(ky:okZ y 9000000)(S:St):Triple P (C G) 182 [bigAV x,bigAV y] S fun o S'=>o=.ret (bigAV (x+y))∧S'=S:=by
 by_cases hx:near x<;>by_cases hy:near y
 ·have:=Add_near (G:=G) x y hx hy S
  rw[bigAV_near hx,bigAV_near hy];exact this
 ·exact Add_nf x y hx kx ky hy S
 ·exact Add_fn x y hx kx ky hy S
 ·exact Add_ff x y hx kx ky hy S
theorem Sub_ok(x y:Int)(kx:okZ x 9000000)(ky:okZ y 9000000)(S:St):Triple P (C G) 173 [bigAV x,bigAV y] S fun o S'=>o=.ret (bigAV (x-y))∧S'=S:=by
 have nn:=fun S=>Neg_ok (G:=G) y S
 have aa:=fun S=>Add_ok (G:=G) x (-y) kx (by unfold okZ at *;rwa [Int.natAbs_neg]) S
 by_cases hx:near x<;>by_cases hy:near y
 ·rw[bigAV_near hx] at *;rw[bigAV_near hy] at *;rw[bigAV_near (near_neg.2 hy)] at *;refine triple_of_awp (hT G) hm Tryz.func173 rfl (by decide +kernel) rfl (by decide +kernel) (by show 2≤_;decide +kernel) rfl ?_
  conv=>whnf
  intro b2 hb2;conv=>whnf
  intro b3 hb3;conv=>whnf
  intro b4 hb4;conv=>whnf
  refine⟨[2,3],(.free 0 (.free 1 (.free 2 (.free 3 (.one 4 .done .none))))),_,by decide +kernel,?_,fun _ _ h=>⟨_,.inl rfl,h⟩⟩
  conv=>whnf
  refine⟨_,_,St.up hb4 (St.up hb3 (St.upd_same _ _ _)),?_⟩;conv=>whnf
  refine⟨_,_,St.up hb4 (St.upd_same _ _ _),?_⟩;conv=>whnf
  refine⟨nearAV (-y),(nn _).mono ?_,?_⟩
  ·rintro o S' ⟨rfl,rfl⟩;exact⟨rfl,rfl⟩
  conv=>whnf
  refine⟨bigAV (x+-y),(aa _).mono ?_,?_⟩
  ·rintro o S' ⟨rfl,rfl⟩;exact⟨rfl,rfl⟩
  rw[← Int.sub_eq_add_neg]
  by_cases hz:near (x-y)
  ·rw[bigAV_near hz];conv=>whnf
   refine⟨_,_,St.upd_same _ _ _,?_⟩;conv=>whnf
   refine⟨_,_,St.upd_same _ _ _,?_⟩;conv=>whnf
   refine⟨_,_,⟨rfl,rfl⟩,?_,AV.leS_refl _ _ _⟩;rw[St.upd_upd];exact St.le_upd' (St.le_upd' (St.le_upd' (St.le_refl _) hb2 _) hb3 _) hb4 _
  ·rw[bigAV_far hz];conv=>whnf
   refine⟨_,_,St.upd_same _ _ _,?_⟩;conv=>whnf
   refine⟨_,_,St.upd_same _ _ _,?_⟩;conv=>whnf
   refine⟨_,_,⟨rfl,rfl⟩,?_,AV.leS_refl _ _ _⟩;rw[St.upd_upd];exact St.le_upd' (St.le_upd' (St.le_upd' (St.le_refl _) hb2 _) hb3 _) hb4 _
 ·rw[bigAV_near hx] at *;rw[bigAV_far hy] at *;rw[bigAV_far (fun h=>hy (near_neg.1 h))] at *
  refine triple_of_awp (hT G) hm Tryz.func173 rfl (by decide +kernel) rfl (by decide +kernel) (by show 2≤_;decide +kernel) rfl ?_
  conv=>whnf
  intro b2 hb2;conv=>whnf
  intro b3 hb3;conv=>whnf
  intro b4 hb4;conv=>whnf
  refine⟨[2,3],(.free 0 (.free 1 (.free 2 (.free 3 (.one 4 .done .none))))),_,by decide +kernel,?_,fun _ _ h=>⟨_,.inl rfl,h⟩⟩
  conv=>whnf
  refine⟨_,_,St.up hb4 (St.up hb3 (St.upd_same _ _ _)),?_⟩;conv=>whnf
  refine⟨_,_,St.up hb4 (St.upd_same _ _ _),?_⟩;conv=>whnf
  refine⟨farAV (decide (-y<0)) (limbs (-y).natAbs),(nn _).mono ?_,?_⟩
  ·rintro o S' ⟨rfl,rfl⟩;exact⟨rfl,rfl⟩
  conv=>whnf
  refine⟨bigAV (x+-y),(aa _).mono ?_,?_⟩
  ·rintro o S' ⟨rfl,rfl⟩;exact⟨rfl,rfl⟩
  rw[← Int.sub_eq_add_neg]
  by_cases hz:near (x-y)
  ·rw[bigAV_near hz];conv=>whnf
   refine⟨_,_,St.upd_same _ _ _,?_⟩;conv=>whnf
   refine⟨_,_,St.upd_same _ _ _,?_⟩;conv=>whnf
   refine⟨_,_,⟨rfl,rfl⟩,?_,AV.leS_refl _ _ _⟩;rw[St.upd_upd];exact St.le_upd' (St.le_upd' (St.le_upd' (St.le_refl _) hb2 _) hb3 _) hb4 _
  ·rw[bigAV_far hz];conv=>whnf
   refine⟨_,_,St.upd_same _ _ _,?_⟩;conv=>whnf
   refine⟨_,_,St.upd_same _ _ _,?_⟩;conv=>whnf
   refine⟨_,_,⟨rfl,rfl⟩,?_,AV.leS_refl _ _ _⟩;rw[St.upd_upd];exact St.le_upd' (St.le_upd' (St.le_upd' (St.le_refl _) hb2 _) hb3 _) hb4 _
 ·rw[bigAV_far hx] at *;rw[bigAV_near hy] at *;rw[bigAV_near (near_neg.2 hy)] at *;refine triple_of_awp (hT G) hm Tryz.func173 rfl (by decide +kernel) rfl (by decide +kernel) (by show 2≤_;decide +kernel) rfl ?_
  conv=>whnf
  intro b2 hb2;conv=>whnf
  intro b3 hb3;conv=>whnf
  intro b4 hb4;conv=>whnf
  refine⟨[2,3],(.free 0 (.free 1 (.free 2 (.free 3 (.one 4 .done .none))))),_,by decide +kernel,?_,fun _ _ h=>⟨_,.inl rfl,h⟩⟩
  conv=>whnf
  refine⟨_,_,St.up hb4 (St.up hb3 (St.upd_same _ _ _)),?_⟩;conv=>whnf
  refine⟨_,_,St.up hb4 (St.upd_same _ _ _),?_⟩;conv=>whnf
  refine⟨nearAV (-y),(nn _).mono ?_,?_⟩
  ·rintro o S' ⟨rfl,rfl⟩;exact⟨rfl,rfl⟩
  conv=>whnf
  refine⟨bigAV (x+-y),(aa _).mono ?_,?_⟩
  ·rintro o S' ⟨rfl,rfl⟩;exact⟨rfl,rfl⟩
  rw[← Int.sub_eq_add_neg]
  by_cases hz:near (x-y)
  ·rw[bigAV_near hz];conv=>whnf
   refine⟨_,_,St.upd_same _ _ _,?_⟩;conv=>whnf
   refine⟨_,_,St.upd_same _ _ _,?_⟩;conv=>whnf
   refine⟨_,_,⟨rfl,rfl⟩,?_,AV.leS_refl _ _ _⟩;rw[St.upd_upd];exact St.le_upd' (St.le_upd' (St.le_upd' (St.le_refl _) hb2 _) hb3 _) hb4 _
  ·rw[bigAV_far hz];conv=>whnf
   refine⟨_,_,St.upd_same _ _ _,?_⟩;conv=>whnf
   refine⟨_,_,St.upd_same _ _ _,?_⟩;conv=>whnf
   refine⟨_,_,⟨rfl,rfl⟩,?_,AV.leS_refl _ _ _⟩;rw[St.upd_upd];exact St.le_upd' (St.le_upd' (St.le_upd' (St.le_refl _) hb2 _) hb3 _) hb4 _
 ·rw[bigAV_far hx] at *;rw[bigAV_far hy] at *;rw[bigAV_far (fun h=>hy (near_neg.1 h))] at *
  refine triple_of_awp (hT G) hm Tryz.func173 rfl (by decide +kernel) rfl (by decide +kernel) (by show 2≤_;decide +kernel) rfl ?_
  conv=>whnf
  intro b2 hb2;conv=>whnf
  intro b3 hb3;conv=>whnf
  intro b4 hb4;conv=>whnf
  refine⟨[2,3],(.free 0 (.free 1 (.free 2 (.free 3 (.one 4 .done .none))))),_,by decide +kernel,?_,fun _ _ h=>⟨_,.inl rfl,h⟩⟩
  conv=>whnf
  refine⟨_,_,St.up hb4 (St.up hb3 (St.upd_same _ _ _)),?_⟩;conv=>whnf
  refine⟨_,_,St.up hb4 (St.upd_same _ _ _),?_⟩;conv=>whnf
  refine⟨farAV (decide (-y<0)) (limbs (-y).natAbs),(nn _).mono ?_,?_⟩
  ·rintro o S' ⟨rfl,rfl⟩;exact⟨rfl,rfl⟩
  conv=>whnf
  refine⟨bigAV (x+-y),(aa _).mono ?_,?_⟩
  ·rintro o S' ⟨rfl,rfl⟩;exact⟨rfl,rfl⟩
  rw[← Int.sub_eq_add_neg]
  by_cases hz:near (x-y)
  ·rw[bigAV_near hz];conv=>whnf
   refine⟨_,_,St.upd_same _ _ _,?_⟩;conv=>whnf
   refine⟨_,_,St.upd_same _ _ _,?_⟩;conv=>whnf
   refine⟨_,_,⟨rfl,rfl⟩,?_,AV.leS_refl _ _ _⟩;rw[St.upd_upd];exact St.le_upd' (St.le_upd' (St.le_upd' (St.le_refl _) hb2 _) hb3 _) hb4 _
  ·rw[bigAV_far hz];conv=>whnf
   refine⟨_,_,St.upd_same _ _ _,?_⟩;conv=>whnf
   refine⟨_,_,St.upd_same _ _ _,?_⟩;conv=>whnf
   refine⟨_,_,⟨rfl,rfl⟩,?_,AV.leS_refl _ _ _⟩;rw[St.upd_upd];exact St.le_upd' (St.le_upd' (St.le_upd' (St.le_refl _) hb2 _) hb3 _) hb4 _
theorem Cmp_ok(x y:Int)(kx:okZ x 9000000)(ky:okZ y 9000000)(S:St):Triple P (C G) 164 [bigAV x,bigAV y] S fun o S'=>o=.ret (.int .i64 (bSign (x-y)))∧S'=S:=by
 have aa:=fun S=>Sub_ok (G:=G) x y kx ky S
 have gg:=fun S=>Sign_ok (G:=G) (x-y) S
 by_cases hx:near x<;>by_cases hy:near y<;>by_cases hz:near (x-y)
 all_goals first | rw[bigAV_near hx] at*| rw[bigAV_far hx] at *
 all_goals first | rw[bigAV_near hy] at*| rw[bigAV_far hy] at *
 all_goals first | rw[bigAV_near hz] at*| rw[bigAV_far hz] at *
 all_goals refine triple_of_awp (hT G) hm Tryz.func164 rfl (by decide +kernel) rfl (by decide +kernel) (by show 2≤_;decide +kernel) rfl ?_
 all_goals conv=>whnf
 all_goals intro b2 hb2
 all_goals conv=>whnf
 all_goals intro b3 hb3
 all_goals conv=>whnf
 all_goals refine⟨_,_,St.up hb3 (St.upd_same _ _ _),?_⟩
 all_goals conv=>whnf
 all_goals refine⟨_,_,St.upd_same _ _ _,?_⟩
 all_goals conv=>whnf
 all_goals refine(aa _).mono ?_
 all_goals rintro o S' ⟨rfl,rfl⟩
 all_goals conv=>whnf
 all_goals refine(gg _).mono ?_
 all_goals rintro o S' ⟨rfl,rfl⟩
 all_goals conv=>whnf
 all_goals exact⟨_,_,⟨rfl,rfl⟩,St.le_upd' (St.le_upd' (St.le_refl _) hb2 _) hb3 _,AV.leS_refl _ _ _⟩
theorem good_row{w w':World}{S:St}{b:Nat}{e:TypeId}{cells cells':List AV}{old cs:Array Value}(hg:Good (C G) w S)(hS:S b=some (.obj e cells))(hb:w.heap[b]? = some (.cells old e (0,0)))
 (h1:w'.os=w.os) (h2:w'.tape=w.tape) (h3:w'.output=w.output) (h4:w'.heap.size=w.heap.size) (ho:∀ x,x≠b→w'.heap[x]? = w.heap[x]?) (hb':w'.heap[b]? = some (.cells cs e (0,0))) (hsz:cs.size=old.size)
 (hr:RelL w (rdOf S) cells' cs.toList) (hone:∀ v∈cs.toList,v.oneCell'=true):Good (C G) w' (S.upd b (.obj e cells'))∧Adv w S w' (S.upd b (.obj e cells')):=by
 have hadv:Adv w S w' (S.upd b (.obj e cells')):=by
  refine⟨h1,h2,h3,by omega,fun x hx hn=>?_,fun x off hx hr=>?_,fun x e' n hx=>?_⟩
  ·have hne:x≠b:=St.ne_of' hn hS
   exact⟨by rw[St.upd_ne _ _ _ _ hne];exact hn,ho x hne⟩
  ·have hne:x≠b:=by rintro rfl;simp only[rdOf,hS] at hr
   refine⟨by simp only[rdOf,St.upd_ne _ _ _ _ hne];exact hr,cell_of_block (ho x hne) off⟩
  ·by_cases hne:x=b
   ·subst hne;simp only[World.shape?,hb] at hx;simp only[World.shape?,hb']
    simpa [hsz] using hx
   ·rw[shape_of_block (ho x hne)];exact hx
 refine⟨hg.mk (fun x o hx=>?_) hadv,hadv⟩
 by_cases hxb:x=b
 ·subst hxb;rw[St.upd_same] at hx
  cases hx
  exact⟨cs,hb',RelL.mono hadv _ _ hr,hone⟩
 ·rw[St.upd_ne _ _ _ _ hxb] at hx;exact OwnOk.mono hadv (ho x hxb) (hg.1 x o hx)
theorem setCell_row{w:World}{b:Nat}{e:TypeId}{old:Array Value}(hb:w.heap[b]? = some (.cells old e (0,0)))(v:Value) :
 (w.setCell ⟨b,0,none⟩ v).heap[b]? = some (.cells (old.setIfInBounds 0 v) e (0,0))∧∀ x,x≠b→(w.setCell ⟨b,0,none⟩ v).heap[x]? = w.heap[x]?:=by
 refine⟨?_,fun x hx=>?_⟩
 ·simp[World.setCell,Array.getElem?_modify,hb]
 ·simp[World.setCell,Array.getElem?_modify,Ne.symm hx]
theorem copyCheck_used(b:Nat)(w:World)(h0:w.cell? ⟨b,0,none⟩=some (.pointer (some ⟨b,0,none⟩))) :
 Calls P 74 #[.pointer (some ⟨b,0,none⟩)] w fun e w'=>e=.returned (.tuple #[])∧w'=w:=by
 obtain⟨j,hj,_⟩:=Option.map_eq_some_iff.1 (show(P.info? 89).map (·.size)=some 2 by kernel_rfl)
 have mixed:P.follows .mixedOrders=true:=hm
 have hnp:=Lib.run_neq_ptr_same w ⟨b,0,none⟩ (Tryz.underlying87) hj
 go_enter Tryz.func74,Tryz.ntmps74
 go_wp2
 go_end0
 exact⟨rfl,rfl⟩
theorem copyCheck_fresh(b:Nat)(w:World)(h0:w.cell? ⟨b,0,none⟩=some (.pointer none))(hsh:w.shape? b=some (89,2))(hfz:w.frozen? ⟨b,0,none⟩=false) :
 Calls P 74 #[.pointer (some ⟨b,0,none⟩)] w fun e w'=>e=.returned (.tuple #[])∧w'=w.setCell ⟨b,0,none⟩ (.pointer (some ⟨b,0,none⟩)):=by
 obtain⟨j,hj,hjs⟩:=Option.map_eq_some_iff.1 (show(P.info? 89).map (·.size)=some 2 by kernel_rfl)
 have mixed:P.follows .mixedOrders=true:=hm
 have hto:=Lib.run_to_unsafe w ⟨b,0,none⟩ (Tryz.underlying87) (Tryz.underlying172) hj (by rw[hjs];decide) hsh (Nat.zero_lt_succ 1)
 have hfrom:=Lib.run_from_unsafe w ⟨b,0,none⟩ (Tryz.underlying172) (Tryz.underlying87) hj hsh (by kernel_rfl)
 have hne:=run_callFunc_extern (P:=P) (args:=#[.pointer (some ⟨b,0,none⟩)]) (w:=w) Tryz.func101 (by kernel_rfl) (by kernel_rfl) (by kernel_rfl) (e:=Extern.AbiNoEscape.same) (by kernel_rfl)
 rw[Lib.run_noEscape] at hne
 go_enter Tryz.func74,Tryz.ntmps74
 go_wp2
 go_end0
 exact⟨rfl,rfl⟩
theorem String_raw(b g cap:Nat)(p:Value)(cur:Array Value)(l:List UInt8)(h0:l≠[])(w:World)(hb:w.heap[b]? = some (.cells #[p,.slice (some ⟨g,0,none⟩) l.length cap] 89 (0,0)))
 (hg:w.heap[g]? = some (.cells cur 5 (0,0))) (hn:l.length≤cap) (hc:cap≤maxLen) (hcs:cur.size=cap) (hcell:∀ j x,l[j]? = some x→w.cell? ((⟨g,0,none⟩:Addr).add j)=some (.int .u8 x.toNat)) :
 Calls P 43 #[.pointer (some ⟨b,0,none⟩)] w fun e w'=>e=.returned (.string ⟨l.toArray⟩)∧w'=w.drew.freeze ⟨g,0,none⟩ l.length:=by
 have hl0:l.length≠0:=by simpa using h0
 have c1:w.drew.cell? ⟨b,1,none⟩=some (.slice (some ⟨g,0,none⟩) l.length cap):=by
  rw[Lib.cell_of_heap (show w.drew.heap[b]? = _ from hb)];rfl
 have hSD:(Builtin.unsafeSliceData_ #[86] 152 #[.slice (some ⟨g,0,none⟩) l.length cap]).run P w.drew=.ok (.pointer (some ⟨g,0,none⟩)) w.drew:=
  Lib.run_unsafeSliceData_row _ _ _ _ _ _ (by omega)
 have hUS:(Builtin.unsafeString_ #[152,3] 9 #[.pointer (some ⟨g,0,none⟩),.int .i64 l.length]).run P w.drew=.ok (.string ⟨l.toArray⟩) (w.drew.freeze ⟨g,0,none⟩ l.length):=
  Lib.run_unsafeString_row w.drew _ _ _ 5 (Tryz.underlying152) (by kernel_rfl) g cur.size (by simp only[World.shape?,show w.drew.heap[g]? = _ from hg]) l h0 (by omega) (by unfold maxLen at hc;omega) hcell
 have mixed:P.follows .mixedOrders=true:=hm
 go_enter Tryz.func43,Tryz.ntmps43
 go_wp2
 go_region_o
 all_goals (go_wp2;go_ret;exact⟨rfl,rfl⟩)
theorem String_none(b:Nat)(p:Value)(w:World)(hb:w.heap[b]? = some (.cells #[p,.slice none 0 0] 89 (0,0))) :
 Calls P 43 #[.pointer (some ⟨b,0,none⟩)] w fun e w'=>e=.returned (.string ⟨#[]⟩)∧w'=w.drew:=by
 have c1:w.drew.cell? ⟨b,1,none⟩=some (.slice none 0 0):=by
  rw[Lib.cell_of_heap (show w.drew.heap[b]? = _ from hb)];rfl
 have hUS:(Builtin.unsafeString_ #[152,3] 9 #[.pointer none,.int .i64 0]).run P w.drew=.ok (.string .empty) w.drew:=Lib.run_unsafeString_none w.drew _ _ _ none
 have hSD:(Builtin.unsafeSliceData_ #[86] 152 #[.slice none 0 0]).run P w.drew=.ok (.pointer none) w.drew:=rfl
 have mixed:P.follows .mixedOrders=true:=hm
 go_enter Tryz.func43,Tryz.ntmps43
 go_wp2
 go_region_o
 all_goals (go_wp2;go_ret;exact⟨rfl,rfl⟩)
theorem Triple.of_callsW{C : Cx}{f : FuncId}{fn : Func}{c : Code}(hf : P.funcs[f]? = some fn)(hb : fn.body = some c)(hname : (fn.name == "runtime.NumGoroutine") = false){args : List AV}{S : St}{Q : Out → St → Prop}
 (h:∀ (w:World) (vs:Array Value),Good C w S→RelL w (rdOf S) args vs.toList→Calls P f vs w fun e w'=>∃ v x S',e=.returned v∧Rel w' (rdOf S') x v∧Good C w' S'∧Adv w S w' S'∧Q (.ret x) S'):Triple P C f args S Q:=by
 refine⟨fun w vs _ hg hr=>.inl ⟨?_,(h w vs hg hr).mono fun e w' he=>?_⟩⟩
 · have hno : ¬ fn.name = "runtime.NumGoroutine" := by simpa using hname
   simp[callFunc,hf,hno,hb]
 ·obtain⟨v,x,S',rfl,hv,h1,h2,h3⟩:=he;exact⟨.ret x,S',hv,h1,h2,h3⟩
theorem RelL.pair{w:World}{rd}{x y:AV}{cs:Array Value}(h:RelL w rd [x,y] cs.toList):∃ u v,cs=#[u,v]∧Rel w rd x u∧Rel w rd y v:=by
 obtain⟨u,v,hv,h1,h2⟩:=RelL.two h;exact⟨u,v,arr_of_list hv,h1,h2⟩
theorem copyCheck_ok{S:St}{b:Nat}{p s:AV}(hS:S b=some (.obj 89 [p,s]))(hp:p=.nilp∨p=.ref b 0) :
 Triple P (C G) 74 [.ref b 0] S fun o S'=>o=.ret (.tu [])∧S'=S.upd b (.obj 89 [.ref b 0,s]):=by
 refine Triple.of_callsW Tryz.func74 rfl (by decide +kernel) (fun w vs hg hr=>?_)
 obtain⟨v,hv,r1⟩:=RelL.one hr;simp only[Rel] at r1;subst r1;rw[show vs=#[.pointer (some ⟨b,0,none⟩)] from arr_of_list hv];obtain⟨cs,k1,k2,k3⟩:=hg.1 b _ hS;obtain⟨u,z,rfl,hu,hz⟩:=RelL.pair k2
 rcases hp with rfl | rfl
 ·simp only[Rel] at hu;subst hu;refine(copyCheck_fresh b w (by rw[Lib.cell_of_heap k1];rfl) (by simp[World.shape?,k1]) (by simp[World.frozen?,k1])).mono fun e w' he=>?_
  obtain⟨rfl,rfl⟩:=he;obtain⟨r1,r2⟩:=setCell_row k1 (.pointer (some ⟨b,0,none⟩));obtain⟨g1,g2⟩:=good_row (w':=w.setCell ⟨b,0,none⟩ (.pointer (some ⟨b,0,none⟩))) (cells':=[.ref b 0,s]) hg hS k1 rfl rfl rfl (by simp[World.setCell]) r2 r1 (by simp) (by simp only[RelL,Rel];exact⟨_,_,rfl,rfl,_,_,rfl,hz,rfl⟩) (by
   intro v hv;simp only[Array.toList_setIfInBounds,List.set_cons_zero,List.mem_cons,List.not_mem_nil,or_false] at hv
   rcases hv with rfl | rfl
   ·rfl
   ·exact k3 v (by simp))
  exact⟨_,.tu [],_,rfl,by simp only[Rel];exact⟨_,rfl,rfl⟩,g1,g2,rfl,rfl⟩
 ·simp only[Rel] at hu;subst hu;refine(copyCheck_used b w (by rw[Lib.cell_of_heap k1];rfl)).mono fun e w' he=>?_
  obtain⟨rfl,rfl⟩:=he;have hs:S.upd b (.obj 89 [.ref b 0,s])=S:=by
   funext x
   by_cases hx:x=b
   ·subst hx;rw[St.upd_same,hS]
   ·rw[St.upd_ne _ _ _ _ hx]
  refine⟨_,.tu [],S,rfl,by simp only[Rel];exact⟨_,rfl,rfl⟩,hg,Adv.refl _ _,rfl,hs.symm⟩
def rowsL(l:List UInt8):List (List AV):=l.map fun b=>[.int .u8 (b.toNat:Int)]
@[simp] theorem rowsL_len (l:List UInt8):(rowsL l).length=l.length:=by simp[rowsL]
theorem rowsB_L(s:ByteArray):rowsB s=rowsL s.data.toList:=rfl
theorem adv_freeze{w:World}{S:St}{t:Nat}{o:Own}(hS:S t=some o)(k:Nat):Adv w S (w.freeze ⟨t,0,none⟩ k) (S.del t):=by
 have ho:∀ x,x≠t→(w.freeze ⟨t,0,none⟩ k).heap[x]? = w.heap[x]?:=fun x hx=>by
  unfold World.freeze;split
  ·rfl
  ·simp[Array.getElem?_modify,Ne.symm hx]
 have hc:∀ x off,(w.freeze ⟨t,0,none⟩ k).cell? ⟨x,off,none⟩=w.cell? ⟨x,off,none⟩:=fun x off=>by
  by_cases hx:x=t
  ·subst hx;unfold World.freeze;split
   ·rfl
   ·simp only[World.cell?,Array.getElem?_modify,if_true]
    cases w.heap[x]? with
    | none=>rfl
    | some z=>cases z<;>rfl
  ·exact cell_of_block (ho x hx) off
 refine⟨?_,?_,?_,?_,fun x hx hn=>?_,fun x off hx hr=>⟨?_,hc x off⟩,fun x e' n hx=>?_⟩
 ·unfold World.freeze;split<;>rfl
 ·unfold World.freeze;split<;>rfl
 ·unfold World.freeze;split<;>rfl
 ·unfold World.freeze;split<;>simp
 ·have hne:x≠t:=St.ne_of' hn hS
  exact⟨by rw[St.del_ne _ _ _ hne];exact hn,ho x hne⟩
 ·by_cases hx':x=t
  ·subst hx';simp only[rdOf,St.del_same]
  ·simp only[rdOf,St.del_ne _ _ _ hx'];exact hr
 ·by_cases hx':x=t
  ·subst hx';unfold World.freeze;split
   ·exact hx
   ·simp only[World.shape?,Array.getElem?_modify,if_true] at hx ⊢
    cases hz:w.heap[x]? with
    | none=>rw[hz] at hx;exact hx
    | some z=>rw[hz] at hx;cases z<;>exact hx
  ·rw[shape_of_block (ho x hx')];exact hx
theorem good_freeze{w:World}{S:St}{t:Nat}{o:Own}(hg:Good (C G) w S)(hS:S t=some o)(k:Nat):Good (C G) (w.freeze ⟨t,0,none⟩ k) (S.del t):=by
 have hadv:=adv_freeze (w:=w) hS k
 refine hg.mk (fun x p hx=>?_) hadv
 have hne:x≠t:=fun e=>by subst e;rw[St.del_same] at hx;cases hx
 rw[St.del_ne _ _ _ hne] at hx;refine OwnOk.mono hadv ?_ (hg.1 x p hx);unfold World.freeze;split
 ·rfl
 ·simp[Array.getElem?_modify,Ne.symm hne]
theorem St.del_le(S:St)(b:Nat):St.le (S.del b) S:=fun x o h=>by
 by_cases hx:x=b
 ·subst hx;rw[St.del_same] at h;cases h
 ·rwa [St.del_ne _ _ _ hx] at h
structure BldOk (S₀ S:St) (b:Nat) (s:List UInt8):Prop where
 le:St.le S₀ S
 new:S₀ b=none
 at_:∃ p t,(p=.nilp∨p=.ref b 0)∧S b=some (.obj 89 [p,.sl (.acc t) 1 (rowsL s)])∧(s≠[]→S t=some (.tip 5 1 s.length)∧S₀ t=none∧t≠b)
theorem St.le_del'{S₀ S:St}{b:Nat}(h:St.le S₀ S)(hb:S₀ b=none):St.le S₀ (S.del b):=fun x o hx=>by
 rw[St.del_ne _ _ _ (St.ne_of hb hx)];exact h x o hx
theorem String_ok{S₀ S:St}{b:Nat}{s:List UInt8}(h:BldOk S₀ S b s):Triple P (C G) 43 [.ref b 0] S fun o S'=>o=.ret (.str ⟨s.toArray⟩)∧St.le S₀ S':=by
 obtain⟨p,t,hp,hS,ht⟩:=h.at_;refine Triple.of_callsW Tryz.func43 rfl (by decide +kernel) (fun w vs hg hr=>?_)
 obtain⟨v,hv,r1⟩:=RelL.one hr;simp only[Rel] at r1;subst r1;rw[show vs=#[.pointer (some ⟨b,0,none⟩)] from arr_of_list hv];obtain⟨cs,k1,k2,k3⟩:=hg.1 b _ hS;obtain⟨u,z,rfl,hu,hz⟩:=RelL.pair k2
 by_cases hs:s=[]
 ·subst hs;simp only[Rel] at hz;have hz:z=.slice none 0 0:=by
   rcases hz with ⟨_,_,h⟩ | ⟨b',off,cap,_,_,_,h,_⟩
   ·exact h.acc
   ·exact absurd h.1 (by simp)
  subst hz;refine(String_none b u w k1).mono fun e w' he=>?_
  obtain⟨rfl,rfl⟩:=he;exact⟨_,.str ⟨#[]⟩,S,rfl,by simp only[Rel],hg.drew,(Adv.refl w S).drew,rfl,h.le⟩
 ·obtain⟨h1,h2,h3⟩:=ht hs;have hl0:s.length≠0:=by simpa using hs
  simp only[Rel] at hz;obtain⟨b',off,cap,rfl,q1,q2,⟨q3,rfl,rfl,q4⟩,q5⟩:∃ b' off cap,z=.slice (some ⟨b',off,none⟩) (rowsL s).length cap∧(rowsL s).length≤cap∧cap≤maxLen∧ShOk w (.acc t) 1 b' off (rowsL s).length cap∧RelRows w (rdOf S) 1 b' off (rowsL s):=by
   rcases hz with ⟨_,h,_⟩ | h
   ·exact absurd (by simpa [rowsL] using h) hs
   ·exact h
  rw[rowsL_len] at *;obtain⟨cur,cap',m1,m2,m3,m4,m5⟩:=hg.1 t _ h1;have hcap:cap'=cap:=by
   obtain⟨e',q4⟩:=q4;simp only[World.shape?,m1,Option.some.injEq,Prod.mk.injEq] at q4;omega
  subst hcap;refine(String_raw b t cap' u cur s hs w k1 m1 q1 q2 (by omega) (fun j x hx=>?_)).mono fun e w' he=>?_
  ·obtain⟨g1,g2⟩:=RelRows.get q5 j [.int .u8 (x.toNat:Int)] (by simp[rowsL,hx])
   obtain⟨v,⟨g3,g4,g5⟩,g6⟩:=RelAt.get g2 0 _ rfl;simp only[Rel] at g6;subst g6
   by_cases hj:j=0
   ·subst hj;simpa [Addr.add] using g4
   ·simpa [Addr.add,hj] using g4
  ·obtain⟨rfl,rfl⟩:=he;have e1:Good (C G) w.drew (S.del b):=hg.drew.shrink (St.del_le S b);have hS':(S.del b) t=some (.tip 5 1 s.length):=by rw[St.del_ne _ _ _ h3];exact h1
   refine⟨_,.str ⟨s.toArray⟩,(S.del b).del t,rfl,by simp only[Rel],good_freeze e1 hS' _,((Adv.refl w S).drew.trans (Adv.shrink (St.del_le S b))).trans (adv_freeze hS' _),rfl,St.le_del' (St.le_del' h.le h.new) h2⟩
theorem rowsL_ne{l:List UInt8}(h:l≠[]):rowsL l≠[]:=by cases l<;>simp_all [rowsL]
theorem rowsL_append(a b:List UInt8):rowsL a++rowsL b=rowsL (a++b):=by simp[rowsL]
theorem BldOk.step{S₀ S S' S'':St}{b t t':Nat}{s x:List UInt8}(h1:St.le S₀ S)(h2:S₀ b=none)(ht:s≠[]→S t=some (.tip 5 1 s.length)∧S₀ t=none∧t≠b){q:AV}(hS:S b=some (.obj 89 [.ref b 0,q]))
 (ha:AccStep S t 5 1 s.length x.length t' S') (hS'':S''=S'.upd b (.obj 89 [.ref b 0,.sl (.acc t') 1 (rowsL (s++x))])):BldOk S₀ S'' b (s++x):=by
 subst hS''
 rcases ha with ⟨e1,rfl,rfl⟩ | ⟨e1,S₁,c1,c2,c3,rfl⟩
 ·have hx:x=[]:=List.eq_nil_of_length_eq_zero e1
  subst hx;rw[List.append_nil];refine⟨St.le_upd h1 h2 _,h2,.ref b 0,t',.inr rfl,St.upd_same _ _ _,fun hs=>?_⟩
  obtain⟨k1,k2,k3⟩:=ht hs;exact⟨by rw[St.upd_ne _ _ _ _ k3];exact k1,k2,k3⟩
 ·have hle:St.le S₀ S₁∧S₁ b=S b:=by
   by_cases hs:s=[]
   ·subst hs;rw[c1 rfl];exact⟨h1,rfl⟩
   ·obtain⟨k1,k2,k3⟩:=ht hs;have hl:0<s.length:=by cases s<;>simp_all
    rw[c2 hl];exact⟨St.le_del' h1 k2,St.del_ne _ _ _ (Ne.symm k3)⟩
  have hb':b≠t':=fun e=>by subst e;rw[hle.2,hS] at c3;cases c3
  have h0:S₀ t'=none:=by
   cases e:S₀ t' with
   | none=>rfl
   | some o=>rw[hle.1 _ _ e] at c3;cases c3
  refine⟨St.le_upd (St.le_upd hle.1 h0 _) h2 _,h2,.ref b 0,t',.inr rfl,St.upd_same _ _ _,fun hs=>⟨?_,h0,Ne.symm hb'⟩⟩
  rw[St.upd_ne _ _ _ _ (Ne.symm hb'),St.upd_same,List.length_append]
theorem AccStep.keep{S S':St}{b t t' n m k:Nat}{e:TypeId}{o:Own}(hS:S b=some o)(ht:0<n→t≠b)(ha:AccStep S t e k n m t' S'):S' b=some o:=by
 rcases ha with ⟨e1,rfl,rfl⟩ | ⟨e1,S₁,c1,c2,c3,rfl⟩
 ·exact hS
 ·have:S₁ b=some o:=by
   by_cases hn:n=0
   ·rw[c1 hn];exact hS
   ·rw[c2 (by omega),St.del_ne _ _ _ (Ne.symm (ht (by omega)))];exact hS
  rw[St.upd_ne _ _ _ _ (fun e=>by rw[e,c3] at this;cases this)];exact this
theorem BldOk.used{S₀ S:St}{b t:Nat}{s:List UInt8}(h1:St.le S₀ S)(h2:S₀ b=none)(ht:s≠[]→S t=some (.tip 5 1 s.length)∧S₀ t=none∧t≠b)(o:Own) :
 St.le S₀ (S.upd b o)∧(s≠[]→(S.upd b o) t=some (.tip 5 1 s.length)∧S₀ t=none∧t≠b):=
 ⟨St.le_upd h1 h2 _,fun hs=>by obtain⟨k1,k2,k3⟩:=ht hs;exact⟨by rw[St.upd_ne _ _ _ _ k3];exact k1,k2,k3⟩⟩
theorem WriteString_ok{S₀ S:St}{b:Nat}{s:List UInt8}(h:BldOk S₀ S b s)(x:ByteArray)(hx:s.length+x.size≤140737488355328):Triple P (C G) 42 [.ref b 0,.str x] S fun o S'=>o=.ret (.tu [.int .i64 (x.size:Int),.nili])∧BldOk S₀ S' b (s++x.data.toList):=by
 obtain⟨p,t,hp,hS,ht⟩:=h.at_;have hcc:=copyCheck_ok (G:=G) hS hp;obtain⟨h1,ht1⟩:=BldOk.used h.le h.new ht (.obj 89 [.ref b 0,.sl (.acc t) 1 (rowsL s)]);have hxl:x.data.toList.length=x.size:=by rw[Array.length_toList];rfl
 refine triple_of_awp (hT G) hm Tryz.func42 rfl (by decide +kernel) rfl (by decide +kernel) (by show 2≤_;decide +kernel) rfl ?_
 conv=>whnf
 refine hcc.mono ?_;rintro o S' ⟨rfl,rfl⟩;have hS1:=St.upd_same S b (.obj 89 [.ref b 0,.sl (.acc t) 1 (rowsL s)]);generalize S.upd b (.obj 89 [.ref b 0,.sl (.acc t) 1 (rowsL s)])=S1 at *;conv=>whnf
 refine⟨_,_,hS1,?_⟩;conv=>whnf
 refine⟨⟨fun hl=>?_,?_⟩,fun t' S2 ha=>?_⟩
 ·have:s≠[]:=by intro e;subst e;simp at hl
  rw[rowsL_len];exact(ht1 this).1
 ·show((rowsL s).length+(rowsB x).length)*1≤_
  rw[rowsL_len,rowsB_L,rowsL_len,hxl];omega
 rw[rowsL_len,rowsB_L,rowsL_len] at ha;have hk:=AccStep.keep hS1 (fun hn=>(ht1 (by intro e;subst e;simp at hn)).2.2) ha
 have hst:=BldOk.step (S'':=S2.upd b (.obj 89 [.ref b 0,.sl (.acc t') 1 (rowsL (s++x.data.toList))])) h1 h.new ht1 hS1 ha rfl
 rw[rowsB_L,rowsL_append];conv=>whnf
 refine⟨_,_,hk,?_⟩;conv=>whnf
 exact⟨_,_,⟨rfl,hst⟩,St.le_refl _,AV.leS_refl _ _ _⟩
theorem WriteByte_ok{S₀ S:St}{b:Nat}{s:List UInt8}(h:BldOk S₀ S b s)(c:UInt8)(hx:s.length+1≤140737488355328):Triple P (C G) 187 [.ref b 0,.int .u8 (c.toNat:Int)] S fun o S'=>o=.ret .nili∧BldOk S₀ S' b (s++[c]):=by
 obtain⟨p,t,hp,hS,ht⟩:=h.at_;have hcc:=copyCheck_ok (G:=G) hS hp;obtain⟨h1,ht1⟩:=BldOk.used h.le h.new ht (.obj 89 [.ref b 0,.sl (.acc t) 1 (rowsL s)]);generalize hcv:(c.toNat:Int)=cv;refine triple_of_awp (hT G) hm Tryz.func187 rfl (by decide +kernel) rfl (by decide +kernel) (by show 2≤_;decide +kernel) rfl ?_
 conv=>whnf
 refine hcc.mono ?_;rintro o S' ⟨rfl,rfl⟩;have hS1:=St.upd_same S b (.obj 89 [.ref b 0,.sl (.acc t) 1 (rowsL s)]);generalize S.upd b (.obj 89 [.ref b 0,.sl (.acc t) 1 (rowsL s)])=S1 at *;conv=>whnf
 refine⟨_,_,hS1,?_⟩;conv=>whnf
 intro bb hbb;have hle2:St.le S1 (S1.upd bb (.tip 5 1 1)):=St.le_upd' (St.le_refl _) hbb _;have h2:St.le S₀ (S1.upd bb (.tip 5 1 1)):=St.le_trans h1 hle2;have ht2:s≠[]→(S1.upd bb (.tip 5 1 1)) t=some (.tip 5 1 s.length)∧S₀ t=none∧t≠b:=fun hs=>by obtain⟨k1,k2,k3⟩:=ht1 hs;exact⟨hle2 _ _ k1,k2,k3⟩
 have hS2:=hle2 _ _ hS1
 conv=>whnf
 refine⟨⟨fun hl=>?_,?_⟩,fun S3 c1 c2 t' c3=>?_⟩
 ·have:s≠[]:=by intro e;subst e;exact hl rfl
  rw[rowsL_len];exact(ht2 this).1
 ·show((rowsL s).length+1)*1≤_
  rw[rowsL_len];omega
 have ha:AccStep (S1.upd bb (.tip 5 1 1)) t 5 1 s.length [c].length t' (S3.upd t' (.tip 5 1 (s.length+[c].length))):=.inr ⟨by simp,S3,fun e=>c1 (by rw[List.eq_nil_of_length_eq_zero e];rfl),fun e=>c2 (rowsL_ne (by intro e';subst e';simp at e)),c3,rfl⟩
 have hk:=AccStep.keep hS2 (fun hn=>(ht2 (by intro e;subst e;simp at hn)).2.2) ha
 have hst:=BldOk.step (S'':=(S3.upd t' (.tip 5 1 (s.length+[c].length))).upd b (.obj 89 [.ref b 0,.sl (.acc t') 1 (rowsL (s++[c]))])) h2 h.new ht2 hS2 ha rfl
 have er:rowsL s++[[.int .u8 cv]]=rowsL (s++[c]):=by rw[← hcv];simp[rowsL]
 rw[er,rowsL_len];conv=>whnf
 refine⟨_,_,hk,?_⟩;conv=>whnf
 exact⟨_,_,⟨rfl,hst⟩,St.le_refl _,AV.leS_refl _ _ _⟩
end Go.Proofs.YtogipknpafkfpaaGreatDoor.Aw
