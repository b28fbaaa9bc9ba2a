/- Contracts of the library's string functions in the abstract walk's words. The room of a statement's copies, whose number -/
import Derived.Test.YtogipknpafkfpaaGreatDoorPpr5
import Derived.Test.YtogipknpafkfpaaGreatDoorPpr6
import Derived.Lib.AppendIntMem
import Derived.Lib.SplitLaws
import Derived.Laws.Externs
set_option linter.all false
set_option maxRecDepth 100000
namespace Go.Proofs.YtogipknpafkfpaaGreatDoor.Aw
open Go Go.RowKit
noncomputable abbrev P:Program:=Tryz.prog
noncomputable abbrev C (G:Nat→Option (List AV)):Cx:=⟨Tt,G,Et,none,false,false⟩
theorem hT(G:Nat→Option (List AV)):TyOk P (C G):=⟨Tt_ok,Et_ok⟩
theorem hm:P.follows .mixedOrders=true:=by kernel_rfl
def rowsS(l:List ByteArray):List (List AV):=l.map fun s=>[.str s]
variable {G:Nat→Option (List AV)}
theorem RelL_ints{w:World}{rd}{k:IntKind}:∀ {l:List Int} {vs:List Value},RelL w rd (l.map (AV.int k)) vs→vs=l.map (Value.int k)
 | [],vs,h=>by simpa [RelL] using h
 | n::l,vs,h=>by
   simp only[List.map_cons,RelL,Rel] at h;obtain⟨u,us,rfl,rfl,h2⟩:=h;rw[RelL_ints h2];rfl
theorem glob_tab{w:World}{S:St}(hg:Good (C G) w S){g:Nat}{k:IntKind}{l:List Int}(h:G g=some (l.map (AV.int k))){name:String}(hn:P.globalNamed name=some g):Lib.TabIs P w name k l:=by
 obtain⟨_,_,h3,e,h4⟩:=hg.2 g _ h;obtain⟨vs,k1,k2,k3,k4⟩:=RelAt.cells h3;have hvs:=RelL_ints k1;subst hvs;unfold Lib.TabIs World.var?;rw[hn];simp only[Option.bind_some];unfold World.shape? at h4
 split at h4
 ·rename_i cs e' f hb
  simp only[Option.some.injEq,Prod.mk.injEq,List.length_map] at h4;rw[hb];simp only[Option.some.injEq]
  apply Array.ext'
  apply List.ext_getElem?
  intro i
  by_cases hi:i<l.length
  ·have hc:=k2 i (.int k l[i]) (by simp[hi])
   rw[cell_of_row w g (0+i) cs e' f hb] at hc;simp only[Nat.zero_add] at hc
   simp[hc,hi]
  ·rw[List.getElem?_eq_none (by simp;omega),List.getElem?_eq_none (by simp;omega)]
 ·cases h4
def G10(G:Nat→Option (List AV)):Prop:=G 2=some (Lib.pow10Tab.map (AV.int .u64))
def itoaS(n:Int):ByteArray:=⟨(Lib.itoa n).toArray⟩
theorem itoa_ok(hG:G10 G)(n:Int)(h0:-9223372036854775808≤n)(h1:n≤9223372036854775807)(S:St) :
 Triple P (C G) 79 [.int .i64 n] S fun o S'=>o=.ret (.str (itoaS n))∧S'=S:=by
 refine Triple.of_calls (x:=.str (itoaS n)) Tryz.func79 rfl (by decide +kernel) (fun w vs hg hr=>?_) ⟨rfl,rfl⟩
 obtain⟨v,hv,r1⟩:=RelL.one hr;simp only[Rel] at r1;subst r1;have hvs:vs=#[.int .i64 n]:=arr_of_list hv;rw[hvs];refine(Tryz.strconv_Itoa n h0 h1 w (glob_tab hg hG (by kernel_rfl))).mono fun e w' he=>?_
 obtain⟨rfl,k,os,rfl⟩:=he;exact⟨_,rfl,by simp only[Rel];rfl,Lib.below_grow _ w (Nat.le_refl _) k os⟩
theorem RelL_strs(w:World)(rd):∀ l:List ByteArray,RelL w rd (rowsS l).flatten (l.map Value.string)
 | []=>by simp[rowsS,RelL]
 | s::l=>by
   have:=RelL_strs w rd l
   simp only[rowsS,List.map_cons,List.flatten_cons,List.singleton_append] at this ⊢;simp only[RelL,Rel];exact⟨_,_,rfl,rfl,this⟩
theorem rowsS_len(l:List ByteArray):(rowsS l).length=l.length:=by simp[rowsS]
theorem rowsS_one(l:List ByteArray):∀ e∈rowsS l,e.length=1:=by
 intro e he;simp only[rowsS,List.mem_map] at he;obtain⟨s,_,rfl⟩:=he;rfl
def tyA(j:Nat):TypeId:=match j with | 0=>29 | 1=>3 | 2=>52 | 3=>3 | 4=>49 | 5=>3 | 6=>48 | 7=>3 | 8=>22 | _=>3
abbrev RmA:=Nat→AccL
def fpA(A:RmA)(j:Nat):List (Nat×Own):=(A j).fp (tyA j)
def fpsA(A:RmA):List (Nat×Own):=(List.range' 0 10).flatMap (fpA A)
def setA(A:RmA)(j:Nat)(a:AccL):RmA:=fun x=>if x=j then a else A x
theorem fps_mid(A:RmA){j:Nat}(hj:j<10):fpsA A=(List.range' 0 j).flatMap (fpA A)++(fpA A j++(List.range' (j+1) (9-j)).flatMap (fpA A)):=by
 unfold fpsA;have e:List.range' 0 10=List.range' 0 j++j::List.range' (j+1) (9-j):=by
  have h1:List.range' 0 10=List.range' 0 j++List.range' (0+j) (10-j):=by
   rw[List.range'_append_1];congr 1;omega
  rw[h1,Nat.zero_add]
  congr 1
  obtain⟨d,hd⟩:∃ d,10-j=d+1:=⟨9-j,by omega⟩
  rw[hd,show 9-j=d by omega]
  rfl
 rw[e,List.flatMap_append,List.flatMap_cons]
theorem flatMap_eq{l:List Nat}{f g:Nat→List (Nat×Own)}(h:∀ x∈l,f x=g x):l.flatMap f=l.flatMap g:=by
 induction l with
 | nil=>rfl
 | cons a l ih=>rw[List.flatMap_cons,List.flatMap_cons,h a (by simp),ih fun x hx=>h x (by simp[hx])]
theorem fps_set(A:RmA){j:Nat}(hj:j<10)(a:AccL):fpsA (setA A j a)=(List.range' 0 j).flatMap (fpA A)++(a.fp (tyA j)++(List.range' (j+1) (9-j)).flatMap (fpA A)):=by
 rw[fps_mid (setA A j a) hj];have e1:fpA (setA A j a) j=a.fp (tyA j):=by unfold fpA setA;rw[if_pos rfl]
 rw[e1]
 congr 1
 ·refine flatMap_eq fun x hx=>?_
  rw[List.mem_range'_1] at hx;unfold fpA setA;rw[if_neg (by omega)]
 ·congr 1
  refine flatMap_eq fun x hx=>?_
  rw[List.mem_range'_1] at hx;unfold fpA setA;rw[if_neg (by omega)]
structure RmB (S₀ S:St) (rb:Nat) (cells:List AV) (A:RmA):Prop where
 eq:S=ov S₀ ((rb,.obj 44 cells)::fpsA A)
 ok:FpOk S₀ ((rb,.obj 44 cells)::fpsA A)
theorem RmB.at_{S₀ S:St}{rb:Nat}{cells:List AV}{A:RmA}(h:RmB S₀ S rb cells A):S rb=some (.obj 44 cells):=by
 rw[h.eq];exact St.upd_same _ _ _
theorem RmB.le{S₀ S:St}{rb:Nat}{cells:List AV}{A:RmA}(h:RmB S₀ S rb cells A):St.le S₀ S:=by
 rw[h.eq];exact ov_le S₀ h.ok
theorem RmB.put{S₀ S:St}{rb:Nat}{cells:List AV}{A:RmA}(h:RmB S₀ S rb cells A)(cells':List AV):RmB S₀ (S.upd rb (.obj 44 cells')) rb cells' A:=by
 have h1:=h.ok.set (pre:=[]) (.obj 44 cells')
 refine⟨?_,h1⟩;rw[h.eq];exact ov_upd_mid (pre:=[]) h.ok.nd
theorem RmB.tip{S₀ S:St}{rb:Nat}{cells:List AV}{A:RmA}(h:RmB S₀ S rb cells A){j:Nat}(hj:j<10)(hn:(A j).es≠[]):S (A j).b=some (.tip (tyA j) 1 (A j).es.length):=by
 have hk:=h.ok
 rw[h.eq];rw[fps_mid A hj,← List.cons_append] at hk ⊢;exact AccL.tip (pre:=(rb,.obj 44 cells)::(List.range' 0 j).flatMap (fpA A)) hk hn
theorem RmB.push{S₀ S:St}{rb:Nat}{cells:List AV}{A:RmA}(h:RmB S₀ S rb cells A){j:Nat}(hj:j<10){S₁:St}(h1:(A j).es=[]→S₁=S)(h2:(A j).es≠[]→S₁=S.del (A j).b){b':Nat}(hb:S₁ b'=none)(x:AV){n:Nat}(hn:n=(A j).es.length+1) :
 RmB S₀ (S₁.upd b' (.tip (tyA j) 1 n)) rb cells (setA A j ((A j).push b' x)):=by
 have hk:=h.ok
 have he:=h.eq
 rw[fps_mid A hj,← List.cons_append] at hk he;obtain⟨k1,k2⟩:=AccL.pushed (pre:=(rb,.obj 44 cells)::(List.range' 0 j).flatMap (fpA A)) (post:=(List.range' (j+1) (9-j)).flatMap (fpA A)) (a:=A j) (e:=tyA j) hk
  (fun e=>(h1 e).trans he) (fun e=>(h2 e).trans (by rw[he];rfl)) hb x hn
 refine⟨?_,?_⟩
 ·rw[k1,fps_set A hj,← List.cons_append]
 ·rw[fps_set A hj,← List.cons_append];exact k2
theorem RmB.over{S₀ S:St}{rb:Nat}{cells:List AV}{A:RmA}(h:RmB S₀ S rb cells A){x:Nat}(hx:S x=none)(o:Own):RmB (S₀.upd x o) (S.upd x o) rb cells A:=by
 have hx':=hx
 rw[h.eq] at hx';obtain⟨n1,n2⟩:=ov_none h.ok.nd hx';have hov:∀ fp:List (Nat×Own),x ∉ fp.map (·.1)→(ov S₀ fp).upd x o=ov (S₀.upd x o) fp:=by
  intro fp hfp
  induction fp with
  | nil=>rfl
  | cons p r ih=>
    obtain⟨c,q⟩:=p;simp only[List.map_cons,List.mem_cons,not_or] at hfp;simp only[ov];rw[St.upd_comm (Ne.symm hfp.1),ih hfp.2]
 refine⟨by rw[h.eq];exact hov _ n2,h.ok.nd,fun p hp=>?_⟩
 have hne:p.1≠x:=fun e=>n2 (by rw[← e];exact List.mem_map.2 ⟨p,hp,rfl⟩)
 rw[St.upd_ne _ _ _ _ hne];exact h.ok.new p hp
theorem RmB.down{S₀ S₁ S:St}{rb:Nat}{cells:List AV}{A:RmA}(h:RmB S₁ S rb cells A)(hle:St.le S₀ S₁):RmB S₀ (ov S₀ ((rb,.obj 44 cells)::fpsA A)) rb cells A∧St.le (ov S₀ ((rb,.obj 44 cells)::fpsA A)) S:=by
 refine⟨⟨rfl,h.ok.nd,fun p hp=>St.le_none hle (h.ok.new p hp)⟩,?_⟩
 rw[h.eq];intro b o hb
 by_cases hm:b∈(((rb,.obj 44 cells)::fpsA A).map (·.1))
 ·obtain⟨⟨c,p⟩,q1,rfl⟩:=List.mem_map.1 hm;rw[ov_get h.ok.nd q1] at hb ⊢;exact hb
 ·rw[ov_out hm] at hb ⊢;exact hle _ _ hb
def lotV(i:Nat):Int:=if i % 2=0 then -7701 else -7702
def wordV(i:Nat):ByteArray:=if i % 2=0 then ⟨#[60,111,110,101,62]⟩ else ⟨#[60,116,119,111,62]⟩
def mkI(i:Nat):List AV:=[.int .i64 (lotV i)]
def mkT(i:Nat):List AV:=[.str (wordV i)]
def mkP(i:Nat):List AV:=[.str ByteArray.empty,.int .i64 (lotV i)]
def mkO(i:Nat):List AV:=[.int .i64 0,.str ByteArray.empty,.int .i64 (lotV i)]
def mkS(i:Nat):List AV:=[.int .i64 0,.str ByteArray.empty,.nils,.nils,.str ByteArray.empty,.nils,.nils,.int .i64 (lotV i),.str ByteArray.empty,.str ByteArray.empty]
def mks(mk:Nat→List AV)(n:Nat):List (List AV):=(List.range n).map mk
theorem mks_succ(mk:Nat→List AV)(n:Nat):mks mk (n+1)=mks mk n++[mk n]:=by unfold mks;rw[List.range_succ,List.map_append];rfl
@[simp] theorem mks_len (mk:Nat→List AV) (n:Nat):(mks mk n).length=n:=by simp[mks]
abbrev Ent:=Nat×List (List AV)×Nat
def entAV(mk:Nat→List AV)(k:Nat)(e:Ent):AV:=.sl (.own e.1) k (e.2.1++mks mk e.2.2)
structure KInv (mk:Nat→List AV) (k:Nat) (a1 a2:AccL) (N:Nat):Prop where
 ex:∃ l:List Ent,a1.es=l.map (fun e=>[entAV mk k e])∧a2.es=l.map (fun e=>[AV.int .i64 (e.2.1.length:Int)])∧l.length≤N∧∀ e∈l,e.2.1.length+e.2.2≤1000000000
def Has(e:TypeId)(mk:Nat→List AV)(S:St)(b:Nat)(xs:List (List AV))(c cap:Nat):Prop:=
 ∃ junk,S b=some (.obj e (xs.flatten++((mks mk c).flatten++junk)))∧(∀ x∈xs,x.length=1)∧xs.length+c≤cap∧cap≤xs.length+c+junk.length∧cap≤maxLen
abbrev WEnt:=Nat×Nat×Nat×Nat
structure WInv (S₀:St) (Kn:Nat→Nat) (e:TypeId) (mk:Nat→List AV) (a1 a2:AccL) (N:Nat):Prop where
 ex:∃ l:List WEnt,a1.es=l.map (fun x=>[AV.arr x.1 0 (x.2.1+x.2.2.1) x.2.2.2])∧a2.es=l.map (fun x=>[AV.int .i64 (x.2.1:Int)])∧l.length≤N∧
  ∀ x∈l,x.2.1+x.2.2.1≤1000000000∧Kn x.1=x.2.1∧∃ xs,xs.length=x.2.1∧Has e mk S₀ x.1 xs x.2.2.1 x.2.2.2
structure RmInv (S₀:St) (Kn:Nat→Nat) (A:RmA) (N:Nat):Prop where
 i:WInv S₀ Kn 3 mkI (A 0) (A 1) N
 t:WInv S₀ Kn 9 mkT (A 2) (A 3) N
 p:KInv mkP 2 (A 4) (A 5) N
 o:KInv mkO 3 (A 6) (A 7) N
 s:KInv mkS 10 (A 8) (A 9) N
def rmC(A:RmA):List AV:=[(A 0).av,(A 1).av,(A 2).av,(A 3).av,.nils,.nils,.nils,.nils,(A 4).av,(A 5).av,(A 6).av,(A 7).av,.nils,.nils,.nils,.nils,.nils,.nils,.nils,.nils,.nils,.nils,(A 8).av,(A 9).av,.nils,.nils,.nils,.nils]
def Rm(S₀:St)(Kn:Nat→Nat)(S:St)(rb:Nat)(N:Nat):Prop:=∃ A,RmB S₀ S rb (rmC A) A∧RmInv S₀ Kn A N
theorem KInv.mono{mk:Nat→List AV}{k:Nat}{a1 a2:AccL}{N M:Nat}(h:KInv mk k a1 a2 N)(hm:N≤M):KInv mk k a1 a2 M:=by
 obtain⟨l,h1,h2,h3,h4⟩:=h.ex;exact⟨l,h1,h2,by omega,h4⟩
theorem KInv.push{mk:Nat→List AV}{k:Nat}{a1 a2:AccL}{N:Nat}(h:KInv mk k a1 a2 N)(b b1 b2 n:Nat)(base:List (List AV))(hb:base.length+n≤1000000000) :
 KInv mk k (a1.push b1 (.sl (.own b) k (base++mks mk n))) (a2.push b2 (.int .i64 (base.length:Int))) (N+1):=by
 obtain⟨l,h1,h2,h3,h4⟩:=h.ex;refine⟨l++[(b,base,n)],?_,?_,by simp;omega,?_⟩
 ·unfold AccL.push;dsimp only;rw[h1,List.map_append];rfl
 ·unfold AccL.push;dsimp only;rw[h2,List.map_append];rfl
 ·intro e he
  rcases List.mem_append.1 he with he | he
  ·exact h4 e he
  ·rw[List.mem_singleton.1 he];exact hb
theorem WInv.keep{S₀ S₁:St}{Kn Km:Nat→Nat}{e:TypeId}{mk:Nat→List AV}{a1 a2:AccL}{N M:Nat}(h:WInv S₀ Kn e mk a1 a2 N)(hm:N≤M)
 (hs:∀ b xs c cap,xs.length=Kn b→Has e mk S₀ b xs c cap→(∃ ys,ys.length=xs.length∧Has e mk S₁ b ys c cap)∧Km b=Kn b):WInv S₁ Km e mk a1 a2 M:=by
 obtain⟨l,h1,h2,h3,h4⟩:=h.ex;refine⟨l,h1,h2,by omega,fun x hx=>?_⟩
 obtain⟨q1,q2,xs,q3,q4⟩:=h4 x hx;obtain⟨⟨ys,r1,r2⟩,r3⟩:=hs x.1 xs _ _ (by rw[q3,q2]) q4
 exact⟨q1,by rw[r3,q2],ys,by rw[r1,q3],r2⟩
theorem WInv.push{S₀:St}{Kn:Nat→Nat}{e:TypeId}{mk:Nat→List AV}{a1 a2:AccL}{N:Nat}(h:WInv S₀ Kn e mk a1 a2 N)(b b1 b2 c cap:Nat)(xs:List (List AV))(hb:xs.length+c≤1000000000)(hk:Kn b=xs.length)(hh:Has e mk S₀ b xs c cap) :
 WInv S₀ Kn e mk (a1.push b1 (.arr b 0 (xs.length+c) cap)) (a2.push b2 (.int .i64 (xs.length:Int))) (N+1):=by
 obtain⟨l,h1,h2,h3,h4⟩:=h.ex;refine⟨l++[(b,xs.length,c,cap)],?_,?_,by simp;omega,?_⟩
 ·unfold AccL.push;dsimp only;rw[h1,List.map_append];rfl
 ·unfold AccL.push;dsimp only;rw[h2,List.map_append];rfl
 ·intro x hx
  rcases List.mem_append.1 hx with hx | hx
  ·exact h4 x hx
  ·rw[List.mem_singleton.1 hx];exact⟨hb,hk,xs,rfl,hh⟩
theorem Has.le{e:TypeId}{mk:Nat→List AV}{S S':St}{b:Nat}{xs:List (List AV)}{c cap:Nat}(h:Has e mk S b xs c cap)(hs:S' b=S b):Has e mk S' b xs c cap:=by
 obtain⟨junk,h1,h2⟩:=h;exact⟨junk,hs.trans h1,h2⟩
theorem Has.at_{e:TypeId}{mk:Nat→List AV}{S:St}{b:Nat}{xs:List (List AV)}{c cap:Nat}(h:Has e mk S b xs c cap):∃ cells,S b=some (.obj e cells):=by
 obtain⟨junk,h1,_⟩:=h;exact⟨_,h1⟩
theorem WInv.mono{S₀:St}{Kn:Nat→Nat}{e:TypeId}{mk:Nat→List AV}{a1 a2:AccL}{N M:Nat}(h:WInv S₀ Kn e mk a1 a2 N)(hm:N≤M):WInv S₀ Kn e mk a1 a2 M:=
 h.keep hm fun b xs c cap _ hh=>⟨⟨xs,rfl,hh⟩,rfl⟩
def kset(Kn:Nat→Nat)(b n:Nat):Nat→Nat:=fun x=>if x=b then n else Kn x
theorem kset_same(Kn:Nat→Nat)(b n:Nat):kset Kn b n b=n:=if_pos rfl
theorem kset_ne(Kn:Nat→Nat){b x:Nat}(n:Nat)(h:x≠b):kset Kn b n x=Kn x:=if_neg h
theorem setRange_one(pre:List AV)(y x:AV)(post:List AV):setRange (pre++y::post) pre.length [x]=pre++x::post:=by
 simp only[setRange];rw[List.set_append_right _ _ (Nat.le_refl _),Nat.sub_self];rfl
theorem flat1_len{xs:List (List AV)}(h:∀ x∈xs,x.length=1):xs.flatten.length=xs.length:=by
 induction xs with
 | nil=>rfl
 | cons x xs ih=>
   rw[List.flatten_cons,List.length_append,h x (by simp),ih fun y hy=>h y (by simp[hy]),List.length_cons];omega
theorem RmInv.both{S₀:St}{Kn:Nat→Nat}{A:RmA}{N M:Nat}(h:RmInv S₀ Kn A N)(hm:N≤M){b n:Nat}(hb:S₀ b=none)(o:Own) :
 WInv (S₀.upd b o) (kset Kn b n) 3 mkI (A 0) (A 1) M∧WInv (S₀.upd b o) (kset Kn b n) 9 mkT (A 2) (A 3) M:=by
 have h1:∀ {e:TypeId} {mk:Nat→List AV} (x:Nat) (xs:List (List AV)) (c cap:Nat),xs.length=Kn x→Has e mk S₀ x xs c cap→(∃ ys,ys.length=xs.length∧Has e mk (S₀.upd b o) x ys c cap)∧kset Kn b n x=Kn x:=fun x xs c cap _ hh=>by
  obtain⟨cells,hc⟩:=hh.at_;have hne:x≠b:=fun e=>by rw[e,hb] at hc;cases hc
  exact⟨⟨xs,rfl,hh.le (St.upd_ne _ _ _ _ hne)⟩,kset_ne _ _ hne⟩
 exact⟨h.i.keep hm fun x xs c cap=>h1 x xs c cap,h.t.keep hm fun x xs c cap=>h1 x xs c cap⟩
theorem mks_flat{mk:Nat→List AV}(hm:∀ i,(mk i).length=1)(c:Nat):(mks mk c).flatten.length=c:=by
 rw[flat1_len fun x hx=>?_,mks_len]
 unfold mks at hx;obtain⟨i,_,rfl⟩:=List.mem_map.1 hx;exact hm i
theorem Has.len{mk:Nat→List AV}(hm:∀ i,(mk i).length=1){xs:List (List AV)}(hx:∀ x∈xs,x.length=1)(c:Nat)(junk:List AV):(xs.flatten++((mks mk c).flatten++junk)).length=xs.length+c+junk.length:=by
 rw[List.length_append,List.length_append,flat1_len hx,mks_flat hm];omega
theorem Has.grow_in{e:TypeId}{mk:Nat→List AV}(hm:∀ i,(mk i).length=1){xs:List (List AV)}(hx:∀ x∈xs,x.length=1){c cap:Nat}{junk:List AV}(hc:xs.length+c+1≤cap)(hj:cap≤xs.length+c+junk.length)(hmx:cap≤maxLen){T:St}{b:Nat}
 (hT:T b=some (.obj e (setRange (xs.flatten++((mks mk c).flatten++junk)) ((xs.length+c)*1) (mk c)))):Has e mk T b xs (c+1) cap:=by
 cases junk with
 | nil=>simp only[List.length_nil] at hj;omega
 | cons y junk=>
   obtain⟨z,hz⟩:∃ z,mk c=[z]:=List.length_eq_one_iff.1 (hm c);rw[hz] at hT;have e1:xs.flatten++((mks mk c).flatten++y::junk)=(xs.flatten++(mks mk c).flatten)++y::junk:=by rw[List.append_assoc]
   have e2:(xs.length+c)*1=(xs.flatten++(mks mk c).flatten).length:=by rw[List.length_append,flat1_len hx,mks_flat hm];omega
   rw[e1,e2,setRange_one] at hT;refine⟨junk,hT.trans ?_,hx,by omega,by simp only[List.length_cons] at hj;omega,hmx⟩
   rw[mks_succ,List.flatten_append,hz];simp only[List.flatten_cons,List.flatten_nil,List.append_assoc,List.cons_append,List.nil_append]
theorem Has.grow_out{e:TypeId}{mk:Nat→List AV}(hm:∀ i,(mk i).length=1){xs:List (List AV)}(hx:∀ x∈xs,x.length=1){c cap:Nat}{junk z:List AV}(hc:xs.length+c+1≤cap)(hz:z.length=cap-(xs.length+c+1))(hmx:cap≤maxLen){T:St}{b:Nat}
 (hT:T b=some (.obj e ((xs.flatten++((mks mk c).flatten++junk)).take ((xs.length+c)*1)++(mk c++z)))):Has e mk T b xs (c+1) cap:=by
 have e1:xs.flatten++((mks mk c).flatten++junk)=(xs.flatten++(mks mk c).flatten)++junk:=by rw[List.append_assoc]
 have e2:(xs.length+c)*1=(xs.flatten++(mks mk c).flatten).length:=by rw[List.length_append,flat1_len hx,mks_flat hm];omega
 rw[e1,e2,List.take_left] at hT;refine⟨z,hT.trans ?_,hx,by omega,by omega,hmx⟩
 rw[mks_succ,List.flatten_append];simp only[List.flatten_cons,List.flatten_nil,List.append_assoc,List.append_nil]
theorem mkI_len(i:Nat):(mkI i).length=1:=rfl
theorem mkT_len(i:Nat):(mkT i).length=1:=rfl
theorem RmInv.keep{S₀ S₁:St}{Kn Km:Nat→Nat}{A:RmA}{N M:Nat}(h:RmInv S₀ Kn A N)(hm:N≤M)(hs:∀ b cells e,(e=3∨e=9)→S₀ b=some (.obj e cells)→S₁ b=S₀ b∧Km b=Kn b):RmInv S₁ Km A M:=by
 refine⟨h.i.keep hm fun b xs c cap _ hh=>?_,h.t.keep hm fun b xs c cap _ hh=>?_,h.p.mono hm,h.o.mono hm,h.s.mono hm⟩
 ·obtain⟨cells,hc⟩:=hh.at_;obtain⟨k1,k2⟩:=hs b cells _ (.inl rfl) hc;exact⟨⟨xs,rfl,hh.le k1⟩,k2⟩
 ·obtain⟨cells,hc⟩:=hh.at_;obtain⟨k1,k2⟩:=hs b cells _ (.inr rfl) hc;exact⟨⟨xs,rfl,hh.le k1⟩,k2⟩
open Classical in
noncomputable def St.outOf (S1:St) (l:List Nat):St:=fun x=>if x∈l then none else S1 x
theorem St.outOf_in{S1:St}{l:List Nat}{x:Nat}(h:x∈l):(St.outOf S1 l) x=none:=if_pos h
theorem St.outOf_out{S1:St}{l:List Nat}{x:Nat}(h:x ∉ l):(St.outOf S1 l) x=S1 x:=if_neg h
theorem RmB.lift{S₀ S S1:St}{rb:Nat}{cells:List AV}{A:RmA}(h:RmB S₀ S rb cells A)(hle:St.le S S1):∃ S₁,St.le S₀ S₁∧RmB S₁ S1 rb cells A∧∀ x o,S1 x=some o→S x=none→S₁ x=some o:=by
 obtain⟨fp,hfp⟩:∃ fp,fp=((rb,Own.obj 44 cells)::fpsA A):=⟨_,rfl⟩;have he:=h.eq;have hk:=h.ok;rw[← hfp] at he hk;refine⟨St.outOf S1 (fp.map (·.1)),fun b o hb=>?_,⟨?_,?_⟩,fun x o hx hS=>?_⟩
 ·have hn:b ∉ fp.map (·.1):=fun hh=>by
   obtain⟨p,q1,rfl⟩:=List.mem_map.1 hh;rw[hk.new p q1] at hb;cases hb
  rw[St.outOf_out hn];refine hle _ _ ?_;rw[he,ov_out hn];exact hb
 ·rw[← hfp]
  funext x
  by_cases hx:x∈fp.map (·.1)
  ·obtain⟨⟨c,o⟩,q1,q2⟩:=List.mem_map.1 hx;dsimp only at q2;subst q2;rw[ov_get (S₀:=St.outOf S1 (fp.map (·.1))) hk.nd q1];refine hle _ _ ?_;rw[he];exact ov_get hk.nd q1
  ·rw[ov_out (S₀:=St.outOf S1 (fp.map (·.1))) hx,St.outOf_out hx]
 ·rw[← hfp];exact⟨hk.nd,fun p hp=>St.outOf_in (List.mem_map.2 ⟨p,hp,rfl⟩)⟩
 ·have hn:x ∉ fp.map (·.1):=fun hh=>by
   obtain⟨⟨c,p⟩,q1,q2⟩:=List.mem_map.1 hh;dsimp only at q2;subst q2;rw[he,ov_get hk.nd q1] at hS;cases hS
  rw[St.outOf_out hn];exact hx
theorem lot_ok(i:Nat)(S:St):Triple P (C G) 50 [.int .i64 (i:Int)] S fun o S'=>o=.ret (.int .i64 (lotV i))∧S'=S:=by
 have e:((i:Int).tmod 2 == 0)=decide (i % 2=0):=by
  rw[Int.tmod_eq_emod_of_nonneg (by omega)]
  by_cases h:i % 2=0
  ·rw[decide_eq_true h];simp;omega
  ·rw[decide_eq_false h];simp;omega
 unfold lotV;refine triple_of_awp (hT G) hm Tryz.func50 rfl (by decide +kernel) rfl (by decide +kernel) (by show 1≤_;decide +kernel) rfl ?_
 conv=>whnf
 refine⟨by decide,?_⟩
 conv=>whnf
 rw[e]
 by_cases h:i % 2=0
 ·rw[decide_eq_true h,if_pos h];conv=>whnf
  exact⟨_,_,⟨rfl,rfl⟩,St.le_refl _,AV.leS_refl _ _ _⟩
 ·rw[decide_eq_false h,if_neg h];conv=>whnf
  exact⟨_,_,⟨rfl,rfl⟩,St.le_refl _,AV.leS_refl _ _ _⟩
theorem word_ok(i:Nat)(S:St):Triple P (C G) 73 [.int .i64 (i:Int)] S fun o S'=>o=.ret (.str (wordV i))∧S'=S:=by
 have e:((i:Int).tmod 2 == 0)=decide (i % 2=0):=by
  rw[Int.tmod_eq_emod_of_nonneg (by omega)]
  by_cases h:i % 2=0
  ·rw[decide_eq_true h];simp;omega
  ·rw[decide_eq_false h];simp;omega
 unfold wordV;refine triple_of_awp (hT G) hm Tryz.func73 rfl (by decide +kernel) rfl (by decide +kernel) (by show 1≤_;decide +kernel) rfl ?_
 conv=>whnf
 refine⟨by decide,?_⟩
 conv=>whnf
 rw[e]
 by_cases h:i % 2=0
 ·rw[decide_eq_true h,if_pos h];conv=>whnf
  exact⟨_,_,⟨rfl,rfl⟩,St.le_refl _,AV.leS_refl _ _ _⟩
 ·rw[decide_eq_false h,if_neg h];conv=>whnf
  exact⟨_,_,⟨rfl,rfl⟩,St.le_refl _,AV.leS_refl _ _ _⟩
theorem layInts_ok{S₀ S:St}{Kn:Nat→Nat}{rb N:Nat}(h:Rm S₀ Kn S rb N)(hN:N≤100000000)(rows:List (List AV))(hr:rows.length≤100000000)(hr1:∀ x∈rows,x.length=1)(n:Nat)(hn:n≤1000) :
 Triple P (C G) 77 [.ref rb 0,.sl .any 1 rows,.int .i64 (n:Int)] S fun o S'=>∃ b cap cells,o=.ret (.arr b 0 rows.length (rows.length+n))∧S₀ b=none∧Has 3 mkI (S₀.upd b (.obj 3 cells)) b rows n cap∧Rm (S₀.upd b (.obj 3 cells)) (kset Kn b rows.length) S' rb (N+1):=by
 -- (*hallmark/hallmarkroom.Room).layInts function,1 k,3 the elements' type,mkI mk,lot_ok the mark's contract,0 j,1 j+1,8 bytes of an element,hI.i the kind's invariant
 obtain⟨A,hB,hI⟩:=h;have hlot:=fun i S=>lot_ok (G:=G) i S
 obtain⟨lE,hE1,hE2,hE3,hE4⟩:=(hI.i).ex;have hl1:(A 0).es.length≤N:=by rw[hE1,List.length_map];exact hE3
 have hl2:(A 1).es.length≤N:=by rw[hE2,List.length_map];exact hE3
 clear hE1 hE2 hE3 hE4 lE;refine Triple.arr (triple_of_awp (C:=(C G).arr) (hT G) hm Tryz.func77 rfl (by decide +kernel) rfl (by decide +kernel) (by show 3≤_;decide +kernel) rfl ?_)
 refine awp_seq2 fun K hK hQ=>?_
 conv=>whnf
 refine hK _ _ ?_;clear hK hQ K;refine awp_seq2 fun K hK hQ=>?_
 conv=>whnf
 refine⟨rfl,fun b0 hb0=>?_⟩
 conv=>whnf
 refine hK _ _ ?_;clear hK hQ K;refine awp_seq2 fun K hK hQ=>?_
 have main:∀ (bf cap:Nat) (S1:St),St.le S S1→S bf=none→Has 3 mkI S1 bf rows 0 cap→K .normal ((7,.arr bf 0 (0+rows.length) cap)::(12,.arr bf 0 (0+rows.length) cap)::(11,.sl .any 1 rows)::(10,.arr b0 0 0 0)::(7,.arr b0 0 0 0)::(9,.arr b0 0 0 0)::(6,.nils)::argEnv 0 [.ref rb 0,.sl .any 1 rows,.int .i64 (n:Int)]) S1:=by
  intro bf cap S1 g1 g2 g3;refine hK _ _ ?_;clear hK hQ K;refine awp_seq2 fun K hK hQ=>?_
  conv=>whnf
  refine⟨⟨Nat×Nat×Nat,fun z=>[(0,.ref rb 0),(1,.sl .any 1 rows),(2,.int .i64 (n:Int)),(7,.arr z.2.1 0 (rows.length+z.1) z.2.2),(8,.int .i64 (z.1:Int))],
   fun z S1=>St.le S S1∧S z.2.1=none∧Has 3 mkI S1 z.2.1 rows z.1 z.2.2∧z.1≤n,fun z=>n-z.1⟩,
   ⟨(0,bf,cap),⟨rfl,⟨rfl,rfl⟩,rfl,congrArg (fun x=>AV.arr bf 0 x cap) (by omega),rfl,trivial⟩,_,St.leW_refl _,g1,g2,g3,by omega⟩,?_⟩
  clear g1 g2 g3 S1 cap bf;rintro⟨i,bf,cap⟩ S1 ⟨g1,g2,g3,g4⟩;dsimp only at g1 g2 g3 g4;conv=>whnf
  refine split_of (fun hlt=>?_) (fun hlt=>?_)
  ·have hlt:i<n:=by have:=of_decide_eq_true hlt;omega
   have w1:IntKind.i64.wrap ((i:Int)+1)=((i+1:Nat):Int):=wrap_nat (by omega)
   conv=>whnf
   refine(hlot i _).mono ?_;rintro o T ⟨rfl,rfl⟩;conv=>whnf
   intro bb hbb;conv=>whnf
   obtain⟨junk,j1,j2,j3,j4,j5⟩:=g3;have hlen:=Has.len (mk:=mkI) mkI_len hr1 i junk;refine⟨_,St.up hbb j1,⟨j3,by rw[hlen];show cap*1≤_;omega,j5,by show(rows.length+i+1)*8≤_;omega⟩,split_of (fun hin=>?_) (fun hin=>?_)⟩
   ·have hin:=of_decide_eq_true hin
    conv=>whnf
    exact⟨(i+1,bf,cap),⟨rfl,⟨rfl,rfl⟩,rfl,rfl,congrArg _ w1,trivial⟩,⟨_,St.leW_refl _,St.le_upd (St.le_upd' g1 hbb _) g2 _,g2,Has.grow_in (mk:=mkI) mkI_len hr1 hin j4 j5 (St.upd_same _ _ _),hlt⟩,by show n-(i+1)<n-i;omega⟩
   ·intro b2 cap2 hb2 hc1 hc2;conv=>whnf
    have hn2:S b2=none:=St.le_none (St.le_upd' g1 hbb _) hb2
    exact⟨(i+1,b2,cap2),⟨rfl,⟨rfl,rfl⟩,rfl,rfl,congrArg _ w1,trivial⟩,⟨_,St.leW_refl _,St.le_upd' (St.le_upd' g1 hbb _) hb2 _,hn2,Has.grow_out (mk:=mkI) mkI_len hr1 hc1 (by rw[mulL_length];exact Nat.mul_one _) hc2 (St.upd_same _ _ _),hlt⟩,by show n-(i+1)<n-i;omega⟩
  have hlt:i=n:=by have:=of_decide_eq_false hlt;omega
  subst hlt;conv=>whnf
  refine hK _ _ ?_;clear hK hQ K;obtain⟨S₁,q1,hB1,q0⟩:=hB.lift g1;obtain⟨junk,j1,j2,j3,j4,j5⟩:=g3;have q5:=q0 _ _ j1 g2;have zb:=St.le_none hB.le g2;clear hB g1 q0 j1;have q1:St.le (S₀.upd bf (.obj 3 (rows.flatten++((mks mkI i).flatten++junk)))) S₁:=fun x o hx=>by
   by_cases e:x=bf
   ·rw[e] at hx ⊢;rw[St.upd_same] at hx;rw[q5,hx]
   ·rw[St.upd_ne _ _ _ _ e] at hx;exact q1 _ _ hx
  unfold rmC AccL.av at hB1;refine awp_seq2 fun K hK hQ=>?_
  conv=>whnf
  refine⟨_,_,hB1.at_,?_⟩;conv=>whnf
  intro bb hbb;have hB2:=hB1.over hbb (.tip (tyA 0) 1 1);have q2:=St.le_upd' q1 (St.le_none hB1.le hbb) (.tip (tyA 0) 1 1);clear hB1;conv=>whnf
  refine⟨⟨fun hl=>hB2.tip (j:=0) (by decide) hl,?_⟩,fun S4 c1 c2 b1 c3=>?_⟩
  ·show((A 0).es.length+1)*24≤_;omega
  have hB3:=hB2.push (j:=0) (by decide) c1 c2 c3 (.arr bf 0 (rows.length+i) cap) rfl
  clear hB2 c1 c2 c3;conv=>whnf
  refine⟨_,_,hB3.at_,?_⟩;conv=>whnf
  refine hK _ _ ?_;clear hK hQ K;have hB4:=hB3.put (rmC (setA A 0 ((A 0).push b1 (.arr bf 0 (rows.length+i) cap))));clear hB3;have hes:(setA A 0 ((A 0).push b1 (.arr bf 0 (rows.length+i) cap))) 1=A 1:=rfl;change awp _ _ _ _ (St.upd _ _ (.obj 44 (rmC (setA A 0 ((A 0).push b1 (.arr bf 0 (rows.length+i) cap)))))) _;generalize hAA:setA A 0 ((A 0).push b1 (.arr bf 0 (rows.length+i) cap))=AA at *;have hal:(AA 1).es.length≤N:=by rw[hes];exact hl2
  unfold rmC AccL.av at hB4;refine awp_seq2 fun K hK hQ=>?_
  conv=>whnf
  refine⟨_,_,hB4.at_,?_⟩;conv=>whnf
  intro hlen;conv=>whnf
  intro bc hbc;have hB5:=hB4.over hbc (.tip 3 1 1);have q3:=St.le_upd' q2 (St.le_none hB4.le hbc) (.tip 3 1 1);clear hB4;conv=>whnf
  refine⟨⟨fun hl=>hB5.tip (j:=1) (by decide) hl,?_⟩,fun S5 c1 c2 b2 c3=>?_⟩
  ·show((AA 1).es.length+1)*8≤_;omega
  have hB6:=hB5.push (j:=1) (by decide) c1 c2 c3 (.int .i64 (rows.length:Int)) rfl
  clear hB5 c1 c2 c3;conv=>whnf
  refine⟨_,_,hB6.at_,?_⟩;conv=>whnf
  refine hK _ _ ?_;clear hK hQ K;have hB7:=hB6.put (rmC (setA AA 1 ((AA 1).push b2 (.int .i64 (rows.length:Int)))));clear hB6;obtain⟨d1,d2⟩:=hB7.down q3;have hhas:Has 3 mkI (S₀.upd bf (.obj 3 (rows.flatten++((mks mkI i).flatten++junk)))) bf rows i cap:=⟨junk,St.upd_same _ _ _,hr1,j3,j4,j5⟩;have hinv:RmInv (S₀.upd bf (.obj 3 (rows.flatten++((mks mkI i).flatten++junk)))) (kset Kn bf rows.length) (setA AA 1 ((AA 1).push b2 (.int .i64 (rows.length:Int)))) (N+1):=by
   obtain⟨m1,m2⟩:=hI.both (Nat.le_refl N) (n:=rows.length) zb (.obj 3 (rows.flatten++((mks mkI i).flatten++junk)));have hp:=(m1).push bf b1 b2 i cap rows (by omega) (kset_same _ _ _) hhas
   rw[hes,← hAA];refine⟨?_,?_,?_,?_,?_⟩<;>first | exact hp | exact m1.mono (Nat.le_succ _) | exact m2.mono (Nat.le_succ _) | exact hI.p.mono (Nat.le_succ _) | exact hI.o.mono (Nat.le_succ _) | exact hI.s.mono (Nat.le_succ _)
  conv=>whnf
  intro hlen1;conv=>whnf
  refine⟨⟨by omega,by omega,by show((rows.length+i:Nat):Int)≤(cap:Int);omega⟩,?_⟩
  conv=>whnf
  exact⟨_,_,⟨bf,cap,_,rfl,zb,hhas,_,d1,hinv⟩,d2,AV.leS_refl _ _ _⟩
 conv=>whnf
 refine⟨[],St.upd_same _ _ _,⟨Nat.le_refl _,Nat.le_refl _,by simp[maxLen],by show(0+rows.length)*8≤_;omega⟩,split_of (fun hin=>?_) (fun hin=>?_)⟩
 ·have hin:=of_decide_eq_true hin
  have hz:rows=[]:=List.eq_nil_of_length_eq_zero (by omega)
  subst hz;conv=>whnf
  refine main b0 0 _ (St.le_upd (St.le_upd' (St.le_refl _) hb0 _) hb0 _) hb0 ⟨[],?_,hr1,Nat.le_refl _,Nat.le_refl _,Nat.zero_le _⟩;exact St.upd_same _ _ _
 ·intro b2 cap2 hb2 hc1 hc2;conv=>whnf
  refine main b2 cap2 _ (St.le_upd' (St.le_upd' (St.le_refl _) hb0 _) hb2 _) (St.no hb2) ⟨_,St.upd_same _ _ _,hr1,by omega,?_,hc2⟩
  rw[mulL_length]
  show cap2≤rows.length+0+(cap2-(0+rows.length))*1
  omega
theorem layTexts_ok{S₀ S:St}{Kn:Nat→Nat}{rb N:Nat}(h:Rm S₀ Kn S rb N)(hN:N≤100000000)(rows:List (List AV))(hr:rows.length≤100000000)(hr1:∀ x∈rows,x.length=1)(n:Nat)(hn:n≤1000) :
 Triple P (C G) 78 [.ref rb 0,.sl .any 1 rows,.int .i64 (n:Int)] S fun o S'=>∃ b cap cells,o=.ret (.arr b 0 rows.length (rows.length+n))∧S₀ b=none∧Has 9 mkT (S₀.upd b (.obj 9 cells)) b rows n cap∧Rm (S₀.upd b (.obj 9 cells)) (kset Kn b rows.length) S' rb (N+1):=by
 -- (*hallmark/hallmarkroom.Room).layTexts function,1 k,9 the elements' type,mkT mk,word_ok the mark's contract,2 j,3 j+1,16 bytes of an element,hI.t the kind's invariant
 obtain⟨A,hB,hI⟩:=h;have hlot:=fun i S=>word_ok (G:=G) i S
 obtain⟨lE,hE1,hE2,hE3,hE4⟩:=(hI.t).ex;have hl1:(A 2).es.length≤N:=by rw[hE1,List.length_map];exact hE3
 have hl2:(A 3).es.length≤N:=by rw[hE2,List.length_map];exact hE3
 clear hE1 hE2 hE3 hE4 lE;refine Triple.arr (triple_of_awp (C:=(C G).arr) (hT G) hm Tryz.func78 rfl (by decide +kernel) rfl (by decide +kernel) (by show 3≤_;decide +kernel) rfl ?_)
 refine awp_seq2 fun K hK hQ=>?_
 conv=>whnf
 refine hK _ _ ?_;clear hK hQ K;refine awp_seq2 fun K hK hQ=>?_
 conv=>whnf
 refine⟨rfl,fun b0 hb0=>?_⟩
 conv=>whnf
 refine hK _ _ ?_;clear hK hQ K;refine awp_seq2 fun K hK hQ=>?_
 have main:∀ (bf cap:Nat) (S1:St),St.le S S1→S bf=none→Has 9 mkT S1 bf rows 0 cap→K .normal ((7,.arr bf 0 (0+rows.length) cap)::(12,.arr bf 0 (0+rows.length) cap)::(11,.sl .any 1 rows)::(10,.arr b0 0 0 0)::(7,.arr b0 0 0 0)::(9,.arr b0 0 0 0)::(6,.nils)::argEnv 0 [.ref rb 0,.sl .any 1 rows,.int .i64 (n:Int)]) S1:=by
  intro bf cap S1 g1 g2 g3;refine hK _ _ ?_;clear hK hQ K;refine awp_seq2 fun K hK hQ=>?_
  conv=>whnf
  refine⟨⟨Nat×Nat×Nat,fun z=>[(0,.ref rb 0),(1,.sl .any 1 rows),(2,.int .i64 (n:Int)),(7,.arr z.2.1 0 (rows.length+z.1) z.2.2),(8,.int .i64 (z.1:Int))],
   fun z S1=>St.le S S1∧S z.2.1=none∧Has 9 mkT S1 z.2.1 rows z.1 z.2.2∧z.1≤n,fun z=>n-z.1⟩,
   ⟨(0,bf,cap),⟨rfl,⟨rfl,rfl⟩,rfl,congrArg (fun x=>AV.arr bf 0 x cap) (by omega),rfl,trivial⟩,_,St.leW_refl _,g1,g2,g3,by omega⟩,?_⟩
  clear g1 g2 g3 S1 cap bf;rintro⟨i,bf,cap⟩ S1 ⟨g1,g2,g3,g4⟩;dsimp only at g1 g2 g3 g4;conv=>whnf
  refine split_of (fun hlt=>?_) (fun hlt=>?_)
  ·have hlt:i<n:=by have:=of_decide_eq_true hlt;omega
   have w1:IntKind.i64.wrap ((i:Int)+1)=((i+1:Nat):Int):=wrap_nat (by omega)
   conv=>whnf
   refine(hlot i _).mono ?_;rintro o T ⟨rfl,rfl⟩;conv=>whnf
   intro bb hbb;conv=>whnf
   obtain⟨junk,j1,j2,j3,j4,j5⟩:=g3;have hlen:=Has.len (mk:=mkT) mkT_len hr1 i junk;refine⟨_,St.up hbb j1,⟨j3,by rw[hlen];show cap*1≤_;omega,j5,by show(rows.length+i+1)*16≤_;omega⟩,split_of (fun hin=>?_) (fun hin=>?_)⟩
   ·have hin:=of_decide_eq_true hin
    conv=>whnf
    exact⟨(i+1,bf,cap),⟨rfl,⟨rfl,rfl⟩,rfl,rfl,congrArg _ w1,trivial⟩,⟨_,St.leW_refl _,St.le_upd (St.le_upd' g1 hbb _) g2 _,g2,Has.grow_in (mk:=mkT) mkT_len hr1 hin j4 j5 (St.upd_same _ _ _),hlt⟩,by show n-(i+1)<n-i;omega⟩
   ·intro b2 cap2 hb2 hc1 hc2;conv=>whnf
    have hn2:S b2=none:=St.le_none (St.le_upd' g1 hbb _) hb2
    exact⟨(i+1,b2,cap2),⟨rfl,⟨rfl,rfl⟩,rfl,rfl,congrArg _ w1,trivial⟩,⟨_,St.leW_refl _,St.le_upd' (St.le_upd' g1 hbb _) hb2 _,hn2,Has.grow_out (mk:=mkT) mkT_len hr1 hc1 (by rw[mulL_length];exact Nat.mul_one _) hc2 (St.upd_same _ _ _),hlt⟩,by show n-(i+1)<n-i;omega⟩
  have hlt:i=n:=by have:=of_decide_eq_false hlt;omega
  subst hlt;conv=>whnf
  refine hK _ _ ?_;clear hK hQ K;obtain⟨S₁,q1,hB1,q0⟩:=hB.lift g1;obtain⟨junk,j1,j2,j3,j4,j5⟩:=g3;have q5:=q0 _ _ j1 g2;have zb:=St.le_none hB.le g2;clear hB g1 q0 j1;have q1:St.le (S₀.upd bf (.obj 9 (rows.flatten++((mks mkT i).flatten++junk)))) S₁:=fun x o hx=>by
   by_cases e:x=bf
   ·rw[e] at hx ⊢;rw[St.upd_same] at hx;rw[q5,hx]
   ·rw[St.upd_ne _ _ _ _ e] at hx;exact q1 _ _ hx
  unfold rmC AccL.av at hB1;refine awp_seq2 fun K hK hQ=>?_
  conv=>whnf
  refine⟨_,_,hB1.at_,?_⟩;conv=>whnf
  intro bb hbb;have hB2:=hB1.over hbb (.tip (tyA 2) 1 1);have q2:=St.le_upd' q1 (St.le_none hB1.le hbb) (.tip (tyA 2) 1 1);clear hB1;conv=>whnf
  refine⟨⟨fun hl=>hB2.tip (j:=2) (by decide) hl,?_⟩,fun S4 c1 c2 b1 c3=>?_⟩
  ·show((A 2).es.length+1)*24≤_;omega
  have hB3:=hB2.push (j:=2) (by decide) c1 c2 c3 (.arr bf 0 (rows.length+i) cap) rfl
  clear hB2 c1 c2 c3;conv=>whnf
  refine⟨_,_,hB3.at_,?_⟩;conv=>whnf
  refine hK _ _ ?_;clear hK hQ K;have hB4:=hB3.put (rmC (setA A 2 ((A 2).push b1 (.arr bf 0 (rows.length+i) cap))));clear hB3;have hes:(setA A 2 ((A 2).push b1 (.arr bf 0 (rows.length+i) cap))) 3=A 3:=rfl;change awp _ _ _ _ (St.upd _ _ (.obj 44 (rmC (setA A 2 ((A 2).push b1 (.arr bf 0 (rows.length+i) cap)))))) _;generalize hAA:setA A 2 ((A 2).push b1 (.arr bf 0 (rows.length+i) cap))=AA at *;have hal:(AA 3).es.length≤N:=by rw[hes];exact hl2
  unfold rmC AccL.av at hB4;refine awp_seq2 fun K hK hQ=>?_
  conv=>whnf
  refine⟨_,_,hB4.at_,?_⟩;conv=>whnf
  intro hlen;conv=>whnf
  intro bc hbc;have hB5:=hB4.over hbc (.tip 3 1 1);have q3:=St.le_upd' q2 (St.le_none hB4.le hbc) (.tip 3 1 1);clear hB4;conv=>whnf
  refine⟨⟨fun hl=>hB5.tip (j:=3) (by decide) hl,?_⟩,fun S5 c1 c2 b2 c3=>?_⟩
  ·show((AA 3).es.length+1)*8≤_;omega
  have hB6:=hB5.push (j:=3) (by decide) c1 c2 c3 (.int .i64 (rows.length:Int)) rfl
  clear hB5 c1 c2 c3;conv=>whnf
  refine⟨_,_,hB6.at_,?_⟩;conv=>whnf
  refine hK _ _ ?_;clear hK hQ K;have hB7:=hB6.put (rmC (setA AA 3 ((AA 3).push b2 (.int .i64 (rows.length:Int)))));clear hB6;obtain⟨d1,d2⟩:=hB7.down q3;have hhas:Has 9 mkT (S₀.upd bf (.obj 9 (rows.flatten++((mks mkT i).flatten++junk)))) bf rows i cap:=⟨junk,St.upd_same _ _ _,hr1,j3,j4,j5⟩;have hinv:RmInv (S₀.upd bf (.obj 9 (rows.flatten++((mks mkT i).flatten++junk)))) (kset Kn bf rows.length) (setA AA 3 ((AA 3).push b2 (.int .i64 (rows.length:Int)))) (N+1):=by
   obtain⟨m1,m2⟩:=hI.both (Nat.le_refl N) (n:=rows.length) zb (.obj 9 (rows.flatten++((mks mkT i).flatten++junk)));have hp:=(m2).push bf b1 b2 i cap rows (by omega) (kset_same _ _ _) hhas
   rw[hes,← hAA];refine⟨?_,?_,?_,?_,?_⟩<;>first | exact hp | exact m1.mono (Nat.le_succ _) | exact m2.mono (Nat.le_succ _) | exact hI.p.mono (Nat.le_succ _) | exact hI.o.mono (Nat.le_succ _) | exact hI.s.mono (Nat.le_succ _)
  conv=>whnf
  intro hlen1;conv=>whnf
  refine⟨⟨by omega,by omega,by show((rows.length+i:Nat):Int)≤(cap:Int);omega⟩,?_⟩
  conv=>whnf
  exact⟨_,_,⟨bf,cap,_,rfl,zb,hhas,_,d1,hinv⟩,d2,AV.leS_refl _ _ _⟩
 conv=>whnf
 refine⟨[],St.upd_same _ _ _,⟨Nat.le_refl _,Nat.le_refl _,by simp[maxLen],by show(0+rows.length)*16≤_;omega⟩,split_of (fun hin=>?_) (fun hin=>?_)⟩
 ·have hin:=of_decide_eq_true hin
  have hz:rows=[]:=List.eq_nil_of_length_eq_zero (by omega)
  subst hz;conv=>whnf
  refine main b0 0 _ (St.le_upd (St.le_upd' (St.le_refl _) hb0 _) hb0 _) hb0 ⟨[],?_,hr1,Nat.le_refl _,Nat.le_refl _,Nat.zero_le _⟩;exact St.upd_same _ _ _
 ·intro b2 cap2 hb2 hc1 hc2;conv=>whnf
  refine main b2 cap2 _ (St.le_upd' (St.le_upd' (St.le_refl _) hb0 _) hb2 _) (St.no hb2) ⟨_,St.upd_same _ _ _,hr1,by omega,?_,hc2⟩
  rw[mulL_length]
  show cap2≤rows.length+0+(cap2-(0+rows.length))*1
  omega
theorem layPieces_ok{S₀ S:St}{Kn:Nat→Nat}{rb N:Nat}(h:Rm S₀ Kn S rb N)(hN:N≤100000000)(rows:List (List AV))(hr:rows.length≤100000000)(n:Nat)(hn:n≤1000) :
 Triple P (C G) 102 [.ref rb 0,.sl .any 2 rows,.int .i64 (n:Int)] S fun o S'=>o=.ret (.sl .any 2 rows)∧Rm S₀ Kn S' rb (N+1):=by
 -- (*hallmark/hallmarkroom.Room).layPieces function,2 k,126 the elements' type,mkP mk,lot_ok the mark's contract,4 j,5 j+1,24 bytes of an element,hI.p the kind's invariant
 obtain⟨A,hB,hI⟩:=h;have hlot:=fun i S=>lot_ok (G:=G) i S
 obtain⟨lE,hE1,hE2,hE3,hE4⟩:=(hI.p).ex;have hl1:(A 4).es.length≤N:=by rw[hE1,List.length_map];exact hE3
 have hl2:(A 5).es.length≤N:=by rw[hE2,List.length_map];exact hE3
 clear hE1 hE2 hE3 hE4 lE;refine triple_of_awp (hT G) hm Tryz.func102 rfl (by decide +kernel) rfl (by decide +kernel) (by show 3≤_;decide +kernel) rfl ?_
 refine awp_seq2 fun K hK hQ=>?_
 conv=>whnf
 refine hK _ _ ?_;clear hK hQ K;refine awp_seq2 fun K hK hQ=>?_
 conv=>whnf
 intro b0 hb0;conv=>whnf
 refine hK _ _ ?_;clear hK hQ K;refine awp_seq2 fun K hK hQ=>?_
 conv=>whnf
 refine⟨⟨St.upd_same _ _ _,?_⟩,?_⟩
 ·show(0+rows.length)*24≤_;omega
 conv=>whnf
 intro bf hbf;rw[St.del_upd hb0] at hbf ⊢;conv=>whnf
 refine hK _ _ ?_;clear hK hQ K;refine awp_seq2 fun K hK hQ=>?_
 conv=>whnf
 refine⟨⟨Nat×Nat,fun z=>[(0,.ref rb 0),(1,.sl .any 2 rows),(2,.int .i64 (n:Int)),(7,.sl (.own z.2) 2 (rows++mks mkP z.1)),(8,.int .i64 (z.1:Int))],
  fun z S1=>St.le S S1∧S z.2=none∧S1 z.2=some (.tip 126 2 (rows.length+z.1))∧z.1≤n,fun z=>n-z.1⟩,
  ⟨(0,bf),⟨rfl,⟨rfl,rfl⟩,rfl,congrArg (AV.sl (.own bf) 2) (show[]++rows=rows++mks mkP 0 by simp[mks]),rfl,trivial⟩,_,St.leW_refl _,St.le_upd' (St.le_refl S) hbf _,hbf,(St.upd_same _ _ _).trans (congrArg (fun x=>some (Own.tip 126 2 x)) (show 0+rows.length=rows.length+0 by omega)),by omega⟩,?_⟩
 clear hbf hb0 bf;rintro⟨i,bf⟩ S1 ⟨g1,g2,g3,g4⟩;dsimp only at g1 g2 g3 g4;conv=>whnf
 refine split_of (fun hlt=>?_) (fun hlt=>?_)
 ·have hlt:i<n:=by have:=of_decide_eq_true hlt;omega
  have w1:IntKind.i64.wrap ((i:Int)+1)=((i+1:Nat):Int):=wrap_nat (by omega)
  conv=>whnf
  refine(hlot i _).mono ?_;rintro o T ⟨rfl,rfl⟩;conv=>whnf
  intro bb hbb;conv=>whnf
  refine⟨⟨(St.up hbb g3).trans (congrArg (fun x=>some (Own.tip 126 2 x)) (show rows.length+i=(rows++mks mkP i).length by simp)),?_⟩,fun b2 hb2=>?_⟩
  ·show((rows++mks mkP i).length+1)*24≤_;rw[List.length_append,mks_len];omega
  have hn2:S b2=none:=by
   cases hh:S b2 with
   | none=>rfl
   | some o=>
     have h1:b2≠bf:=fun e=>by rw[e,g2] at hh;cases hh
     rw[St.del_ne _ _ _ h1] at hb2;rw[St.le_upd' g1 hbb _ _ _ hh] at hb2;cases hb2
  have hle2:∀ X,St.le S (((T.upd bb (.tip 126 2 1)).del bf).upd b2 X):=fun X=>St.le_upd (St.le_del (St.le_upd' g1 hbb _) g2) hn2 X
  conv=>whnf
  exact⟨(i+1,b2),⟨rfl,⟨rfl,rfl⟩,rfl,congrArg (AV.sl (.own b2) 2) (show(rows++mks mkP i)++[mkP i]=rows++mks mkP (i+1) by rw[mks_succ,List.append_assoc]),congrArg _ w1,trivial⟩,⟨_,St.leW_refl _,hle2 _,hn2,(St.upd_same _ _ _).trans (congrArg (fun x=>some (Own.tip 126 2 x)) (show(rows++mks mkP i).length+1=rows.length+(i+1) by simp;omega)),hlt⟩,by show n-(i+1)<n-i;omega⟩
 have hlt:i=n:=by have:=of_decide_eq_false hlt;omega
 subst hlt;conv=>whnf
 refine hK _ _ ?_;clear hK hQ K;obtain⟨S₁,q1,hB1,_⟩:=hB.lift g1;clear hB g3;unfold rmC AccL.av at hB1;refine awp_seq2 fun K hK hQ=>?_
 conv=>whnf
 refine⟨_,_,hB1.at_,?_⟩;conv=>whnf
 intro bb hbb;have hB2:=hB1.over hbb (.tip (tyA 4) 1 1);have q2:=St.le_upd' q1 (St.le_none hB1.le hbb) (.tip (tyA 4) 1 1);clear hB1;conv=>whnf
 refine⟨⟨fun hl=>hB2.tip (j:=4) (by decide) hl,?_⟩,fun S4 c1 c2 b1 c3=>?_⟩
 ·show((A 4).es.length+1)*24≤_;omega
 have hB3:=hB2.push (j:=4) (by decide) c1 c2 c3 (.sl (.own bf) 2 (rows++mks mkP i)) rfl
 clear hB2 c1 c2 c3;conv=>whnf
 refine⟨_,_,hB3.at_,?_⟩;conv=>whnf
 refine hK _ _ ?_;clear hK hQ K;have hB4:=hB3.put (rmC (setA A 4 ((A 4).push b1 (.sl (.own bf) 2 (rows++mks mkP i)))));clear hB3;have hes:(setA A 4 ((A 4).push b1 (.sl (.own bf) 2 (rows++mks mkP i)))) 5=A 5:=rfl;change awp _ _ _ _ (St.upd _ _ (.obj 44 (rmC (setA A 4 ((A 4).push b1 (.sl (.own bf) 2 (rows++mks mkP i))))))) _;generalize hAA:setA A 4 ((A 4).push b1 (.sl (.own bf) 2 (rows++mks mkP i)))=AA at *;have hal:(AA 5).es.length≤N:=by rw[hes];exact hl2
 unfold rmC AccL.av at hB4;refine awp_seq2 fun K hK hQ=>?_
 conv=>whnf
 refine⟨_,_,hB4.at_,?_⟩;conv=>whnf
 intro hlen;conv=>whnf
 intro bc hbc;have hB5:=hB4.over hbc (.tip 3 1 1);have q3:=St.le_upd' q2 (St.le_none hB4.le hbc) (.tip 3 1 1);clear hB4;conv=>whnf
 refine⟨⟨fun hl=>hB5.tip (j:=5) (by decide) hl,?_⟩,fun S5 c1 c2 b2 c3=>?_⟩
 ·show((AA 5).es.length+1)*8≤_;omega
 have hB6:=hB5.push (j:=5) (by decide) c1 c2 c3 (.int .i64 (rows.length:Int)) rfl
 clear hB5 c1 c2 c3;conv=>whnf
 refine⟨_,_,hB6.at_,?_⟩;conv=>whnf
 refine hK _ _ ?_;clear hK hQ K;have hB7:=hB6.put (rmC (setA AA 5 ((AA 5).push b2 (.int .i64 (rows.length:Int)))));clear hB6;obtain⟨d1,d2⟩:=hB7.down q3;have hinv:RmInv S₀ Kn (setA AA 5 ((AA 5).push b2 (.int .i64 (rows.length:Int)))) (N+1):=by
  have hp:=(hI.p).push bf b1 b2 i rows (by omega)
  rw[hes,← hAA];refine⟨?_,?_,?_,?_,?_⟩<;>first | exact hp | exact hI.i.mono (Nat.le_succ _) | exact hI.t.mono (Nat.le_succ _) | exact hI.p.mono (Nat.le_succ _) | exact hI.o.mono (Nat.le_succ _) | exact hI.s.mono (Nat.le_succ _)
 conv=>whnf
 intro hlen1;conv=>whnf
 intro hlen2;conv=>whnf
 cases hz:(((rows.length:Nat):Int) == 0 && (((rows++mks mkP i).length:Nat):Int) == 0) with
 | true=>
   have hz0:rows=[]:=by
    simp only[Bool.and_eq_true,beq_iff_eq] at hz;exact List.eq_nil_of_length_eq_zero (by omega)
   conv=>whnf
   exact⟨_,_,⟨rfl,_,d1,hinv⟩,d2,⟨rfl,hz0.symm⟩⟩
 | false=>
   conv=>whnf
   refine⟨⟨by omega,by rw[List.length_append];omega,by omega⟩,?_⟩
   conv=>whnf
   exact⟨_,_,⟨rfl,_,d1,hinv⟩,d2,⟨rfl,by rw[Int.toNat_natCast];simp⟩⟩
theorem layOps_ok{S₀ S:St}{Kn:Nat→Nat}{rb N:Nat}(h:Rm S₀ Kn S rb N)(hN:N≤100000000)(rows:List (List AV))(hr:rows.length≤100000000)(n:Nat)(hn:n≤1000) :
 Triple P (C G) 75 [.ref rb 0,.sl .any 3 rows,.int .i64 (n:Int)] S fun o S'=>o=.ret (.sl .any 3 rows)∧Rm S₀ Kn S' rb (N+1):=by
 -- (*hallmark/hallmarkroom.Room).layOps function,3 k,85 the elements' type,mkO mk,lot_ok the mark's contract,6 j,7 j+1,32 bytes of an element,hI.o the kind's invariant
 obtain⟨A,hB,hI⟩:=h;have hlot:=fun i S=>lot_ok (G:=G) i S
 obtain⟨lE,hE1,hE2,hE3,hE4⟩:=(hI.o).ex;have hl1:(A 6).es.length≤N:=by rw[hE1,List.length_map];exact hE3
 have hl2:(A 7).es.length≤N:=by rw[hE2,List.length_map];exact hE3
 clear hE1 hE2 hE3 hE4 lE;refine triple_of_awp (hT G) hm Tryz.func75 rfl (by decide +kernel) rfl (by decide +kernel) (by show 3≤_;decide +kernel) rfl ?_
 refine awp_seq2 fun K hK hQ=>?_
 conv=>whnf
 refine hK _ _ ?_;clear hK hQ K;refine awp_seq2 fun K hK hQ=>?_
 conv=>whnf
 intro b0 hb0;conv=>whnf
 refine hK _ _ ?_;clear hK hQ K;refine awp_seq2 fun K hK hQ=>?_
 conv=>whnf
 refine⟨⟨St.upd_same _ _ _,?_⟩,?_⟩
 ·show(0+rows.length)*32≤_;omega
 conv=>whnf
 intro bf hbf;rw[St.del_upd hb0] at hbf ⊢;conv=>whnf
 refine hK _ _ ?_;clear hK hQ K;refine awp_seq2 fun K hK hQ=>?_
 conv=>whnf
 refine⟨⟨Nat×Nat,fun z=>[(0,.ref rb 0),(1,.sl .any 3 rows),(2,.int .i64 (n:Int)),(7,.sl (.own z.2) 3 (rows++mks mkO z.1)),(8,.int .i64 (z.1:Int))],
  fun z S1=>St.le S S1∧S z.2=none∧S1 z.2=some (.tip 85 3 (rows.length+z.1))∧z.1≤n,fun z=>n-z.1⟩,
  ⟨(0,bf),⟨rfl,⟨rfl,rfl⟩,rfl,congrArg (AV.sl (.own bf) 3) (show[]++rows=rows++mks mkO 0 by simp[mks]),rfl,trivial⟩,_,St.leW_refl _,St.le_upd' (St.le_refl S) hbf _,hbf,(St.upd_same _ _ _).trans (congrArg (fun x=>some (Own.tip 85 3 x)) (show 0+rows.length=rows.length+0 by omega)),by omega⟩,?_⟩
 clear hbf hb0 bf;rintro⟨i,bf⟩ S1 ⟨g1,g2,g3,g4⟩;dsimp only at g1 g2 g3 g4;conv=>whnf
 refine split_of (fun hlt=>?_) (fun hlt=>?_)
 ·have hlt:i<n:=by have:=of_decide_eq_true hlt;omega
  have w1:IntKind.i64.wrap ((i:Int)+1)=((i+1:Nat):Int):=wrap_nat (by omega)
  conv=>whnf
  refine(hlot i _).mono ?_;rintro o T ⟨rfl,rfl⟩;conv=>whnf
  intro bb hbb;conv=>whnf
  refine⟨⟨(St.up hbb g3).trans (congrArg (fun x=>some (Own.tip 85 3 x)) (show rows.length+i=(rows++mks mkO i).length by simp)),?_⟩,fun b2 hb2=>?_⟩
  ·show((rows++mks mkO i).length+1)*32≤_;rw[List.length_append,mks_len];omega
  have hn2:S b2=none:=by
   cases hh:S b2 with
   | none=>rfl
   | some o=>
     have h1:b2≠bf:=fun e=>by rw[e,g2] at hh;cases hh
     rw[St.del_ne _ _ _ h1] at hb2;rw[St.le_upd' g1 hbb _ _ _ hh] at hb2;cases hb2
  have hle2:∀ X,St.le S (((T.upd bb (.tip 85 3 1)).del bf).upd b2 X):=fun X=>St.le_upd (St.le_del (St.le_upd' g1 hbb _) g2) hn2 X
  conv=>whnf
  exact⟨(i+1,b2),⟨rfl,⟨rfl,rfl⟩,rfl,congrArg (AV.sl (.own b2) 3) (show(rows++mks mkO i)++[mkO i]=rows++mks mkO (i+1) by rw[mks_succ,List.append_assoc]),congrArg _ w1,trivial⟩,⟨_,St.leW_refl _,hle2 _,hn2,(St.upd_same _ _ _).trans (congrArg (fun x=>some (Own.tip 85 3 x)) (show(rows++mks mkO i).length+1=rows.length+(i+1) by simp;omega)),hlt⟩,by show n-(i+1)<n-i;omega⟩
 have hlt:i=n:=by have:=of_decide_eq_false hlt;omega
 subst hlt;conv=>whnf
 refine hK _ _ ?_;clear hK hQ K;obtain⟨S₁,q1,hB1,_⟩:=hB.lift g1;clear hB g3;unfold rmC AccL.av at hB1;refine awp_seq2 fun K hK hQ=>?_
 conv=>whnf
 refine⟨_,_,hB1.at_,?_⟩;conv=>whnf
 intro bb hbb;have hB2:=hB1.over hbb (.tip (tyA 6) 1 1);have q2:=St.le_upd' q1 (St.le_none hB1.le hbb) (.tip (tyA 6) 1 1);clear hB1;conv=>whnf
 refine⟨⟨fun hl=>hB2.tip (j:=6) (by decide) hl,?_⟩,fun S4 c1 c2 b1 c3=>?_⟩
 ·show((A 6).es.length+1)*24≤_;omega
 have hB3:=hB2.push (j:=6) (by decide) c1 c2 c3 (.sl (.own bf) 3 (rows++mks mkO i)) rfl
 clear hB2 c1 c2 c3;conv=>whnf
 refine⟨_,_,hB3.at_,?_⟩;conv=>whnf
 refine hK _ _ ?_;clear hK hQ K;have hB4:=hB3.put (rmC (setA A 6 ((A 6).push b1 (.sl (.own bf) 3 (rows++mks mkO i)))));clear hB3;have hes:(setA A 6 ((A 6).push b1 (.sl (.own bf) 3 (rows++mks mkO i)))) 7=A 7:=rfl;change awp _ _ _ _ (St.upd _ _ (.obj 44 (rmC (setA A 6 ((A 6).push b1 (.sl (.own bf) 3 (rows++mks mkO i))))))) _;generalize hAA:setA A 6 ((A 6).push b1 (.sl (.own bf) 3 (rows++mks mkO i)))=AA at *;have hal:(AA 7).es.length≤N:=by rw[hes];exact hl2
 unfold rmC AccL.av at hB4;refine awp_seq2 fun K hK hQ=>?_
 conv=>whnf
 refine⟨_,_,hB4.at_,?_⟩;conv=>whnf
 intro hlen;conv=>whnf
 intro bc hbc;have hB5:=hB4.over hbc (.tip 3 1 1);have q3:=St.le_upd' q2 (St.le_none hB4.le hbc) (.tip 3 1 1);clear hB4;conv=>whnf
 refine⟨⟨fun hl=>hB5.tip (j:=7) (by decide) hl,?_⟩,fun S5 c1 c2 b2 c3=>?_⟩
 ·show((AA 7).es.length+1)*8≤_;omega
 have hB6:=hB5.push (j:=7) (by decide) c1 c2 c3 (.int .i64 (rows.length:Int)) rfl
 clear hB5 c1 c2 c3;conv=>whnf
 refine⟨_,_,hB6.at_,?_⟩;conv=>whnf
 refine hK _ _ ?_;clear hK hQ K;have hB7:=hB6.put (rmC (setA AA 7 ((AA 7).push b2 (.int .i64 (rows.length:Int)))));clear hB6;obtain⟨d1,d2⟩:=hB7.down q3;have hinv:RmInv S₀ Kn (setA AA 7 ((AA 7).push b2 (.int .i64 (rows.length:Int)))) (N+1):=by
  have hp:=(hI.o).push bf b1 b2 i rows (by omega)
  rw[hes,← hAA];refine⟨?_,?_,?_,?_,?_⟩<;>first | exact hp | exact hI.i.mono (Nat.le_succ _) | exact hI.t.mono (Nat.le_succ _) | exact hI.p.mono (Nat.le_succ _) | exact hI.o.mono (Nat.le_succ _) | exact hI.s.mono (Nat.le_succ _)
 conv=>whnf
 intro hlen1;conv=>whnf
 intro hlen2;conv=>whnf
 cases hz:(((rows.length:Nat):Int) == 0 && (((rows++mks mkO i).length:Nat):Int) == 0) with
 | true=>
   have hz0:rows=[]:=by
    simp only[Bool.and_eq_true,beq_iff_eq] at hz;exact List.eq_nil_of_length_eq_zero (by omega)
   conv=>whnf
   exact⟨_,_,⟨rfl,_,d1,hinv⟩,d2,⟨rfl,hz0.symm⟩⟩
 | false=>
   conv=>whnf
   refine⟨⟨by omega,by rw[List.length_append];omega,by omega⟩,?_⟩
   conv=>whnf
   exact⟨_,_,⟨rfl,_,d1,hinv⟩,d2,⟨rfl,by rw[Int.toNat_natCast];simp⟩⟩
section
variable {P:Program} {C:Cx}
theorem wpListIn_append{F:Fence}{m:Nat}{ops:Array Oper}{Q:Exit→Act→World→Prop}(l₂:List Oper):∀ (l₁:List Oper) (a:Act) (w:World),
 wpListIn F m P ops (fun e a w=>match e with | .normal=>wpListIn F m P ops Q l₂ a w | e=>Q e a w) l₁ a w→wpListIn F m P ops Q (l₁++l₂) a w
 | [],a,w,h=>h
 | o::r,a,w,h=>by
   simp only[List.cons_append];unfold wpListIn at h ⊢
   split
   ·rename_i hw
    rw[if_pos hw] at h;exact Oper.wpIn_mono (fun a w=>wpListIn_append l₂ r a w) h
   ·rename_i hw
    rw[if_neg hw] at h;exact⟨h.1,wpListIn_append l₂ r _ _ h.2⟩
theorem env_enter{w:World}{S:St}{n:Nat}{args:List AV}{vs:Array Value}(hargs:args.length≤n)(hr:RelL w (rdOf S) args vs.toList):RelEnv w S (vs++Array.replicate (n-vs.size) undef) (argEnv 0 args) n:=by
 have hvs:vs.size=args.length:=by simpa using (RelL.length hr).symm
 refine⟨by simp[hvs];omega,fun t=>?_⟩
 rcases argEnv_sound 0 args vs.toList hr t with h | h
 ·by_cases ht:t<vs.size
  ·have:(vs++Array.replicate (n-vs.size) undef).getD t undef=(vs.toList[t-0]?).getD undef:=by
    simp[Array.getD_eq_getD_getElem?,Array.getElem?_append_left ht]
   rw[this];exact h
  ·have htop:look t (argEnv 0 args)=.top:=by
    have:∀ (ys:List AV) (j:Nat),j+ys.length≤t→look t (argEnv j ys)=.top:=by
     intro ys
     induction ys with
     | nil=>intro j _;rfl
     | cons y ys ih=>intro j hj;simp only[argEnv,look_cons,if_neg (show ¬ j=t by simp at hj;omega)];exact ih (j+1) (by simp at hj;omega)
    exact this args 0 (by omega)
   rw[htop];simp only[Rel]
 ·rw[h];simp only[Rel]
structure TripleD (P:Program) (C:Cx) (f:FuncId) (args:List AV) (S:St) (Q:Out→St→Prop):Prop where
 mk ::
 enter:∀ (vs:Array Value) (w:World),(callFunc f vs).run P w=.ok (.enter f vs) w
 out:∀ (w:World) (vs:Array Value) (u:FrameMode),YOk P C w S→Good C w S→RelL w (rdOf S) args vs.toList→
  CallsDIn Fence.wide 0 P f vs u w fun e u' w'=>u'=u∧∃ o S',OutRel w' S' o e∧Good C w' S'∧Adv w S w' S'∧Q o S'
theorem TripleD.mono{f:FuncId}{args:List AV}{S:St}{Q Q':Out→St→Prop}(h:TripleD P C f args S Q)(hq:∀ o S',Q o S'→Q' o S'):TripleD P C f args S Q':=
 ⟨h.enter,fun w vs u hY hg hr=>(h.out w vs u hY hg hr).mono fun e u' w' ⟨hu,o,S',h1,h2,h3,h4⟩=>⟨hu,o,S',h1,h2,h3,hq _ _ h4⟩⟩
theorem bodyPost_of_post{fn:Func}{R:Ending→World→Prop}(hT:TyOk P C){n:Nat}{w:World}{S:St}{rs:List ResultVar}(hrs:fn.results.toList=rs){Q:Out→St→Prop}
 (hR:∀ o S' e w',OutRel w' S' o e→Good C w' S'→Adv w S w' S'→Q o S'→R e w') {e:Exit} {a':Act} {w':World} (h:Post true C n [] w S (aPost C rs Q) e a' w'):bodyPost P fn R e a' w':=by
 obtain⟨ae,env',S',h1,h2,⟨ms,hms,_,hm0,_⟩,h4,h5,h6⟩:=h;have hd:a'.defers=[]:=by rw[hms,hm0 rfl];rfl
 have fin:aOut C rs env' S' (fun x=>∃ y S'',Q (.ret y) S''∧St.le S'' S'∧AV.leS S' S'' x y)→a'.defers=[]∧∃ v,(results fn a'.tmps).run P w'=.ok v w'∧R (.returned v) w':=by
  intro hx;obtain⟨x,v,⟨y,S'',hq,hle,hxy⟩,k1,k2⟩:=results_sound (P:=P) hT h4 h2 (by rw[hrs];exact hx)
  exact⟨hd,v,k1,hR (.ret y) S'' _ _ (AV.leS_sound h4.1 hle x y v hxy k2) (h4.shrink hle) (h5.trans (Adv.shrink hle)) hq⟩
 cases ae with
 | normal=>
   cases e<;>simp only[ExRel] at h1
   exact fin h6
 | exit i=>exact h6.elim
 | ret=>
   cases e<;>simp only[ExRel] at h1
   exact fin h6
 | panic x=>
   cases e<;>simp only[ExRel] at h1
   obtain⟨v,rfl,hv⟩:=h1;simp only[aPost,force_eq] at h6;obtain⟨y,S'',hq,hle,hxy⟩:=h6;exact⟨hd,hR (.pan y) S'' _ _ ⟨v,rfl,AV.leS_sound h4.1 hle x y v hxy hv⟩ (h4.shrink hle) (h5.trans (Adv.shrink hle)) hq⟩
theorem tripleD_of_awp(hT : TyOk P C)(hm : P.follows .mixedOrders = true){f : FuncId}{fn : Func}{c : Code}(hf : P.funcs[f]? = some fn)(hb : fn.body = some c)(hname : (fn.name == "runtime.NumGoroutine") = false)
 {n:Nat} (hn:fn.ntmps=n) (hd:dstOk n c=true) (hnr:noRange c=true) {args:List AV} (hargs:args.length≤n) {rs:List ResultVar} (hrs:fn.results.toList=rs) {S:St} {Q:Out→St→Prop}
 (h:awp P C c (argEnv 0 args) S (aPost C rs Q)):TripleD P C f args S Q:=by
 refine⟨fun vs w=>?_,fun w vs u hY hg hr=>?_⟩
 · have hno : ¬ fn.name = "runtime.NumGoroutine" := by simpa using hname
   simp[callFunc,hf,hno,hb]
 ·have he:=env_enter hargs hr
  rw[← hn] at he;refine callsDIn_of_wp (F:=Fence.wide) (n:=0) hf hb trivial (wpIn_mono (awp_sound hm c (by rw[hn];exact hd) (nr:=true) (fun _=>hnr) hT (ro:=none) (fun _=>rfl) hY hg (a:=⟨_,[]⟩) he h) ?_)
  exact fun e a' w' hp=>bodyPost_of_post hT hrs (fun o S' e w' h1 h2 h3 h4=>⟨o,S',h1,h2,h3,h4⟩) hp
theorem triple_of_awp_defer(hT : TyOk P C)(hm : P.follows .mixedOrders = true){f : FuncId}{fn : Func}{id : Nat}{ops : Array Oper}{rest : Code}(hf : P.funcs[f]? = some fn)(hb : fn.body = some (.seq (.region id ops false) rest))(hname : (fn.name == "runtime.NumGoroutine") = false)
 {n:Nat} (hn:fn.ntmps=n) (hd:dstOk n (.seq (.region id ops false) rest)=true) (hnr:noRange rest=true) {args:List AV} (hargs:args.length≤n) {rs:List ResultVar} (hrs:fn.results.toList=rs) {S:St} {Q:Out→St→Prop}
 {pre:List Oper} {o:Oper} {g:FuncId} {cargs:Array Operand} {ty:Array TypeId} (hops:ops.toList=pre++[o]) (ho:o.op=.defer { callee:=.value (.func g),args:=cargs,argTypes:=ty }) (hguard:o.guard=none) (hdst:o.dst=none)
 (h:aOps P C ops.toList pre (argEnv 0 args) S (fun env S₁=>∃ zs,cargs.toList.map (ev C env)=zs∧awp P C rest env S₁ fun e env' S'=>match e with
   | .normal | .ret=>TripleD P C g zs S' fun o S''=>(∃ x,o=.ret x)∧aPost C rs Q .ret env' S''
   | _=>False) (fun _ _=>False)):Triple P C f args S Q:=by
 refine TripleE.triple ⟨fun vs w=>?_,fun w vs hY hg hr=>?_⟩
 · have hno : ¬ fn.name = "runtime.NumGoroutine" := by simpa using hname
   simp[callFunc,hf,hno,hb]
 ·have he:=env_enter hargs hr
  rw[← hn] at he;simp only[dstOk,Bool.and_eq_true] at hd;refine callsIn_wide.1 (callsIn_of_wp_marks (F:=Fence.wide) (n:=0) hf hb trivial (wpIn_seq (wpIn_region_list ?_)));have happ:∀ (Q1:Exit→Act→World→Prop) (a:Act) (w:World),wpListIn Fence.wide 0 P ops Q1 ops.toList a w↔wpListIn Fence.wide 0 P ops Q1 (pre++[o]) a w:=fun _ _ _=>by rw[hops]
  rw[happ];refine wpListIn_append [o] pre _ _ ?_;have hdp:∀ o∈pre,∀ d,o.dst=some d→d<n:=fun o' ho' d hod=>by
   have:=List.all_eq_true.1 hd.1 o' (by rw[hops];simp[ho'])
   simp only[hod] at this;exact Nat.le_of_ble_eq_true this
  rw[← hn] at hdp;refine aOps_sound (ro:=none) hT ops pre hdp hY hg he h (fun env' a' w' S' hK k2 k3 k4 k5=>?_) (fun _ _ _ _ _ hq=>hq.elim)
  obtain⟨zs,hzs,haw⟩:=hK;dsimp only;unfold wpListIn;rw[if_pos (by simp[Region.wanted,hguard])]
  refine⟨fun _ _=>trivial,?_⟩
  have hop:(o.semAt Fence.wide.round a'.eval).run P w'=.ok (.defer { target:=.fn (.func g) #[],args:=cargs.map a'.eval }) w':=by
   show(Oper.semAt none a'.eval o).run P w'=_
   rw[Oper.semAt_none]
   simp[execOp,ho,resolve,Act.eval,Deferred.ofValue,go_sem]
  rw[hop,Oper.uponIn_defer];have hzr:RelL w' (rdOf S') zs (cargs.map a'.eval).toList:=by
   rw[← hzs];simp only[Array.toList_map];exact evL_sound k4 k2 cargs.toList
  show rest.wpIn Fence.wide 0 P _ _ w'
  have hnn:(rest.wpIn (Fr none) 0 P (Post true C fn.ntmps [{ target:=.fn (.func g) #[],args:=cargs.map a'.eval }] w' S' _) { a' with defers:=[{ target:=.fn (.func g) #[],args:=cargs.map a'.eval }] } w'):=
   awp_sound hm rest (by rw[hn];exact hd.2) (nr:=true) (fun _=>hnr) hT (ro:=none) (fun _=>rfl) (a:={ a' with defers:=[{ target:=.fn (.func g) #[],args:=cargs.map a'.eval }] }) (hY.mono k5) k4 k2 haw
  have ha:({ a' with defers:={ target:=.fn (.func g) #[],args:=cargs.map a'.eval }::a'.defers }:Act).put o.dst undef={ a' with defers:=[{ target:=.fn (.func g) #[],args:=cargs.map a'.eval }] }:=by
   rw[hdst,k3];rfl
  rw[ha];refine wpIn_mono hnn ?_;rintro e a2 w2 ⟨ae,env2,S2,h1,h2,⟨ms,hms,_,hm0,_⟩,h4,h5,h6⟩;have hdef:a2.defers=[{ target:=.fn (.func g) #[],args:=cargs.map a'.eval }]:=by rw[hms,hm0 rfl];rfl
  have fin:TripleD P C g zs S2 (fun o S''=>(∃ x,o=.ret x)∧aPost C rs Q .ret env2 S'')→LeavesInM Fence.wide 0 P fn a2.tmps (fun e w'=>∃ o S',OutRel w' S' o e∧Good C w' S'∧Adv w S w' S'∧Q o S') a2.defers .returning w2:=fun ht=>by
   rw[hdef];refine⟨by simp,.inr ⟨fun hh=>by simp[Fence.wide] at hh,.func g,#[],g,cargs.map a'.eval,rfl,?_,fun _ _=>trivial,?_⟩⟩
   ·simpa [invoke] using ht.enter (cargs.map a'.eval) w2
   ·refine CallsDIn.mono (ht.out w2 (cargs.map a'.eval) .returning (hY.mono (k5.trans h5)) h4 (RelL.mono h5 _ _ hzr)) ?_;rintro e3 u3 w3 ⟨rfl,o3,S3,p1,p2,p3,⟨x,rfl⟩,p5⟩
    cases e3 with
    | returned v=>
      show LeavesIn Fence.wide 0 P fn a2.tmps _ [] (settle .returning) w3
      simp only[aPost] at p5;obtain⟨x',v',⟨y,S'',hq,hle,hxy⟩,q1,q2⟩:=results_sound (P:=P) hT p2 (h2.mono p3) (by rw[hrs];exact p5)
      exact⟨v',q1,.ret y,S'',AV.leS_sound p2.1 hle x' y v' hxy q2,p2.shrink hle,((k5.trans h5).trans p3).trans (Adv.shrink hle),hq⟩
    | panicked ch=>exact p1.elim
    | outgrown=>exact p1.elim
  cases ae with
  | normal=>cases e<;>simp only[ExRel] at h1;exact fin h6
  | ret=>cases e<;>simp only[ExRel] at h1;exact fin h6
  | exit i=>exact h6.elim
  | panic x=>exact h6.elim
theorem triple_of_defer(hT : TyOk P C)(hm : P.follows .mixedOrders = true){f : FuncId}{fn : Func}{id : Nat}{ops : Array Oper}{rest : Code}(hf : P.funcs[f]? = some fn)(hb : fn.body = some (.seq (.region id ops false) rest))(hname : (fn.name == "runtime.NumGoroutine") = false)
 {n:Nat} (hn:fn.ntmps=n) (hd:dstOk n (.seq (.region id ops false) rest)=true) (hnr:noRange rest=true) {args:List AV} (hargs:args.length≤n) {rs:List ResultVar} (hrs:fn.results.toList=rs) {S:St} {Q:Out→St→Prop}
 (k:Nat) {o:Oper} {g:FuncId} {cargs:Array Operand} {ty:Array TypeId} (hk:ops.toList.length=k+1) (hko:ops.toList[k]? = some o) (ho:o.op=.defer { callee:=.value (.func g),args:=cargs,argTypes:=ty }) (hguard:o.guard=none) (hdst:o.dst=none)
 (h:aOps P C ops.toList (ops.toList.take k) (argEnv 0 args) S (fun env S₁=>∃ zs,cargs.toList.map (ev C env)=zs∧awp P C rest env S₁ fun e env' S'=>match e with
   | .normal | .ret=>TripleD P C g zs S' fun o S''=>(∃ x,o=.ret x)∧aPost C rs Q .ret env' S''
   | _=>False) (fun _ _=>False)):Triple P C f args S Q:=by
 refine triple_of_awp_defer hT hm hf hb hname hn hd hnr hargs hrs (pre:=ops.toList.take k) (o:=o) ?_ ho hguard hdst h;have h1:ops.toList.drop k=[o]:=by
  have hlt:k<ops.toList.length:=by omega
  rw[List.drop_eq_getElem_cons hlt,List.drop_eq_nil_of_le (by omega)]
  rw[List.getElem?_eq_getElem hlt] at hko;rw[Option.some.inj hko]
 rw[← h1,List.take_append_drop]
end
theorem AccOk.other{S S₁:St}{e:TypeId}{k b n:Nat}(h:AccOk S S₁ e k b n){b0:Nat}(hb:S₁ b0=none)(o:Own):AccOk S (S₁.upd b0 o) e k b n:=
 ⟨St.le_upd' h.le hb o,fun hn=>by rw[St.upd_ne _ _ _ _ (fun e=>by rw[← e,h.tip hn] at hb;cases hb)];exact h.tip hn,h.new⟩
def limbsF:Nat→Nat→List Nat
 | 0,_=>[]
 | f+1,n=>if n=0 then [] else n % 1000000000::limbsF f (n / 1000000000)
def limbs(n:Nat):List Nat:=limbsF n n
def valL:List Nat→Nat
 | []=>0
 | d::l=>d+1000000000*valL l
theorem limbsF_zero(f:Nat):limbsF f 0=[]:=by cases f<;>rfl
theorem limbsF_more:∀ (f g n:Nat),n≤f→n≤g→limbsF f n=limbsF g n
 | 0,g,n,h,_=>by
    obtain rfl:n=0:=by omega
    rw[limbsF_zero,limbsF_zero]
 | f+1,0,n,_,h=>by
    obtain rfl:n=0:=by omega
    rw[limbsF_zero,limbsF_zero]
 | f+1,g+1,n,h,k=>by
   unfold limbsF
   by_cases hn:n=0
   ·rw[if_pos hn,if_pos hn]
   ·rw[if_neg hn,if_neg hn,limbsF_more f g (n / 1000000000) (by omega) (by omega)]
theorem limbs_zero:limbs 0=[]:=rfl
theorem limbs_pos{n:Nat}(h:0<n):limbs n=n % 1000000000::limbs (n / 1000000000):=by
 unfold limbs;obtain⟨m,rfl⟩:∃ m,n=m+1:=⟨n-1,by omega⟩
 conv=>lhs;unfold limbsF
 rw[if_neg (by omega),limbsF_more m ((m+1) / 1000000000) _ (by omega) (by omega)]
theorem valL_limbs(n:Nat):valL (limbs n)=n:=by
 induction n using Nat.strongRecOn with
 | ind n ih=>
   by_cases h:n=0
   ·subst h;rfl
   ·rw[limbs_pos (by omega)]
    simp only[valL];rw[ih _ (by omega)]
    omega
theorem limbs_lt(n:Nat):∀ d∈limbs n,d<1000000000:=by
 induction n using Nat.strongRecOn with
 | ind n ih=>
   by_cases h:n=0
   ·subst h;intro d hd;simp[limbs_zero] at hd
   ·rw[limbs_pos (by omega)]
    intro d hd
    rcases List.mem_cons.1 hd with rfl | hd
    ·omega
    ·exact ih _ (by omega) d hd
theorem limbs_ne{n:Nat}(h:0<n):limbs n≠[]:=by rw[limbs_pos h];simp
theorem limbs_len:∀ (k n:Nat),n<1000000000 ^ k→(limbs n).length≤k
 | 0,n,h=>by
    obtain rfl:n=0:=by simpa using h
    simp[limbs_zero]
 | k+1,n,h=>by
   by_cases hn:n=0
   ·subst hn;simp[limbs_zero]
   ·rw[limbs_pos (by omega)]
    have:=limbs_len k (n / 1000000000) (by rw[Nat.div_lt_iff_lt_mul (by omega)];rw[Nat.pow_succ] at h;exact h)
    simp;omega
def rowsU(l:List Nat):List (List AV):=l.map fun(d:Nat)=>[AV.int .u32 (d:Int)]
@[simp] theorem rowsU_len (l:List Nat):(rowsU l).length=l.length:=by simp[rowsU]
theorem rowsU_ne{l:List Nat}(h:l≠[]):rowsU l≠[]:=by cases l<;>simp_all [rowsU]
theorem rowsU_snoc(l:List Nat)(d:Nat):rowsU l++[[AV.int .u32 (d:Int)]]=rowsU (l++[d]):=by simp[rowsU]
def near(z:Int):Prop:=-4611686018427387904<z∧z<4611686018427387904
instance (z:Int):Decidable (near z):=inferInstanceAs (Decidable (_∧_))
def nearAV(z:Int):AV:=.ag [.int .i64 z,.bool false,.nils]
def farAV(neg:Bool)(l:List Nat):AV:=.ag [.int .i64 0,.bool neg,.sl .any 1 (rowsU l)]
def bigAV(z:Int):AV:=if near z then nearAV z else farAV (decide (z<0)) (limbs z.natAbs)
theorem bigAV_near{z:Int}(h:near z):bigAV z=nearAV z:=if_pos h
theorem bigAV_far{z:Int}(h:¬ near z):bigAV z=farAV (decide (z<0)) (limbs z.natAbs):=if_neg h
theorem far_pos{z:Int}(h:¬ near z):4611686018427387904≤z.natAbs:=by unfold near at h;omega
def bSign(z:Int):Int:=if z<0 then -1 else if z=0 then 0 else 1
theorem Sign_near(n:Int)(S:St):Triple P (C G) 174 [nearAV n] S fun o S'=>o=.ret (.int .i64 (bSign n))∧S'=S:=by
 refine triple_of_awp (hT G) hm Tryz.func174 rfl (by decide +kernel) rfl (by decide +kernel) (by show 1≤_;decide +kernel) rfl ?_
 conv=>whnf
 intro b hb;conv=>whnf
 refine⟨_,_,St.upd_same _ _ _,?_⟩;conv=>whnf
 refine⟨_,_,St.upd_same _ _ _,?_⟩;conv=>whnf
 refine⟨_,_,St.upd_same _ _ _,?_⟩;conv=>whnf
 refine split_of (fun h=>?_) (fun h=>?_)
 ·have h:n<0:=of_decide_eq_true h
  conv=>whnf
  exact⟨_,_,⟨rfl,rfl⟩,St.le_upd' (St.le_refl _) hb _,by rw[bSign,if_pos h];exact AV.leS_refl _ _ _⟩
 ·have h:¬ n<0:=of_decide_eq_false h
  conv=>whnf
  refine⟨_,_,St.upd_same _ _ _,?_⟩;conv=>whnf
  refine⟨_,_,St.upd_same _ _ _,?_⟩;conv=>whnf
  refine split_of (fun h0=>?_) (fun h0=>?_)
  ·have h0:n=0:=by simpa using h0
   conv=>whnf
   exact⟨_,_,⟨rfl,rfl⟩,St.le_upd' (St.le_refl _) hb _,by rw[bSign,if_neg h,if_pos h0];exact AV.leS_refl _ _ _⟩
  ·have h0:¬ n=0:=by simpa using h0
   conv=>whnf
   exact⟨_,_,⟨rfl,rfl⟩,St.le_upd' (St.le_refl _) hb _,by rw[bSign,if_neg h,if_neg h0];exact AV.leS_refl _ _ _⟩
theorem Sign_far(neg:Bool)(l:List Nat)(hl:l≠[])(S:St):Triple P (C G) 174 [farAV neg l] S fun o S'=>o=.ret (.int .i64 (if neg then -1 else 1))∧S'=S:=by
 refine triple_of_awp (hT G) hm Tryz.func174 rfl (by decide +kernel) rfl (by decide +kernel) (by show 1≤_;decide +kernel) rfl ?_
 conv=>whnf
 intro b hb;conv=>whnf
 refine⟨_,_,St.upd_same _ _ _,?_⟩;conv=>whnf
 intro c hc;have hc:=hc (rowsU_ne hl);subst hc;conv=>whnf
 refine⟨_,_,St.upd_same _ _ _,?_⟩
 cases neg with
 | true=>
   conv=>whnf
   exact⟨_,_,⟨rfl,rfl⟩,St.le_upd' (St.le_refl _) hb _,AV.leS_refl _ _ _⟩
 | false=>
   conv=>whnf
   refine⟨_,_,St.upd_same _ _ _,?_⟩;conv=>whnf
   intro c hc;have hc:=hc (rowsU_ne hl);subst hc;conv=>whnf
   refine⟨_,_,St.upd_same _ _ _,?_⟩;conv=>whnf
   intro c hc;have hc:=hc (rowsU_ne hl);subst hc;conv=>whnf
   exact⟨_,_,⟨rfl,rfl⟩,St.le_upd' (St.le_refl _) hb _,AV.leS_refl _ _ _⟩
theorem Sign_ok(z:Int)(S:St):Triple P (C G) 174 [bigAV z] S fun o S'=>o=.ret (.int .i64 (bSign z))∧S'=S:=by
 by_cases h:near z
 ·rw[bigAV_near h];exact Sign_near z S
 ·rw[bigAV_far h];have hp:=far_pos h;refine(Sign_far _ _ (limbs_ne (by omega)) S).mono ?_
  rintro o S' ⟨rfl,rfl⟩;refine⟨?_,rfl⟩;unfold bSign near at *
  by_cases h0:z<0
  ·simp[h0]
  ·simp[h0];omega
theorem Neg_near(n:Int)(h:near n)(S:St):Triple P (C G) 183 [nearAV n] S fun o S'=>o=.ret (nearAV (-n))∧S'=S:=by
 have hw:IntKind.i64.wrap (0-n)=-n:=by unfold near at h;rw[wrap_i64 (by omega) (by omega)];omega
 refine triple_of_awp (hT G) hm Tryz.func183 rfl (by decide +kernel) rfl (by decide +kernel) (by show 1≤_;decide +kernel) rfl ?_
 conv=>whnf
 intro b hb;conv=>whnf
 intro b2 hb2;conv=>whnf
 refine⟨_,_,St.up hb2 (St.upd_same _ _ _),?_⟩;conv=>whnf
 refine⟨_,_,St.up hb2 (St.upd_same _ _ _),?_⟩;conv=>whnf
 refine⟨_,_,St.upd_same _ _ _,?_⟩;conv=>whnf
 refine⟨_,_,St.upd_same _ _ _,?_⟩;conv=>whnf
 refine⟨_,_,⟨rfl,rfl⟩,?_,?_⟩
 ·rw[St.upd_upd];exact St.le_upd' (St.le_upd' (St.le_refl _) hb _) hb2 _
 ·rw[hw];exact AV.leS_refl _ _ _
theorem Neg_far(neg:Bool)(l:List Nat)(hl:l≠[])(S:St):Triple P (C G) 183 [farAV neg l] S fun o S'=>o=.ret (farAV (!neg) l)∧S'=S:=by
 refine triple_of_awp (hT G) hm Tryz.func183 rfl (by decide +kernel) rfl (by decide +kernel) (by show 1≤_;decide +kernel) rfl ?_
 conv=>whnf
 intro b hb;conv=>whnf
 intro b2 hb2;conv=>whnf
 refine⟨_,_,St.up hb2 (St.upd_same _ _ _),?_⟩;conv=>whnf
 intro c hc;have hc:=hc (rowsU_ne hl);subst hc;conv=>whnf
 refine⟨_,_,St.up hb2 (St.upd_same _ _ _),?_⟩;conv=>whnf
 refine⟨_,_,St.up hb2 (St.upd_same _ _ _),?_⟩;conv=>whnf
 refine⟨_,_,St.upd_same _ _ _,?_⟩;conv=>whnf
 refine⟨_,_,St.upd_same _ _ _,?_⟩;conv=>whnf
 refine⟨_,_,⟨rfl,rfl⟩,?_,AV.leS_refl _ _ _⟩;rw[St.upd_upd];exact St.le_upd' (St.le_upd' (St.le_refl _) hb _) hb2 _
theorem near_neg{z:Int}:near (-z)↔near z:=by unfold near;omega
theorem Neg_ok(z:Int)(S:St):Triple P (C G) 183 [bigAV z] S fun o S'=>o=.ret (bigAV (-z))∧S'=S:=by
 by_cases h:near z
 ·rw[bigAV_near h,bigAV_near (near_neg.2 h)];exact Neg_near z h S
 ·rw[bigAV_far h,bigAV_far (fun hh=>h (near_neg.1 hh))]
  have hp:=far_pos h
  refine(Neg_far _ _ (limbs_ne (by omega)) S).mono ?_
  rintro o S' ⟨rfl,rfl⟩;refine⟨?_,rfl⟩;rw[Int.natAbs_neg,show decide (-z<0)=!decide (z<0) by
   by_cases h0:z<0
   ·simp[h0];omega
   ·simp[h0];omega]
theorem limbs_step{u n:Nat}{acc:List Nat}(h:acc++limbs u=limbs n)(hu:0<u):(acc++[u % 1000000000])++limbs (u / 1000000000)=limbs n:=by
 rw[← h,limbs_pos hu];simp
theorem size_near(n:Int)(h:near n)(S:St):Triple P (C G) 191 [nearAV n] S fun o S'=>o=.ret (.sl .any 1 (rowsU (limbs n.natAbs)))∧S'=S:=by
 have hw:IntKind.i64.wrap (0-n)=-n:=by unfold near at h;rw[wrap_i64 (by omega) (by omega)];omega
 refine triple_of_awp (hT G) hm Tryz.func191 rfl (by decide +kernel) rfl (by decide +kernel) (by show 1≤_;decide +kernel) rfl ?_
 conv=>whnf
 intro b hb;conv=>whnf
 refine⟨_,_,St.upd_same _ _ _,?_⟩;conv=>whnf
 refine⟨_,_,St.upd_same _ _ _,?_⟩;conv=>whnf
 refine⟨_,_,St.upd_same _ _ _,?_⟩;conv=>whnf
 have hu:IntKind.u64.wrap (if IntKind.i64.wrap (0-n) > n then IntKind.i64.wrap (0-n) else n)=(n.natAbs:Int):=by
  unfold near at h;rw[hw,IntKind.wrap_u64]
  split<;>omega
 have hlen:(limbs n.natAbs).length≤3:=limbs_len 3 _ (by unfold near at h;omega)
 refine⟨⟨Nat×List Nat×Nat,fun(u,acc,bb)=>[(3,.int .u64 (u:Int)),(4,.sl (.acc bb) 1 (rowsU acc))],
  fun(u,acc,bb) S'=>AccOk (S.upd b (.obj 244 [AV.int IntKind.i64 n,AV.bool false,AV.nils])) S' 224 1 bb acc.length∧acc++limbs u=limbs n.natAbs∧u≤n.natAbs,fun(u,_,_)=>u⟩,
  ⟨(n.natAbs,[],0),⟨congrArg _ hu,rfl,trivial⟩,_,St.leW_refl _,AccOk.init ..,rfl,Nat.le_refl _⟩,?_⟩
 rintro⟨(u:Nat),(acc:List Nat),(bb:Nat)⟩ S₁ ⟨h1,h2,h3⟩;conv=>whnf
 have hacc:acc.length≤3:=by have:=congrArg List.length h2;simp at this;omega
 have hu62:u<4611686018427387904:=by unfold near at h;omega
 refine split_of (fun hlt=>?_) (fun hlt=>?_)
 ·have hlt:0<u:=by simpa using hlt
  have w1:IntKind.u32.wrap ((u:Int).tmod 1000000000)=((u % 1000000000:Nat):Int):=by rw[Int.tmod_eq_emod_of_nonneg (by omega),IntKind.wrap_u32];omega
  have w2:IntKind.u64.wrap ((u:Int).tdiv 1000000000)=((u / 1000000000:Nat):Int):=by rw[Int.tdiv_eq_ediv_of_nonneg (by omega),IntKind.wrap_u64];omega
  conv=>whnf
  refine⟨by decide,?_⟩
  conv=>whnf
  intro b0 hb0;conv=>whnf
  have h1':=h1.other hb0 (.tip 224 1 1)
  refine⟨⟨fun h=>by have:=h1'.tip (List.length_pos_iff.2 (fun e=>h (by rw[e];rfl)));rw[rowsU_len];exact this,by show _*4≤_;simp;omega⟩,?_⟩
  conv=>whnf
  intro S₂ k1 k2 b' hb';conv=>whnf
  refine⟨by decide,?_⟩
  conv=>whnf
  have e1:rowsU acc++[[AV.int .u32 (IntKind.u32.wrap ((u:Int).tmod 1000000000))]]=rowsU (acc++[u % 1000000000]):=by rw[w1,rowsU_snoc]
  refine⟨(u / 1000000000,acc++[u % 1000000000],b'),⟨congrArg _ w2,congrArg _ e1,trivial⟩,⟨_,St.leW_refl _,h1'.push (es:=rowsU acc) (by simp) k1 k2 hb' (by simp),limbs_step h2 hlt,by omega⟩,by show u / 1000000000<u;omega⟩
 ·have hlt:u=0:=by simpa using hlt
  subst hlt;have h2:acc=limbs n.natAbs:=by simpa [limbs_zero] using h2
  subst h2;conv=>whnf
  exact⟨_,_,⟨rfl,rfl⟩,St.le_trans (St.le_upd' (St.le_refl _) hb _) h1.le,rfl,rfl⟩
theorem size_far(neg:Bool)(l:List Nat)(hl:l≠[])(S:St):Triple P (C G) 191 [farAV neg l] S fun o S'=>o=.ret (.sl .any 1 (rowsU l))∧S'=S:=by
 refine triple_of_awp (hT G) hm Tryz.func191 rfl (by decide +kernel) rfl (by decide +kernel) (by show 1≤_;decide +kernel) rfl ?_
 conv=>whnf
 intro b hb;conv=>whnf
 refine⟨_,_,St.upd_same _ _ _,?_⟩;conv=>whnf
 intro c hc;have hc:=hc (rowsU_ne hl);subst hc;conv=>whnf
 refine⟨_,_,St.upd_same _ _ _,?_⟩;conv=>whnf
 exact⟨_,_,⟨rfl,rfl⟩,St.le_upd' (St.le_refl _) hb _,AV.leS_refl _ _ _⟩
theorem size_ok(z:Int)(S:St):Triple P (C G) 191 [bigAV z] S fun o S'=>o=.ret (.sl .any 1 (rowsU (limbs z.natAbs)))∧S'=S:=by
 by_cases h:near z
 ·rw[bigAV_near h];exact size_near z h S
 ·rw[bigAV_far h];have hp:=far_pos h;exact size_far _ _ (limbs_ne (by omega)) S
theorem Of_near(n:Int)(h:near n)(S:St):Triple P (C G) 165 [.int .i64 n] S fun o S'=>o=.ret (nearAV n)∧S'=S:=by
 unfold near at h;refine triple_of_awp (hT G) hm Tryz.func165 rfl (by decide +kernel) rfl (by decide +kernel) (by show 1≤_;decide +kernel) rfl ?_
 conv=>whnf
 intro b hb;conv=>whnf
 refine split_of (fun _=>?_) (fun hh=>absurd (of_decide_eq_false hh) (by omega))
 conv=>whnf
 refine split_of (fun _=>?_) (fun hh=>absurd (of_decide_eq_false hh) (by omega))
 conv=>whnf
 refine⟨_,_,St.upd_same _ _ _,?_⟩;conv=>whnf
 refine⟨_,_,St.upd_same _ _ _,?_⟩;conv=>whnf
 refine⟨_,_,⟨rfl,rfl⟩,?_,AV.leS_refl _ _ _⟩;rw[St.upd_upd];exact St.le_upd' (St.le_refl _) hb _
theorem Of_far(n:Int)(h:¬ near n)(h0:-9223372036854775808≤n)(h1:n≤9223372036854775807)(S:St):Triple P (C G) 165 [.int .i64 n] S fun o S'=>o=.ret (farAV (decide (n<0)) (limbs n.natAbs))∧S'=S:=by
 have hlen:(limbs n.natAbs).length≤3:=limbs_len 3 _ (by omega)
 unfold near at h;refine triple_of_awp (hT G) hm Tryz.func165 rfl (by decide +kernel) rfl (by decide +kernel) (by show 1≤_;decide +kernel) rfl ?_
 conv=>whnf
 intro b hb;conv=>whnf
 refine split_of (fun hh=>?_) (fun hh=>?_)
 ·have hh:n > -4611686018427387904:=of_decide_eq_true hh
  conv=>whnf
  refine split_of (fun hh=>absurd (of_decide_eq_true hh) (by omega)) (fun _=>?_)
  conv=>whnf
  refine split_of (fun hh=>absurd (of_decide_eq_true hh) (by omega)) (fun hn0=>?_)
  conv=>whnf
  have hu:IntKind.u64.wrap n=(n.natAbs:Int):=by rw[IntKind.wrap_u64];omega
  have hneg:decide (n<0)=false:=decide_eq_false (by omega)
  refine⟨⟨Nat×List Nat×Nat,fun(u,acc,bb)=>[(0,.int .i64 n),(2,.ref b 0),(3,.int .u64 (u:Int)),(4,.sl (.acc bb) 1 (rowsU acc))],
   fun(u,acc,bb) S'=>AccOk (S.upd b (.obj 244 [AV.int IntKind.i64 0,AV.bool false,AV.nils])) S' 224 1 bb acc.length∧acc++limbs u=limbs n.natAbs∧u≤n.natAbs,fun(u,_,_)=>u⟩,
   ⟨(n.natAbs,[],0),⟨rfl,rfl,congrArg _ hu,rfl,trivial⟩,_,St.leW_refl _,AccOk.init ..,rfl,Nat.le_refl _⟩,?_⟩
  rintro⟨(u:Nat),(acc:List Nat),(bb:Nat)⟩ S₁ ⟨h1,h2,h3⟩;conv=>whnf
  have hacc:acc.length≤3:=by have:=congrArg List.length h2;simp at this;omega
  refine split_of (fun hlt=>?_) (fun hlt=>?_)
  ·have hlt:0<u:=by simpa using hlt
   have w1:IntKind.u32.wrap ((u:Int).tmod 1000000000)=((u % 1000000000:Nat):Int):=by rw[Int.tmod_eq_emod_of_nonneg (by omega),IntKind.wrap_u32];omega
   have w2:IntKind.u64.wrap ((u:Int).tdiv 1000000000)=((u / 1000000000:Nat):Int):=by rw[Int.tdiv_eq_ediv_of_nonneg (by omega),IntKind.wrap_u64];omega
   conv=>whnf
   refine⟨by decide,?_⟩
   conv=>whnf
   intro b0 hb0;conv=>whnf
   have h1':=h1.other hb0 (.tip 224 1 1)
   refine⟨⟨fun h=>by have:=h1'.tip (List.length_pos_iff.2 (fun e=>h (by rw[e];rfl)));rw[rowsU_len];exact this,by show _*4≤_;simp;omega⟩,?_⟩
   conv=>whnf
   intro S₂ k1 k2 b' hb';conv=>whnf
   refine⟨by decide,?_⟩
   conv=>whnf
   have e1:rowsU acc++[[AV.int .u32 (IntKind.u32.wrap ((u:Int).tmod 1000000000))]]=rowsU (acc++[u % 1000000000]):=by rw[w1,rowsU_snoc]
   refine⟨(u / 1000000000,acc++[u % 1000000000],b'),⟨rfl,rfl,congrArg _ w2,congrArg _ e1,trivial⟩,⟨_,St.leW_refl _,h1'.push (es:=rowsU acc) (by simp) k1 k2 hb' (by simp),limbs_step h2 hlt,by omega⟩,by show u / 1000000000<u;omega⟩
  ·have hlt:u=0:=by simpa using hlt
   subst hlt;have h2:acc=limbs n.natAbs:=by simpa [limbs_zero] using h2
   subst h2;conv=>whnf
   refine⟨_,_,h1.le _ _ (St.upd_same _ _ _),?_⟩;conv=>whnf
   refine⟨_,_,St.upd_same _ _ _,?_⟩;conv=>whnf
   refine⟨_,_,⟨rfl,rfl⟩,St.le_upd (St.le_trans (St.le_upd' (St.le_refl _) hb _) h1.le) hb _,rfl,rfl,⟨rfl,rfl⟩,rfl⟩
 ·have hh:¬ n > -4611686018427387904:=of_decide_eq_false hh
  conv=>whnf
  refine split_of (fun hn0=>?_) (fun hh=>absurd (of_decide_eq_false hh) (by omega))
  conv=>whnf
  have hu:IntKind.u64.wrap (0-IntKind.u64.wrap n)=(n.natAbs:Int):=by rw[IntKind.wrap_u64,IntKind.wrap_u64];omega
  have hneg:decide (n<0)=true:=decide_eq_true (by omega)
  refine⟨⟨Nat×List Nat×Nat,fun(u,acc,bb)=>[(0,.int .i64 n),(2,.ref b 0),(3,.int .u64 (u:Int)),(4,.sl (.acc bb) 1 (rowsU acc))],
   fun(u,acc,bb) S'=>AccOk (S.upd b (.obj 244 [AV.int IntKind.i64 0,AV.bool false,AV.nils])) S' 224 1 bb acc.length∧acc++limbs u=limbs n.natAbs∧u≤n.natAbs,fun(u,_,_)=>u⟩,
   ⟨(n.natAbs,[],0),⟨rfl,rfl,congrArg _ hu,rfl,trivial⟩,_,St.leW_refl _,AccOk.init ..,rfl,Nat.le_refl _⟩,?_⟩
  rintro⟨(u:Nat),(acc:List Nat),(bb:Nat)⟩ S₁ ⟨h1,h2,h3⟩;conv=>whnf
  have hacc:acc.length≤3:=by have:=congrArg List.length h2;simp at this;omega
  refine split_of (fun hlt=>?_) (fun hlt=>?_)
  ·have hlt:0<u:=by simpa using hlt
   have w1:IntKind.u32.wrap ((u:Int).tmod 1000000000)=((u % 1000000000:Nat):Int):=by rw[Int.tmod_eq_emod_of_nonneg (by omega),IntKind.wrap_u32];omega
   have w2:IntKind.u64.wrap ((u:Int).tdiv 1000000000)=((u / 1000000000:Nat):Int):=by rw[Int.tdiv_eq_ediv_of_nonneg (by omega),IntKind.wrap_u64];omega
   conv=>whnf
   refine⟨by decide,?_⟩
   conv=>whnf
   intro b0 hb0;conv=>whnf
   have h1':=h1.other hb0 (.tip 224 1 1)
   refine⟨⟨fun h=>by have:=h1'.tip (List.length_pos_iff.2 (fun e=>h (by rw[e];rfl)));rw[rowsU_len];exact this,by show _*4≤_;simp;omega⟩,?_⟩
   conv=>whnf
   intro S₂ k1 k2 b' hb';conv=>whnf
   refine⟨by decide,?_⟩
   conv=>whnf
   have e1:rowsU acc++[[AV.int .u32 (IntKind.u32.wrap ((u:Int).tmod 1000000000))]]=rowsU (acc++[u % 1000000000]):=by rw[w1,rowsU_snoc]
   refine⟨(u / 1000000000,acc++[u % 1000000000],b'),⟨rfl,rfl,congrArg _ w2,congrArg _ e1,trivial⟩,⟨_,St.leW_refl _,h1'.push (es:=rowsU acc) (by simp) k1 k2 hb' (by simp),limbs_step h2 hlt,by omega⟩,by show u / 1000000000<u;omega⟩
  ·have hlt:u=0:=by simpa using hlt
   subst hlt;have h2:acc=limbs n.natAbs:=by simpa [limbs_zero] using h2
   subst h2;conv=>whnf
   refine⟨_,_,h1.le _ _ (St.upd_same _ _ _),?_⟩;conv=>whnf
   refine⟨_,_,St.upd_same _ _ _,?_⟩;conv=>whnf
   refine⟨_,_,⟨rfl,rfl⟩,St.le_upd (St.le_trans (St.le_upd' (St.le_refl _) hb _) h1.le) hb _,rfl,rfl,⟨rfl,rfl⟩,rfl⟩
theorem Of_ok(n:Int)(h0:-9223372036854775808≤n)(h1:n≤9223372036854775807)(S:St):Triple P (C G) 165 [.int .i64 n] S fun o S'=>o=.ret (bigAV n)∧S'=S:=by
 by_cases h:near n
 ·rw[bigAV_near h];exact Of_near n h S
 ·rw[bigAV_far h];exact Of_far n h h0 h1 S
theorem Mul64_ok(x y:Nat)(hx:x<18446744073709551616)(hy:y<18446744073709551616)(S:St):Triple P (C G) 180 [.int .u64 (x:Int),.int .u64 (y:Int)] S fun o S'=>
 o=.ret (.tu [.int .u64 ((x*y / 18446744073709551616:Nat):Int),.int .u64 ((x*y % 18446744073709551616:Nat):Int)])∧S'=S:=by
 refine Triple.of_calls (x:=.tu [.int .u64 ((x*y / 18446744073709551616:Nat):Int),.int .u64 ((x*y % 18446744073709551616:Nat):Int)]) Tryz.func180 rfl (by decide +kernel) (fun w vs hg hr=>?_) ⟨rfl,rfl⟩
 obtain⟨u,v,hv,r1,r2⟩:=RelL.two hr;simp only[Rel] at r1 r2;subst r1 r2;have hvs:vs=#[.int .u64 (x:Int),.int .u64 (y:Int)]:=by
  have:=congrArg List.toArray hv
  simpa using this
 rw[hvs];refine(Tryz.bits_Mul64 x y hx hy w).mono fun e w' he=>?_
 obtain⟨rfl,rfl⟩:=he;exact⟨_,rfl,by simp only[Rel];exact⟨_,rfl,by simp[RelL,Rel]⟩,Below.refl _ _⟩
theorem Add64_ok(x y:Nat)(S:St):Triple P (C G) 181 [.int .u64 (x:Int),.int .u64 (y:Int),.int .u64 0] S fun o S'=>
 o=.ret (.tu [.int .u64 (((x+y) % 18446744073709551616:Nat):Int),.int .u64 (((x+y) / 18446744073709551616:Nat):Int)])∧S'=S:=by
 refine Triple.of_run (x:=.tu [.int .u64 (((x+y) % 18446744073709551616:Nat):Int),.int .u64 (((x+y) / 18446744073709551616:Nat):Int)]) (fun w vs hg hr=>?_) ⟨rfl,rfl⟩
 simp only[RelL,Rel] at hr;obtain⟨u,us,h1,rfl,u2,us2,h2,rfl,u3,us3,h3,rfl,h4⟩:=hr;subst h4;have hvs:vs=#[.int .u64 (x:Int),.int .u64 (y:Int),.int .u64 0]:=by
  have h:vs.toList=[.int .u64 (x:Int),.int .u64 (y:Int),.int .u64 0]:=by rw[h1,h2,h3]
  have:=congrArg List.toArray h
  simpa using this
 rw[hvs];refine⟨_,?_,by simp only[Rel];exact⟨_,rfl,by simp only[RelL,Rel];exact⟨_,_,rfl,rfl,_,_,rfl,rfl,rfl⟩⟩⟩
 rw[run_callFunc_extern Tryz.func181 (by kernel_rfl) (by kernel_rfl) (by kernel_rfl) (e:=add64Entry) (by kernel_rfl),run_add64 x y 0 (by omega) (by omega) (by omega) (by omega)]
 simp only[Result.andThen,Int.add_zero]
 congr 5<;>omega
end Go.Proofs.YtogipknpafkfpaaGreatDoor.Aw
