/- strings.Builder, walked at the model's grain where the abstract walk has no operation: copyCheck, String. Package big, w -/
import Derived.Test.YtjpboanohpaibaaGreatDoorPat8
import Derived.Lib.FrozenHead
import Derived.Lib.ItoaMem
import Derived.Lib.AtoiErrMem
import Derived.Test.YtjpboanohpaibaaGreatDoorPat7
set_option linter.all false
set_option maxRecDepth 100000
namespace Go.Proofs.YtjpboanohpaibaaGreatDoor.Aw
open Go Go.RowKit
variable {G:Nat→Option (List AV)}
theorem good_row{w w':World}{S:St}{b:Nat}{e:TypeId}{cells cells':List AV}{old cs:Array Value}(hg:Good (C G) w S)(hS:S b=some (.obj e cells))(hb:w.heap[b]? = some (.cells old e (0,0)))
 (h1:w'.os=w.os) (h2:w'.tape=w.tape) (h3:w'.output=w.output) (h4:w'.heap.size=w.heap.size) (ho:∀ x,x≠b→w'.heap[x]? = w.heap[x]?) (hb':w'.heap[b]? = some (.cells cs e (0,0))) (hsz:cs.size=old.size)
 (hr:RelL w (rdOf S) cells' cs.toList) (hone:∀ v∈cs.toList,v.oneCell'=true):Good (C G) w' (S.upd b (.obj e cells'))∧Adv w S w' (S.upd b (.obj e cells')):=by
 have hadv:Adv w S w' (S.upd b (.obj e cells')):=by
  refine⟨h1,h2,h3,by omega,fun x hx hn=>?_,fun x off hx hr=>?_,fun x e' n hx=>?_⟩
  ·have hne:x≠b:=St.ne_of' hn hS
   exact⟨by rw[St.upd_ne _ _ _ _ hne];exact hn,ho x hne⟩
  ·have hne:x≠b:=by rintro rfl;simp only[rdOf,hS] at hr
   refine⟨by simp only[rdOf,St.upd_ne _ _ _ _ hne];exact hr,cell_of_block (ho x hne) off⟩
  ·by_cases hne:x=b
   ·subst hne;simp only[World.shape?,hb] at hx;simp only[World.shape?,hb']
    simpa [hsz] using hx
   ·rw[shape_of_block (ho x hne)];exact hx
 refine⟨hg.mk (fun x o hx=>?_) hadv,hadv⟩
 by_cases hxb:x=b
 ·subst hxb;rw[St.upd_same] at hx
  cases hx
  exact⟨cs,hb',RelL.mono hadv _ _ hr,hone⟩
 ·rw[St.upd_ne _ _ _ _ hxb] at hx;exact OwnOk.mono hadv (ho x hxb) (hg.1 x o hx)
theorem setCell_row{w:World}{b:Nat}{e:TypeId}{old:Array Value}(hb:w.heap[b]? = some (.cells old e (0,0)))(v:Value) :
 (w.setCell ⟨b,0,none⟩ v).heap[b]? = some (.cells (old.setIfInBounds 0 v) e (0,0))∧∀ x,x≠b→(w.setCell ⟨b,0,none⟩ v).heap[x]? = w.heap[x]?:=by
 refine⟨?_,fun x hx=>?_⟩
 ·simp[World.setCell,Array.getElem?_modify,hb]
 ·simp[World.setCell,Array.getElem?_modify,Ne.symm hx]
theorem copyCheck_used(b:Nat)(w:World)(h0:w.cell? ⟨b,0,none⟩=some (.pointer (some ⟨b,0,none⟩))) :
 Calls P 222 #[.pointer (some ⟨b,0,none⟩)] w fun e w'=>e=.returned (.tuple #[])∧w'=w:=by
 obtain⟨j,hj,_⟩:=Option.map_eq_some_iff.1 (show(P.info? 266).map (·.size)=some 2 by kernel_rfl)
 have mixed:P.follows .mixedOrders=true:=hm
 have hnp:=Lib.run_neq_ptr_same w ⟨b,0,none⟩ (Tryz.underlying263) hj
 go_enter Tryz.func222,Tryz.ntmps222
 go_wp2
 go_end0
 exact⟨rfl,rfl⟩
theorem copyCheck_fresh(b:Nat)(w:World)(h0:w.cell? ⟨b,0,none⟩=some (.pointer none))(hsh:w.shape? b=some (266,2))(hfz:w.frozen? ⟨b,0,none⟩=false) :
 Calls P 222 #[.pointer (some ⟨b,0,none⟩)] w fun e w'=>e=.returned (.tuple #[])∧w'=w.setCell ⟨b,0,none⟩ (.pointer (some ⟨b,0,none⟩)):=by
 obtain⟨j,hj,hjs⟩:=Option.map_eq_some_iff.1 (show(P.info? 266).map (·.size)=some 2 by kernel_rfl)
 have mixed:P.follows .mixedOrders=true:=hm
 have hto:=Lib.run_to_unsafe w ⟨b,0,none⟩ (Tryz.underlying263) (Tryz.underlying145) hj (by rw[hjs];decide) hsh (Nat.zero_lt_succ 1)
 have hfrom:=Lib.run_from_unsafe w ⟨b,0,none⟩ (Tryz.underlying145) (Tryz.underlying263) hj hsh (by kernel_rfl)
 have hne:=run_callFunc_extern (P:=P) (args:=#[.pointer (some ⟨b,0,none⟩)]) (w:=w) Tryz.func235 (by kernel_rfl) (by kernel_rfl) (by kernel_rfl) (e:=Extern.AbiNoEscape.same) (by kernel_rfl)
 rw[Lib.run_noEscape] at hne
 go_enter Tryz.func222,Tryz.ntmps222
 go_wp2
 go_end0
 exact⟨rfl,rfl⟩
theorem String_raw(b g cap:Nat)(p:Value)(cur:Array Value)(l:List UInt8)(h0:l≠[])(w:World)(hb:w.heap[b]? = some (.cells #[p,.slice (some ⟨g,0,none⟩) l.length cap] 266 (0,0)))
 (hg:w.heap[g]? = some (.cells cur 5 (0,0))) (hn:l.length≤cap) (hc:cap≤maxLen) (hcs:cur.size=cap) (hcell:∀ j x,l[j]? = some x→w.cell? ((⟨g,0,none⟩:Addr).add j)=some (.int .u8 x.toNat)) :
 Calls P 210 #[.pointer (some ⟨b,0,none⟩)] w fun e w'=>e=.returned (.string ⟨l.toArray⟩)∧w'=w.drew.freeze ⟨g,0,none⟩ l.length:=by
 have hl0:l.length≠0:=by simpa using h0
 have c1:w.drew.cell? ⟨b,1,none⟩=some (.slice (some ⟨g,0,none⟩) l.length cap):=by
  rw[Lib.cell_of_heap (show w.drew.heap[b]? = _ from hb)];rfl
 have hSD:(Builtin.unsafeSliceData_ #[264] 283 #[.slice (some ⟨g,0,none⟩) l.length cap]).run P w.drew=.ok (.pointer (some ⟨g,0,none⟩)) w.drew:=
  Lib.run_unsafeSliceData_row _ _ _ _ _ _ (by omega)
 have hUS:(Builtin.unsafeString_ #[283,3] 9 #[.pointer (some ⟨g,0,none⟩),.int .i64 l.length]).run P w.drew=.ok (.string ⟨l.toArray⟩) (w.drew.freeze ⟨g,0,none⟩ l.length):=
  Lib.run_unsafeString_row w.drew _ _ _ 5 (Tryz.underlying283) (by kernel_rfl) g cur.size (by simp only[World.shape?,show w.drew.heap[g]? = _ from hg]) l h0 (by omega) (by unfold maxLen at hc;omega) hcell
 have mixed:P.follows .mixedOrders=true:=hm
 go_enter Tryz.func210,Tryz.ntmps210
 go_wp2
 go_region_o
 all_goals (go_wp2;go_ret;exact⟨rfl,rfl⟩)
theorem String_none(b:Nat)(p:Value)(w:World)(hb:w.heap[b]? = some (.cells #[p,.slice none 0 0] 266 (0,0))) :
 Calls P 210 #[.pointer (some ⟨b,0,none⟩)] w fun e w'=>e=.returned (.string ⟨#[]⟩)∧w'=w.drew:=by
 have c1:w.drew.cell? ⟨b,1,none⟩=some (.slice none 0 0):=by
  rw[Lib.cell_of_heap (show w.drew.heap[b]? = _ from hb)];rfl
 have hUS:(Builtin.unsafeString_ #[283,3] 9 #[.pointer none,.int .i64 0]).run P w.drew=.ok (.string .empty) w.drew:=Lib.run_unsafeString_none w.drew _ _ _ none
 have hSD:(Builtin.unsafeSliceData_ #[264] 283 #[.slice none 0 0]).run P w.drew=.ok (.pointer none) w.drew:=rfl
 have mixed:P.follows .mixedOrders=true:=hm
 go_enter Tryz.func210,Tryz.ntmps210
 go_wp2
 go_region_o
 all_goals (go_wp2;go_ret;exact⟨rfl,rfl⟩)
theorem Triple.of_callsW{C : Cx}{f : FuncId}{fn : Func}{c : Code}(hf : P.funcs[f]? = some fn)(hb : fn.body = some c)(hname : (fn.name == "runtime.NumGoroutine") = false){args : List AV}{S : St}{Q : Out → St → Prop}
 (h:∀ (w:World) (vs:Array Value),Good C w S→RelL w (rdOf S) args vs.toList→Calls P f vs w fun e w'=>∃ v x S',e=.returned v∧Rel w' (rdOf S') x v∧Good C w' S'∧Adv w S w' S'∧Q (.ret x) S'):Triple P C f args S Q:=by
 refine⟨fun w vs _ hg hr=>.inl ⟨?_,(h w vs hg hr).mono fun e w' he=>?_⟩⟩
 · have hno : ¬ fn.name = "runtime.NumGoroutine" := by simpa using hname
   simp[callFunc,hf,hno,hb]
 ·obtain⟨v,x,S',rfl,hv,h1,h2,h3⟩:=he;exact⟨.ret x,S',hv,h1,h2,h3⟩
theorem RelL.pair{w:World}{rd}{x y:AV}{cs:Array Value}(h:RelL w rd [x,y] cs.toList):∃ u v,cs=#[u,v]∧Rel w rd x u∧Rel w rd y v:=by
 obtain⟨u,v,hv,h1,h2⟩:=RelL.two h;exact⟨u,v,arr_of_list hv,h1,h2⟩
theorem copyCheck_ok{S:St}{b:Nat}{p s:AV}(hS:S b=some (.obj 266 [p,s]))(hp:p=.nilp∨p=.ref b 0) :
 Triple P (C G) 222 [.ref b 0] S fun o S'=>o=.ret (.tu [])∧S'=S.upd b (.obj 266 [.ref b 0,s]):=by
 refine Triple.of_callsW Tryz.func222 rfl (by decide +kernel) (fun w vs hg hr=>?_)
 obtain⟨v,hv,r1⟩:=RelL.one hr;simp only[Rel] at r1;subst r1;rw[show vs=#[.pointer (some ⟨b,0,none⟩)] from arr_of_list hv];obtain⟨cs,k1,k2,k3⟩:=hg.1 b _ hS;obtain⟨u,z,rfl,hu,hz⟩:=RelL.pair k2
 rcases hp with rfl | rfl
 ·simp only[Rel] at hu;subst hu;refine(copyCheck_fresh b w (by rw[Lib.cell_of_heap k1];rfl) (by simp[World.shape?,k1]) (by simp[World.frozen?,k1])).mono fun e w' he=>?_
  obtain⟨rfl,rfl⟩:=he;obtain⟨r1,r2⟩:=setCell_row k1 (.pointer (some ⟨b,0,none⟩));obtain⟨g1,g2⟩:=good_row (w':=w.setCell ⟨b,0,none⟩ (.pointer (some ⟨b,0,none⟩))) (cells':=[.ref b 0,s]) hg hS k1 rfl rfl rfl (by simp[World.setCell]) r2 r1 (by simp) (by simp only[RelL,Rel];exact⟨_,_,rfl,rfl,_,_,rfl,hz,rfl⟩) (by
   intro v hv;simp only[Array.toList_setIfInBounds,List.set_cons_zero,List.mem_cons,List.not_mem_nil,or_false] at hv
   rcases hv with rfl | rfl
   ·rfl
   ·exact k3 v (by simp))
  exact⟨_,.tu [],_,rfl,by simp only[Rel];exact⟨_,rfl,rfl⟩,g1,g2,rfl,rfl⟩
 ·simp only[Rel] at hu;subst hu;refine(copyCheck_used b w (by rw[Lib.cell_of_heap k1];rfl)).mono fun e w' he=>?_
  obtain⟨rfl,rfl⟩:=he;have hs:S.upd b (.obj 266 [.ref b 0,s])=S:=by
   funext x
   by_cases hx:x=b
   ·subst hx;rw[St.upd_same,hS]
   ·rw[St.upd_ne _ _ _ _ hx]
  refine⟨_,.tu [],S,rfl,by simp only[Rel];exact⟨_,rfl,rfl⟩,hg,Adv.refl _ _,rfl,hs.symm⟩
def rowsL(l:List UInt8):List (List AV):=l.map fun b=>[.int .u8 (b.toNat:Int)]
@[simp] theorem rowsL_len (l:List UInt8):(rowsL l).length=l.length:=by simp[rowsL]
theorem rowsB_L(s:ByteArray):rowsB s=rowsL s.data.toList:=rfl
theorem adv_freeze{w:World}{S:St}{t:Nat}{o:Own}(hS:S t=some o)(k:Nat):Adv w S (w.freeze ⟨t,0,none⟩ k) (S.del t):=by
 have ho:∀ x,x≠t→(w.freeze ⟨t,0,none⟩ k).heap[x]? = w.heap[x]?:=fun x hx=>by
  unfold World.freeze;split
  ·rfl
  ·simp[Array.getElem?_modify,Ne.symm hx]
 have hc:∀ x off,(w.freeze ⟨t,0,none⟩ k).cell? ⟨x,off,none⟩=w.cell? ⟨x,off,none⟩:=fun x off=>by
  by_cases hx:x=t
  ·subst hx;unfold World.freeze;split
   ·rfl
   ·simp only[World.cell?,Array.getElem?_modify,if_true]
    cases w.heap[x]? with
    | none=>rfl
    | some z=>cases z<;>rfl
  ·exact cell_of_block (ho x hx) off
 refine⟨?_,?_,?_,?_,fun x hx hn=>?_,fun x off hx hr=>⟨?_,hc x off⟩,fun x e' n hx=>?_⟩
 ·unfold World.freeze;split<;>rfl
 ·unfold World.freeze;split<;>rfl
 ·unfold World.freeze;split<;>rfl
 ·unfold World.freeze;split<;>simp
 ·have hne:x≠t:=St.ne_of' hn hS
  exact⟨by rw[St.del_ne _ _ _ hne];exact hn,ho x hne⟩
 ·by_cases hx':x=t
  ·subst hx';simp only[rdOf,St.del_same]
  ·simp only[rdOf,St.del_ne _ _ _ hx'];exact hr
 ·by_cases hx':x=t
  ·subst hx';unfold World.freeze;split
   ·exact hx
   ·simp only[World.shape?,Array.getElem?_modify,if_true] at hx ⊢
    cases hz:w.heap[x]? with
    | none=>rw[hz] at hx;exact hx
    | some z=>rw[hz] at hx;cases z<;>exact hx
  ·rw[shape_of_block (ho x hx')];exact hx
theorem good_freeze{w:World}{S:St}{t:Nat}{o:Own}(hg:Good (C G) w S)(hS:S t=some o)(k:Nat):Good (C G) (w.freeze ⟨t,0,none⟩ k) (S.del t):=by
 have hadv:=adv_freeze (w:=w) hS k
 refine hg.mk (fun x p hx=>?_) hadv
 have hne:x≠t:=fun e=>by subst e;rw[St.del_same] at hx;cases hx
 rw[St.del_ne _ _ _ hne] at hx;refine OwnOk.mono hadv ?_ (hg.1 x p hx);unfold World.freeze;split
 ·rfl
 ·simp[Array.getElem?_modify,Ne.symm hne]
theorem St.del_le(S:St)(b:Nat):St.le (S.del b) S:=fun x o h=>by
 by_cases hx:x=b
 ·subst hx;rw[St.del_same] at h;cases h
 ·rwa [St.del_ne _ _ _ hx] at h
structure BldOk (S₀ S:St) (b:Nat) (s:List UInt8):Prop where
 le:St.le S₀ S
 new:S₀ b=none
 at_:∃ p t,(p=.nilp∨p=.ref b 0)∧S b=some (.obj 266 [p,.sl (.acc t) 1 (rowsL s)])∧(s≠[]→S t=some (.tip 5 1 s.length)∧S₀ t=none∧t≠b)
theorem St.le_del'{S₀ S:St}{b:Nat}(h:St.le S₀ S)(hb:S₀ b=none):St.le S₀ (S.del b):=fun x o hx=>by
 rw[St.del_ne _ _ _ (St.ne_of hb hx)];exact h x o hx
theorem String_ok{S₀ S:St}{b:Nat}{s:List UInt8}(h:BldOk S₀ S b s):Triple P (C G) 210 [.ref b 0] S fun o S'=>o=.ret (.str ⟨s.toArray⟩)∧St.le S₀ S':=by
 obtain⟨p,t,hp,hS,ht⟩:=h.at_;refine Triple.of_callsW Tryz.func210 rfl (by decide +kernel) (fun w vs hg hr=>?_)
 obtain⟨v,hv,r1⟩:=RelL.one hr;simp only[Rel] at r1;subst r1;rw[show vs=#[.pointer (some ⟨b,0,none⟩)] from arr_of_list hv];obtain⟨cs,k1,k2,k3⟩:=hg.1 b _ hS;obtain⟨u,z,rfl,hu,hz⟩:=RelL.pair k2
 by_cases hs:s=[]
 ·subst hs;simp only[Rel] at hz;have hz:z=.slice none 0 0:=by
   rcases hz with ⟨_,_,h⟩ | ⟨b',off,cap,_,_,_,h,_⟩
   ·exact h.acc
   ·exact absurd h.1 (by simp)
  subst hz;refine(String_none b u w k1).mono fun e w' he=>?_
  obtain⟨rfl,rfl⟩:=he;exact⟨_,.str ⟨#[]⟩,S,rfl,by simp only[Rel],hg.drew,(Adv.refl w S).drew,rfl,h.le⟩
 ·obtain⟨h1,h2,h3⟩:=ht hs;have hl0:s.length≠0:=by simpa using hs
  simp only[Rel] at hz;obtain⟨b',off,cap,rfl,q1,q2,⟨q3,rfl,rfl,q4⟩,q5⟩:∃ b' off cap,z=.slice (some ⟨b',off,none⟩) (rowsL s).length cap∧(rowsL s).length≤cap∧cap≤maxLen∧ShOk w (.acc t) 1 b' off (rowsL s).length cap∧RelRows w (rdOf S) 1 b' off (rowsL s):=by
   rcases hz with ⟨_,h,_⟩ | h
   ·exact absurd (by simpa [rowsL] using h) hs
   ·exact h
  rw[rowsL_len] at *;obtain⟨cur,cap',m1,m2,m3,m4,m5⟩:=hg.1 t _ h1;have hcap:cap'=cap:=by
   obtain⟨e',q4⟩:=q4;simp only[World.shape?,m1,Option.some.injEq,Prod.mk.injEq] at q4;omega
  subst hcap;refine(String_raw b t cap' u cur s hs w k1 m1 q1 q2 (by omega) (fun j x hx=>?_)).mono fun e w' he=>?_
  ·obtain⟨g1,g2⟩:=RelRows.get q5 j [.int .u8 (x.toNat:Int)] (by simp[rowsL,hx])
   obtain⟨v,⟨g3,g4,g5⟩,g6⟩:=RelAt.get g2 0 _ rfl;simp only[Rel] at g6;subst g6
   by_cases hj:j=0
   ·subst hj;simpa [Addr.add] using g4
   ·simpa [Addr.add,hj] using g4
  ·obtain⟨rfl,rfl⟩:=he;have e1:Good (C G) w.drew (S.del b):=hg.drew.shrink (St.del_le S b);have hS':(S.del b) t=some (.tip 5 1 s.length):=by rw[St.del_ne _ _ _ h3];exact h1
   refine⟨_,.str ⟨s.toArray⟩,(S.del b).del t,rfl,by simp only[Rel],good_freeze e1 hS' _,((Adv.refl w S).drew.trans (Adv.shrink (St.del_le S b))).trans (adv_freeze hS' _),rfl,St.le_del' (St.le_del' h.le h.new) h2⟩
theorem rowsL_ne{l:List UInt8}(h:l≠[]):rowsL l≠[]:=by cases l<;>simp_all [rowsL]
theorem rowsL_append(a b:List UInt8):rowsL a++rowsL b=rowsL (a++b):=by simp[rowsL]
theorem BldOk.step{S₀ S S' S'':St}{b t t':Nat}{s x:List UInt8}(h1:St.le S₀ S)(h2:S₀ b=none)(ht:s≠[]→S t=some (.tip 5 1 s.length)∧S₀ t=none∧t≠b){q:AV}(hS:S b=some (.obj 266 [.ref b 0,q]))
 (ha:AccStep S t 5 1 s.length x.length t' S') (hS'':S''=S'.upd b (.obj 266 [.ref b 0,.sl (.acc t') 1 (rowsL (s++x))])):BldOk S₀ S'' b (s++x):=by
 subst hS''
 rcases ha with ⟨e1,rfl,rfl⟩ | ⟨e1,S₁,c1,c2,c3,rfl⟩
 ·have hx:x=[]:=List.eq_nil_of_length_eq_zero e1
  subst hx;rw[List.append_nil];refine⟨St.le_upd h1 h2 _,h2,.ref b 0,t',.inr rfl,St.upd_same _ _ _,fun hs=>?_⟩
  obtain⟨k1,k2,k3⟩:=ht hs;exact⟨by rw[St.upd_ne _ _ _ _ k3];exact k1,k2,k3⟩
 ·have hle:St.le S₀ S₁∧S₁ b=S b:=by
   by_cases hs:s=[]
   ·subst hs;rw[c1 rfl];exact⟨h1,rfl⟩
   ·obtain⟨k1,k2,k3⟩:=ht hs;have hl:0<s.length:=by cases s<;>simp_all
    rw[c2 hl];exact⟨St.le_del' h1 k2,St.del_ne _ _ _ (Ne.symm k3)⟩
  have hb':b≠t':=fun e=>by subst e;rw[hle.2,hS] at c3;cases c3
  have h0:S₀ t'=none:=by
   cases e:S₀ t' with
   | none=>rfl
   | some o=>rw[hle.1 _ _ e] at c3;cases c3
  refine⟨St.le_upd (St.le_upd hle.1 h0 _) h2 _,h2,.ref b 0,t',.inr rfl,St.upd_same _ _ _,fun hs=>⟨?_,h0,Ne.symm hb'⟩⟩
  rw[St.upd_ne _ _ _ _ (Ne.symm hb'),St.upd_same,List.length_append]
theorem AccStep.keep{S S':St}{b t t' n m k:Nat}{e:TypeId}{o:Own}(hS:S b=some o)(ht:0<n→t≠b)(ha:AccStep S t e k n m t' S'):S' b=some o:=by
 rcases ha with ⟨e1,rfl,rfl⟩ | ⟨e1,S₁,c1,c2,c3,rfl⟩
 ·exact hS
 ·have:S₁ b=some o:=by
   by_cases hn:n=0
   ·rw[c1 hn];exact hS
   ·rw[c2 (by omega),St.del_ne _ _ _ (Ne.symm (ht (by omega)))];exact hS
  rw[St.upd_ne _ _ _ _ (fun e=>by rw[e,c3] at this;cases this)];exact this
theorem BldOk.used{S₀ S:St}{b t:Nat}{s:List UInt8}(h1:St.le S₀ S)(h2:S₀ b=none)(ht:s≠[]→S t=some (.tip 5 1 s.length)∧S₀ t=none∧t≠b)(o:Own) :
 St.le S₀ (S.upd b o)∧(s≠[]→(S.upd b o) t=some (.tip 5 1 s.length)∧S₀ t=none∧t≠b):=
 ⟨St.le_upd h1 h2 _,fun hs=>by obtain⟨k1,k2,k3⟩:=ht hs;exact⟨by rw[St.upd_ne _ _ _ _ k3];exact k1,k2,k3⟩⟩
theorem WriteString_ok{S₀ S:St}{b:Nat}{s:List UInt8}(h:BldOk S₀ S b s)(x:ByteArray)(hx:s.length+x.size≤140737488355328):Triple P (C G) 208 [.ref b 0,.str x] S fun o S'=>o=.ret (.tu [.int .i64 (x.size:Int),.nili])∧BldOk S₀ S' b (s++x.data.toList):=by
 obtain⟨p,t,hp,hS,ht⟩:=h.at_;have hcc:=copyCheck_ok (G:=G) hS hp;obtain⟨h1,ht1⟩:=BldOk.used h.le h.new ht (.obj 266 [.ref b 0,.sl (.acc t) 1 (rowsL s)]);have hxl:x.data.toList.length=x.size:=by rw[Array.length_toList];rfl
 refine triple_of_awp (hT G) hm Tryz.func208 rfl (by decide +kernel) rfl (by decide +kernel) (by show 2≤_;decide +kernel) rfl ?_
 conv=>whnf
 refine hcc.mono ?_;rintro o S' ⟨rfl,rfl⟩;have hS1:=St.upd_same S b (.obj 266 [.ref b 0,.sl (.acc t) 1 (rowsL s)]);generalize S.upd b (.obj 266 [.ref b 0,.sl (.acc t) 1 (rowsL s)])=S1 at *;conv=>whnf
 refine⟨_,_,hS1,?_⟩;conv=>whnf
 refine⟨⟨fun hl=>?_,?_⟩,fun t' S2 ha=>?_⟩
 ·have:s≠[]:=by intro e;subst e;simp at hl
  rw[rowsL_len];exact(ht1 this).1
 ·show((rowsL s).length+(rowsB x).length)*1≤_
  rw[rowsL_len,rowsB_L,rowsL_len,hxl];omega
 rw[rowsL_len,rowsB_L,rowsL_len] at ha;have hk:=AccStep.keep hS1 (fun hn=>(ht1 (by intro e;subst e;simp at hn)).2.2) ha
 have hst:=BldOk.step (S'':=S2.upd b (.obj 266 [.ref b 0,.sl (.acc t') 1 (rowsL (s++x.data.toList))])) h1 h.new ht1 hS1 ha rfl
 rw[rowsB_L,rowsL_append];conv=>whnf
 refine⟨_,_,hk,?_⟩;conv=>whnf
 exact⟨_,_,⟨rfl,hst⟩,St.le_refl _,AV.leS_refl _ _ _⟩
theorem WriteByte_ok{S₀ S:St}{b:Nat}{s:List UInt8}(h:BldOk S₀ S b s)(c:UInt8)(hx:s.length+1≤140737488355328):Triple P (C G) 207 [.ref b 0,.int .u8 (c.toNat:Int)] S fun o S'=>o=.ret .nili∧BldOk S₀ S' b (s++[c]):=by
 obtain⟨p,t,hp,hS,ht⟩:=h.at_;have hcc:=copyCheck_ok (G:=G) hS hp;obtain⟨h1,ht1⟩:=BldOk.used h.le h.new ht (.obj 266 [.ref b 0,.sl (.acc t) 1 (rowsL s)]);generalize hcv:(c.toNat:Int)=cv;refine triple_of_awp (hT G) hm Tryz.func207 rfl (by decide +kernel) rfl (by decide +kernel) (by show 2≤_;decide +kernel) rfl ?_
 conv=>whnf
 refine hcc.mono ?_;rintro o S' ⟨rfl,rfl⟩;have hS1:=St.upd_same S b (.obj 266 [.ref b 0,.sl (.acc t) 1 (rowsL s)]);generalize S.upd b (.obj 266 [.ref b 0,.sl (.acc t) 1 (rowsL s)])=S1 at *;conv=>whnf
 refine⟨_,_,hS1,?_⟩;conv=>whnf
 intro bb hbb;have hle2:St.le S1 (S1.upd bb (.tip 5 1 1)):=St.le_upd' (St.le_refl _) hbb _;have h2:St.le S₀ (S1.upd bb (.tip 5 1 1)):=St.le_trans h1 hle2;have ht2:s≠[]→(S1.upd bb (.tip 5 1 1)) t=some (.tip 5 1 s.length)∧S₀ t=none∧t≠b:=fun hs=>by obtain⟨k1,k2,k3⟩:=ht1 hs;exact⟨hle2 _ _ k1,k2,k3⟩
 have hS2:=hle2 _ _ hS1
 conv=>whnf
 refine⟨⟨fun hl=>?_,?_⟩,fun S3 c1 c2 t' c3=>?_⟩
 ·have:s≠[]:=by intro e;subst e;exact hl rfl
  rw[rowsL_len];exact(ht2 this).1
 ·show((rowsL s).length+1)*1≤_
  rw[rowsL_len];omega
 have ha:AccStep (S1.upd bb (.tip 5 1 1)) t 5 1 s.length [c].length t' (S3.upd t' (.tip 5 1 (s.length+[c].length))):=.inr ⟨by simp,S3,fun e=>c1 (by rw[List.eq_nil_of_length_eq_zero e];rfl),fun e=>c2 (rowsL_ne (by intro e';subst e';simp at e)),c3,rfl⟩
 have hk:=AccStep.keep hS2 (fun hn=>(ht2 (by intro e;subst e;simp at hn)).2.2) ha
 have hst:=BldOk.step (S'':=(S3.upd t' (.tip 5 1 (s.length+[c].length))).upd b (.obj 266 [.ref b 0,.sl (.acc t') 1 (rowsL (s++[c]))])) h2 h.new ht2 hS2 ha rfl
 have er:rowsL s++[[.int .u8 cv]]=rowsL (s++[c]):=by rw[← hcv];simp[rowsL]
 rw[er,rowsL_len];conv=>whnf
 refine⟨_,_,hk,?_⟩;conv=>whnf
 exact⟨_,_,⟨rfl,hst⟩,St.le_refl _,AV.leS_refl _ _ _⟩
theorem nDigits_le:∀ (k u:Nat),u<10 ^ (k+1)→Lib.nDigits u≤k+1
 | 0,u,h=>by rw[Lib.nDigits_small (by simpa using h)];exact Nat.le_refl _
 | k+1,u,h=>by
   by_cases hu:u<10
   ·rw[Lib.nDigits_small hu];omega
   ·rw[Lib.nDigits_big hu];have:=nDigits_le k (u / 10) (by rw[Nat.pow_succ] at h;omega)
    omega
theorem itoaS_list(n:Int):(itoaS n).data.toList=Lib.itoa n:=by simp[itoaS]
theorem itoaS_size(n:Int):(itoaS n).size=(Lib.itoa n).length:=by rw[← itoaS_list];rfl
theorem itoa_len9{d:Nat}(h:d<1000000000):(Lib.itoa (d:Int)).length≤9:=by
 rw[Lib.itoa_nonneg,Lib.decDigits_length];exact nDigits_le 8 d h
def repS(s:ByteArray)(c:Nat):ByteArray:=⟨(Lib.repeatL s.data.toList c).toArray⟩
theorem repeat_ok(s:ByteArray)(c:Nat)(hc:c≤1000000000)(hl:s.size*c≤140737488355328)(S:St):Triple P (C G) 209 [.str s,.int .i64 (c:Int)] S fun o S'=>o=.ret (.str (repS s c))∧S'=S:=by
 refine Triple.of_calls (x:=.str (repS s c)) Tryz.func209 rfl (by decide +kernel) (fun w vs hg hr=>?_) ⟨rfl,rfl⟩
 obtain⟨u,v,hv,r1,r2⟩:=RelL.two hr;simp only[Rel] at r1 r2;subst r1 r2;rw[show vs=#[.string s,.int .i64 (c:Int)] from arr_of_list hv];refine(Tryz.strings_Repeat s c w (by omega) hl).mono fun e w' he=>?_
 obtain⟨rfl,hb⟩:=he;exact⟨_,rfl,by simp only[Rel];rfl,hb⟩
def BldW(S₀ S:St)(b:Nat)(s:List UInt8):Prop:=St.le S₀ S∧∃ S1,St.leW S1 S∧BldOk S₀ S1 b s
theorem BldOk.w{S₀ S:St}{b:Nat}{s:List UInt8}(h:BldOk S₀ S b s):BldW S₀ S b s:=⟨h.le,S,St.leW_refl _,h⟩
theorem BldW.string{S₀ S:St}{b:Nat}{s:List UInt8}(h:BldW S₀ S b s):Triple P (C G) 210 [.ref b 0] S fun o S'=>o=.ret (.str ⟨s.toArray⟩)∧St.le S₀ S':=by
 obtain⟨_,S1,h1,h2⟩:=h;exact Triple.weakS (String_ok h2) h1
theorem BldW.write{S₀ S:St}{b:Nat}{s:List UInt8}(h:BldW S₀ S b s)(x:ByteArray)(hx:s.length+x.size≤140737488355328):Triple P (C G) 208 [.ref b 0,.str x] S fun o S'=>o=.ret (.tu [.int .i64 (x.size:Int),.nili])∧BldW S₀ S' b (s++x.data.toList):=by
 obtain⟨_,S1,h1,h2⟩:=h;refine(Triple.weakS (WriteString_ok h2 x hx) h1).mono ?_;rintro o S' ⟨rfl,h3⟩;exact⟨rfl,h3.w⟩
theorem BldW.byte{S₀ S:St}{b:Nat}{s:List UInt8}(h:BldW S₀ S b s)(c:UInt8)(hx:s.length+1≤140737488355328):Triple P (C G) 207 [.ref b 0,.int .u8 (c.toNat:Int)] S fun o S'=>o=.ret .nili∧BldW S₀ S' b (s++[c]):=by
 obtain⟨_,S1,h1,h2⟩:=h;refine(Triple.weakS (WriteByte_ok h2 c hx) h1).mono ?_;rintro o S' ⟨rfl,h3⟩;exact⟨rfl,h3.w⟩
theorem BldW.new{S:St}{b:Nat}(hb:S b=none):BldW S (S.upd b (.obj 266 [.nilp,.nils])) b []:=by
 have h1:=St.leW_upd (cs':=[.nilp,.sl (.acc 0) 1 (rowsL [])]) (St.upd_same S b (.obj 266 [.nilp,.nils])) ⟨rfl,rfl,trivial⟩
 rw[St.upd_upd] at h1;exact⟨St.le_upd' (St.le_refl _) hb _,_,h1,St.le_upd' (St.le_refl _) hb _,hb,.nilp,0,.inl rfl,St.upd_same _ _ _,fun h=>absurd rfl h⟩
theorem St.leW_over{S1 S:St}(h:St.leW S1 S)(x:Nat)(o:Own):St.leW (S1.upd x o) (S.upd x o):=fun b=>by
 by_cases hb:b=x
 ·subst hb;rw[St.upd_same,St.upd_same];exact .inl rfl
 ·rw[St.upd_ne _ _ _ _ hb,St.upd_ne _ _ _ _ hb];exact h b
theorem St.leW_del{S1 S:St}(h:St.leW S1 S)(x:Nat):St.leW (S1.del x) (S.del x):=fun b=>by
 by_cases hb:b=x
 ·subst hb;rw[St.del_same,St.del_same];exact .inl rfl
 ·rw[St.del_ne _ _ _ hb,St.del_ne _ _ _ hb];exact h b
theorem St.le_over{S₀ S:St}(h:St.le S₀ S)(x:Nat)(o:Own):St.le (S₀.upd x o) (S.upd x o):=fun b p hp=>by
 by_cases hb:b=x
 ·subst hb;rw[St.upd_same] at hp ⊢;exact hp
 ·rw[St.upd_ne _ _ _ _ hb] at hp ⊢;exact h b p hp
theorem St.le_dels{S₀ S:St}(h:St.le S₀ S)(x:Nat):St.le (S₀.del x) (S.del x):=fun b p hp=>by
 by_cases hb:b=x
 ·subst hb;rw[St.del_same] at hp;cases hp
 ·rw[St.del_ne _ _ _ hb] at hp ⊢;exact h b p hp
theorem BldW.over{S₀ S:St}{b x:Nat}{s:List UInt8}(h:BldW S₀ S b s)(hx:S x=none∨∃ o,S₀ x=some o)(o:Own):BldW (S₀.upd x o) (S.upd x o) b s:=by
 obtain⟨h0,S1,h1,h2⟩:=h;obtain⟨p,t,hp,hS,ht⟩:=h2.at_;have hbx:b≠x:=by
  rintro rfl
  rcases hx with hx | ⟨o,hx⟩
  ·rw[St.leW_none h1 hx] at hS;cases hS
  ·rw[h2.new] at hx;cases hx
 have htx:s≠[]→t≠x:=by
  rintro hs rfl;obtain⟨k1,k2,k3⟩:=ht hs
  rcases hx with hx | ⟨o,hx⟩
  ·rw[St.leW_none h1 hx] at k1;cases k1
  ·rw[k2] at hx;cases hx
 refine⟨St.le_over h0 x o,_,St.leW_over h1 x o,St.le_over h2.le x o,by rw[St.upd_ne _ _ _ _ hbx];exact h2.new,p,t,hp,by rw[St.upd_ne _ _ _ _ hbx];exact hS,fun hs=>?_⟩
 obtain⟨k1,k2,k3⟩:=ht hs;rw[St.upd_ne _ _ _ _ (htx hs),St.upd_ne _ _ _ _ (htx hs)];exact⟨k1,k2,k3⟩
theorem BldW.del{S₀ S:St}{b x:Nat}{s:List UInt8}(h:BldW S₀ S b s)(hx:∃ o,S₀ x=some o):BldW (S₀.del x) (S.del x) b s:=by
 obtain⟨h0,S1,h1,h2⟩:=h;obtain⟨p,t,hp,hS,ht⟩:=h2.at_;obtain⟨o,hx⟩:=hx;have hbx:b≠x:=by
  rintro rfl;rw[h2.new] at hx;cases hx
 have htx:s≠[]→t≠x:=by
  rintro hs rfl;obtain⟨k1,k2,k3⟩:=ht hs;rw[k2] at hx;cases hx
 refine⟨St.le_dels h0 x,_,St.leW_del h1 x,St.le_dels h2.le x,by rw[St.del_ne _ _ _ hbx];exact h2.new,p,t,hp,by rw[St.del_ne _ _ _ hbx];exact hS,fun hs=>?_⟩
 obtain⟨k1,k2,k3⟩:=ht hs;rw[St.del_ne _ _ _ (htx hs),St.del_ne _ _ _ (htx hs)];exact⟨k1,k2,k3⟩
def textK(l:List Nat)(pre:List UInt8):Nat→List UInt8
 | 0=>pre
 | k+1=>textK l pre k++((if k=0 then [] else Lib.repeatL [48] (9-(Lib.itoa ((l.getD (l.length-1-k) 0:Nat):Int)).length))++Lib.itoa ((l.getD (l.length-1-k) 0:Nat):Int))
def textF(neg:Bool)(l:List Nat):List UInt8:=textK l (if neg then [45] else []) l.length
theorem textK_len(l:List Nat)(pre:List UInt8)(hd:∀ d∈l,d<1000000000)(hp:pre.length≤1):∀ k,(textK l pre k).length≤1+18*k
 | 0=>by simpa [textK] using hp
 | k+1=>by
   have:=textK_len l pre hd hp k
   have h9:(Lib.itoa ((l.getD (l.length-1-k) 0:Nat):Int)).length≤9:=by
    refine itoa_len9 ?_;simp only[List.getD]
    cases h:l[l.length-1-k]? with
    | none=>simp
    | some d=>exact hd d (List.mem_of_getElem? h)
   simp only[textK,List.length_append]
   split
   ·simp only[List.length_nil];omega
   ·rw[Lib.repeatL_length];simp only[List.length_cons,List.length_nil];omega
theorem St.upd_id{S:St}{x:Nat}{o:Own}(h:S x=some o):S.upd x o=S:=by
 funext y
 by_cases hy:y=x
 ·subst hy;rw[St.upd_same,h]
 ·rw[St.upd_ne _ _ _ _ hy]
theorem Text_far(hG:G10 G)(neg:Bool)(l:List Nat)(hl0:l≠[])(hd:∀ d∈l,d<1000000000)(hl:l.length≤1000000)(S:St) :
 Triple P (C G) 196 [farAV neg l] S fun o S'=>o=.ret (.str ⟨(textF neg l).toArray⟩)∧S'=S:=by
 refine triple_of_awp (hT G) hm Tryz.func196 rfl (by decide +kernel) rfl (by decide +kernel) (by show 1≤_;decide +kernel) rfl ?_
 refine awp_seq2 fun K hK hQ=>?_
 conv=>whnf
 intro b1 hb1;conv=>whnf
 refine hK _ _ ?_;clear hK hQ K;refine awp_seq2 fun K hK hQ=>?_
 conv=>whnf
 refine⟨_,_,St.upd_same _ _ _,?_⟩;conv=>whnf
 intro c hc;have hc:=hc (rowsU_ne hl0);subst hc;conv=>whnf
 refine hK _ _ ?_;clear hK hQ K;refine awp_seq2 fun K hK hQ=>?_
 conv=>whnf
 intro b3 hb3;conv=>whnf
 refine hK _ _ ?_;clear hK hQ K;have k1:=St.upd_same S b1 (.obj 237 [.int .i64 0,.bool neg,.sl .any 1 (rowsU l)]);have hnew:=BldW.new hb3;have hle01:St.le S (S.upd b1 (.obj 237 [.int .i64 0,.bool neg,.sl .any 1 (rowsU l)])):=St.le_upd' (St.le_refl _) hb1 _;generalize S.upd b1 (.obj 237 [.int .i64 0,.bool neg,.sl .any 1 (rowsU l)])=S1 at *;generalize S1.upd b3 (.obj 266 [.nilp,.nils])=S2 at *;refine awp_seq2 fun K hK hQ=>?_
 conv=>whnf
 refine⟨_,_,hnew.1 _ _ k1,?_⟩;conv=>whnf
 refine split_of (fun hneg=>?_) (fun hneg=>?_)
 ·subst hneg;conv=>whnf
  refine(hnew.byte 45 (by simp)).mono ?_
  rintro o S3 ⟨rfl,h3⟩;conv=>whnf
  refine hK _ _ ?_;clear hK hQ K
  -- S3,h3:BldW S1 S3 b3 pre;k1:S1 b1=..
  have hk1:=h3.1 _ _ k1
  refine awp_seq2 fun K hK hQ=>?_
  conv=>whnf
  refine⟨_,_,hk1,?_⟩;conv=>whnf
  refine(Backward_ok l _).mono ?_;rintro o S' ⟨bs,hbs,rfl,rfl⟩;have h4:=h3.over (.inl hbs) (.obj 235 [.sl .any 1 (rowsU l)]);conv=>whnf
  intro l0 R hl0;have h5:=h4.over (.inl hl0) (.lp R .ready);have nl:bs≠l0:=(St.ne_upd hl0).symm;have n1:b1≠bs:=St.ne_of hbs hk1;have n2:b1≠l0:=St.ne_of hl0 (St.ov n1 hk1);have f1:((S1.upd bs (.obj 235 [.sl .any 1 (rowsU l)])).upd l0 (.lp R .ready)) b1=some (.obj 237 [.int .i64 0,.bool true,.sl .any 1 (rowsU l)]):=St.ov n2 (St.ov n1 k1);have fb:((S1.upd bs (.obj 235 [.sl .any 1 (rowsU l)])).upd l0 (.lp R .ready)) bs=some (.obj 235 [.sl .any 1 (rowsU l)]):=St.ov nl (St.upd_same _ _ _);have fl:((S1.upd bs (.obj 235 [.sl .any 1 (rowsU l)])).upd l0 (.lp R .ready)) l0=some (.lp R .ready):=St.upd_same _ _ _;have le1:St.le S1 (((S1.upd bs (.obj 235 [.sl .any 1 (rowsU l)])).upd l0 (.lp R .ready)).del l0):=by
   have nb:S1 bs=none:=by
    cases e:S1 bs with
    | none=>rfl
    | some o=>rw[h3.1 _ _ e] at hbs;cases hbs
   have n0:S1 l0=none:=by
    cases e:S1 l0 with
    | none=>rfl
    | some o=>rw[St.ov (St.ne_of nb e) (h3.1 _ _ e)] at hl0;cases hl0
   exact St.le_del' (St.le_upd (St.le_upd (St.le_refl _) nb _) n0 _) n0
  generalize ((S1.upd bs (.obj 235 [.sl .any 1 (rowsU l)])).upd l0 (.lp R .ready))=S0 at *;refine(Backward1_ok l (by omega) bs l0 _ (fun k S'=>BldW S0 S' b3 (textK l [45] k)) _ h5 (fun k S' _ h=>h.1 _ _ fb) (fun k S' hk2 hI K hK=>?_)).mono ?_
  ·refine⟨⟨hI.1 _ _ fl,rfl⟩,?_⟩;conv=>whnf
   refine⟨hI.1 _ _ fl,?_⟩;have hI1:=hI.over (.inr ⟨_,fl⟩) (.lp R .busy);have f1':(S0.upd l0 (.lp R .busy)) b1=some (.obj 237 [.int .i64 0,.bool true,.sl .any 1 (rowsU l)]):=St.ov n2 f1;have fl':=St.upd_same S0 l0 (.lp R .busy);have hS0:(S0.upd l0 (.lp R .busy)).upd l0 (.lp R .ready)=S0:=by rw[St.upd_upd];exact St.upd_id fl
   have edd:l.getD (l.length-1-k) 0=l[l.length-1-k]:=by simp only[List.getD];rw[List.getElem?_eq_getElem (by omega)];rfl
   have hdd:=hd _ (List.getElem_mem (show l.length-1-k<l.length by omega))
   have htl:=textK_len l [45] hd (by simp) k
   have hnx:textK l [45] (k+1)=textK l [45] k++((if k=0 then [] else Lib.repeatL [48] (9-(Lib.itoa ((l[l.length-1-k]:Nat):Int)).length))++Lib.itoa ((l[l.length-1-k]:Nat):Int)):=by rw[← edd];rfl
   generalize l[l.length-1-k]=d at *;generalize textK l [45] k=tk at *;rw[hnx] at hK;have h9:=itoa_len9 hdd;have wd:IntKind.i64.wrap (d:Int)=(d:Int):=wrap_i64 (by omega) (by omega)
   conv=>whnf
   rw[wd];refine(itoa_ok hG (d:Int) (by omega) (by omega) _).mono ?_
   rintro o S4 ⟨rfl,rfl⟩;conv=>whnf
   refine⟨_,_,hI1.1 _ _ f1',?_⟩;conv=>whnf
   intro _;conv=>whnf
   have wl:IntKind.i64.wrap (((rowsU l).length:Int)-1)=(l.length:Int)-1:=by rw[rowsU_len,wrap_i64 (by omega) (by omega)]
   rw[wl];refine split_of (fun hlt=>?_) (fun hlt=>?_)
   ·have hk0:k≠0:=by have:=of_decide_eq_true hlt;omega
    rw[if_neg hk0] at hK;conv=>whnf
    have e9:IntKind.i64.wrap (9-((itoaS (d:Int)).size:Int))=((9-(Lib.itoa (d:Int)).length:Nat):Int):=by rw[itoaS_size,wrap_i64 (by omega) (by omega)];omega
    rw[e9];refine(repeat_ok _ (9-(Lib.itoa (d:Int)).length) (by omega) (by show 1*_≤_;omega) _).mono ?_
    rintro o S4 ⟨rfl,rfl⟩;conv=>whnf
    have er:(repS ⟨#[48]⟩ (9-(Lib.itoa (d:Int)).length)).data.toList=Lib.repeatL [48] (9-(Lib.itoa (d:Int)).length):=by simp[repS]
    have erl:(repS ⟨#[48]⟩ (9-(Lib.itoa (d:Int)).length)).size=9-(Lib.itoa (d:Int)).length:=by
     show(repS ⟨#[48]⟩ (9-(Lib.itoa (d:Int)).length)).data.toList.length=_
     rw[er,Lib.repeatL_length];simp
    refine(hI1.write (repS ⟨#[48]⟩ (9-(Lib.itoa (d:Int)).length)) (by rw[erl];omega)).mono ?_
    rintro o S4 ⟨rfl,hI2⟩;rw[er] at hI2;conv=>whnf
    refine(hI2.write (itoaS (d:Int)) (by rw[List.length_append,Lib.repeatL_length,itoaS_size];simp;omega)).mono ?_
    rintro o S5 ⟨rfl,hI3⟩;rw[itoaS_list,List.append_assoc] at hI3;conv=>whnf
    refine⟨hI3.1 _ _ fl',?_⟩;conv=>whnf
    have hI4:=hI3.over (.inr ⟨_,fl'⟩) (.lp R .ready)
    rw[hS0] at hI4;exact hK _ hI4
   ·have hk0:k=0:=by have:=of_decide_eq_false hlt;omega
    rw[if_pos hk0,List.nil_append] at hK;conv=>whnf
    refine(hI1.write (itoaS (d:Int)) (by rw[itoaS_size];omega)).mono ?_
    rintro o S5 ⟨rfl,hI3⟩;rw[itoaS_list] at hI3;conv=>whnf
    refine⟨hI3.1 _ _ fl',?_⟩;conv=>whnf
    have hI4:=hI3.over (.inr ⟨_,fl'⟩) (.lp R .ready)
    rw[hS0] at hI4;exact hK _ hI4
  ·rintro o S' ⟨⟨x,rfl⟩,h6⟩;refine⟨⟨_,rfl⟩,.ready,h6.1 _ _ fl,?_⟩;have h7:=h6.del ⟨_,fl⟩;conv=>whnf
   refine hK _ _ ?_;clear hK hQ K;conv=>whnf
   refine h7.string.mono ?_;rintro o S'' ⟨rfl,h8⟩;conv=>whnf
   exact⟨_,_,⟨rfl,rfl⟩,St.le_trans hle01 (St.le_trans le1 h8),AV.leS_refl _ _ _⟩
 ·subst hneg;conv=>whnf
  refine hK _ _ ?_;clear hK hQ K;have h3:=hnew
  -- S3,h3:BldW S1 S3 b3 pre;k1:S1 b1=..
  have hk1:=h3.1 _ _ k1
  refine awp_seq2 fun K hK hQ=>?_
  conv=>whnf
  refine⟨_,_,hk1,?_⟩;conv=>whnf
  refine(Backward_ok l _).mono ?_;rintro o S' ⟨bs,hbs,rfl,rfl⟩;have h4:=h3.over (.inl hbs) (.obj 235 [.sl .any 1 (rowsU l)]);conv=>whnf
  intro l0 R hl0;have h5:=h4.over (.inl hl0) (.lp R .ready);have nl:bs≠l0:=(St.ne_upd hl0).symm;have n1:b1≠bs:=St.ne_of hbs hk1;have n2:b1≠l0:=St.ne_of hl0 (St.ov n1 hk1);have f1:((S1.upd bs (.obj 235 [.sl .any 1 (rowsU l)])).upd l0 (.lp R .ready)) b1=some (.obj 237 [.int .i64 0,.bool false,.sl .any 1 (rowsU l)]):=St.ov n2 (St.ov n1 k1);have fb:((S1.upd bs (.obj 235 [.sl .any 1 (rowsU l)])).upd l0 (.lp R .ready)) bs=some (.obj 235 [.sl .any 1 (rowsU l)]):=St.ov nl (St.upd_same _ _ _);have fl:((S1.upd bs (.obj 235 [.sl .any 1 (rowsU l)])).upd l0 (.lp R .ready)) l0=some (.lp R .ready):=St.upd_same _ _ _;have le1:St.le S1 (((S1.upd bs (.obj 235 [.sl .any 1 (rowsU l)])).upd l0 (.lp R .ready)).del l0):=by
   have nb:S1 bs=none:=by
    cases e:S1 bs with
    | none=>rfl
    | some o=>rw[h3.1 _ _ e] at hbs;cases hbs
   have n0:S1 l0=none:=by
    cases e:S1 l0 with
    | none=>rfl
    | some o=>rw[St.ov (St.ne_of nb e) (h3.1 _ _ e)] at hl0;cases hl0
   exact St.le_del' (St.le_upd (St.le_upd (St.le_refl _) nb _) n0 _) n0
  generalize ((S1.upd bs (.obj 235 [.sl .any 1 (rowsU l)])).upd l0 (.lp R .ready))=S0 at *;refine(Backward1_ok l (by omega) bs l0 _ (fun k S'=>BldW S0 S' b3 (textK l [] k)) _ h5 (fun k S' _ h=>h.1 _ _ fb) (fun k S' hk2 hI K hK=>?_)).mono ?_
  ·refine⟨⟨hI.1 _ _ fl,rfl⟩,?_⟩;conv=>whnf
   refine⟨hI.1 _ _ fl,?_⟩;have hI1:=hI.over (.inr ⟨_,fl⟩) (.lp R .busy);have f1':(S0.upd l0 (.lp R .busy)) b1=some (.obj 237 [.int .i64 0,.bool false,.sl .any 1 (rowsU l)]):=St.ov n2 f1;have fl':=St.upd_same S0 l0 (.lp R .busy);have hS0:(S0.upd l0 (.lp R .busy)).upd l0 (.lp R .ready)=S0:=by rw[St.upd_upd];exact St.upd_id fl
   have edd:l.getD (l.length-1-k) 0=l[l.length-1-k]:=by simp only[List.getD];rw[List.getElem?_eq_getElem (by omega)];rfl
   have hdd:=hd _ (List.getElem_mem (show l.length-1-k<l.length by omega))
   have htl:=textK_len l [] hd (by simp) k
   have hnx:textK l [] (k+1)=textK l [] k++((if k=0 then [] else Lib.repeatL [48] (9-(Lib.itoa ((l[l.length-1-k]:Nat):Int)).length))++Lib.itoa ((l[l.length-1-k]:Nat):Int)):=by rw[← edd];rfl
   generalize l[l.length-1-k]=d at *;generalize textK l [] k=tk at *;rw[hnx] at hK;have h9:=itoa_len9 hdd;have wd:IntKind.i64.wrap (d:Int)=(d:Int):=wrap_i64 (by omega) (by omega)
   conv=>whnf
   rw[wd];refine(itoa_ok hG (d:Int) (by omega) (by omega) _).mono ?_
   rintro o S4 ⟨rfl,rfl⟩;conv=>whnf
   refine⟨_,_,hI1.1 _ _ f1',?_⟩;conv=>whnf
   intro _;conv=>whnf
   have wl:IntKind.i64.wrap (((rowsU l).length:Int)-1)=(l.length:Int)-1:=by rw[rowsU_len,wrap_i64 (by omega) (by omega)]
   rw[wl];refine split_of (fun hlt=>?_) (fun hlt=>?_)
   ·have hk0:k≠0:=by have:=of_decide_eq_true hlt;omega
    rw[if_neg hk0] at hK;conv=>whnf
    have e9:IntKind.i64.wrap (9-((itoaS (d:Int)).size:Int))=((9-(Lib.itoa (d:Int)).length:Nat):Int):=by rw[itoaS_size,wrap_i64 (by omega) (by omega)];omega
    rw[e9];refine(repeat_ok _ (9-(Lib.itoa (d:Int)).length) (by omega) (by show 1*_≤_;omega) _).mono ?_
    rintro o S4 ⟨rfl,rfl⟩;conv=>whnf
    have er:(repS ⟨#[48]⟩ (9-(Lib.itoa (d:Int)).length)).data.toList=Lib.repeatL [48] (9-(Lib.itoa (d:Int)).length):=by simp[repS]
    have erl:(repS ⟨#[48]⟩ (9-(Lib.itoa (d:Int)).length)).size=9-(Lib.itoa (d:Int)).length:=by
     show(repS ⟨#[48]⟩ (9-(Lib.itoa (d:Int)).length)).data.toList.length=_
     rw[er,Lib.repeatL_length];simp
    refine(hI1.write (repS ⟨#[48]⟩ (9-(Lib.itoa (d:Int)).length)) (by rw[erl];omega)).mono ?_
    rintro o S4 ⟨rfl,hI2⟩;rw[er] at hI2;conv=>whnf
    refine(hI2.write (itoaS (d:Int)) (by rw[List.length_append,Lib.repeatL_length,itoaS_size];simp;omega)).mono ?_
    rintro o S5 ⟨rfl,hI3⟩;rw[itoaS_list,List.append_assoc] at hI3;conv=>whnf
    refine⟨hI3.1 _ _ fl',?_⟩;conv=>whnf
    have hI4:=hI3.over (.inr ⟨_,fl'⟩) (.lp R .ready)
    rw[hS0] at hI4;exact hK _ hI4
   ·have hk0:k=0:=by have:=of_decide_eq_false hlt;omega
    rw[if_pos hk0,List.nil_append] at hK;conv=>whnf
    refine(hI1.write (itoaS (d:Int)) (by rw[itoaS_size];omega)).mono ?_
    rintro o S5 ⟨rfl,hI3⟩;rw[itoaS_list] at hI3;conv=>whnf
    refine⟨hI3.1 _ _ fl',?_⟩;conv=>whnf
    have hI4:=hI3.over (.inr ⟨_,fl'⟩) (.lp R .ready)
    rw[hS0] at hI4;exact hK _ hI4
  ·rintro o S' ⟨⟨x,rfl⟩,h6⟩;refine⟨⟨_,rfl⟩,.ready,h6.1 _ _ fl,?_⟩;have h7:=h6.del ⟨_,fl⟩;conv=>whnf
   refine hK _ _ ?_;clear hK hQ K;conv=>whnf
   refine h7.string.mono ?_;rintro o S'' ⟨rfl,h8⟩;conv=>whnf
   exact⟨_,_,⟨rfl,rfl⟩,St.le_trans hle01 (St.le_trans le1 h8),AV.leS_refl _ _ _⟩
def GErr(G:Nat→Option (List AV))(g:Nat):Prop:=G g=some [.nili]∨∃ te,G g=some [.ifc te .top]
theorem glob_err{w:World}{S:St}(hg:Good (C G) w S){g:Nat}(h:GErr G g):∃ ev,w.cell? ⟨g,0,none⟩=some ev∧(ev=.nilIface∨∃ te pe,ev=.iface te pe):=by
 rcases h with h | ⟨te,h⟩
 ·obtain⟨_,_,h3,_⟩:=hg.2 g _ h;simp only[RelAt] at h3;obtain⟨⟨v,⟨_,h4,_⟩,h5⟩,_⟩:=h3;simp only[Rel] at h5;exact⟨v,h4,.inl h5⟩
 ·obtain⟨_,_,h3,_⟩:=hg.2 g _ h;simp only[RelAt] at h3;obtain⟨⟨v,⟨_,h4,_⟩,h5⟩,_⟩:=h3;simp only[Rel] at h5;obtain⟨y,h5,_⟩:=h5;exact⟨v,h4,.inr ⟨te,y,h5⟩⟩
structure GS (G:Nat→Option (List AV)):Prop where
 tab:G10 G
 esyn:GErr G 4
 eran:GErr G 5
def atoiAV(s:ByteArray):AV:=match Lib.atoiAll s.data.toList with
 | .ok v=>.tu [.int .i64 v,.nili]
 | .range=>.tu [.int .i64 (Lib.atoiSat s.data.toList),.ifc 277 .top]
 | _=>.tu [.int .i64 0,.ifc 277 .top]
theorem atoi_ok(hG:GS G)(s:ByteArray)(hl:s.size≤281474976710656)(S:St):Triple P (C G) 195 [.str s] S fun o S'=>o=.ret (atoiAV s)∧S'=S:=by
 refine Triple.of_calls (x:=atoiAV s) Tryz.func195 rfl (by decide +kernel) (fun w vs hg hr=>?_) ⟨rfl,rfl⟩
 obtain⟨v,hv,r1⟩:=RelL.one hr;simp only[Rel] at r1;subst r1;rw[show vs=#[.string s] from arr_of_list hv];unfold atoiAV
 cases h:Lib.atoiAll s.data.toList with
 | ok u=>
   refine(Tryz.strconv_Atoi_ok s (by omega) u h w).mono fun e w' he=>?_
   obtain⟨rfl,hw⟩:=he;refine⟨_,rfl,by simp only[Rel,RelL];exact⟨_,rfl,_,_,rfl,rfl,_,_,rfl,rfl,rfl⟩,?_⟩
   rcases hw with rfl | ⟨t,rfl⟩
   ·exact Below.refl _ _
   ·exact Lib.bytesWorld_below w 5 t
 | range=>
   obtain⟨ev,h1,h2⟩:=glob_err hg hG.eran;refine(Tryz.strconv_Atoi_range s hl h ev w h1 h2).mono fun e w' he=>?_
   obtain⟨N,rfl,_,_,hb⟩:=he;exact⟨_,rfl,by simp only[Rel,RelL];exact⟨_,rfl,_,_,rfl,rfl,_,_,rfl,⟨_,rfl,trivial⟩,rfl⟩,hb⟩
 | _=>
   obtain⟨ev,h1,h2⟩:=glob_err hg hG.esyn;refine(Tryz.strconv_Atoi_bad s hl (fun v hv=>by rw[h] at hv;cases hv) (fun hv=>by rw[h] at hv;cases hv) ev w h1 h2).mono fun e w' he=>?_
   obtain⟨N,rfl,_,_,hb⟩:=he;exact⟨_,rfl,by simp only[Rel,RelL];exact⟨_,rfl,_,_,rfl,rfl,_,_,rfl,⟨_,rfl,trivial⟩,rfl⟩,hb⟩
def smallV(z:Int):Int×Bool:=
 if near z then (z,true) else if 3<(limbs z.natAbs).length then (0,false) else
 match Lib.atoiAll (textF (decide (z<0)) (limbs z.natAbs)) with
 | .ok v=>(v,true)
 | _=>(0,false)
theorem Small_ok(hG:GS G)(z:Int)(S:St):Triple P (C G) 187 [bigAV z] S fun o S'=>o=.ret (.tu [.int .i64 (smallV z).1,.bool (smallV z).2])∧S'=S:=by
 unfold smallV
 by_cases h:near z
 ·rw[bigAV_near h,if_pos h];refine triple_of_awp (hT G) hm Tryz.func187 rfl (by decide +kernel) rfl (by decide +kernel) (by show 1≤_;decide +kernel) rfl ?_
  conv=>whnf
  intro b hb;conv=>whnf
  refine⟨_,_,St.upd_same _ _ _,?_⟩;conv=>whnf
  refine⟨_,_,St.upd_same _ _ _,?_⟩;conv=>whnf
  exact⟨_,_,⟨rfl,rfl⟩,St.le_upd' (St.le_refl _) hb _,AV.leS_refl _ _ _⟩
 ·have hp:=far_pos h
  have hl0:=limbs_ne (n:=z.natAbs) (by omega)
  have ht:=fun hl S=>Text_far (G:=G) hG.tab (decide (z<0)) (limbs z.natAbs) hl0 (limbs_lt _) hl S
  have hlen:∀ k,(limbs z.natAbs).length=k→(textF (decide (z<0)) (limbs z.natAbs)).length≤1+18*k:=fun k hk=>by
   subst hk;exact textK_len _ _ (limbs_lt _) (by split<;>simp) _
  rw[bigAV_far h,if_neg h];generalize limbs z.natAbs=l at *;generalize decide (z<0)=neg at *;refine triple_of_awp (hT G) hm Tryz.func187 rfl (by decide +kernel) rfl (by decide +kernel) (by show 1≤_;decide +kernel) rfl ?_
  conv=>whnf
  intro b hb;conv=>whnf
  refine⟨_,_,St.upd_same _ _ _,?_⟩;conv=>whnf
  intro c hc;have hc:=hc (rowsU_ne hl0);subst hc;conv=>whnf
  refine⟨_,_,St.upd_same _ _ _,?_⟩;conv=>whnf
  intro _;conv=>whnf
  refine split_of (fun h3=>?_) (fun h3=>?_)
  ·have h3:3<l.length:=by have:=of_decide_eq_true h3;rw[rowsU_len] at this;omega
   rw[if_pos h3];conv=>whnf
   exact⟨_,_,⟨rfl,rfl⟩,St.le_upd' (St.le_refl _) hb _,AV.leS_refl _ _ _⟩
  ·have h3:¬ 3<l.length:=by have:=of_decide_eq_false h3;rw[rowsU_len] at this;omega
   rw[if_neg h3];have ht:=ht (by omega)
   have hlen:=hlen _ rfl
   generalize textF neg l=tx at *;conv=>whnf
   refine⟨_,_,St.upd_same _ _ _,?_⟩;conv=>whnf
   refine(ht _).mono ?_;rintro o S' ⟨rfl,rfl⟩;conv=>whnf
   have ha:=atoi_ok hG ⟨tx.toArray⟩ (by show tx.toArray.size≤_;simp;omega) (S.upd b (.obj 237 [.int .i64 0,.bool neg,.sl .any 1 (rowsU l)]))
   unfold atoiAV at ha;have el:(⟨tx.toArray⟩:ByteArray).data.toList=tx:=by simp
   rw[el] at ha;generalize Lib.atoiSat tx=sat at *
   cases hat:Lib.atoiAll tx with
   | ok v=>
     rw[hat] at ha;refine ha.mono ?_;rintro o S' ⟨rfl,rfl⟩;conv=>whnf
     exact⟨_,_,⟨rfl,rfl⟩,St.le_upd' (St.le_refl _) hb _,AV.leS_refl _ _ _⟩
   | range=>
     rw[hat] at ha;refine ha.mono ?_;rintro o S' ⟨rfl,rfl⟩;conv=>whnf
     exact⟨_,_,⟨rfl,rfl⟩,St.le_upd' (St.le_refl _) hb _,AV.leS_refl _ _ _⟩
   | _=>
     rw[hat] at ha;refine ha.mono ?_;rintro o S' ⟨rfl,rfl⟩;conv=>whnf
     exact⟨_,_,⟨rfl,rfl⟩,St.le_upd' (St.le_refl _) hb _,AV.leS_refl _ _ _⟩
theorem trimPrefix_len(l p:List UInt8):(Lib.trimPrefix l p).length≤l.length:=by
 unfold Lib.trimPrefix
 split<;>simp
theorem okZ_parse(l:List UInt8){k:Nat}(hl:l.length≤k):okZ ((parseI l).getD 0) k:=by
 unfold okZ;refine limbs_len _ _ ?_;have h1:((parseI l).getD 0).natAbs<10 ^ l.length:=by
  unfold parseI;simp only[]
  split
  ·exact Nat.pow_pos (by decide)
  ·rename_i h
   have hd:(Lib.trimPrefix l [45]).all digitB=true:=by
    cases hh:(Lib.trimPrefix l [45]).all digitB with
    | true=>rfl
    | false=>exact absurd (Or.inr (Or.inr hh)) h
   have:=decV_lt _ hd
   have h2:=Nat.pow_le_pow_right (n:=10) (by decide) (trimPrefix_len l [45])
   simp only[Option.getD_some]
   split<;>simp<;>omega
 refine Nat.lt_of_lt_of_le h1 ?_;rw[show(1000000000:Nat)=10 ^ 9 by decide,← Nat.pow_mul]
 exact Nat.pow_le_pow_right (by decide) (by omega)
def isNumV(l:List UInt8)(low:Int):Bool:=(parseI l).isSome && (decide (low<0) || decide (low≤(parseI l).getD 0))
theorem isNumber_ok(s:ByteArray)(hs:s.size≤9000000)(low:Int)(h0:-9223372036854775808≤low)(h1:low≤9223372036854775807)(S:St) :
 Triple P (C G) 170 [.str s,.int .i64 low] S fun o S'=>o=.ret (.bool (isNumV s.data.toList low))∧S'=S:=by
 have hp:=fun S=>Parse_ok (G:=G) s (by omega) S
 have hsl:s.data.toList.length=s.size:=by rw[Array.length_toList];rfl
 have hz:=okZ_parse s.data.toList (k:=9000000) (by omega)
 have hz2:okZ low 9000000:=by
  unfold okZ;refine Nat.le_trans (limbs_len 3 _ (by omega)) (by decide)
 have ho:=fun S=>Of_ok (G:=G) low h0 h1 S
 unfold isNumV;generalize hpi:parseI s.data.toList=pz at *;have hcmp:=fun S=>Cmp_ok (G:=G) (pz.getD 0) low hz hz2 S
 have hsg:decide (bSign (pz.getD 0-low) ≥ 0)=decide (low≤pz.getD 0):=by
  unfold bSign
  by_cases h:pz.getD 0-low<0
  ·simp[h];omega
  ·rw[if_neg h]
   by_cases h':pz.getD 0-low=0
   ·simp[h'];omega
   ·rw[if_neg h'];simp;omega
 generalize hzz:pz.getD 0=z at *;rw[← hsg];clear hsg;generalize pz.isSome=f at *
 by_cases hx:near z
 ·rw[bigAV_near hx] at *
  by_cases hl:near low
  ·rw[bigAV_near hl] at *;refine triple_of_awp (hT G) hm Tryz.func170 rfl (by decide +kernel) rfl (by decide +kernel) (by show 2≤_;decide +kernel) rfl ?_
   conv=>whnf
   refine(hp _).mono ?_;rintro o S' ⟨rfl,rfl⟩;conv=>whnf
   intro b5 hb5;conv=>whnf
   refine⟨_,_,St.upd_same _ _ _,?_⟩;conv=>whnf
   refine⟨[8,9],(.free 0 (.free 1 (.free 2 (.free 3 (.free 4 (.free 5 (.free 6 (.free 7 (.free 8 (.free 9 (.free 10 (.free 11 (.free 12 (.free 13 .done)))))))))))))),_,by decide +kernel,?_,fun _ _ h=>⟨_,.inl rfl,h⟩⟩
   cases f with
   | false=>
     conv=>whnf
     exact⟨_,_,⟨rfl,rfl⟩,by rw[St.upd_upd];exact St.le_upd' (St.le_refl _) hb5 _,AV.leS_refl _ _ _⟩
   | true=>
     conv=>whnf
     cases hd:decide (low<0) with
     | true=>
       rw[hd] at *;conv=>whnf
       exact⟨_,_,⟨rfl,rfl⟩,by rw[St.upd_upd];exact St.le_upd' (St.le_refl _) hb5 _,AV.leS_refl _ _ _⟩
     | false=>
       rw[hd] at *;conv=>whnf
       refine⟨_,_,St.upd_same _ _ _,?_⟩;conv=>whnf
       refine⟨nearAV low,(ho _).mono ?_,?_⟩
       ·rintro o S' ⟨rfl,rfl⟩;exact⟨rfl,rfl⟩
       conv=>whnf
       refine⟨.int .i64 (bSign (z-low)),(hcmp _).mono ?_,?_⟩
       ·rintro o S' ⟨rfl,rfl⟩;exact⟨rfl,rfl⟩
       conv=>whnf
       exact⟨_,_,⟨rfl,rfl⟩,by rw[St.upd_upd];exact St.le_upd' (St.le_refl _) hb5 _,AV.leS_refl _ _ _⟩
  ·rw[bigAV_far hl] at *;refine triple_of_awp (hT G) hm Tryz.func170 rfl (by decide +kernel) rfl (by decide +kernel) (by show 2≤_;decide +kernel) rfl ?_
   conv=>whnf
   refine(hp _).mono ?_;rintro o S' ⟨rfl,rfl⟩;conv=>whnf
   intro b5 hb5;conv=>whnf
   refine⟨_,_,St.upd_same _ _ _,?_⟩;conv=>whnf
   refine⟨[8,9],(.free 0 (.free 1 (.free 2 (.free 3 (.free 4 (.free 5 (.free 6 (.free 7 (.free 8 (.free 9 (.free 10 (.free 11 (.free 12 (.free 13 .done)))))))))))))),_,by decide +kernel,?_,fun _ _ h=>⟨_,.inl rfl,h⟩⟩
   cases f with
   | false=>
     conv=>whnf
     exact⟨_,_,⟨rfl,rfl⟩,by rw[St.upd_upd];exact St.le_upd' (St.le_refl _) hb5 _,AV.leS_refl _ _ _⟩
   | true=>
     conv=>whnf
     cases hd:decide (low<0) with
     | true=>
       rw[hd] at *;conv=>whnf
       exact⟨_,_,⟨rfl,rfl⟩,by rw[St.upd_upd];exact St.le_upd' (St.le_refl _) hb5 _,AV.leS_refl _ _ _⟩
     | false=>
       rw[hd] at *;conv=>whnf
       refine⟨_,_,St.upd_same _ _ _,?_⟩;conv=>whnf
       refine⟨farAV (decide (low<0)) (limbs low.natAbs),(ho _).mono ?_,?_⟩
       ·rintro o S' ⟨rfl,rfl⟩;exact⟨rfl,rfl⟩
       conv=>whnf
       refine⟨.int .i64 (bSign (z-low)),(hcmp _).mono ?_,?_⟩
       ·rintro o S' ⟨rfl,rfl⟩;exact⟨rfl,rfl⟩
       conv=>whnf
       exact⟨_,_,⟨rfl,rfl⟩,by rw[St.upd_upd];exact St.le_upd' (St.le_refl _) hb5 _,AV.leS_refl _ _ _⟩
 ·rw[bigAV_far hx] at *
  by_cases hl:near low
  ·rw[bigAV_near hl] at *;refine triple_of_awp (hT G) hm Tryz.func170 rfl (by decide +kernel) rfl (by decide +kernel) (by show 2≤_;decide +kernel) rfl ?_
   conv=>whnf
   refine(hp _).mono ?_;rintro o S' ⟨rfl,rfl⟩;conv=>whnf
   intro b5 hb5;conv=>whnf
   refine⟨_,_,St.upd_same _ _ _,?_⟩;conv=>whnf
   refine⟨[8,9],(.free 0 (.free 1 (.free 2 (.free 3 (.free 4 (.free 5 (.free 6 (.free 7 (.free 8 (.free 9 (.free 10 (.free 11 (.free 12 (.free 13 .done)))))))))))))),_,by decide +kernel,?_,fun _ _ h=>⟨_,.inl rfl,h⟩⟩
   cases f with
   | false=>
     conv=>whnf
     exact⟨_,_,⟨rfl,rfl⟩,by rw[St.upd_upd];exact St.le_upd' (St.le_refl _) hb5 _,AV.leS_refl _ _ _⟩
   | true=>
     conv=>whnf
     cases hd:decide (low<0) with
     | true=>
       rw[hd] at *;conv=>whnf
       exact⟨_,_,⟨rfl,rfl⟩,by rw[St.upd_upd];exact St.le_upd' (St.le_refl _) hb5 _,AV.leS_refl _ _ _⟩
     | false=>
       rw[hd] at *;conv=>whnf
       refine⟨_,_,St.upd_same _ _ _,?_⟩;conv=>whnf
       refine⟨nearAV low,(ho _).mono ?_,?_⟩
       ·rintro o S' ⟨rfl,rfl⟩;exact⟨rfl,rfl⟩
       conv=>whnf
       refine⟨.int .i64 (bSign (z-low)),(hcmp _).mono ?_,?_⟩
       ·rintro o S' ⟨rfl,rfl⟩;exact⟨rfl,rfl⟩
       conv=>whnf
       exact⟨_,_,⟨rfl,rfl⟩,by rw[St.upd_upd];exact St.le_upd' (St.le_refl _) hb5 _,AV.leS_refl _ _ _⟩
  ·rw[bigAV_far hl] at *;refine triple_of_awp (hT G) hm Tryz.func170 rfl (by decide +kernel) rfl (by decide +kernel) (by show 2≤_;decide +kernel) rfl ?_
   conv=>whnf
   refine(hp _).mono ?_;rintro o S' ⟨rfl,rfl⟩;conv=>whnf
   intro b5 hb5;conv=>whnf
   refine⟨_,_,St.upd_same _ _ _,?_⟩;conv=>whnf
   refine⟨[8,9],(.free 0 (.free 1 (.free 2 (.free 3 (.free 4 (.free 5 (.free 6 (.free 7 (.free 8 (.free 9 (.free 10 (.free 11 (.free 12 (.free 13 .done)))))))))))))),_,by decide +kernel,?_,fun _ _ h=>⟨_,.inl rfl,h⟩⟩
   cases f with
   | false=>
     conv=>whnf
     exact⟨_,_,⟨rfl,rfl⟩,by rw[St.upd_upd];exact St.le_upd' (St.le_refl _) hb5 _,AV.leS_refl _ _ _⟩
   | true=>
     conv=>whnf
     cases hd:decide (low<0) with
     | true=>
       rw[hd] at *;conv=>whnf
       exact⟨_,_,⟨rfl,rfl⟩,by rw[St.upd_upd];exact St.le_upd' (St.le_refl _) hb5 _,AV.leS_refl _ _ _⟩
     | false=>
       rw[hd] at *;conv=>whnf
       refine⟨_,_,St.upd_same _ _ _,?_⟩;conv=>whnf
       refine⟨farAV (decide (low<0)) (limbs low.natAbs),(ho _).mono ?_,?_⟩
       ·rintro o S' ⟨rfl,rfl⟩;exact⟨rfl,rfl⟩
       conv=>whnf
       refine⟨.int .i64 (bSign (z-low)),(hcmp _).mono ?_,?_⟩
       ·rintro o S' ⟨rfl,rfl⟩;exact⟨rfl,rfl⟩
       conv=>whnf
       exact⟨_,_,⟨rfl,rfl⟩,by rw[St.upd_upd];exact St.le_upd' (St.le_refl _) hb5 _,AV.leS_refl _ _ _⟩
def litV(l:List UInt8):Int:=
 let s1:=Lib.trimPrefix l [126]
 let s2:=Lib.trimPrefix s1 [120]
 let z:=(parseI s2).getD 0
 if Lib.hasPrefix s1 [120]=false∨(parseI s2).isSome=false∨(smallV z).2=false∨(smallV z).1<1∨1073741824<(smallV z).1 then 0
 else if Lib.hasPrefix l [126] then -(smallV z).1 else (smallV z).1
theorem cutPrefix_list(l p:List UInt8)(S:St):Triple P (C G) 186 [.str ⟨l.toArray⟩,.str ⟨p.toArray⟩] S fun o S'=>
 o=.ret (.tu [.str ⟨(Lib.trimPrefix l p).toArray⟩,.bool (Lib.hasPrefix l p)])∧S'=S:=by
 have h:=CutPrefix_ok (G:=G) ⟨l.toArray⟩ ⟨p.toArray⟩ S
 simpa only[List.toList_toArray] using h
theorem parse_list(l:List UInt8)(hl:l.length≤1000000000)(S:St):Triple P (C G) 183 [.str ⟨l.toArray⟩] S fun o S'=>
 o=.ret (.tu [bigAV ((parseI l).getD 0),.int .i64 (if (parseI l).isSome then 0 else 10)])∧S'=S:=by
 have h:=Parse_ok (G:=G) ⟨l.toArray⟩ (by show Array.size _≤_;simpa using hl) S
 simpa only[List.toList_toArray] using h
theorem literal_list(hG:GS G)(l:List UInt8)(hs:l.length≤9000000)(S:St):Triple P (C G) 171 [.str ⟨l.toArray⟩] S fun o S'=>o=.ret (.int .i64 (litV l))∧S'=S:=by
 have h1:=trimPrefix_len l [126]
 have h2:=trimPrefix_len (Lib.trimPrefix l [126]) [120]
 have hp:=fun S=>parse_list (G:=G) (Lib.trimPrefix (Lib.trimPrefix l [126]) [120]) (by omega) S
 have hsm:=fun S=>Small_ok hG ((parseI (Lib.trimPrefix (Lib.trimPrefix l [126]) [120])).getD 0) S
 have c1:=fun S=>cutPrefix_list (G:=G) l [126] S
 have c2:=fun S=>cutPrefix_list (G:=G) (Lib.trimPrefix l [126]) [120] S
 unfold litV;simp only[];generalize hneg:Lib.hasPrefix l [126]=neg at *;generalize hokx:Lib.hasPrefix (Lib.trimPrefix l [126]) [120]=okx at *;generalize hs1:Lib.trimPrefix l [126]=s1 at *;generalize hs2:Lib.trimPrefix s1 [120]=s2 at *;generalize (parseI s2).isSome=f at *;generalize (parseI s2).getD 0=z at *;generalize (smallV z).1=v at *;generalize (smallV z).2=sm at *
 by_cases hz:near z
 ·rw[bigAV_near hz] at *;refine triple_of_awp (hT G) hm Tryz.func171 rfl (by decide +kernel) rfl (by decide +kernel) (by show 1≤_;decide +kernel) rfl ?_
  refine awp_seq2 fun K hK hQ=>?_
  conv=>whnf
  refine hK _ _ ?_;clear hK hQ K;refine awp_seq2 fun K hK hQ=>?_
  conv=>whnf
  refine(c1 _).mono ?_;rintro o S' ⟨rfl,rfl⟩;conv=>whnf
  refine hK _ _ ?_;clear hK hQ K;refine awp_seq2 fun K hK hQ=>?_
  conv=>whnf
  refine(c2 _).mono ?_;rintro o S' ⟨rfl,rfl⟩;conv=>whnf
  refine hK _ _ ?_;clear hK hQ K;refine awp_seq2 fun K hK hQ=>?_
  conv=>whnf
  refine(hp _).mono ?_;rintro o S' ⟨rfl,rfl⟩;conv=>whnf
  intro b6 hb6;conv=>whnf
  refine⟨_,_,St.upd_same _ _ _,?_⟩;conv=>whnf
  refine hK _ _ ?_;clear hK hQ K;refine awp_seq2 fun K hK hQ=>?_
  conv=>whnf
  refine⟨_,_,St.upd_same _ _ _,?_⟩;conv=>whnf
  refine(hsm _).mono ?_;rintro o S' ⟨rfl,rfl⟩;conv=>whnf
  refine hK _ _ ?_;clear hK hQ K;have hle:St.le S' ((S'.upd b6 (.obj 237 [.int .i64 0,.bool false,.nils])).upd b6 (.obj 237 [.int .i64 z,.bool false,.nils])):=by rw[St.upd_upd];exact St.le_upd' (St.le_refl _) hb6 _
  cases okx with
  | false=>
     conv=>whnf
     exact⟨_,_,⟨by rw[if_pos (.inl rfl)],rfl⟩,hle,AV.leS_refl _ _ _⟩
  | true=>
    cases f with
    | false=>
       conv=>whnf
       exact⟨_,_,⟨by rw[if_pos (.inr (.inl rfl))],rfl⟩,hle,AV.leS_refl _ _ _⟩
    | true=>
      cases sm with
      | false=>
         conv=>whnf
         exact⟨_,_,⟨by rw[if_pos (.inr (.inr (.inl rfl)))],rfl⟩,hle,AV.leS_refl _ _ _⟩
      | true=>
        conv=>whnf
        refine split_of (fun h1=>?_) (fun h1=>?_)
        ·conv=>whnf
         have h1:=of_decide_eq_true h1
         exact⟨_,_,⟨by rw[if_pos (.inr (.inr (.inr (.inl h1))))],rfl⟩,hle,AV.leS_refl _ _ _⟩
        ·have h1:=of_decide_eq_false h1
         conv=>whnf
         refine split_of (fun h2=>?_) (fun h2=>?_)
         ·have h2:=of_decide_eq_true h2
          conv=>whnf
          exact⟨_,_,⟨by rw[if_pos (.inr (.inr (.inr (.inr h2))))],rfl⟩,hle,AV.leS_refl _ _ _⟩
         ·have h2:=of_decide_eq_false h2
          have hn:¬ (true=false∨true=false∨true=false∨v<1∨1073741824<v):=by simp;omega
          cases neg with
          | true=>
             conv=>whnf
             exact⟨_,_,⟨by rw[if_neg hn,if_pos rfl,wrap_i64 (by omega) (by omega)];simp,rfl⟩,hle,AV.leS_refl _ _ _⟩
          | false=>
             conv=>whnf
             exact⟨_,_,⟨by rw[if_neg hn,if_neg (by simp)],rfl⟩,hle,AV.leS_refl _ _ _⟩
 ·rw[bigAV_far hz] at *;refine triple_of_awp (hT G) hm Tryz.func171 rfl (by decide +kernel) rfl (by decide +kernel) (by show 1≤_;decide +kernel) rfl ?_
  refine awp_seq2 fun K hK hQ=>?_
  conv=>whnf
  refine hK _ _ ?_;clear hK hQ K;refine awp_seq2 fun K hK hQ=>?_
  conv=>whnf
  refine(c1 _).mono ?_;rintro o S' ⟨rfl,rfl⟩;conv=>whnf
  refine hK _ _ ?_;clear hK hQ K;refine awp_seq2 fun K hK hQ=>?_
  conv=>whnf
  refine(c2 _).mono ?_;rintro o S' ⟨rfl,rfl⟩;conv=>whnf
  refine hK _ _ ?_;clear hK hQ K;refine awp_seq2 fun K hK hQ=>?_
  conv=>whnf
  refine(hp _).mono ?_;rintro o S' ⟨rfl,rfl⟩;conv=>whnf
  intro b6 hb6;conv=>whnf
  refine⟨_,_,St.upd_same _ _ _,?_⟩;conv=>whnf
  refine hK _ _ ?_;clear hK hQ K;refine awp_seq2 fun K hK hQ=>?_
  conv=>whnf
  refine⟨_,_,St.upd_same _ _ _,?_⟩;conv=>whnf
  refine(hsm _).mono ?_;rintro o S' ⟨rfl,rfl⟩;conv=>whnf
  refine hK _ _ ?_;clear hK hQ K;have hle:St.le S' ((S'.upd b6 (.obj 237 [.int .i64 0,.bool false,.nils])).upd b6 (.obj 237 [.int .i64 0,.bool (decide (z<0)),.sl .any 1 (rowsU (limbs z.natAbs))])):=by rw[St.upd_upd];exact St.le_upd' (St.le_refl _) hb6 _
  cases okx with
  | false=>
     conv=>whnf
     exact⟨_,_,⟨by rw[if_pos (.inl rfl)],rfl⟩,hle,AV.leS_refl _ _ _⟩
  | true=>
    cases f with
    | false=>
       conv=>whnf
       exact⟨_,_,⟨by rw[if_pos (.inr (.inl rfl))],rfl⟩,hle,AV.leS_refl _ _ _⟩
    | true=>
      cases sm with
      | false=>
         conv=>whnf
         exact⟨_,_,⟨by rw[if_pos (.inr (.inr (.inl rfl)))],rfl⟩,hle,AV.leS_refl _ _ _⟩
      | true=>
        conv=>whnf
        refine split_of (fun h1=>?_) (fun h1=>?_)
        ·conv=>whnf
         have h1:=of_decide_eq_true h1
         exact⟨_,_,⟨by rw[if_pos (.inr (.inr (.inr (.inl h1))))],rfl⟩,hle,AV.leS_refl _ _ _⟩
        ·have h1:=of_decide_eq_false h1
         conv=>whnf
         refine split_of (fun h2=>?_) (fun h2=>?_)
         ·have h2:=of_decide_eq_true h2
          conv=>whnf
          exact⟨_,_,⟨by rw[if_pos (.inr (.inr (.inr (.inr h2))))],rfl⟩,hle,AV.leS_refl _ _ _⟩
         ·have h2:=of_decide_eq_false h2
          have hn:¬ (true=false∨true=false∨true=false∨v<1∨1073741824<v):=by simp;omega
          cases neg with
          | true=>
             conv=>whnf
             exact⟨_,_,⟨by rw[if_neg hn,if_pos rfl,wrap_i64 (by omega) (by omega)];simp,rfl⟩,hle,AV.leS_refl _ _ _⟩
          | false=>
             conv=>whnf
             exact⟨_,_,⟨by rw[if_neg hn,if_neg (by simp)],rfl⟩,hle,AV.leS_refl _ _ _⟩
theorem literal_ok(hG:GS G)(s:ByteArray)(hs:s.size≤9000000)(S:St):Triple P (C G) 171 [.str s] S fun o S'=>o=.ret (.int .i64 (litV s.data.toList))∧S'=S:=by
 have hsl:s.data.toList.length=s.size:=by rw[Array.length_toList];rfl
 have h:=literal_list hG s.data.toList (by omega) S
 rwa [Array.toArray_toList] at h
def blankR(x:Nat):Bool:=decide (x=32) || decide (x=9)
theorem words1_ok(x:Nat)(hx:x≤1114111):TripleE P (C G) 113 [.int .i32 (x:Int)] St.emp fun o S'=>o=.ret (.bool (blankR x))∧S'=St.emp:=by
 refine tripleE_of_awp (hT G) hm Tryz.func113 rfl (by decide +kernel) rfl (by decide +kernel) (by show 1≤_;decide +kernel) rfl ?_
 conv=>whnf
 refine split_of (fun h=>?_) (fun h=>?_)
 ·have h:x=32:=by have:=eq_of_beq h;omega
  conv=>whnf
  exact⟨_,_,⟨rfl,rfl⟩,St.le_refl _,by simp only[blankR,h,decide_true,Bool.true_or];exact AV.leS_refl _ _ _⟩
 ·have h:¬ x=32:=by intro e;subst e;simp at h
  conv=>whnf
  refine⟨_,_,⟨rfl,rfl⟩,St.le_refl _,?_⟩;have e:((x:Int) == 9)=blankR x:=by
   by_cases h2:x=9
   ·subst h2;rfl
   ·simp only[blankR,h,h2,decide_false,Bool.or_self];exact beq_false_of_ne (by omega)
  rw[e];exact AV.leS_refl _ _ _
theorem spans_len(p:Nat→Bool)(s:ByteArray):∀ (f pos:Nat) (st:Option Nat) (acc:List (Nat×Nat)),(Lib.spansFromP p s f pos st acc).1.length≤acc.length+f
 | 0,_,_,acc=>by simp[Lib.spansFromP]
 | f+1,pos,st,acc=>by
   unfold Lib.spansFromP
   split
   ·split
    ·cases st with
     | none=>exact Nat.le_trans (spans_len p s f _ _ _) (by omega)
     | some a=>exact Nat.le_trans (spans_len p s f _ _ _) (by simp;omega)
    ·cases st with
     | none=>exact Nat.le_trans (spans_len p s f _ _ _) (by omega)
     | some a=>exact Nat.le_trans (spans_len p s f _ _ _) (by omega)
   ·show acc.length≤_;omega
def wordsL(s:ByteArray):List ByteArray:=Lib.goFieldsP blankR s
theorem wordsL_len(s:ByteArray):(wordsL s).length≤s.size+1:=by
 unfold wordsL Lib.goFieldsP Lib.spansOfP;rw[List.length_map];have:=spans_len blankR s s.size 0 none [];generalize Lib.spansFromP blankR s s.size 0 none []=r at *;obtain⟨acc,st⟩:=r;unfold Lib.closeSpans
 cases st<;>simp at*<;> omega
theorem wordsL_size(s:ByteArray):∀ x∈wordsL s,x.size≤s.size:=by
 intro x hx;unfold wordsL Lib.goFieldsP at hx;obtain⟨y,_,rfl⟩:=List.mem_map.1 hx;rw[ByteArray.size_extract];omega
theorem words_ok(s:ByteArray)(hs:s.size≤4294967296)(S:St):Triple P (C G) 85 [.str s] S fun o S'=>o=.ret (.sl .full 1 (rowsS (wordsL s)))∧S'=S:=by
 have hf:Triple P (C G) 112 [.str s,.fn (.func 113) [] []] S fun o S'=>o=.ret (.sl .full 1 (rowsS (wordsL s)))∧S'=S:=by
  refine Triple.of_calls (x:=.sl .full 1 (rowsS (wordsL s))) Tryz.func112 rfl (by decide +kernel) (fun w vs hg hr=>?_) ⟨rfl,rfl⟩
  obtain⟨u,v,hv,r1,r2⟩:=RelL.two hr;simp only[Rel] at r1 r2;obtain⟨a1,a2,rfl,q1,q2⟩:=r2;simp only[RelL] at q1 q2;have e1:a1=#[]:=by simpa using q1
  have e2:a2=#[]:=by simpa using q2
  subst r1 e1 e2;rw[show vs=#[.string s,.func (.func 113) #[] #[]] from arr_of_list hv];refine(Tryz.strings_FieldsFunc_grows 113 #[] (fun vs w=>(words1_ok (G:=G) 0 (by omega)).enter vs w) blankR s w hs (predGrows hg words1_ok)).mono fun e w' he=>?_
  obtain⟨A,rfl,hA,hown,hb⟩:=he;refine⟨_,rfl,?_,hb⟩;obtain⟨hxl,hz | ⟨g,cap,cur,hv',hbg,hg',hnc,hcm,hcs,htk⟩⟩:=hown
  ·exact absurd hz.1 (by simp)
  ·simp only[Value.slice.injEq,Option.some.injEq,Addr.mk.injEq] at hv';obtain⟨⟨rfl,_⟩,_,rfl⟩:=hv';simp only[Rel];refine .inr ⟨A,0,(wordsL s).length,by rw[rowsS_len];rfl,by rw[rowsS_len];exact Nat.le_refl _,hcm,by rw[rowsS_len];rfl,?_⟩
   refine RelRows.of_cells (rowsS_one _) (RelL_strs _ _ _) (fun i v hv=>?_) (fun u hu=>?_) (fun i hi=>?_)
   ·have:=cell_of_row _ _ i _ _ (0,0) hg'
    rw[Nat.zero_add];refine this.trans ?_;have h2:cur.toList.take ((wordsL s).length*1)=(wordsL s).map Value.string:=htk;rw[← h2] at hv;rw[List.getElem?_take] at hv
    split at hv
    ·simpa using hv
    ·cases hv
   ·obtain⟨x,_,rfl⟩:=List.mem_map.1 hu;rfl
   ·have hgS:S A=none:=by
     cases e:S A with
     | none=>rfl
     | some o=>have:=hg.1.lt e;omega
    simp only[rdOf,hgS]
 refine triple_of_awp (hT G) hm Tryz.func85 rfl (by decide +kernel) rfl (by decide +kernel) (by show 1≤_;decide +kernel) rfl ?_
 conv=>whnf
 refine hf.mono ?_;rintro o S' ⟨rfl,rfl⟩;conv=>whnf
 exact⟨_,_,⟨rfl,rfl⟩,St.le_refl _,AV.leS_refl _ _ _⟩
def failAV(e:Int):AV:=.ifc 94 (.imm [.int .i64 2,.int .i64 0,.int .i64 e])
theorem fail_ok(e:Int)(S:St):Triple P (C G) 88 [.int .i64 e] S fun o S'=>o=.ret (failAV e)∧S'=S:=by
 refine triple_of_awp (hT G) hm Tryz.func88 rfl (by decide +kernel) rfl (by decide +kernel) (by show 1≤_;decide +kernel) rfl ?_
 conv=>whnf
 intro b hb;conv=>whnf
 exact⟨_,S,⟨rfl,rfl⟩,St.le_upd' (St.le_refl S) hb _,rfl,hb,_,_,St.upd_same _ _ _,rfl⟩
def rdr(l:List ByteArray)(cs:List AV):Own:=.obj 136 (.sl .any 1 (rowsS l)::cs)
def errAV(e:Int):AV:=if e=0 then .nili else failAV e
theorem rtake_ok(b:Nat)(l:List ByteArray)(cs:List AV)(S:St)(hS:S b=some (rdr l cs)) :
 Triple P (C G) 86 [.ref b 0] S fun o S'=>match l with
  | []=>o=.ret (.tu [.str ⟨#[]⟩,failAV 82])∧S'=S
  | w::l'=>o=.ret (.tu [.str w,.nili])∧S'=S.upd b (rdr l' cs):=by
 refine triple_of_awp (hT G) hm Tryz.func86 rfl (by decide +kernel) rfl (by decide +kernel) (by show 1≤_;decide +kernel) rfl ?_
 conv=>whnf
 refine⟨_,_,hS,?_⟩;conv=>whnf
 intro hlen
 cases l with
 | nil=>
   conv=>whnf
   refine(fail_ok 82 S).mono ?_;rintro o S' ⟨rfl,rfl⟩;conv=>whnf
   exact⟨_,S',⟨rfl,rfl⟩,St.le_refl _,AV.leS_refl _ _ _⟩
 | cons w l'=>
   conv=>whnf
   refine⟨_,_,hS,?_⟩;conv=>whnf
   refine⟨_,⟨by omega,rfl⟩,?_⟩
   conv=>whnf
   refine⟨_,_,hS,?_⟩;conv=>whnf
   refine⟨⟨by decide,by simp only[rowsS_len,List.length_cons];omega,by omega⟩,?_⟩
   conv=>whnf
   refine⟨_,_,hS,?_⟩;rw[forceL_eq];conv=>whnf
   exact⟨_,_,⟨rfl,rfl⟩,(by
    have e1:List.drop (Int.toNat 1) (List.take ((((rowsS (w::l')).length:Nat):Int).toNat) (rowsS (w::l')))=rowsS l':=by
     simp[rowsS]
     exact List.take_of_length_le (by simp)
    show St.le (S.upd b (rdr l' cs)) (S.upd b (.obj _ (.sl .any 1 _::cs)))
    rw[e1];exact St.le_refl _),AV.leS_refl _ _ _⟩
theorem rend_ok(b:Nat)(l:List ByteArray)(cs:List AV)(S:St)(hS:S b=some (rdr l cs)) :
 Triple P (C G) 89 [.ref b 0] S fun o S'=>o=.ret (if l=[] then .nili else failAV 80)∧S'=S:=by
 refine triple_of_awp (hT G) hm Tryz.func89 rfl (by decide +kernel) rfl (by decide +kernel) (by show 1≤_;decide +kernel) rfl ?_
 conv=>whnf
 refine⟨_,_,hS,?_⟩;conv=>whnf
 intro hlen
 cases l with
 | nil=>
   conv=>whnf
   exact⟨_,S,⟨rfl,rfl⟩,St.le_refl _,AV.leS_refl _ _ _⟩
 | cons w l'=>
   conv=>whnf
   refine split_of (fun h=>?_) (fun h=>by simp[rowsS] at h)
   conv=>whnf
   refine(fail_ok 80 S).mono ?_;rintro o S' ⟨rfl,rfl⟩;conv=>whnf
   exact⟨_,S',⟨rfl,rfl⟩,St.le_refl _,AV.leS_refl _ _ _⟩
theorem rnext_ok(b:Nat)(l:List ByteArray)(cs:List AV)(x:ByteArray)(S:St)(hS:S b=some (rdr l cs)) :
 Triple P (C G) 173 [.ref b 0,.str x] S fun o S'=>o=.ret (.bool (decide (l.head? = some x)))∧S'=S:=by
 refine triple_of_awp (hT G) hm Tryz.func173 rfl (by decide +kernel) rfl (by decide +kernel) (by show 2≤_;decide +kernel) rfl ?_
 conv=>whnf
 refine⟨_,_,hS,?_⟩;conv=>whnf
 intro hlen
 cases l with
 | nil=>
   conv=>whnf
   exact⟨_,S,⟨rfl,rfl⟩,St.le_refl _,AV.leS_refl _ _ _⟩
 | cons w l'=>
   conv=>whnf
   refine split_of (fun h=>?_) (fun h=>by simp[rowsS] at h)
   conv=>whnf
   refine⟨_,_,hS,?_⟩;conv=>whnf
   refine⟨_,⟨by omega,rfl⟩,?_⟩
   conv=>whnf
   exact⟨_,S,⟨rfl,rfl⟩,St.le_refl _,congrArg AV.bool (by simp)⟩
def exactG:List ByteArray→List ByteArray→List ByteArray×Int
 | l,[]=>(l,0)
 | [],_::_=>([],82)
 | w::l,x::xs=>if w=x then exactG l xs else (l,80)
set_option maxHeartbeats 1000000 in
theorem exactly_ok(b:Nat)(l:List ByteArray)(cs:List AV)(xs:List ByteArray)(hxs:xs.length≤1000000)(S:St)(hS:S b=some (rdr l cs)) :
 Triple P (C G) 144 [.ref b 0,.sl .any 1 (rowsS xs)] S fun o S'=>o=.ret (errAV (exactG l xs).2)∧S'=S.upd b (rdr (exactG l xs).1 cs):=by
 refine triple_of_awp (hT G) hm Tryz.func144 rfl (by decide +kernel) rfl (by decide +kernel) (by show 2≤_;decide +kernel) rfl ?_
 conv=>whnf
 intro hlen;conv=>whnf
 refine⟨⟨Nat×List ByteArray,fun(i,l')=>[(0,.ref b 0),(9,.sl .any 1 (rowsS xs)),(10,.int .i64 (xs.length:Int)),(11,.int .i64 (i:Int))],
  fun(i,l') S'=>S'=S.upd b (rdr l' cs)∧i≤xs.length∧exactG l' (xs.drop i)=exactG l xs,fun(i,_)=>xs.length-i⟩,
  ⟨(0,l),⟨rfl,⟨rfl,rfl⟩,congrArg (AV.int .i64) (by simp[rowsS]),rfl,trivial⟩,⟨_,St.leW_refl _,(St.upd_self hS).symm,by omega,rfl⟩⟩,?_⟩
 rintro⟨i,l'⟩ S₁ ⟨rfl,h2,h3⟩;have hS₁:(S.upd b (rdr l' cs)) b=some (rdr l' cs):=St.upd_same _ _ _;conv=>whnf
 refine split_of (fun hlt=>?_) (fun hlt=>?_)
 ·have hlt:i<xs.length:=by simpa using hlt
  have w1:IntKind.i64.wrap ((i:Int)+1)=((i+1:Nat):Int):=wrap_nat (by omega)
  have hd:xs.drop i=xs[i]::xs.drop (i+1):=List.drop_eq_getElem_cons hlt
  rw[hd] at h3;conv=>whnf
  refine⟨[.str xs[i]],⟨by omega,by simp[rowsS,hlt]⟩,?_⟩
  conv=>whnf
  refine(rtake_ok b l' cs _ hS₁).mono ?_
  cases l' with
  | nil=>
    rintro o S' ⟨rfl,rfl⟩;conv=>whnf
    rw[← h3];exact⟨_,_,⟨rfl,rfl⟩,St.le_refl _,AV.leS_refl _ _ _⟩
  | cons w l''=>
    rintro o S' ⟨rfl,rfl⟩;rw[St.upd_upd];conv=>whnf
    refine split_of (fun hw=>?_) (fun hw=>?_)
    ·have hw:¬ w=xs[i]:=by simpa using hw
     have h4:exactG l xs=(l'',80):=by rw[← h3];simp[exactG,hw]
     conv=>whnf
     refine(fail_ok 80 _).mono ?_;rintro o S' ⟨rfl,rfl⟩;conv=>whnf
     rw[h4];exact⟨_,_,⟨rfl,rfl⟩,St.le_refl _,AV.leS_refl _ _ _⟩
    ·have hw:w=xs[i]:=by simpa using hw
     conv=>whnf
     refine⟨(i+1,l''),⟨rfl,⟨rfl,rfl⟩,rfl,congrArg _ w1,trivial⟩,⟨_,St.leW_refl _,rfl,by omega,?_⟩,by show xs.length-(i+1)<xs.length-i;omega⟩
     rw[← h3];simp[exactG,hw]
 ·have hlt:¬ i<xs.length:=by simpa using hlt
  have hd:xs.drop i=[]:=List.drop_eq_nil_of_le (by omega)
  rw[hd] at h3;have h4:exactG l xs=(l',0):=by rw[← h3];cases l'<;>rfl
  conv=>whnf
  rw[h4];exact⟨_,_,⟨rfl,rfl⟩,St.le_refl _,AV.leS_refl _ _ _⟩
structure StepV where
 kind:Int
 num:ByteArray
 ops:List (Int×ByteArray×Int)
 pieces:List (ByteArray×Int)
 bound:ByteArray
 lits:List Int
 ids:List ByteArray
 n6:Int
 s7:ByteArray
 s8:ByteArray
def rowsO(l:List (Int×ByteArray×Int)):List (List AV):=l.map fun o=>[.int .i64 o.1,.str o.2.1,.int .i64 o.2.2]
def rowsP(l:List (ByteArray×Int)):List (List AV):=l.map fun o=>[.str o.1,.int .i64 o.2]
def rowsI(l:List Int):List (List AV):=l.map fun o=>[.int .i64 o]
@[simp] theorem rowsO_len (l):(rowsO l).length=l.length:=by simp[rowsO]
@[simp] theorem rowsP_len (l):(rowsP l).length=l.length:=by simp[rowsP]
@[simp] theorem rowsI_len (l):(rowsI l).length=l.length:=by simp[rowsI]
structure Tips where
 b3:Nat
 b4:Nat
 b6:Nat
 b7:Nat
def stepC(v:StepV)(t:Tips):List AV:=[.int .i64 v.kind,.str v.num,.sl (.acc t.b3) 3 (rowsO v.ops),.sl (.acc t.b4) 2 (rowsP v.pieces),.str v.bound,.sl (.acc t.b6) 1 (rowsI v.lits),.sl (.acc t.b7) 1 (rowsS v.ids),.int .i64 v.n6,.str v.s7,.str v.s8]
def TipOk(S₀ S:St)(b:Nat)(e:TypeId)(k n:Nat):Prop:=0<n→S b=some (.tip e k n)∧S₀ b=none
structure RdrAt (S₀ S:St) (rb:Nat) (ws:List ByteArray) (v:StepV) (t:Tips):Prop where
 le:St.le S₀ S
 new:S₀ rb=none
 at_:S rb=some (rdr ws (stepC v t))
 t3:TipOk S₀ S t.b3 201 3 v.ops.length
 t4:TipOk S₀ S t.b4 222 2 v.pieces.length
 t6:TipOk S₀ S t.b6 3 1 v.lits.length
 t7:TipOk S₀ S t.b7 9 1 v.ids.length
def Rdr(S₀ S:St)(rb:Nat)(ws:List ByteArray)(v:StepV):Prop:=∃ t,RdrAt S₀ S rb ws v t
theorem TipOk.keep{S₀ S S':St}{b:Nat}{e:TypeId}{k n:Nat}(h:TipOk S₀ S b e k n)(hk:∀ o,S b=some o→S' b=some o):TipOk S₀ S' b e k n:=fun hn=>⟨hk _ (h hn).1,(h hn).2⟩
theorem TipOk.upd{S₀ S:St}{b rb:Nat}{e:TypeId}{k n:Nat}(h:TipOk S₀ S b e k n){e':TypeId}{cs:List AV}(hr:S rb=some (.obj e' cs))(o:Own):TipOk S₀ (S.upd rb o) b e k n:=fun hn=>by
 obtain⟨h1,h2⟩:=h hn;have:b≠rb:=by rintro rfl;rw[h1] at hr;cases hr
 exact⟨by rw[St.upd_ne _ _ _ _ this];exact h1,h2⟩
theorem RdrAt.set{S₀ S:St}{rb:Nat}{ws ws':List ByteArray}{v v':StepV}{t:Tips}(h:RdrAt S₀ S rb ws v t)(e1:v'.ops=v.ops)(e2:v'.pieces=v.pieces)(e3:v'.lits=v.lits)(e4:v'.ids=v.ids):RdrAt S₀ (S.upd rb (rdr ws' (stepC v' t))) rb ws' v' t:=
 ⟨St.le_upd h.le h.new _,h.new,St.upd_same _ _ _,by rw[e1];exact h.t3.upd h.at_ _,by rw[e2];exact h.t4.upd h.at_ _,by rw[e3];exact h.t6.upd h.at_ _,by rw[e4];exact h.t7.upd h.at_ _⟩
theorem RdrAt.words{S₀ S:St}{rb:Nat}{ws ws':List ByteArray}{v:StepV}{t:Tips}(h:RdrAt S₀ S rb ws v t):RdrAt S₀ (S.upd rb (rdr ws' (stepC v t))) rb ws' v t:=h.set rfl rfl rfl rfl
theorem RdrAt.more{S₀ S:St}{rb:Nat}{ws:List ByteArray}{v:StepV}{t:Tips}(h:RdrAt S₀ S rb ws v t){b:Nat}(hb:S b=none)(o:Own):RdrAt S₀ (S.upd b o) rb ws v t:=by
 have hk:∀ x p,S x=some p→(S.upd b o) x=some p:=fun x p hx=>by rw[St.upd_ne _ _ _ _ (St.ne_of hb hx)];exact hx
 exact⟨fun x p hx=>hk _ _ (h.le x p hx),h.new,hk _ _ h.at_,h.t3.keep (hk _),h.t4.keep (hk _),h.t6.keep (hk _),h.t7.keep (hk _)⟩
theorem AccStep.other{S S':St}{b b':Nat}{e:TypeId}{k n m:Nat}(ht:0<n→S b=some (.tip e k n))(ha:AccStep S b e k n m b' S'){x:Nat}{o:Own}(hx:S x=some o)(ho:∀ n',o≠.tip e k n'):S' x=some o:=by
 rcases ha with ⟨e1,rfl,rfl⟩ | ⟨e1,S₁,c1,c2,c3,rfl⟩
 ·exact hx
 ·have:S₁ x=some o:=by
   by_cases hn:n=0
   ·rw[c1 hn];exact hx
   ·have hne:x≠b:=by
     rintro rfl;rw[ht (by omega)] at hx
     cases hx
     exact ho n rfl
    rw[c2 (by omega),St.del_ne _ _ _ hne];exact hx
  rw[St.upd_ne _ _ _ _ (fun e=>by rw[e,c3] at this;cases this)];exact this
theorem AccStep.tipOk{S₀ S S':St}{b b':Nat}{e:TypeId}{k n m:Nat}(h:TipOk S₀ S b e k n)(hle:St.le S₀ S)(ha:AccStep S b e k n m b' S'):TipOk S₀ S' b' e k (n+m)∧St.le S₀ S':=by
 rcases ha with ⟨rfl,rfl,rfl⟩ | ⟨e1,S₁,c1,c2,c3,rfl⟩
 ·exact⟨h,hle⟩
 ·have h1:St.le S₀ S₁:=by
   by_cases hn:n=0
   ·rw[c1 hn];exact hle
   ·rw[c2 (by omega)];exact St.le_del' hle (h (by omega)).2
  have h0:S₀ b'=none:=by
   cases e:S₀ b' with
   | none=>rfl
   | some o=>rw[h1 _ _ e] at c3;cases c3
  exact⟨fun _=>⟨St.upd_same _ _ _,h0⟩,St.le_upd h1 h0 _⟩
theorem TipOk.keep'{S₀ S S':St}{b b1 b2:Nat}{e e':TypeId}{k n k' n' m:Nat}(h:TipOk S₀ S b e k n)(ht:0<n'→S b1=some (.tip e' k' n'))(ha:AccStep S b1 e' k' n' m b2 S')(hne:e≠e'):TipOk S₀ S' b e k n:=fun hn=>
 ⟨AccStep.other ht ha (h hn).1 (by intro x he;cases he;exact hne rfl),(h hn).2⟩
theorem RdrAt.push7{S₀ S S':St}{rb b' m:Nat}{ws:List ByteArray}{v:StepV}{t:Tips}(h:RdrAt S₀ S rb ws v t)(ha:AccStep S t.b7 9 1 v.ids.length m b' S'){new:List ByteArray}(hm:new.length=m) :
 S' rb=some (rdr ws (stepC v t))∧RdrAt S₀ (S'.upd rb (rdr ws (stepC { v with ids:=v.ids++new } { t with b7:=b' }))) rb ws { v with ids:=v.ids++new } { t with b7:=b' }:=by
 have ht:0<v.ids.length→S t.b7=some (.tip 9 1 v.ids.length):=fun hn=>(h.t7 hn).1
 obtain⟨k1,k2⟩:=AccStep.tipOk h.t7 h.le ha;have hr:=AccStep.other ht ha h.at_ (by intro n' e;unfold rdr at e;cases e)
 refine⟨hr,St.le_upd k2 h.new _,h.new,St.upd_same _ _ _,TipOk.upd (h.t3.keep' ht ha ?_) hr _,TipOk.upd (h.t4.keep' ht ha ?_) hr _,TipOk.upd (h.t6.keep' ht ha ?_) hr _,TipOk.upd (by rw[List.length_append,hm];exact k1) hr _⟩
 all_goals decide
theorem RdrAt.push3{S₀ S S':St}{rb b' m:Nat}{ws:List ByteArray}{v:StepV}{t:Tips}(h:RdrAt S₀ S rb ws v t)(ha:AccStep S t.b3 201 3 v.ops.length m b' S'){new:List (Int×ByteArray×Int)}(hm:new.length=m) :
 S' rb=some (rdr ws (stepC v t))∧RdrAt S₀ (S'.upd rb (rdr ws (stepC { v with ops:=v.ops++new } { t with b3:=b' }))) rb ws { v with ops:=v.ops++new } { t with b3:=b' }:=by
 have ht:0<v.ops.length→S t.b3=some (.tip 201 3 v.ops.length):=fun hn=>(h.t3 hn).1
 obtain⟨k1,k2⟩:=AccStep.tipOk h.t3 h.le ha;have hr:=AccStep.other ht ha h.at_ (by intro n' e;unfold rdr at e;cases e)
 refine⟨hr,St.le_upd k2 h.new _,h.new,St.upd_same _ _ _,TipOk.upd (by rw[List.length_append,hm];exact k1) hr _,TipOk.upd (h.t4.keep' ht ha ?_) hr _,TipOk.upd (h.t6.keep' ht ha ?_) hr _,TipOk.upd (h.t7.keep' ht ha ?_) hr _⟩
 all_goals decide
theorem RdrAt.push4{S₀ S S':St}{rb b' m:Nat}{ws:List ByteArray}{v:StepV}{t:Tips}(h:RdrAt S₀ S rb ws v t)(ha:AccStep S t.b4 222 2 v.pieces.length m b' S'){new:List (ByteArray×Int)}(hm:new.length=m) :
 S' rb=some (rdr ws (stepC v t))∧RdrAt S₀ (S'.upd rb (rdr ws (stepC { v with pieces:=v.pieces++new } { t with b4:=b' }))) rb ws { v with pieces:=v.pieces++new } { t with b4:=b' }:=by
 have ht:0<v.pieces.length→S t.b4=some (.tip 222 2 v.pieces.length):=fun hn=>(h.t4 hn).1
 obtain⟨k1,k2⟩:=AccStep.tipOk h.t4 h.le ha;have hr:=AccStep.other ht ha h.at_ (by intro n' e;unfold rdr at e;cases e)
 refine⟨hr,St.le_upd k2 h.new _,h.new,St.upd_same _ _ _,TipOk.upd (h.t3.keep' ht ha ?_) hr _,TipOk.upd (by rw[List.length_append,hm];exact k1) hr _,TipOk.upd (h.t6.keep' ht ha ?_) hr _,TipOk.upd (h.t7.keep' ht ha ?_) hr _⟩
 all_goals decide
theorem RdrAt.push6{S₀ S S':St}{rb b' m:Nat}{ws:List ByteArray}{v:StepV}{t:Tips}(h:RdrAt S₀ S rb ws v t)(ha:AccStep S t.b6 3 1 v.lits.length m b' S'){new:List Int}(hm:new.length=m) :
 S' rb=some (rdr ws (stepC v t))∧RdrAt S₀ (S'.upd rb (rdr ws (stepC { v with lits:=v.lits++new } { t with b6:=b' }))) rb ws { v with lits:=v.lits++new } { t with b6:=b' }:=by
 have ht:0<v.lits.length→S t.b6=some (.tip 3 1 v.lits.length):=fun hn=>(h.t6 hn).1
 obtain⟨k1,k2⟩:=AccStep.tipOk h.t6 h.le ha;have hr:=AccStep.other ht ha h.at_ (by intro n' e;unfold rdr at e;cases e)
 refine⟨hr,St.le_upd k2 h.new _,h.new,St.upd_same _ _ _,TipOk.upd (h.t3.keep' ht ha ?_) hr _,TipOk.upd (h.t4.keep' ht ha ?_) hr _,TipOk.upd (by rw[List.length_append,hm];exact k1) hr _,TipOk.upd (h.t7.keep' ht ha ?_) hr _⟩
 all_goals decide
def numG(low:Int):List ByteArray→ByteArray×Int×List ByteArray
 | []=>(⟨#[]⟩,82,[])
 | w::l=>if isNumV w.data.toList low then (w,0,l) else (⟨#[]⟩,81,l)
theorem number_ok(rb:Nat)(l:List ByteArray)(cs:List AV)(low:Int)(h0:-9223372036854775808≤low)(h1:low≤9223372036854775807)(S:St)(hS:S rb=some (rdr l cs))(hw:∀ w∈l,w.size≤9000000) :
 Triple P (C G) 145 [.ref rb 0,.int .i64 low] S fun o S'=>o=.ret (.tu [.str (numG low l).1,errAV (numG low l).2.1])∧S'=S.upd rb (rdr (numG low l).2.2 cs):=by
 refine triple_of_awp (hT G) hm Tryz.func145 rfl (by decide +kernel) rfl (by decide +kernel) (by show 2≤_;decide +kernel) rfl ?_
 conv=>whnf
 refine(rtake_ok rb l cs S hS).mono ?_
 cases l with
 | nil=>
   rintro o S' ⟨rfl,rfl⟩;conv=>whnf
   refine⟨_,_,⟨rfl,rfl⟩,?_,AV.leS_refl _ _ _⟩;rw[show rdr (numG low []).2.2 cs=rdr [] cs from rfl,St.upd_id hS];exact St.le_refl _
 | cons w l=>
   rintro o S' ⟨rfl,rfl⟩;conv=>whnf
   refine(isNumber_ok w (hw w (by simp)) low h0 h1 _).mono ?_
   rintro o S' ⟨rfl,rfl⟩;simp only[numG]
   cases isNumV w.data.toList low with
   | false=>
     conv=>whnf
     refine(fail_ok 81 _).mono ?_;rintro o S' ⟨rfl,rfl⟩;conv=>whnf
     exact⟨_,_,⟨rfl,rfl⟩,St.le_refl _,AV.leS_refl _ _ _⟩
   | true=>
     conv=>whnf
     exact⟨_,_,⟨rfl,rfl⟩,St.le_refl _,AV.leS_refl _ _ _⟩
def rlitG:List ByteArray→Int×Int×List ByteArray
 | []=>(0,82,[])
 | w::l=>if litV w.data.toList=0 then (0,81,l) else (litV w.data.toList,0,l)
theorem rlit_ok(hG:GS G)(rb:Nat)(l:List ByteArray)(cs:List AV)(S:St)(hS:S rb=some (rdr l cs))(hw:∀ w∈l,w.size≤9000000) :
 Triple P (C G) 174 [.ref rb 0] S fun o S'=>o=.ret (.tu [.int .i64 (rlitG l).1,errAV (rlitG l).2.1])∧S'=S.upd rb (rdr (rlitG l).2.2 cs):=by
 refine triple_of_awp (hT G) hm Tryz.func174 rfl (by decide +kernel) rfl (by decide +kernel) (by show 1≤_;decide +kernel) rfl ?_
 conv=>whnf
 refine(rtake_ok rb l cs S hS).mono ?_
 cases l with
 | nil=>
   rintro o S' ⟨rfl,rfl⟩;conv=>whnf
   refine⟨_,_,⟨rfl,rfl⟩,?_,AV.leS_refl _ _ _⟩;rw[show rdr (rlitG []).2.2 cs=rdr [] cs from rfl,St.upd_id hS];exact St.le_refl _
 | cons w l=>
   rintro o S' ⟨rfl,rfl⟩;conv=>whnf
   refine(literal_ok hG w (hw w (by simp)) _).mono ?_
   rintro o S' ⟨rfl,rfl⟩;simp only[rlitG];generalize litV w.data.toList=z;conv=>whnf
   refine split_of (fun h=>?_) (fun h=>?_)
   ·have h:z=0:=by simpa using h
    rw[if_pos h];conv=>whnf
    refine(fail_ok 81 _).mono ?_;rintro o S' ⟨rfl,rfl⟩;conv=>whnf
    exact⟨_,_,⟨rfl,rfl⟩,St.le_refl _,AV.leS_refl _ _ _⟩
   ·have h:¬ z=0:=by simpa using h
    rw[if_neg h];conv=>whnf
    exact⟨_,_,⟨rfl,rfl⟩,St.le_refl _,AV.leS_refl _ _ _⟩
abbrev VarV:=ByteArray×Int×Int
abbrev TermV:=Int×Int
structure ConV where
 kind:Int
 op:Int
 terms:List TermV
 k:Int
 v:Int
 x:Int
 y:Int
 xs:List Int
 table:List Int
 rows:List (List Int)
structure ModelV where
 vars:List VarV
 cons:List ConV
 hasGoal:Bool
 goal:List TermV
def rowV(v:VarV):List AV:=[.str v.1,.int .i64 v.2.1,.int .i64 v.2.2]
def rowsV(l:List VarV):List (List AV):=l.map rowV
def rowsTm(l:List TermV):List (List AV):=l.map fun t=>[.int .i64 t.1,.int .i64 t.2]
def rowsLL(l:List (List Int)):List (List AV):=l.map fun r=>[.sl .any 1 (rowsI r)]
def rowC(c:ConV):List AV:=[.int .i64 c.kind,.int .i64 c.op,.sl .any 2 (rowsTm c.terms),.int .i64 c.k,.int .i64 c.v,.int .i64 c.x,.int .i64 c.y,.sl .any 1 (rowsI c.xs),.sl .any 1 (rowsI c.table),.sl .any 1 (rowsLL c.rows)]
def rowsC(l:List ConV):List (List AV):=l.map rowC
def rowM(m:ModelV):List AV:=[.sl .any 3 (rowsV m.vars),.sl .any 10 (rowsC m.cons),.bool m.hasGoal,.sl .any 2 (rowsTm m.goal)]
@[simp] theorem rowsV_len (l):(rowsV l).length=l.length:=by simp[rowsV]
@[simp] theorem rowsTm_len (l):(rowsTm l).length=l.length:=by simp[rowsTm]
@[simp] theorem rowsLL_len (l):(rowsLL l).length=l.length:=by simp[rowsLL]
@[simp] theorem rowsC_len (l):(rowsC l).length=l.length:=by simp[rowsC]
def rangeI(lo hi:Int):List Int:=(List.range (hi-lo+1).toNat).map fun(i:Nat)=>lo+i
def allFrom:List VarV→List Int→List (List Int)
 | [],p=>[p]
 | v::r,p=>(rangeI v.2.1 v.2.2).flatMap fun x=>allFrom r (p++[x])
theorem rangeI_len(lo hi:Int):(rangeI lo hi).length=(hi-lo+1).toNat:=by simp[rangeI]
theorem mem_rangeI{lo hi x:Int}:x∈rangeI lo hi↔lo≤x∧x≤hi:=by
 unfold rangeI;rw[List.mem_map]
 constructor
 ·rintro⟨i,hi,rfl⟩;rw[List.mem_range] at hi;omega
 ·intro h;exact⟨(x-lo).toNat,by rw[List.mem_range];omega,by omega⟩
def sizeV(v:VarV):Nat:=(v.2.2-v.2.1+1).toNat
def prodV(l:List VarV):Nat:=(l.map sizeV).foldr (·*·) 1
theorem allFrom_len:∀ (l:List VarV) (p:List Int),(allFrom l p).length=prodV l
 | [],p=>rfl
 | v::r,p=>by
   unfold allFrom;rw[List.length_flatMap];have e:((rangeI v.2.1 v.2.2).map fun x=>(allFrom r (p++[x])).length)=(rangeI v.2.1 v.2.2).map fun _=>prodV r:=List.map_congr_left fun x _=>allFrom_len r _
   rw[e,List.map_const',List.sum_replicate_nat,rangeI_len];rfl
def inB:List VarV→List Int→Bool
 | [],[]=>true
 | v::r,x::xs=>decide (v.2.1≤x) && (decide (x≤v.2.2) && inB r xs)
 | _,_=>false
theorem mem_allFrom:∀ (l:List VarV) (p z:List Int),z∈allFrom l p↔∃ q,z=p++q∧inB l q=true
 | [],p,z=>by
  unfold allFrom;rw[List.mem_singleton]
  constructor
  ·rintro rfl;exact⟨[],by simp,rfl⟩
  ·rintro⟨q,rfl,h⟩
   cases q with
   | nil=>simp
   | cons _ _=>cases h
 | v::r,p,z=>by
   unfold allFrom;rw[List.mem_flatMap]
   constructor
   ·rintro⟨x,hx,hz⟩;obtain⟨q,rfl,hq⟩:=(mem_allFrom r _ z).1 hz;rw[mem_rangeI] at hx;exact⟨x::q,by simp,by simp[inB,hx.1,hx.2,hq]⟩
   ·rintro⟨q,rfl,h⟩
    cases q with
    | nil=>cases h
    | cons x q=>
      simp only[inB,Bool.and_eq_true,decide_eq_true_eq] at h;exact⟨x,mem_rangeI.2 ⟨h.1,h.2.1⟩,(mem_allFrom r _ _).2 ⟨q,by simp,h.2.2⟩⟩
def aheadV:List Int→List Int→Bool
 | x::a,y::b=>if x=y then aheadV a b else decide (x<y)
 | a,b=>decide (a.length<b.length)
theorem aheadV_app(a b:List Int):∀ p:List Int,aheadV (p++a) (p++b)=aheadV a b
 | []=>rfl
 | x::p=>by
   show(if x=x then aheadV (p++a) (p++b) else _)=_
   rw[if_pos rfl,aheadV_app a b p]
theorem rangeI_rise(lo hi:Int):(rangeI lo hi).Pairwise (· < ·):=by
 unfold rangeI;rw[List.pairwise_map];exact List.pairwise_lt_range.imp fun h=>by omega
theorem allFrom_rise:∀ (l:List VarV) (p:List Int),(allFrom l p).Pairwise fun a b=>aheadV a b=true
 | [],p=>by unfold allFrom;exact List.pairwise_singleton _ _
 | v::r,p=>by
   unfold allFrom;rw[List.pairwise_flatMap];refine⟨fun x _=>allFrom_rise r _,(rangeI_rise _ _).imp fun {x y} hxy a ha b hb=>?_⟩
   obtain⟨q,rfl,_⟩:=(mem_allFrom r _ _).1 ha;obtain⟨q',rfl,_⟩:=(mem_allFrom r _ _).1 hb;rw[List.append_assoc,List.append_assoc,aheadV_app]
   show(if x=y then _ else decide (x<y))=true
   rw[if_neg (by omega),decide_eq_true hxy]
end Go.Proofs.YtjpboanohpaibaaGreatDoor.Aw
