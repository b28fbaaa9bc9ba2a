/- The abstract walk is sound in regions that draw their order: one walk along a plan serves every order that may be drawn. -/
import Derived.Test.YtjpboanohpaibaaGreatDoorPat3
import Derived.Orders
set_option linter.all false
namespace Go.Proofs.YtjpboanohpaibaaGreatDoor.Aw
open Go Go.RowKit
def evR(C:Cx)(ρ:Nat→AV):Operand→AV
 | .tmp t=>ρ t
 | x=>ev C [] x
theorem ev_evR(C:Cx)(env:Env):ev C env=evR C (fun t=>look t env):=by
 funext x;cases x<;>rfl
def rput(d:Option Tmp)(x:AV)(ρ:Nat→AV):Nat→AV:=
 match d with
 | some d=>fun t=>if d=t then x else ρ t
 | none=>ρ
theorem look_put(d:Option Tmp)(x:AV)(env:Env):(fun t=>look t (put d x env))=rput d x (fun t=>look t env):=by
 cases d with
 | none=>rfl
 | some d=>funext t;simp only[put,rput,look_cons]
theorem rput_comm{d d':Option Tmp}(h:∀ t,d=some t→d'≠some t)(x y:AV)(ρ:Nat→AV):rput d x (rput d' y ρ)=rput d' y (rput d x ρ):=by
 cases d with
 | none=>rfl
 | some d=>
   cases d' with
   | none=>rfl
   | some d'=>
     have hne:d'≠d:=fun e=>h d rfl (by rw[e])
     funext t
     simp only[rput]
     by_cases e:d=t
     ·subst e;simp[hne]
     ·simp[e]
theorem evR_put{C:Cx}{d:Option Tmp}{x:AV}{ρ:Nat→AV}{o:Operand}(h:∀ t,d=some t→o≠.tmp t):evR C (rput d x ρ) o=evR C ρ o:=by
 cases d with
 | none=>rfl
 | some d=>
   cases o with
   | tmp t=>
     have:d≠t:=fun e=>h d rfl (by rw[e])
     simp[evR,rput,this]
   | _=>rfl
section
variable {P:Program} {C:Cx}
theorem putK_eq(d:Option Tmp)(x:AV)(env:Env)(K:Env→Prop):putK d x env K=K (put d x env):=by cases d<;>rfl
theorem map_congr'{α β:Type}{f g:α→β}{l:List α}(h:∀ x∈l,f x=g x):l.map f=l.map g:=List.map_congr_left h
theorem aOpE_congr{o:Oper}{e e':Operand→AV}{S:St}{K Qp:AV→St→Prop}(h:∀ x∈o.op.operands,e x=e' x):aOpE P C o e S K Qp=aOpE P C o e' S K Qp:=by
 unfold aOpE;generalize o.op=op at h
 cases op<;>simp only[Op.operands,List.mem_toArray,Array.mem_append,Array.mem_def,List.mem_cons,List.not_mem_nil,or_false,forall_eq_or_imp,forall_eq,List.mem_map,Option.mem_toList] at h<;>first | (dsimp only;rw[h];done) | (simp only[h]) | skip
 case next it str=>cases str<;>(dsimp only;try rw[h])
 case makeMap t r=>cases r<;>rfl
 case build t ps=>
  rw[map_congr' (f:=fun p:Nat×Operand=>(p.1,e p.2)) (g:=fun p=>(p.1,e' p.2)) (fun p hp=>by rw[h p.2 ⟨p,hp,rfl⟩])]
 case buildSlice t n ps=>
  rw[map_congr' (f:=fun p:Nat×Operand=>(p.1,e p.2)) (g:=fun p=>(p.1,e' p.2)) (fun p hp=>by rw[h p.2 ⟨p,hp,rfl⟩])]
 case makeFunc f a b=>
  simp only[Array.toList_append,List.mem_append] at h;rw[map_congr' (fun x hx=>h x (.inl hx)),map_congr' (fun x hx=>h x (.inr hx))]
 case slice t x lo hi mx=>
  simp only[Array.toList_append,List.mem_append,List.mem_singleton] at h;have h1:e x=e' x:=h x (by simp)
  have h2:lo.map e=lo.map e':=by cases lo with | none=>rfl | some y=>simp[h y]
  have h3:hi.map e=hi.map e':=by cases hi with | none=>rfl | some y=>simp[h y]
  have h4:mx.map e=mx.map e':=by cases mx with | none=>rfl | some y=>simp[h y]
  rw[h1,h2,h3,h4]
 case call c=>
  simp only[Call.operands,Array.toList_append,List.mem_append] at h;rw[map_congr' (fun x hx=>h x (.inr hx))]
  split
  ·rfl
  ·rename_i f hf
   rw[h f (.inl (by rw[hf];simp))]
  ·rfl
theorem aOpQ_congr{o:Oper}{e e':Operand→AV}{S:St}{K:AV→Prop}(h:∀ x∈o.op.operands,e x=e' x):aOpQ P C o e S K=aOpQ P C o e' S K:=by
 unfold aOpQ
 split
 ·rename_i c hc
  rw[hc] at h;simp only[Op.operands,Call.operands,Array.toList_append,List.mem_append,Array.mem_append,Array.mem_def] at h
  split
  ·rename_i t x _ _ hx
   rw[h x (.inr (by rw[hx];simp))]
  ·rfl
 ·rename_i op t x y yt ho
  rw[ho] at h;rw[h x (by simp[Op.operands]),h y (by simp[Op.operands])]
 ·rename_i s d x ho
  rw[ho] at h;rw[h x (by simp[Op.operands])]
 ·exact aOpE_congr h
def RQ(P:Program)(C:Cx)(c:Nat)(o:Oper)(e:Operand→AV)(S:St)(x:AV):Prop:=
 match c with
 | 4=>aOpE P C o e S (fun y S'=>y=x∧S'=S) (fun _ _=>False)
 | _=>aOpQ P C o e S (·=x)
theorem RQ_congr{c:Nat}{o:Oper}{e e':Operand→AV}{S:St}{x:AV}(h:∀ y∈o.op.operands,e y=e' y):RQ P C c o e S x=RQ P C c o e' S x:=by
 unfold RQ
 split
 ·exact aOpE_congr h
 ·exact aOpQ_congr h
structure Det (F:(AV→Prop)→Prop):Prop where
 one:∀ K,F K→∃ x,F (·=x)∧K x
 mono:∀ K K':AV→Prop,(∀ x,K x→K' x)→F K→F K'
theorem Det.id(x:AV):Det fun K=>K x:=⟨fun K h=>⟨x,rfl,h⟩,fun K K' h=>h x⟩
theorem Det.no:Det fun _=>False:=⟨fun K h=>h.elim,fun K K' _ h=>h⟩
theorem Det.and{p:Prop}{F:(AV→Prop)→Prop}(h:Det F):Det fun K=>p∧F K:=⟨fun K hk=>by
 obtain⟨x,h1,h2⟩:=h.one K hk.2;exact⟨x,⟨hk.1,h1⟩,h2⟩,fun K K' hh hk=>⟨hk.1,h.mono K K' hh hk.2⟩⟩
theorem Det.ex{α:Type}{F:α→(AV→Prop)→Prop}(h:∀ a,Det (F a)):Det fun K=>∃ a,F a K:=⟨fun K ⟨a,hk⟩=>by
 obtain⟨x,h1,h2⟩:=(h a).one K hk;exact⟨x,⟨a,h1⟩,h2⟩,fun K K' hh ⟨a,hk⟩=>⟨a,(h a).mono K K' hh hk⟩⟩
theorem Det.when{b:Bool}{F:(AV→Prop)→Prop}(h:Det F):Det fun K=>when b (F K):=by cases b;exact Det.no;exact h
theorem Det.force(x:AV){F:AV→(AV→Prop)→Prop}(h:∀ x,Det (F x)):Det fun K=>force x fun y=>F y K:=by simp only[force_eq];exact h x
theorem aPart_det(t:TypeId)(xs:List AV)(off:Nat):Det (aPart C t xs off):=by
 unfold aPart
 cases (C.T t).agg with
 | true=>simp only[forceL_eq];exact Det.when (Det.id _)
 | false=>
   cases xs.drop off with
   | nil=>exact Det.no
   | cons x r=>simp only[force_eq];exact Det.id _
theorem aLoad_det(t:TypeId)(p:AV)(S:St):Det (aLoad C t p S):=by
 unfold aLoad
 cases p<;>first | exact Det.no | skip
 ·exact Det.when (Det.ex fun e=>Det.ex fun cells=>Det.and (aPart_det t cells _))
 ·exact Det.when (aPart_det t _ 0)
theorem aIntOp_det(op:BinOp)(k:IntKind)(a b:Int):Det (aIntOp op k a b):=by
 unfold aIntOp
 cases op<;>first | exact Det.no | exact Det.id _ | exact Det.and (Det.id _)
theorem aStrOp_det(op:BinOp)(a b:ByteArray):Det (aStrOp op a b):=by
 unfold aStrOp
 cases op<;>first | exact Det.no | exact Det.id _ | exact Det.and (Det.id _)
theorem aBin_det(op:BinOp)(t:TypeId)(x y:Operand)(a b:AV):Det (aBin C op t x y a b):=by
 have tail:Det fun K=>(match op with
  | .eql=>(match aEq C t a b with | some r=>K (.bool r) | none=>False)
  | .neq=>(match aEq C t a b with | some r=>K (.bool (!r)) | none=>False)
  | _=>False):=by
  cases op<;>first | exact Det.no | (cases aEq C t a b<;>first | exact Det.no | exact Det.id _)
 unfold aBin
 cases a<;>first | exact tail | (cases b<;>first | exact tail | skip)
 ·rename_i k m k' n
  cases op<;>first | exact Det.when (aIntOp_det _ k m n) | exact Det.and (Det.id _)
 ·exact aStrOp_det op _ _
 ·cases (C.T t).kind<;>first | exact Det.no | (cases op<;>first | exact Det.no | exact Det.when (Det.id _))
theorem aUn_det(op:UnOp)(x:AV):Det (aUn op x):=by
 unfold aUn
 cases op<;>first | exact Det.no | (cases x<;>first | exact Det.no | exact Det.id _)
theorem aConv_det(s d:TypeId)(x:AV)(S:St):Det (aConv C s d x S):=by
 unfold aConv
 cases (C.T s).kind<;>first | exact Det.no | (cases (C.T d).kind<;>first | exact Det.no | (cases x<;>first | exact Det.no | exact Det.id _ | exact Det.when (Det.id _) | exact Det.when (Det.and (Det.id _)) | exact Det.when (Det.ex fun _=>Det.and (Det.id _))))
theorem aFieldAddr_det(t:TypeId)(p:AV)(f:Nat):Det (aFieldAddr C t p f):=by
 unfold aFieldAddr
 cases fieldOf C t f with
 | none=>exact Det.no
 | some q=>exact Det.when (by cases p<;>first | exact Det.no | exact Det.id _)
theorem aField_det(t:TypeId)(p:AV)(f:Nat):Det (aField C t p f):=by
 unfold aField
 cases fieldOf C t f with
 | none=>exact Det.no
 | some q=>cases p<;>first | exact Det.no | exact Det.when (aPart_det _ _ _)
theorem aIndexAddr_det(t:TypeId)(x i:AV):Det (aIndexAddr C t x i):=by
 unfold aIndexAddr
 cases (C.T t).kind<;>first | exact Det.no | (cases x<;>first | exact Det.no | (cases i<;>first | exact Det.no | exact Det.when (Det.ex fun _=>Det.and (Det.id _)) | exact Det.when (Det.and (Det.id _))))
theorem aIndex_det(t:TypeId)(x i:AV):Det (aIndex C t x i):=by
 unfold aIndex
 cases (C.T t).kind<;>first | exact Det.no | (cases x<;>first | exact Det.no | (cases i<;>first | exact Det.no | exact Det.and (Det.id _)))
theorem aSlice_det(t:TypeId)(x:AV)(lo hi mx:Option AV):Det (aSlice C t x lo hi mx):=by
 have opt:∀ (a b:Option Int) (p:Int→Int→Prop) (v:Int→Int→AV),Det fun K=>(match a,b with | some l,some h=>p l h∧K (v l h) | _,_=>False):=fun a b p v=>by
  cases a<;>cases b<;>first | exact Det.no | exact Det.and (Det.id _)
 have zer0:∀ (lo hi:Option AV) (m y:AV),Det fun K=>(match lo,hi,m with | none,some (.int _ 0),.int _ 0=>K y | _,_,_=>False):=fun lo hi m y=>by
  constructor
  ·intro K h
   split at h
   ·exact⟨y,rfl,h⟩
   ·exact h.elim
  ·intro K K' hh h
   split at h
   ·exact hh y h
   ·exact h.elim
 have zer:∀ (lo hi:Option AV) (m:AV) (p:Int→Int→Prop) (v v':Int→Int→AV),Det fun K=>(match lo,hi,m with | none,some (.int _ h),.int _ m=>split (h == 0 && m == 0) (K (v h m)) (p h m∧K (v' h m)) | _,_,_=>False):=fun lo hi m p v v'=>by
  cases lo<;>first | exact Det.no | skip
  cases hi<;>first | exact Det.no | skip
  rename_i hi
  cases hi<;>first | exact Det.no | skip
  cases m<;>first | exact Det.no | skip
  rename_i _ h _ m
  dsimp only
  cases (h == 0 && m == 0)
  ·exact Det.and (Det.id _)
  ·exact Det.id _
 have arr3:∀ (lo hi:Option AV) (m:AV) (p:Int→Int→Prop) (v:Int→Int→AV),Det fun K=>(match lo,hi,m with | none,some (.int _ h),.int _ m=>p h m∧K (v h m) | _,_,_=>False):=fun lo hi m p v=>by
  cases lo<;>first | exact Det.no | skip
  cases hi<;>first | exact Det.no | skip
  rename_i hi
  cases hi<;>first | exact Det.no | skip
  cases m<;>first | exact Det.no | skip
  exact Det.and (Det.id _)
 unfold aSlice
 cases (C.T t).kind<;>first | exact Det.no | (cases x<;>first | exact Det.no | (cases mx<;>first | exact Det.no | exact opt _ _ _ _ | exact Det.when (opt _ _ _ _) | exact Det.when (zer0 _ _ _ _) | exact Det.when (zer _ _ _ (fun h m=>0≤h∧h≤m∧m≤_) _ _) | exact Det.when (arr3 _ _ _ (fun h m=>0≤h∧h≤m∧m≤_) _)))
theorem aLenQ_det(t:TypeId)(x:AV):Det (aLenQ C t x):=by
 unfold aLenQ
 cases (C.T t).kind<;>first | exact Det.no | (cases x<;>first | exact Det.no | exact Det.id _)
theorem aOpQ_det{o:Oper}(ho:opClass o≤1)(e:Operand→AV)(S:St):Det (aOpQ P C o e S):=by
 unfold aOpQ aOpE;unfold opClass at ho;generalize o.op=op at ho
 cases op<;>first | (exfalso;simp at ho;done) | skip
 case build t ps=>
  dsimp only
  cases (C.T t).kind<;>first | exact Det.no | skip
  simp only[forceL_eq]
  cases aFill _ _ _ with
  | none=>exact Det.no
  | some cells=>exact Det.when (Det.id _)
 all_goals first | exact aLoad_det _ _ S | exact aBin_det _ _ _ _ _ _ | exact aUn_det _ _ | exact aConv_det _ _ _ S | exact aFieldAddr_det _ _ _ | exact aField_det _ _ _ | exact aIndexAddr_det _ _ _ | exact aIndex_det _ _ _ | exact aSlice_det _ _ _ _ _ | (simp only[force_eq,forceL_eq];exact Det.id _) | skip
 case pick c a b=>
  simp only[force_eq]
  cases e c<;>first | exact Det.no | skip
  rename_i t
  cases t<;>exact Det.id _
 case nilCheck x=>
  dsimp only
  cases e x<;>first | exact Det.no | exact Det.id _ | skip
  rename_i f a b
  cases f<;>first | exact Det.no | exact Det.id _
 case makeInterface t x=>
  simp only[force_eq]
  cases (C.T t).kind<;>first | exact Det.no | exact Det.id _
 case extract x i=>
  simp only[force_eq]
  cases e x<;>first | exact Det.no | skip
  rename_i xs
  dsimp only
  cases xs.drop i<;>first | exact Det.no | exact Det.id _
 case call c=>
  dsimp only
  cases c.callee<;>first | exact Det.no | skip
  rename_i b
  cases b<;>first | exact Det.no | skip
  cases c.argTypes.toList<;>first | exact Det.no | skip
  rename_i t ts
  cases ts<;>first | exact Det.no | skip
  cases c.args.toList<;>first | exact Det.no | skip
  rename_i x xs
  cases xs<;>first | exact Det.no | exact aLenQ_det _ _
theorem aOpQ_light{o:Oper}(ho:opClass o=0)(e:Operand→AV)(S S':St)(K:AV→Prop):aOpQ P C o e S K=aOpQ P C o e S' K:=by
 unfold aOpQ aOpE;unfold opClass at ho;generalize o.op=op at ho
 cases op<;>first | (exfalso;simp at ho;done) | rfl
def Keeps(S S':St):Prop:=∀ b e cells,S b=some (.obj e cells)→S' b=some (.obj e cells)
theorem Keeps.refl(S:St):Keeps S S:=fun _ _ _ h=>h
theorem Keeps.upd{S:St}{b:Nat}(hb:S b=none)(o:Own):Keeps S (S.upd b o):=fun x e cells h=>by rw[St.upd_ne _ _ _ _ (St.ne_of hb h)];exact h
theorem Keeps.del{S:St}{b:Nat}{e:TypeId}{k n:Nat}(hb:S b=some (.tip e k n)):Keeps S (S.del b):=fun x e cells h=>by
 have:x≠b:=fun hx=>by rw[hx,hb] at h;cases h
 rw[St.del_ne _ _ _ this];exact h
theorem Keeps.trans{S S' S'':St}(h:Keeps S S')(h':Keeps S' S''):Keeps S S'':=fun b e c hh=>h' b e c (h b e c hh)
structure Mon (S:St) (keep:Prop) (F:(AV→St→Prop)→Prop):Prop where
 mono:∀ K K':AV→St→Prop,(∀ x S',K x S'→(keep→Keeps S S')→K' x S')→F K→F K'
theorem Mon.no{S:St}{k:Prop}:Mon S k fun _=>False:=⟨fun _ _ _ h=>h⟩
theorem Mon.id{S S':St}{k:Prop}(x:AV)(h:k→Keeps S S'):Mon S k fun K=>K x S':=⟨fun K K' hh hk=>hh x S' hk h⟩
theorem Mon.and{S:St}{k:Prop}{p:Prop}{F}(h:p→Mon S k F):Mon S k fun K=>p∧F K:=⟨fun K K' hh hk=>⟨hk.1,(h hk.1).mono K K' hh hk.2⟩⟩
theorem Mon.imp{S:St}{k:Prop}{p:Prop}{F}(h:p→Mon S k F):Mon S k fun K=>p→F K:=⟨fun K K' hh hk hp=>(h hp).mono K K' hh (hk hp)⟩
theorem Mon.all{S:St}{k:Prop}{α:Type}{F:α→(AV→St→Prop)→Prop}(h:∀ a,Mon S k (F a)):Mon S k fun K=>∀ a,F a K:=⟨fun K K' hh hk a=>(h a).mono K K' hh (hk a)⟩
theorem Mon.ex{S:St}{k:Prop}{α:Type}{F:α→(AV→St→Prop)→Prop}(h:∀ a,Mon S k (F a)):Mon S k fun K=>∃ a,F a K:=⟨fun K K' hh ⟨a,hk⟩=>⟨a,(h a).mono K K' hh hk⟩⟩
theorem Mon.or{S:St}{k:Prop}{F F':(AV→St→Prop)→Prop}(h:Mon S k F)(h':Mon S k F'):Mon S k fun K=>F K∨F' K:=⟨fun K K' hh hk=>hk.imp (h.mono K K' hh) (h'.mono K K' hh)⟩
theorem Mon.when{S:St}{k:Prop}{b:Bool}{F}(h:Mon S k F):Mon S k fun K=>when b (F K):=by cases b;exact Mon.no;exact h
theorem Mon.split{S:St}{k:Prop}{b:Bool}{F F'}(h:Mon S k F)(h':Mon S k F'):Mon S k fun K=>split b (F K) (F' K):=by cases b;exact h';exact h
theorem aAppend_mon(t:TypeId)(s x:AV)(S:St):Mon S True (aAppend C t s x S):=by
 unfold aAppend
 cases (C.T t).kind<;>first | exact Mon.no | skip
 rename_i e
 dsimp only;refine Mon.when ?_
 cases x<;>first | exact Mon.no | skip
 ·cases s<;>first | exact Mon.no | exact Mon.id _ fun _=>Keeps.refl S
 ·rename_i sh' k' new
  dsimp only;refine Mon.when ?_
  cases s<;>first | exact Mon.no | skip
  ·refine Mon.and fun _=>?_
   cases new with
   | nil=>exact Mon.id _ fun _=>Keeps.refl S
   | cons r rs=>exact Mon.all fun b=>Mon.imp fun hb=>Mon.id _ fun _=>Keeps.upd hb _
  ·rename_i sh k es
   cases sh<;>first | exact Mon.no | skip
   ·refine Mon.when (Mon.and fun _=>?_)
    cases new with
    | nil=>exact Mon.id _ fun _=>Keeps.refl S
    | cons r rs=>exact Mon.all fun b=>Mon.imp fun hb=>Mon.id _ fun _=>Keeps.upd hb _
   ·rename_i b
    refine Mon.when (Mon.and fun h=>Mon.all fun b'=>Mon.imp fun hb=>Mon.id _ fun _=>(Keeps.del h.1).trans (Keeps.upd hb _))
   ·rename_i b
    refine Mon.when (Mon.and fun h=>?_)
    cases new with
    | nil=>exact Mon.id _ fun _=>Keeps.refl S
    | cons r rs=>
      refine Mon.all fun S₁=>Mon.imp fun h1=>Mon.imp fun h2=>Mon.all fun b'=>Mon.imp fun hb=>Mon.id _ fun _=>Keeps.trans ?_ (Keeps.upd hb _)
      by_cases he:es=[]
      ·rw[h1 he];exact Keeps.refl S
      ·rw[h2 he];exact Keeps.del (h.1 he)
theorem aLen_mon(t:TypeId)(x:AV)(S:St)(k:Prop):Mon S k fun K=>aLen C t x S fun y=>K y S:=by
 unfold aLen
 cases (C.T t).kind<;>first | exact Mon.no | (cases x<;>first | exact Mon.no | exact Mon.id _ (fun _=>Keeps.refl S) | exact Mon.imp fun _=>Mon.id _ (fun _=>Keeps.refl S) | exact Mon.ex fun _=>Mon.and fun _=>Mon.id _ (fun _=>Keeps.refl S))
theorem aMM_mon(mx:Bool)(S:St)(k:Prop):∀ (r:List AV) (x:AV),Mon S k fun K=>aMM mx x r fun y=>K y S
 | [],x=>by unfold aMM;simp only[force_eq];exact Mon.id _ (fun _=>Keeps.refl S)
 | y::r,x=>by
   unfold aMM
   cases x<;>first | exact Mon.no | (cases y<;>first | exact Mon.no | exact aMM_mon mx S k r _)
theorem Triple.mono{f:FuncId}{args:List AV}{S:St}{Q Q':Out→St→Prop}(h:Triple P C f args S Q)(hq:∀ o S',Q o S'→Q' o S'):Triple P C f args S Q':=
 ⟨fun w vs hY hg hr=>(h.out w vs hY hg hr).mono fun e w' ⟨o,S',h1,h2,h3,h4⟩=>⟨o,S',h1,h2,h3,hq _ _ h4⟩⟩
theorem aStore_mono(t:TypeId)(p x:AV)(S:St)(K K':St→Prop)(h:∀ S',K S'→K' S'):aStore C t p x S K→aStore C t p x S K':=by
 unfold aStore
 cases p<;>first | exact fun h=>h | skip
 simp only[when_iff,forceL_eq];rintro⟨h1,e,cells,h2,h3,h4⟩;exact⟨h1,e,cells,h2,h3,h _ h4⟩
theorem aSetK_mono{k v:AV}:∀ {es:List (AV×AV)} {K K':List (AV×AV)→Prop},(∀ es,K es→K' es)→aSetK k v es K→aSetK k v es K'
 | [],K,K',hh,h=>hh _ h
 | (k0,v0)::r,K,K',hh,h=>by
  unfold aSetK at h ⊢
  cases hq:keyEq k k0 with
  | none=>rw[hq] at h;exact h
  | some b=>
    rw[hq] at h;dsimp only at h ⊢;rw[split_iff] at h ⊢;exact⟨fun hb=>hh _ (h.1 hb),fun hb=>aSetK_mono (fun es he=>hh _ he) (h.2 hb)⟩
theorem aFindK_mono{k:AV}{Kn Kn':Prop}(hn:Kn→Kn'){K K':AV→Prop}(hh:∀ v,K v→K' v):∀ {es:List (AV×AV)},aFindK k es K Kn→aFindK k es K' Kn'
 | [],h=>hn h
 | (k0,v0)::r,h=>by
  unfold aFindK at h ⊢
  cases hq:keyEq k k0 with
  | none=>rw[hq] at h;exact h
  | some b=>
    rw[hq] at h;dsimp only at h ⊢;rw[split_iff] at h ⊢;exact⟨fun hb=>hh _ (h.1 hb),fun hb=>aFindK_mono hn hh (h.2 hb)⟩
theorem aGrow_mon(e:TypeId)(s:AV)(new:List (List AV))(S:St):Mon S True (aGrow C e s new S):=by
 have step:∀ {b n m b' S'},AccStep S b e (C.T e).size n m b' S'→(0<n→S b=some (.tip e (C.T e).size n))→Keeps S S':=by
  intro b n m b' S' h ht
  rcases h with ⟨_,_,rfl⟩ | ⟨_,S₁,h1,h2,h3,rfl⟩
  ·exact Keeps.refl _
  ·refine Keeps.trans ?_ (Keeps.upd h3 _)
   rcases Nat.eq_zero_or_pos n with h | h
   ·rw[h1 h];exact Keeps.refl S
   ·rw[h2 h];exact Keeps.del (ht h)
 unfold aGrow;refine Mon.when ?_
 cases s<;>first | exact Mon.no | skip
 ·exact Mon.and fun _=>Mon.all fun b=>Mon.all fun S'=>Mon.imp fun h=>Mon.id _ fun _=>step h (fun h=>absurd h (by omega))
 ·rename_i sh k es
  cases sh<;>first | exact Mon.no | skip
  ·exact Mon.when (Mon.and fun h=>Mon.all fun b'=>Mon.imp fun hb=>Mon.id _ fun _=>(Keeps.del h.1).trans (Keeps.upd hb _))
  ·exact Mon.when (Mon.and fun h=>Mon.all fun b'=>Mon.all fun S'=>Mon.imp fun hs=>Mon.id _ fun _=>step hs h.1)
theorem aSrc_mono(e tx:TypeId)(x:AV)(S:St)(K K':List (List AV)→Prop)(h:∀ l,K l→K' l):aSrc C e tx x S K→aSrc C e tx x S K':=by
 unfold aSrc
 cases (C.T tx).kind<;>first | exact fun h=>h | (cases x<;>first | exact fun h=>h | skip)
 ·simp only[when_iff];exact fun hh=>⟨hh.1,h _ hh.2⟩
 ·simp only[when_iff];rintro⟨h1,te,cells,h2,h3,h4⟩;exact⟨h1,te,cells,h2,h3,h _ h4⟩
theorem aOpE_mon{o:Oper}(ho:2≤opClass o)(e:Operand→AV)(S:St)(Qp:AV→St→Prop):Mon S (opClass o=2) fun K=>aOpE P C o e S K Qp:=by
 unfold opClass at ho ⊢;unfold aOpE;generalize o.op=op at ho ⊢
 cases op<;>first | (exfalso;simp at ho;done) | exact Mon.no | skip
 case alloc t=>
  simp only[forceL_eq];exact Mon.when (Mon.all fun b=>Mon.imp fun hb=>Mon.id _ fun _=>Keeps.upd hb _)
 case box t x=>
  simp only[forceL_eq,force_eq];exact Mon.when (Mon.all fun b=>Mon.imp fun hb=>Mon.id _ fun _=>Keeps.upd hb _)
 case store t p x=>
  simp only[force_eq];exact⟨fun K K' hh hk=>aStore_mono t _ _ S _ _ (fun S' h'=>hh _ _ h' (fun h=>by simp at h)) hk⟩
 case buildSlice t n ps=>
  simp only[forceR_eq]
  cases (C.T t).kind<;>first | exact Mon.no | skip
  dsimp only
  cases (C.A && Nat.beq n 0)
  case true=>exact Mon.when (Mon.and fun _=>Mon.all fun b=>Mon.imp fun hb=>Mon.id _ fun _=>Keeps.upd hb _)
  simp only[cond_false];refine Mon.when ?_
  cases aFill _ _ _ with
  | none=>exact Mon.no
  | some cells=>exact Mon.all fun b=>Mon.imp fun hb=>Mon.id _ fun _=>Keeps.upd hb _
 case makeSlice t l c=>
  dsimp only
  cases (C.T t).kind<;>first | exact Mon.no | skip
  cases e l<;>first | exact Mon.no | skip
  cases e c<;>first | exact Mon.no | skip
  exact Mon.when (Mon.and fun _=>Mon.all fun b=>Mon.imp fun hb=>Mon.id _ fun _=>Keeps.upd hb _)
 case typeAssert x xt asserted ok=>
  clear ho;simp only[force_eq];have main:Mon S ((3:Nat)=2) fun K=>(match e x,ok with
   | .nili,true=>K (.tu [ofV (C.T asserted).zero,.bool false]) S
   | .ifc t y,true=>(match Nat.beq t asserted with
    | true=>K (.tu [y,.bool true]) S
    | false=>K (.tu [ofV (C.T asserted).zero,.bool false]) S)
   | .ifc t y,false=>when (Nat.beq t asserted) (K y S)
   | _,_=>False:Prop):=by
   cases e x<;>first | exact Mon.no | skip
   ·cases ok
    ·exact Mon.no
    ·exact Mon.id _ fun _=>Keeps.refl S
   ·rename_i t y
    cases ok
    ·exact Mon.when (Mon.id _ fun _=>Keeps.refl S)
    ·dsimp only
     cases Nat.beq t asserted<;>exact Mon.id _ fun _=>Keeps.refl S
  cases (C.T asserted).kind<;>first | exact Mon.no | exact main
 case makeMap t r=>
  cases r with
  | some _=>exact Mon.no
  | none=>
    dsimp only
    cases (C.T t).kind<;>first | exact Mon.no | exact Mon.all fun b=>Mon.imp fun hb=>Mon.id _ fun _=>Keeps.upd hb _
 case insert t m k v=>
  simp only[force_eq]
  cases (C.T t).kind<;>first | exact Mon.no | skip
  cases e m<;>first | exact Mon.no | skip
  exact Mon.when (Mon.ex fun es=>Mon.and fun _=>⟨fun K K' hh hk=>aSetK_mono (fun es' h'=>hh _ _ h' fun h=>by simp at h) hk⟩)
 case mapUpdate t m k v=>
  simp only[force_eq]
  cases (C.T t).kind<;>first | exact Mon.no | skip
  cases e m<;>first | exact Mon.no | skip
  exact Mon.when (Mon.ex fun es=>Mon.and fun _=>⟨fun K K' hh hk=>aSetK_mono (fun es' h'=>hh _ _ h' fun h=>by simp at h) hk⟩)
 case lookup t m k ok=>
  simp only[force_eq]
  cases (C.T t).kind<;>first | exact Mon.no | skip
  cases e m<;>first | exact Mon.no | skip
  ·exact Mon.when (Mon.id _ fun _=>Keeps.refl S)
  ·exact Mon.when (Mon.ex fun es=>Mon.and fun _=>⟨fun K K' hh hk=>aFindK_mono (fun h'=>hh _ _ h' fun _=>Keeps.refl S) (fun v h'=>hh _ _ h' fun _=>Keeps.refl S) hk⟩)
 case range t x=>
  dsimp only
  cases (C.T t).kind<;>first | exact Mon.no | (cases e x<;>first | exact Mon.no | exact Mon.all fun b=>Mon.imp fun hb=>Mon.id _ fun _=>Keeps.upd hb _ | exact Mon.ex fun es=>Mon.and fun _=>Mon.all fun b=>Mon.imp fun hb=>Mon.id _ fun h=>by simp at h)
 case entry x=>
  dsimp only
  cases e x<;>first | exact Mon.no | skip
  rename_i b off
  cases off with
  | succ off=>exact Mon.no
  | zero=>exact Mon.ex fun kv=>Mon.ex fun left=>Mon.and fun _=>Mon.id _ fun _=>Keeps.refl S
 case next x str=>
  cases str with
  | false=>
    dsimp only
    cases e x<;>first | exact Mon.no | skip
    rename_i b off
    cases off with
    | succ off=>exact Mon.no
    | zero=>
      refine Mon.ex fun cur=>Mon.ex fun left=>Mon.and fun hS=>⟨fun K K' hh hk=>⟨fun h0=>hh _ _ (hk.1 h0) fun _=>Keeps.refl S,fun pre kv post hp=>hh _ _ (hk.2 pre kv post hp) fun h=>by simp at h⟩⟩
  | true=>
    dsimp only
    cases e x<;>first | exact Mon.no | skip
    rename_i b off
    cases off with
    | succ off=>exact Mon.no
    | zero=>exact Mon.ex fun s=>Mon.ex fun pos=>Mon.and fun hS=>Mon.split (Mon.id _ fun h=>by simp at h) (Mon.id _ fun _=>Keeps.refl S)
 case panic x=>
  exact⟨fun K K' hh hk=>hk⟩
 case call c=>
  dsimp only
  cases hc:c.callee<;>first | exact Mon.no | skip
  ·rename_i f
   dsimp only;unfold aCall
   cases e f<;>first | exact Mon.no | skip
   rename_i g first cap
   cases g<;>first | exact Mon.no | skip
   simp only[forceL_eq];exact⟨fun K K' hh hk=>hk.mono fun o S' ho'=>by
    cases o with
    | ret x=>exact hh x S' ho' (fun h=>by simp at h)
    | pan x=>exact ho'⟩
  ·rename_i b
   dsimp only;unfold aBuiltin
   constructor
   intro K K' hh hk
   split at hk
   ·exact(aLen_mon _ _ S _).mono K K' hh hk
   ·split at hk
    ·split at hk
     ·exact aSrc_mono _ _ _ S _ _ (fun l h'=>(aGrow_mon _ _ l S).mono K K' (fun x S' h1 h2=>hh x S' h1 fun _=>h2 trivial) h') hk
     ·exact hk
    ·rw[when_iff] at hk ⊢;exact⟨hk.1,(aAppend_mon _ _ _ S).mono K K' (fun x S' h1 h2=>hh x S' h1 fun _=>h2 trivial) hk.2⟩
   ·split at hk
    ·exact hh _ _ hk fun _=>Keeps.refl S
    ·exact hk
   ·exact(aMM_mon _ S _ _ _).mono K K' hh hk
   ·exact(aMM_mon _ S _ _ _).mono K K' hh hk
   ·exact hk
theorem aOpQ_stay{o:Oper}(ho:opClass o≤1){e:Operand→AV}{S:St}{K:AV→Prop}(h:aOpQ P C o e S K):aOpE P C o e S (fun y S'=>K y∧S'=S) (fun _ _=>False):=by
 have h':=(aOpQ_det (P:=P) (C:=C) ho e S).mono K (fun y=>K y∧S=S) (fun x hx=>⟨hx,rfl⟩) h
 unfold aOpQ at h';unfold aOpE at h' ⊢;unfold opClass at ho;generalize o.op=op at ho h' ⊢
 cases op<;>first | (exfalso;simp at ho;done) | exact h' | skip
 case binOp op t x y yt=>
  dsimp only at h' ⊢
  cases hn:nilTest C op t (e x) (e y) with
  | none=>exact h'
  | some r=>exact absurd h' (nilTest_bin hn)
 rename_i c
 dsimp only at h' ⊢
 split at h'
 ·rename_i t x hc ht hx
  rw[hc,ht,hx]
  show aLen C t (e x) S fun y=>K y∧S=S
  unfold aLenQ at h';unfold aLen
  split at h'<;>first | exact h'.elim | skip
  ·rename_i hk hv;rw[hk,hv];exact h'
  ·rename_i hk hv;rw[hk,hv];exact fun _=>h'
  ·rename_i hk hv;rw[hk,hv];exact h'
  ·rename_i hk hv;rw[hk,hv];exact h'
 ·exact h'.elim
theorem RQ_stay{c:Nat}{o:Oper}(hc:c=4∨opClass o≤1){e:Operand→AV}{S:St}{x:AV}(h:RQ P C c o e S x):aOpE P C o e S (fun y S'=>y=x∧S'=S) (fun _ _=>False):=by
 unfold RQ at h
 split at h
 ·exact h
 ·rename_i hne
  rcases hc with hc | hc
  ·exact absurd hc hne
  ·exact aOpQ_stay hc h
def wantedR(ops:Array Oper)(o:Oper)(ρ:Nat→AV):Option Bool:=
 match o.guard with
 | none=>some true
 | some (j,want)=>
   match (ops[j]?).bind (·.dst) with
   | some d=>(match ρ d with | .bool b=>some (b == want) | .tu []=>some false | _=>none)
   | none=>none
def quietC(c:Nat):Bool:=Nat.ble c 1 || Nat.beq c 4
def RCore(P:Program)(C:Cx)(c:Nat)(o:Oper)(ρ:Nat→AV)(S:St)(K:(Nat→AV)→St→Prop)(Qp:AV→St→Prop):Prop:=
 if quietC c=true then ∃ x,RQ P C c o (evR C ρ) S x∧K (rput o.dst x ρ) S else aOpE P C o (evR C ρ) S (fun x S'=>K (rput o.dst x ρ) S') Qp
def RStep(P:Program)(C:Cx)(qc:List Nat)(ops:Array Oper)(i:Nat)(ρ:Nat→AV)(S:St)(K:(Nat→AV)→St→Prop)(Qp:AV→St→Prop):Prop:=
 ∃ o,ops[i]? = some o∧((wantedR ops o ρ=some true∧RCore P C (clsOf qc i o) o ρ S K Qp)∨(wantedR ops o ρ=some false∧K (rput o.dst (.tu []) ρ) S))
theorem opClass_le(o:Oper):opClass o≤3:=by
 unfold opClass
 split<;>first | omega | (split<;>omega)
theorem clsOf_cases(qc:List Nat)(i:Nat)(o:Oper):clsOf qc i o=4∨clsOf qc i o=opClass o:=by
 unfold clsOf
 cases qc.any (Nat.beq i)<;>simp
theorem cls_quiet{qc:List Nat}{i:Nat}{o:Oper}(h:quietC (clsOf qc i o)=true):clsOf qc i o=4∨(clsOf qc i o=opClass o∧opClass o≤1):=by
 rcases clsOf_cases qc i o with h' | h'
 ·exact .inl h'
 ·right
  refine⟨h',?_⟩;rw[h'] at h;have:=opClass_le o;simp only[quietC,Bool.or_eq_true] at h
  rcases h with h | h
  ·exact Nat.le_of_ble_eq_true h
  ·have:=Nat.eq_of_beq_eq_true h;omega
theorem cls_loud{qc:List Nat}{i:Nat}{o:Oper}(h:quietC (clsOf qc i o)≠true):clsOf qc i o=opClass o∧2≤opClass o:=by
 rcases clsOf_cases qc i o with h' | h'
 ·rw[h'] at h;exact absurd rfl h
 ·refine⟨h',?_⟩;rw[h'] at h
  rcases Nat.lt_or_ge (opClass o) 2 with hl | hl
  ·exfalso;apply h
   simp only[quietC,Bool.or_eq_true];exact .inl (Nat.ble_eq_true_of_le (by omega))
  ·exact hl
theorem RCore.mono{c:Nat}{o:Oper}{ρ:Nat→AV}{S:St}{K K':(Nat→AV)→St→Prop}{Qp:AV→St→Prop}(hc:quietC c≠true→2≤opClass o)(hh:∀ ρ' S',K ρ' S'→K' ρ' S')(h:RCore P C c o ρ S K Qp):RCore P C c o ρ S K' Qp:=by
 unfold RCore at *
 split at h
 ·rename_i hq
  obtain⟨x,h1,h2⟩:=h;rw[if_pos hq];exact⟨x,h1,hh _ _ h2⟩
 ·rename_i hq
  rw[if_neg hq];exact(aOpE_mon (hc hq) _ S Qp).mono _ _ (fun x S' h1 _=>hh _ _ h1) h
theorem RStep.mono{qc:List Nat}{ops:Array Oper}{i:Nat}{ρ:Nat→AV}{S:St}{K K':(Nat→AV)→St→Prop}{Qp:AV→St→Prop}(hh:∀ ρ' S',K ρ' S'→K' ρ' S')(h:RStep P C qc ops i ρ S K Qp):RStep P C qc ops i ρ S K' Qp:=by
 obtain⟨o,h1,h2⟩:=h;refine⟨o,h1,?_⟩
 rcases h2 with ⟨h2,h3⟩ | ⟨h2,h3⟩
 ·exact .inl ⟨h2,h3.mono (fun h=>(cls_loud h).2) hh⟩
 ·exact .inr ⟨h2,hh _ _ h3⟩
def YR(P:Program)(C:Cx)(qc:List Nat)(ops:Array Oper)(i:Nat)(o:Oper)(ρ:Nat→AV)(S:St)(v:AV):Prop:=
 (wantedR ops o ρ=some true∧RQ P C (clsOf qc i o) o (evR C ρ) S v)∨(wantedR ops o ρ=some false∧v=.tu [])
theorem looks_op{ops:Array Oper}{o:Oper}{d:Tmp}(h:d ∉ o.looksAt ops):∀ x∈o.op.operands,x≠.tmp d:=by
 intro x hx e;subst e
 apply h
 unfold Oper.looksAt;refine List.mem_append.2 (.inl (List.mem_filterMap.2 ⟨.tmp d,by simpa using hx,rfl⟩))
theorem evR_keep{ops:Array Oper}{o:Oper}{dst:Option Tmp}{u:AV}{ρ:Nat→AV}(h:∀ d,dst=some d→d ∉ o.looksAt ops):∀ x∈o.op.operands,evR C (rput dst u ρ) x=evR C ρ x:=
 fun x hx=>evR_put fun t ht=>looks_op (h t ht) x hx
theorem wantedR_keep{ops:Array Oper}{o:Oper}{dst:Option Tmp}{u:AV}{ρ:Nat→AV}(h:∀ d,dst=some d→d ∉ o.looksAt ops):wantedR ops o (rput dst u ρ)=wantedR ops o ρ:=by
 unfold wantedR
 split
 ·rfl
 ·rename_i j want hg
  split
  ·rename_i d hd
   have:rput dst u ρ d=ρ d:=by
    cases dst with
    | none=>rfl
    | some d'=>
      have hne:d'≠d:=by
       intro e;subst e
       apply h d' rfl
       unfold Oper.looksAt;rw[hg];refine List.mem_append.2 (.inr ?_);dsimp only;rw[hd];simp
      simp only[rput,if_neg hne]
   rw[this]
  ·rfl
theorem YR.keep{qc:List Nat}{ops:Array Oper}{i:Nat}{o:Oper}{ρ:Nat→AV}{S:St}{v u:AV}{dst:Option Tmp}(h:∀ d,dst=some d→d ∉ o.looksAt ops)(hy:YR P C qc ops i o ρ S v):YR P C qc ops i o (rput dst u ρ) S v:=by
 unfold YR at *;rw[wantedR_keep h,RQ_congr (evR_keep h)];exact hy
theorem YR.turn{qc:List Nat}{ops:Array Oper}{i:Nat}{o:Oper}{ρ:Nat→AV}{S S':St}{v:AV}(hc:clsOf qc i o=0∨(clsOf qc i o=1∧Keeps S S'))(hy:YR P C qc ops i o ρ S v):YR P C qc ops i o ρ S' v:=by
 have hcl:clsOf qc i o=opClass o:=by
  rcases clsOf_cases qc i o with h | h
  ·rcases hc with hc | ⟨hc,_⟩<;>omega
  ·exact h
 unfold YR at *
 rcases hy with ⟨h1,h2⟩ | h
 ·refine .inl ⟨h1,?_⟩
  rcases hc with hc | ⟨hc,hk⟩
  ·rw[hc] at h2 ⊢;simp only[RQ] at h2 ⊢;rw[aOpQ_light (by omega) _ S' S];exact h2
  ·rw[hc] at h2 ⊢;simp only[RQ] at h2 ⊢;have ho:opClass o=1:=by omega
   unfold opClass at ho;unfold aOpQ aOpE at h2 ⊢;generalize o.op=op at ho h2 ⊢
   cases op<;>first | (exfalso;simp at ho;done) | skip
   ·rename_i t p
    dsimp only at h2 ⊢;unfold aLoad at h2 ⊢;generalize evR C ρ p=q at h2 ⊢
    cases q<;>first | exact h2 | skip
    dsimp only at h2 ⊢;rw[when_iff] at h2 ⊢;obtain⟨k1,e,cells,k2,k3⟩:=h2;exact⟨k1,e,cells,hk _ _ _ k2,k3⟩
   ·rename_i c
    exfalso
    dsimp only at ho
    split at ho<;>omega
 ·exact .inr h
theorem rstep_put{qc:List Nat}{ops:Array Oper}{i j:Nat}{oi oj:Oper}(hj:ops[j]? = some oj)(hap:oi.apart ops oj=true)(hmix:mixes (clsOf qc i oi) (clsOf qc j oj)=true)
 {ρ:Nat→AV} {S:St} {v:AV} {K:(Nat→AV)→St→Prop} {Qp:AV→St→Prop} (hy:YR P C qc ops i oi ρ S v) (h:RStep P C qc ops j (rput oi.dst v ρ) S K Qp) :
 RStep P C qc ops j ρ S (fun ρ' S'=>YR P C qc ops i oi ρ' S' v∧K (rput oi.dst v ρ') S') Qp:=by
 obtain⟨a1,a2,a3⟩:=Oper.apart_spec hap;obtain⟨o,ho,h⟩:=h;rw[hj] at ho;obtain rfl:oj=o:=by simpa using ho
 refine⟨oj,hj,?_⟩;rw[wantedR_keep a1] at h
 rcases h with ⟨h1,h2⟩ | ⟨h1,h2⟩
 ·refine .inl ⟨h1,?_⟩;unfold RCore at *
  split at h2
  ·rename_i hq
   rw[if_pos hq];obtain⟨x,k1,k2⟩:=h2;rw[RQ_congr (evR_keep a1)] at k1;refine⟨x,k1,hy.keep a3,?_⟩;rw[rput_comm a2];exact k2
  ·rename_i hq
   rw[if_neg hq];obtain⟨c1,c2⟩:=cls_loud hq;rw[aOpE_congr (evR_keep a1)] at h2;refine(aOpE_mon c2 _ S Qp).mono _ _ (fun x S' m1 m2=>⟨(YR.turn ?_ hy).keep a3,by rw[rput_comm a2];exact m1⟩) h2
   rw[c1] at hmix;have h3:=opClass_le oj;unfold mixes at hmix
   split at hmix
   ·rename_i e;exact .inl e
   ·rename_i e
    simp only[Bool.or_eq_true] at hmix;refine .inr ⟨e,m2 ?_⟩
    rcases hmix with hm | hm
    ·have:=Nat.le_of_ble_eq_true hm;omega
    ·have:=Nat.eq_of_beq_eq_true hm;omega
   ·simp only[Bool.or_eq_true] at hmix
    rcases hmix with hm | hm
    ·have:=Nat.le_of_ble_eq_true hm;omega
    ·have:=Nat.eq_of_beq_eq_true hm;omega
   ·cases hmix
 ·refine .inr ⟨h1,hy.keep a3,?_⟩;rw[rput_comm a2];exact h2
def AnyR(P:Program)(C:Cx)(qc:List Nat)(ops:Array Oper)(K:(Nat→AV)→St→Prop)(Qp:AV→St→Prop):Nat→Array Bool→(Nat→AV)→St→Prop
 | 0,listed,ρ,S=>Region.ready .any ops listed=[]∧K ρ S
 | n+1,listed,ρ,S=>(Region.ready .any ops listed=[]→K ρ S)∧∀ j∈Region.ready .any ops listed,RStep P C qc ops j ρ S (AnyR P C qc ops K Qp n (listed.setIfInBounds j true)) Qp
theorem YR.step{qc:List Nat}{ops:Array Oper}{i:Nat}{o:Oper}(hi:ops[i]? = some o)(hq:quietC (clsOf qc i o)=true){ρ:Nat→AV}{S:St}{v:AV}{K:(Nat→AV)→St→Prop}{Qp:AV→St→Prop}(hy:YR P C qc ops i o ρ S v)(h:K (rput o.dst v ρ) S):RStep P C qc ops i ρ S K Qp:=by
 refine⟨o,hi,?_⟩
 rcases hy with ⟨h1,h2⟩ | ⟨h1,rfl⟩
 ·exact .inl ⟨h1,by unfold RCore;rw[if_pos hq];exact⟨v,h2,h⟩⟩
 ·exact .inr ⟨h1,h⟩
theorem any_first{qc:List Nat}{ops:Array Oper}{K:(Nat→AV)→St→Prop}{Qp:AV→St→Prop}{i:Nat}{oi:Oper}{v:AV}(hi:ops[i]? = some oi)(hq:quietC (clsOf qc i oi)=true)(D:Nat→Bool)
 (hD:∀ j oj,ops[j]? = some oj→D j=true→∃ e∈oj.after,Region.binds .any e=true∧(e.on=i∨D e.on=true)) :
 ∀ (fuel:Nat) (listed:Array Bool) (ρ:Nat→AV) (S:St),
  (∀ j oj,ops[j]? = some oj→j≠i→listed.getD j true=false→D j=false→oi.apart ops oj=true∧mixes (clsOf qc i oi) (clsOf qc j oj)=true)→
  (∀ j,D j=true→listed.getD j true=false)→
  i∈Region.ready .any ops listed→YR P C qc ops i oi ρ S v→
  AnyR P C qc ops K Qp fuel (listed.setIfInBounds i true) (rput oi.dst v ρ) S→AnyR P C qc ops K Qp (fuel+1) listed ρ S:=by
 intro fuel
 induction fuel with
 | zero=>
   intro listed ρ S _ _ hr hy H;refine⟨fun h=>(by rw[h] at hr;cases hr),fun j hj=>?_⟩
   by_cases hji:j=i
   ·subst hji;exact hy.step hi hq H
   ·have:=ready_mono hj hji
    rw[H.1] at this
    cases this
 | succ fuel ih=>
   intro listed ρ S hfree hun hr hy H;refine⟨fun h=>(by rw[h] at hr;cases hr),fun j hj=>?_⟩
   by_cases hji:j=i
   ·subst hji;exact hy.step hi hq H
   ·have h1:=H.2 j (ready_mono hj hji)
    obtain⟨hjun,oj,hoj,hall⟩:=mem_ready.1 hj;have clash:∀ m,listed.getD m true=false→listed.getD m false=true→False:=fun m h0 h1=>by
     rcases Nat.lt_or_ge m listed.size with h' | h'
     ·simp[h'] at h0 h1;rw[h0] at h1;cases h1
     ·simp[Array.getElem?_eq_none h'] at h1
    have hnot:D j=false:=by
     cases hDj:D j with
     | false=>rfl
     | true=>
       obtain⟨e,he,hb,hc⟩:=hD j oj hoj hDj;have h1:=hall e he hb
       rcases hc with heq | hc
       ·rw[heq] at h1;exact(clash i (mem_ready.1 hr).1 h1).elim
       ·exact(clash _ (hun _ hc) h1).elim
    obtain⟨f1,f2⟩:=hfree j oj hoj hji hjun hnot;have h2:=rstep_put hoj f1 f2 hy h1;have hfree':∀ k ok,ops[k]? = some ok→k≠i→(listed.setIfInBounds j true).getD k true=false→
     D k=false→oi.apart ops ok=true∧mixes (clsOf qc i oi) (clsOf qc k ok)=true:=fun k ok hk hki hun hno=>by
     refine hfree k ok hk hki ?_ hno
     by_cases hjk:j=k
     ·subst hjk;exact hjun
     ·rw[getD_set_ne true hjk] at hun;exact hun
    have hun':∀ k,D k=true→(listed.setIfInBounds j true).getD k true=false:=fun k hk=>by
     have hkj:j≠k:=fun e=>by rw[← e,hnot] at hk;cases hk
     rw[getD_set_ne true hkj];exact hun k hk
    refine h2.mono (fun ρ' S' h3=>ih (listed.setIfInBounds j true) ρ' S' hfree' hun' (ready_mono hr (Ne.symm hji)) h3.1 ?_)
    rw[Array.setIfInBounds_comm _ _ hji];exact h3.2
theorem aCore_quiet{c:Nat}{o:Oper}(hc:c=4∨(c=opClass o∧opClass o≤1)){e:Operand→AV}{S:St}{K Qp:AV→St→Prop}(h:aCore P C c o e S K Qp):∃ x,RQ P C c o e S x∧K x S:=by
 rcases hc with rfl | ⟨rfl,ho⟩
 ·exact h
 ·have h':aOpQ P C o e S fun x=>K x S:=by
   have h01:opClass o=0∨opClass o=1:=by omega
   rcases h01 with e | e<;>rw[e] at h<;>exact h
  obtain⟨x,k1,k2⟩:=(aOpQ_det (P:=P) (C:=C) ho e S).one _ h';refine⟨x,?_,k2⟩;unfold RQ
  split
  ·omega
  ·exact k1
theorem aCore_loud{c:Nat}{o:Oper}(hc:c=opClass o∧2≤opClass o){e:Operand→AV}{S:St}{K Qp:AV→St→Prop}(h:aCore P C c o e S K Qp):aOpE P C o e S K Qp:=by
 have:=opClass_le o
 unfold aCore at h
 split at h<;>first | omega | exact h
theorem aStep_inv{qc:List Nat}{ops:Array Oper}{i:Nat}{env:Env}{S:St}{K:Env→St→Prop}{Qp:AV→St→Prop}(h:aStep P C qc ops.toList i env S K Qp) :
 ∃ o,ops[i]? = some o∧((wantedR ops o (fun t=>look t env)=some true∧aCore P C (clsOf qc i o) o (evR C fun t=>look t env) S (fun x S'=>K (put o.dst x env) S') Qp)∨
  (wantedR ops o (fun t=>look t env)=some false∧K (put o.dst (.tu []) env) S)):=by
 unfold aStep at h;simp only[putK_eq,ev_evR] at h
 split at h
 ·exact h.elim
 ·rename_i o ho
  refine⟨o,by simpa using ho,?_⟩
  split at h
  ·rename_i hg
   exact .inl ⟨by simp[wantedR,hg],h⟩
  ·rename_i j want hg
   split at h
   ·rename_i d hd
    have hd':(ops[j]?).bind (·.dst)=some d:=by simpa using hd
    split at h
    ·rename_i b hb
     have hw:wantedR ops o (fun t=>look t env)=some (b == want):=by simp only[wantedR,hg,hd',hb]
     rw[split_iff] at h
     cases b<;>cases want
     ·exact .inl ⟨hw,h.2 rfl⟩
     ·exact .inr ⟨hw,h.2 rfl⟩
     ·exact .inr ⟨hw,h.1 rfl⟩
     ·exact .inl ⟨hw,h.1 rfl⟩
    ·rename_i hb
     exact .inr ⟨by simp only[wantedR,hg,hd',hb],h⟩
    ·exact h.elim
   ·exact h.elim
theorem aStep_rstep{qc:List Nat}{ops:Array Oper}{i:Nat}{env:Env}{S:St}{K:Env→St→Prop}{KR:(Nat→AV)→St→Prop}{Qp:AV→St→Prop}(h:aStep P C qc ops.toList i env S K Qp)
 (hk:∀ env' S',K env' S'→KR (fun t=>look t env') S'):RStep P C qc ops i (fun t=>look t env) S KR Qp:=by
 obtain⟨o,ho,h⟩:=aStep_inv h;refine⟨o,ho,?_⟩
 rcases h with ⟨h1,h2⟩ | ⟨h1,h2⟩
 ·refine .inl ⟨h1,?_⟩;unfold RCore
  split
  ·rename_i hq
   obtain⟨x,k1,k2⟩:=aCore_quiet (cls_quiet hq) h2;exact⟨x,k1,by rw[← look_put];exact hk _ _ k2⟩
  ·rename_i hq
   exact(aOpE_mon (cls_loud hq).2 _ S Qp).mono _ _ (fun x S' m1 _=>by rw[← look_put];exact hk _ _ m1) (aCore_loud (cls_loud hq) h2)
 ·exact .inr ⟨h1,by rw[← look_put];exact hk _ _ h2⟩
theorem aStep_quiet{qc:List Nat}{ops:Array Oper}{i:Nat}{env:Env}{S:St}{K:Env→St→Prop}{Qp:AV→St→Prop}{o:Oper}(ho:ops[i]? = some o)(hq:quietC (clsOf qc i o)=true)(h:aStep P C qc ops.toList i env S K Qp) :
 ∃ v,YR P C qc ops i o (fun t=>look t env) S v∧K (put o.dst v env) S:=by
 obtain⟨o',ho',h⟩:=aStep_inv h;rw[ho] at ho';obtain rfl:o=o':=by simpa using ho'
 rcases h with ⟨h1,h2⟩ | ⟨h1,h2⟩
 ·obtain⟨x,k1,k2⟩:=aCore_quiet (cls_quiet hq) h2;exact⟨x,.inl ⟨h1,k1⟩,k2⟩
 ·exact⟨.tu [],.inr ⟨h1,rfl⟩,h2⟩
def AnyP(P:Program)(C:Cx)(qc:List Nat)(ops:Array Oper)(K:(Nat→AV)→St→Prop)(Qp:AV→St→Prop)(n:Nat)(listed:Array Bool)(acc:List Nat)(ρ:Nat→AV)(S:St):Prop:=
 (Region.ready .any ops listed=[]→K ρ S)∧∀ j∈Region.ready .any ops listed,acc.contains j=true∨∃ m,n=m+1∧RStep P C qc ops j ρ S (AnyR P C qc ops K Qp m (listed.setIfInBounds j true)) Qp
theorem AnyP.any{qc:List Nat}{ops:Array Oper}{K:(Nat→AV)→St→Prop}{Qp:AV→St→Prop}{n:Nat}{listed:Array Bool}{ρ:Nat→AV}{S:St}(h:AnyP P C qc ops K Qp n listed [] ρ S):AnyR P C qc ops K Qp n listed ρ S:=by
 obtain⟨h1,h2⟩:=h
 cases n with
 | zero=>
   have:Region.ready .any ops listed=[]:=by
    cases hr:Region.ready .any ops listed with
    | nil=>rfl
    | cons x xs=>
      rcases h2 x (by rw[hr];simp) with h | ⟨m,h,_⟩
      ·simp at h
      ·omega
   exact⟨this,h1 this⟩
 | succ n=>
   refine⟨h1,fun j hj=>?_⟩
   rcases h2 j hj with h | ⟨m,h,h'⟩
   ·simp at h
   ·obtain rfl:n=m:=by omega
    exact h'
theorem free_spec{qc:List Nat}{ops:Array Oper}{listed:Array Bool}{i:Nat}{oi:Oper}(hi:ops[i]? = some oi)(h:freeB qc ops listed i=true) :
 (∀ j oj,ops[j]? = some oj→(depsL ops i).any (Nat.beq j)=true→∃ e∈oj.after,Region.binds .any e=true∧(e.on=i∨(depsL ops i).any (Nat.beq e.on)=true))∧
 (∀ j oj,ops[j]? = some oj→j≠i→listed.getD j true=false→(depsL ops i).any (Nat.beq j)=false→oi.apart ops oj=true∧mixes (clsOf qc i oi) (clsOf qc j oj)=true)∧
 (∀ j,(depsL ops i).any (Nat.beq j)=true→listed.getD j true=false):=by
 unfold freeB at h;rw[hi] at h;simp only[Bool.and_eq_true,List.all_eq_true,List.mem_range] at h;obtain⟨h1,h2⟩:=h;have mem:∀ j,(depsL ops i).any (Nat.beq j)=true→j∈depsL ops i:=fun j hj=>by
  obtain⟨x,hx,he⟩:=List.any_eq_true.1 hj;rw[Nat.eq_of_beq_eq_true he];exact hx
 refine⟨fun j oj hj hd=>?_,fun j oj hj hji hun hd=>?_,fun j hd=>?_⟩
 ·have:=h1 j (mem j hd)
  rw[hj] at this;simp only[Bool.and_eq_true] at this;obtain⟨_,ha⟩:=this;rw[Array.any_eq_true'] at ha;obtain⟨e,he,hb⟩:=ha;simp only[Bool.and_eq_true,Bool.or_eq_true] at hb;exact⟨e,he,hb.1,hb.2.imp Nat.eq_of_beq_eq_true id⟩
 ·have hlt:j<ops.size:=by
   rcases Nat.lt_or_ge j ops.size with h' | h'
   ·exact h'
   ·rw[Array.getElem?_eq_none h'] at hj;cases hj
  have:=h2 j hlt
  rw[hj] at this;simp only[Bool.or_eq_true,hun,hd,Bool.false_eq_true,or_false,Bool.and_eq_true] at this
  rcases this with h | h
  ·exact absurd (Nat.eq_of_beq_eq_true h) hji
  ·exact h
 ·have:=h1 j (mem j hd)
  cases hj:ops[j]? with
  | none=>rw[hj] at this;cases this
  | some oj=>
    rw[hj] at this;simp only[Bool.and_eq_true,Bool.not_eq_true'] at this;exact this.1
theorem mixes_quiet{qc:List Nat}{ops:Array Oper}{listed:Array Bool}{i:Nat}{oi:Oper}(hi:ops[i]? = some oi)(h:Plan.quietAt qc ops i=true):quietC (clsOf qc i oi)=true:=by
 unfold Plan.quietAt at h;rw[hi] at h;exact h
theorem plan_any{qc:List Nat}{ops:Array Oper}{M:Env→St→Prop}{Qp:AV→St→Prop}:∀ (pl:Plan) (n:Nat) (listed:Array Bool) (acc:List Nat) (env:Env) (S:St),pl.ok qc ops n listed acc=true→
 aPlan P C qc ops.toList pl env S M Qp→AnyP P C qc ops (fun ρ S'=>∃ env',(fun t=>look t env')=ρ∧M env' S') Qp n listed acc (fun t=>look t env) S
 | .done,n,listed,acc,env,S,hok,h=>by
  have hr:Region.ready .any ops listed=[]:=by
   have:(readyL ops listed).isEmpty=true:=by cases n<;>exact hok
   simpa [readyL,Region.ready] using this
  exact⟨fun _=>⟨env,rfl,h⟩,fun j hj=>by rw[hr] at hj;cases hj⟩
 | .free i p,0,listed,acc,env,S,hok,h=>by simp[Plan.ok] at hok
 | .free i p,n+1,listed,acc,env,S,hok,h=>by
  simp only[Plan.ok,Bool.and_eq_true] at hok;obtain⟨⟨⟨hr,hf⟩,hq⟩,hok⟩:=hok;have hr:i∈Region.ready .any ops listed:=List.mem_of_elem_eq_true hr;obtain⟨_,oi,hoi,_⟩:=mem_ready.1 hr;have hq:=mixes_quiet (listed:=listed) hoi hq;obtain⟨v,k1,k2⟩:=aStep_quiet hoi hq h;have:=(plan_any p n _ [] _ _ hok k2).any;rw[look_put] at this;have hfs:=free_spec hoi hf;have hany:=any_first hoi hq (fun j=>(depsL ops i).any (Nat.beq j)) hfs.1 n listed _ S hfs.2.1 hfs.2.2 hr k1 this
  exact⟨hany.1,fun j hj=>.inr ⟨n,rfl,hany.2 j hj⟩⟩
 | .one i p q,0,listed,acc,env,S,hok,h=>by simp[Plan.ok] at hok
 | .one i p q,n+1,listed,acc,env,S,hok,h=>by
  simp only[Plan.ok,Bool.and_eq_true] at hok;obtain⟨hok1,hok2⟩:=hok;have h:aStep P C qc ops.toList i env S (fun env' S'=>aPlan P C qc ops.toList p env' S' M Qp) Qp∧aPlan P C qc ops.toList q env S M Qp:=by
   cases q<;>first | exact h | exact⟨h,trivial⟩
  obtain⟨h1,h2⟩:=h;obtain⟨q1,q2⟩:=plan_any q (n+1) listed (i::acc) env S hok2 h2;refine⟨q1,fun j hj=>?_⟩
  by_cases hji:j=i
  ·subst hji;exact .inr ⟨n,rfl,aStep_rstep h1 fun env' S' hk=>(plan_any p n _ [] _ _ hok1 hk).any⟩
  ·rcases q2 j hj with h | h
   ·left
    simpa [hji] using h
   ·exact .inr h
 | .none,0,listed,acc,env,S,hok,h=>by simp[Plan.ok] at hok
 | .none,n+1,listed,acc,env,S,hok,h=>by
  simp only[Plan.ok,Bool.and_eq_true,List.all_eq_true] at hok;obtain⟨h1,h2⟩:=hok;refine⟨fun hr=>?_,fun j hj=>.inl (h2 j hj)⟩
  simp only[Bool.not_eq_true'] at h1;have:readyL ops listed=[]:=hr;rw[this] at h1
  simp at h1
structure RelF (w:World) (S:St) (tmps:Array Value) (ρ:Nat→AV) (n:Nat):Prop where
 size:tmps.size=n
 at_:∀ t,Rel w (rdOf S) (ρ t) (tmps.getD t undef)
theorem RelF.mono{w w':World}{S S':St}{tmps:Array Value}{ρ:Nat→AV}{n:Nat}(h:RelF w S tmps ρ n)(ha:Adv w S w' S'):RelF w' S' tmps ρ n:=
 ⟨h.size,fun t=>Rel.mono ha _ _ (h.at_ t)⟩
theorem RelF.put{w:World}{S:St}{a:Act}{ρ:Nat→AV}{n:Nat}(h:RelF w S a.tmps ρ n)(d:Option Tmp)(hd:∀ t,d=some t→t<n){x:AV}{v:Value}(hx:Rel w (rdOf S) x v) :
 RelF w S (a.put d v).tmps (rput d x ρ) n:=by
 cases d with
 | none=>exact h
 | some d=>
   have hdn:=hd d rfl
   have hsz:=h.size
   refine⟨by simp[Act.put,h.size],fun t=>?_⟩
   simp only[Act.put,rput]
   by_cases e:d=t
   ·subst e;simp only[if_true];simp[Array.getD,h.size,hdn];exact hx
   ·simp only[if_neg e];have:=h.at_ t;simp only[Array.getD_eq_getD_getElem?,Array.getElem?_setIfInBounds_ne e] at this ⊢;exact this
theorem evR_sound{w:World}{S:St}{a:Act}{ρ:Nat→AV}{n:Nat}(hg:Good C w S)(h:RelF w S a.tmps ρ n)(x:Operand):Rel w (rdOf S) (evR C ρ x) (a.eval x):=by
 cases x with
 | tmp t=>exact h.at_ t
 | const v=>exact ev_sound (env:=[]) (a:=a) (n:=a.tmps.size) hg ⟨rfl,fun t=>by simp only[look,Rel]⟩ (.const v)
 | func f=>exact ev_sound (env:=[]) (a:=a) (n:=a.tmps.size) hg ⟨rfl,fun t=>by simp only[look,Rel]⟩ (.func f)
 | global g=>exact ev_sound (env:=[]) (a:=a) (n:=a.tmps.size) hg ⟨rfl,fun t=>by simp only[look,Rel]⟩ (.global g)
theorem any_sound(hT:TyOk P C){r:Option Nat}{m:Nat}{n:Nat}{qc:List Nat}{ops:Array Oper}{K:(Nat→AV)→St→Prop}{Qp:AV→St→Prop}(hd:∀ o∈ops,∀ d,o.dst=some d→d<n){Q:Exit→Act→World→Prop} :
 ∀ (fuel:Nat) (listed:Array Bool) (ρ:Nat→AV) (a:Act) (w:World) (S:St),YOk P C w S→Good C w S→RelF w S a.tmps ρ n→AnyR P C qc ops K Qp fuel listed ρ S→
 (∀ ρ' a' w' S',K ρ' S'→RelF w' S' a'.tmps ρ' n→a'.defers=a.defers→Good C w' S'→Adv w S w' S'→Q .normal a' w')→
 (∀ x v a' w' S',Qp x S'→Rel w' (rdOf S') x v→a'.tmps.size=n→a'.defers=a.defers→Good C w' S'→Adv w S w' S'→Q (.panic [{ v,recovered:=false }]) a' w')→
 wpAnyIn (Fr r) m P .any ops Q fuel listed a w:=by
 intro fuel
 induction fuel with
 | zero=>
   intro listed ρ a w S hY hg he H hK hQ;exact⟨H.1,hK _ _ _ _ H.2 he rfl hg (Adv.refl w S)⟩
 | succ fuel ih=>
   intro listed ρ a w S hY hg he H hK hQ;refine⟨fun hr=>hK _ _ _ _ (H.1 hr) he rfl hg (Adv.refl w S),fun i hi=>?_⟩
   obtain⟨o,ho,hs⟩:=H.2 i hi;have hdo:∀ d,o.dst=some d→d<n:=hd o (Array.mem_of_getElem? ho);have hdef:∀ v,(a.put o.dst v).defers=a.defers:=fun v=>by cases o.dst<;>rfl
   have go:∀ (x:AV) (v:Value) (w':World) (S':St),AnyR P C qc ops K Qp fuel (listed.setIfInBounds i true) (rput o.dst x ρ) S'→Rel w' (rdOf S') x v→Good C w' S'→Adv w S w' S'→
    wpAnyIn (Fr r) m P .any ops Q fuel (listed.setIfInBounds i true) (a.put o.dst v) w':=fun x v w' S' h1 h2 h3 h4=>
    ih _ _ _ _ _ (hY.mono h4) h3 ((he.mono h4).put o.dst hdo h2) h1
     (fun ρ' a' w'' S'' m1 m2 m3 m4 m5=>hK ρ' a' w'' S'' m1 m2 (m3.trans (hdef v)) m4 (h4.trans m5))
     (fun x' v' a' w'' S'' m1 m2 m0 m3 m4 m5=>hQ x' v' a' w'' S'' m1 m2 m0 (m3.trans (hdef v)) m4 (h4.trans m5))
   have hwant:∀ b,wantedR ops o ρ=some b→Region.wanted o (yielded ops a.tmps)=b:=by
    intro b hb;unfold wantedR at hb;unfold Region.wanted
    split at hb
    ·rename_i hgd;rw[hgd];simpa using hb
    ·rename_i j want hgd
     rw[hgd];dsimp only
     split at hb
     ·rename_i d hdj
      split at hb
      ·rename_i c hc
       have hbr:=he.at_ d
       rw[hc] at hbr;simp only[Rel] at hbr;have hy:yielded ops a.tmps j=some c:=by
        unfold yielded;rw[hdj];simp only[Option.bind_some];rw[Array.getD_eq_getD_getElem?] at hbr
        cases e:a.tmps[d]? with
        | none=>rw[e] at hbr;simp[undef] at hbr
        | some u=>rw[e] at hbr;simp at hbr;subst hbr;rfl
       rw[hy];simp only[Option.some.injEq] at hb;rw[← hb]
       cases c<;>cases want<;>rfl
      ·rename_i hc
       have hbr:=he.at_ d
       rw[hc] at hbr;simp only[Rel,RelL] at hbr;obtain⟨cs,hbr,_⟩:=hbr;have hy:yielded ops a.tmps j=none:=by
        unfold yielded;rw[hdj];simp only[Option.bind_some];rw[Array.getD_eq_getD_getElem?] at hbr
        cases e:a.tmps[d]? with
        | none=>rfl
        | some u=>rw[e] at hbr;simp at hbr;subst hbr;rfl
       rw[hy];simp only[Option.some.injEq] at hb;rw[← hb]
       cases want<;>rfl
      ·cases hb
     ·cases hb
   unfold wpOpIn;rw[ho];dsimp only
   rcases hs with ⟨h1,h2⟩ | ⟨h1,h2⟩
   ·rw[if_pos (hwant _ h1)];unfold RCore at h2
    split at h2
    ·rename_i hq
     obtain⟨x,k1,k2⟩:=h2;have hst:=RQ_stay (by rcases cls_quiet hq with h | h;exact .inl h;exact .inr h.2) k1
     exact wpIn_of_wp (aOpE_nd hst) <| aOpE_sound hT hY hg (evR_sound hg he) hst (fun y v w' S' m1 m2 m3 m4=>go x v w' S' (by obtain⟨_,rfl⟩:=m1;exact k2) (by obtain⟨rfl,_⟩:=m1;exact m2) m3 m4) (fun _ _ _ _ h=>h.elim)
    ·exact wpIn_of_wp (aOpE_nd h2) <| aOpE_sound hT hY hg (evR_sound hg he) h2 (fun y v w' S' m1 m2 m3 m4=>go y v w' S' m1 m2 m3 m4) (fun x v w' S' m1 m2 m3 m4=>hQ x v a w' S' m1 m2 he.size rfl m3 m4)
   ·rw[if_neg (by rw[hwant _ h1];simp)]
    exact⟨fun _ _=>trivial,go (.tu []) undef w S h2 (by simp only[Rel,RelL];exact⟨#[],rfl,rfl⟩) hg (Adv.refl w S)⟩
theorem draw_sound(hT:TyOk P C){r:Option Nat}{m:Nat}(hm:P.follows .mixedOrders=true){n:Nat}{id:Nat}{qc:List Nat}{pl:Plan}{ops:Array Oper}{M:Env→St→Prop}{Qp:AV→St→Prop}(hd:∀ o∈ops,∀ d,o.dst=some d→d<n)
 {a:Act} {w:World} {S:St} {env:Env} (hY:YOk P C w S) (hg:Good C w S) (he:RelEnv w S a.tmps env n) (hok:pl.ok qc ops ops.size (Array.replicate ops.size false) []=true) (h:aPlan P C qc ops.toList pl env S M Qp) {Q:Exit→Act→World→Prop}
 (hK:∀ env' a' w' S',M env' S'→RelEnv w' S' a'.tmps env' n→a'.defers=a.defers→Good C w' S'→Adv w S w' S'→Q .normal a' w')
 (hQ:∀ x v a' w' S',Qp x S'→Rel w' (rdOf S') x v→a'.tmps.size=n→a'.defers=a.defers→Good C w' S'→Adv w S w' S'→Q (.panic [{ v,recovered:=false }]) a' w'):(Code.region id ops true).wpIn (Fr r) m P Q a w:=by
 have hadv:Adv w S w.drew S:=(Adv.refl w S).drew
 refine wpIn_region_any hm (any_sound hT hd ops.size _ (fun t=>look t env) a w.drew S (hY.mono hadv) hg.drew ?_ (plan_any pl _ _ [] env S hok h).any (fun ρ' a' w' S' m1 m2 m3 m4 m5=>?_) (fun x v a' w' S' m1 m2 m0 m3 m4 m5=>hQ x v a' w' S' m1 m2 m0 m3 m4 (hadv.trans m5)))
 ·exact⟨he.size,(he.mono hadv).at_⟩
 ·obtain⟨env',rfl,hM⟩:=m1;exact hK env' a' w' S' hM ⟨m2.size,m2.at_⟩ m3 m4 (hadv.trans m5)
end
end Go.Proofs.YtjpboanohpaibaaGreatDoor.Aw
