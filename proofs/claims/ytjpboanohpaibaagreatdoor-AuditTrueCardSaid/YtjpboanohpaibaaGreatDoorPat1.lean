/- The words of an abstract walk over the model: values that bear their contents (AV), a ghost store of what may still be w -/
import Derived.WalkKit
import Derived.Maps.AppendAt
import Derived.Below
import Derived.OneCell
import Derived.KernelRfl
import Derived.RangeFuncSeq
import Derived.RangeFuncLeaves
import Derived.RangeFuncRecord
import Derived.RangeFuncCalls
import Derived.Sort.LoopGhostIn
import Derived.OrdersIn
import Derived.Test.YtjpboanohpaibaaGreatDoorProg
set_option linter.all false
namespace Go.Proofs.YtjpboanohpaibaaGreatDoor.Aw
open Go Go.RowKit
inductive Sh where
 | any | nn | full
 | own (b:Nat)
 | acc (b:Nat)
def Sh.mayNil:Sh→Bool
 | .any | .acc _=>true
 | _=>false
def NilV(sh:Sh)(v:Value):Prop:=v=.slice none 0 0∨(sh=.any∧∃ a:Addr,v=.slice (some a) 0 0)
theorem NilV.cases{sh:Sh}{v:Value}(h:NilV sh v):v=.slice none 0 0∨∃ a:Addr,v=.slice (some a) 0 0:=h.imp id fun h=>h.2
theorem NilV.slice{sh:Sh}{v:Value}(h:NilV sh v):∃ p:Option Addr,v=.slice p 0 0:=by
 rcases h with h | ⟨_,a,h⟩
 ·exact⟨_,h⟩
 ·exact⟨_,h⟩
theorem NilV.any{sh:Sh}{v:Value}(h:NilV sh v):NilV .any v:=h.imp id fun h=>⟨rfl,h.2⟩
theorem NilV.acc{b:Nat}{v:Value}(h:NilV (.acc b) v):v=.slice none 0 0:=h.resolve_right fun h=>by cases h.1
def Sh.less:Sh→Sh
 | .any | .acc _=>.any
 | _=>.nn
inductive AV where
 | int (k:IntKind) (n:Int)
 | bool (b:Bool)
 | str (s:ByteArray)
 | nilp
 | ref (b off:Nat)
 | imm (xs:List AV)
 | nils
 | sl (sh:Sh) (k:Nat) (es:List (List AV))
 | arr (b off n cap:Nat)
 | ag (xs:List AV)
 | tu (xs:List AV)
 | nilf
 | fn (f:Fn) (first cap:List AV)
 | nili
 | ifc (t:TypeId) (x:AV)
 | nilm
 | mp (r:Nat)
 | raw (v:Value)
 | top
instance:Inhabited AV:=⟨.top⟩
inductive LpSt where
 | ready
 | busy
 | done (c:Code)
inductive Own where
 | obj (e:TypeId) (cells:List AV)
 | tip (e:TypeId) (k n:Nat)
 | mapo (es:List (AV×AV))
 | siter (s:ByteArray) (pos:Nat)
 | miter (cur:Option (AV×AV)) (left:List (AV×AV))
 | lp (R:LpSt→Loop) (st:LpSt)
def St:=Nat→Option Own
def St.emp:St:=fun _=>none
def St.upd(S:St)(b:Nat)(o:Own):St:=fun x=>if x=b then some o else S x
def St.del(S:St)(b:Nat):St:=fun x=>if x=b then none else S x
theorem St.upd_same(S:St)(b:Nat)(o:Own):(S.upd b o) b=some o:=if_pos rfl
theorem St.upd_ne(S:St)(b:Nat)(o:Own)(x:Nat)(h:x≠b):(S.upd b o) x=S x:=if_neg h
theorem St.del_same(S:St)(b:Nat):(S.del b) b=none:=if_pos rfl
theorem St.del_ne(S:St)(b x:Nat)(h:x≠b):(S.del b) x=S x:=if_neg h
theorem St.upd_upd(S:St)(b:Nat)(o o':Own):(S.upd b o).upd b o'=S.upd b o':=by
 funext x;simp only[St.upd];split<;>rfl
def St.le(S S':St):Prop:=∀ b o,S b=some o→S' b=some o
theorem St.le_refl(S:St):St.le S S:=fun _ _ h=>h
theorem St.le_trans{S S' S'':St}(h:St.le S S')(h':St.le S' S''):St.le S S'':=fun b o e=>h' b o (h b o e)
theorem St.le_upd{S S':St}(h:St.le S S'){b:Nat}(hb:S b=none)(o:Own):St.le S (S'.upd b o):=fun x p e=>by
 have:x≠b:=fun hx=>by rw[hx,hb] at e;cases e
 rw[St.upd_ne _ _ _ _ this];exact h x p e
theorem St.ne_of'{S:St}{b x:Nat}{o:Own}(hx:S x=none)(hb:S b=some o):x≠b:=fun e=>by rw[e,hb] at hx;cases hx
theorem St.ne_of{S:St}{b x:Nat}{o:Own}(hb:S b=none)(hx:S x=some o):x≠b:=fun e=>by rw[e,hb] at hx;cases hx
def rdOf(S:St)(b off:Nat):Prop:=
 match S b with
 | none=>True
 | some (.tip _ k n)=>off<n*k
 | some _=>False
section
variable (w:World) (rd:Nat→Nat→Prop)
def stab(b off:Nat)(v:Value):Prop:=rd b off∧w.cell? ⟨b,off,none⟩=some v∧v.oneCell'=true
def ShOk(sh:Sh)(k b off n cap:Nat):Prop:=
 match sh with
 | .any=>True
 | .nn=>True
 | .full=>cap=n
 | .own b'=>b'=b∧off=0∧∃ e,w.shape? b=some (e,cap*k)
 | .acc b'=>0<n∧b'=b∧off=0∧∃ e,w.shape? b=some (e,cap*k)
mutual
def Rel:AV→Value→Prop
 | .int k n,v=>v=.int k n
 | .bool b,v=>v=.bool b
 | .str s,v=>v=.string s
 | .nilp,v=>v=.pointer none
 | .ref b off,v=>v=.pointer (some ⟨b,off,none⟩)
 | .imm xs,v=>∃ b off,v=.pointer (some ⟨b,off,none⟩)∧RelAt b off xs
 | .nils,v=>v=.slice none 0 0
 | .sl sh k es,v=>(sh.mayNil=true∧es=[]∧NilV sh v)∨∃ b off cap,v=.slice (some ⟨b,off,none⟩) es.length cap∧es.length≤cap∧cap≤maxLen∧ShOk w sh k b off es.length cap∧RelRows k b off es
 | .arr b off n cap,v=>v=.slice (some ⟨b,off,none⟩) n cap
 | .ag xs,v=>∃ cs:Array Value,v=.agg cs∧RelL xs cs.toList∧∀ u∈cs.toList,u.oneCell'=true
 | .tu xs,v=>∃ cs:Array Value,v=.tuple cs∧RelL xs cs.toList
 | .nilf,v=>v=.nilFunc
 | .fn f xs ys,v=>∃ a b:Array Value,v=.func f a b∧RelL xs a.toList∧RelL ys b.toList
 | .nili,v=>v=.nilIface
 | .ifc t x,v=>∃ y,v=.iface t y∧Rel x y
 | .nilm,v=>v=.map none
 | .mp r,v=>v=.map (some r)
 | .raw u,v=>v=u
 | .top,_=>True
def RelL:List AV→List Value→Prop
 | [],vs=>vs=[]
 | x::xs,vs=>∃ u us,vs=u::us∧Rel x u∧RelL xs us
def RelAt(b off:Nat):List AV→Prop
 | []=>True
 | x::xs=>(∃ v,stab w rd b off v∧Rel x v)∧RelAt b (off+1) xs
def RelRows(k b off:Nat):List (List AV)→Prop
 | []=>True
 | e::es=>(e.length=k∧RelAt b off e)∧RelRows k b (off+k) es
end
end
def BornOk(ms:Array MapEntry)(clock:Nat):Prop:=(∀ e∈ms.toList,e.born<clock)∧(ms.toList.map (·.born)).Nodup
def MiterOk(w:World)(rd:Nat→Nat→Prop)(m:Option Nat)(since:Nat)(seen:Array Nat)(last:Nat)(cur:Option (AV×AV))(left:List (AV×AV)):Prop:=
 match m with
 | none=>left=[]∧cur=none
 | some r=>(∀ off,rd r off)∧∃ ms:Array MapEntry,w.heap[r]? = some (.map ms since)∧last=since∧BornOk ms since∧
    RelL w rd (left.map (·.1)) ((ms.toList.filter fun e=>!seen.contains e.born).map (·.key))∧RelL w rd (left.map (·.2)) ((ms.toList.filter fun e=>!seen.contains e.born).map (·.val))∧
    ∀ kv,cur=some kv→∃ e∈ms.toList,seen.back? = some e.born∧Rel w rd kv.1 e.key∧Rel w rd kv.2 e.val
def OwnOk(w:World)(rd:Nat→Nat→Prop)(b:Nat):Own→Prop
 | .obj e cells=>∃ cs:Array Value,w.heap[b]? = some (.cells cs e (0,0))∧RelL w rd cells cs.toList∧∀ v∈cs.toList,v.oneCell'=true
 | .tip e k n=>∃ (cur:Array Value) (cap:Nat),w.heap[b]? = some (.cells cur e (0,0))∧n≤cap∧cap≤maxLen∧cur.size=cap*k∧∀ v∈cur.toList,v.oneCell'=true
 | .mapo es=>∃ (ms:Array MapEntry) (clock:Nat),w.heap[b]? = some (.map ms clock)∧RelL w rd (es.map (·.1)) (ms.toList.map (·.key))∧RelL w rd (es.map (·.2)) (ms.toList.map (·.val))∧BornOk ms clock
 | .siter s pos=>w.heap[b]? = some (.stringIter s pos)
 | .miter cur left=>∃ m since seen last,w.heap[b]? = some (.mapIter m since seen last)∧MiterOk w rd m since seen last cur left
 | .lp R st=>w.heap[b]? = some (.loop (R st))
def Inv(w:World)(S:St):Prop:=∀ b o,S b=some o→OwnOk w (rdOf S) b o
structure Adv (w:World) (S:St) (w':World) (S':St):Prop where
 os:w'.os=w.os
 tape:w'.tape=w.tape
 output:w'.output=w.output
 size:w.heap.size≤w'.heap.size
 old:∀ b,b<w.heap.size→S b=none→S' b=none∧w'.heap[b]? = w.heap[b]?
 stay:∀ b off,b<w.heap.size→rdOf S b off→rdOf S' b off∧w'.cell? ⟨b,off,none⟩=w.cell? ⟨b,off,none⟩
 shape:∀ b e n,w.shape? b=some (e,n)→w'.shape? b=some (e,n)
theorem Adv.refl(w:World)(S:St):Adv w S w S:=⟨rfl,rfl,rfl,Nat.le_refl _,fun _ _ h=>⟨h,rfl⟩,fun _ _ _ h=>⟨h,rfl⟩,fun _ _ _ h=>h⟩
theorem Adv.trans{a b c:World}{S T U:St}(h:Adv a S b T)(k:Adv b T c U):Adv a S c U:=
 ⟨k.os.trans h.os,k.tape.trans h.tape,k.output.trans h.output,Nat.le_trans h.size k.size,
  fun x hx hn=>by
   obtain⟨h1,h2⟩:=h.old x hx hn;obtain⟨k1,k2⟩:=k.old x (Nat.lt_of_lt_of_le hx h.size) h1;exact⟨k1,k2.trans h2⟩,
  fun x off hx hr=>by
   obtain⟨h1,h2⟩:=h.stay x off hx hr;obtain⟨k1,k2⟩:=k.stay x off (Nat.lt_of_lt_of_le hx h.size) h1;exact⟨k1,k2.trans h2⟩,
  fun x e n hx=>k.shape x e n (h.shape x e n hx)⟩
theorem Adv.drew{a b:World}{S T:St}(h:Adv a S b T):Adv a S b.drew T:=⟨h.os,h.tape,h.output,h.size,h.old,h.stay,h.shape⟩
theorem Adv.below{w w':World}{S':St}(h:Adv w St.emp w' S'):Below w.heap.size w w':=
 ⟨h.os,h.tape,h.output,h.size,fun k hk=>(h.old k hk rfl).2⟩
section mono
variable {w w':World} {S S':St}
theorem stab_mono(h:Adv w S w' S'){b off:Nat}{v:Value}(hs:stab w (rdOf S) b off v):stab w' (rdOf S') b off v:=by
 obtain⟨h1,h2,h3⟩:=hs;have hb:b<w.heap.size:=World.block_lt_of_cell? w ⟨b,off,none⟩ h2;obtain⟨k1,k2⟩:=h.stay b off hb h1;exact⟨k1,k2.trans h2,h3⟩
theorem ShOk_mono(h:Adv w S w' S'){sh:Sh}{k b off n cap:Nat}(hs:ShOk w sh k b off n cap):ShOk w' sh k b off n cap:=by
 cases sh with
 | own b'=>obtain⟨h1,h2,e,h3⟩:=hs;exact⟨h1,h2,e,h.shape _ _ _ h3⟩
 | acc b'=>obtain⟨h0,h1,h2,e,h3⟩:=hs;exact⟨h0,h1,h2,e,h.shape _ _ _ h3⟩
 | _=>exact hs
mutual
theorem Rel.mono(h:Adv w S w' S'):∀ (x:AV) (v:Value),Rel w (rdOf S) x v→Rel w' (rdOf S') x v
 | .int ..,v,hr=>by simpa only[Rel] using hr
 | .bool ..,v,hr=>by simpa only[Rel] using hr
 | .str ..,v,hr=>by simpa only[Rel] using hr
 | .nilp,v,hr=>by simpa only[Rel] using hr
 | .ref ..,v,hr=>by simpa only[Rel] using hr
 | .imm xs,v,hr=>by
  simp only[Rel] at hr ⊢;obtain⟨b,off,h1,h2⟩:=hr;exact⟨b,off,h1,RelAt.mono h b off xs h2⟩
 | .nils,v,hr=>by simpa only[Rel] using hr
 | .sl sh k es,v,hr=>by
  simp only[Rel] at hr ⊢
  rcases hr with hr | ⟨b,off,cap,h1,h2,h3,h4,h5⟩
  ·exact .inl hr
  ·exact .inr ⟨b,off,cap,h1,h2,h3,ShOk_mono h h4,RelRows.mono h k b off es h5⟩
 | .arr ..,v,hr=>by simpa only[Rel] using hr
 | .ag xs,v,hr=>by
  simp only[Rel] at hr ⊢;obtain⟨cs,h1,h2,h3⟩:=hr;exact⟨cs,h1,RelL.mono h xs _ h2,h3⟩
 | .tu xs,v,hr=>by
  simp only[Rel] at hr ⊢;obtain⟨cs,h1,h2⟩:=hr;exact⟨cs,h1,RelL.mono h xs _ h2⟩
 | .nilf,v,hr=>by simpa only[Rel] using hr
 | .fn f xs ys,v,hr=>by
  simp only[Rel] at hr ⊢;obtain⟨a,b,h1,h2,h3⟩:=hr;exact⟨a,b,h1,RelL.mono h xs _ h2,RelL.mono h ys _ h3⟩
 | .nili,v,hr=>by simpa only[Rel] using hr
 | .ifc t x,v,hr=>by
  simp only[Rel] at hr ⊢;obtain⟨y,h1,h2⟩:=hr;exact⟨y,h1,Rel.mono h x y h2⟩
 | .nilm,v,hr=>by simpa only[Rel] using hr
 | .mp ..,v,hr=>by simpa only[Rel] using hr
 | .raw ..,v,hr=>by simpa only[Rel] using hr
 | .top,v,hr=>by simp only[Rel]
theorem RelL.mono(h:Adv w S w' S'):∀ (xs:List AV) (vs:List Value),RelL w (rdOf S) xs vs→RelL w' (rdOf S') xs vs
 | [],vs,hr=>by simpa only[RelL] using hr
 | x::xs,vs,hr=>by
   simp only[RelL] at hr ⊢;obtain⟨u,us,h1,h2,h3⟩:=hr;exact⟨u,us,h1,Rel.mono h x u h2,RelL.mono h xs us h3⟩
theorem RelAt.mono(h:Adv w S w' S')(b off:Nat):∀ (xs:List AV),RelAt w (rdOf S) b off xs→RelAt w' (rdOf S') b off xs
 | [],hr=>by simp only[RelAt]
 | x::xs,hr=>by
   simp only[RelAt] at hr ⊢;obtain⟨⟨v,h1,h2⟩,h3⟩:=hr;exact⟨⟨v,stab_mono h h1,Rel.mono h x v h2⟩,RelAt.mono h b (off+1) xs h3⟩
theorem RelRows.mono(h:Adv w S w' S')(k b off:Nat):∀ (es:List (List AV)),RelRows w (rdOf S) k b off es→RelRows w' (rdOf S') k b off es
 | [],hr=>by simp only[RelRows]
 | e::es,hr=>by
   simp only[RelRows] at hr ⊢;obtain⟨⟨h1,h2⟩,h3⟩:=hr;exact⟨⟨h1,RelAt.mono h b off e h2⟩,RelRows.mono h k b (off+k) es h3⟩
end
end mono
theorem RelL.length{w:World}{rd}:∀ {xs:List AV} {vs:List Value},RelL w rd xs vs→xs.length=vs.length
 | [],vs,h=>by simp only[RelL] at h;subst h;rfl
 | x::xs,vs,h=>by
   simp only[RelL] at h;obtain⟨u,us,rfl,_,h3⟩:=h
   simp[RelL.length h3]
theorem RelL.get{w:World}{rd}:∀ {xs:List AV} {vs:List Value},RelL w rd xs vs→∀ (i:Nat) (x:AV),xs[i]? = some x→∃ v,vs[i]? = some v∧Rel w rd x v
 | [],vs,h,i,x,hi=>by simp at hi
 | y::ys,vs,h,i,x,hi=>by
   simp only[RelL] at h;obtain⟨u,us,rfl,h2,h3⟩:=h
   cases i with
   | zero=>simp at hi;subst hi;exact⟨u,rfl,h2⟩
   | succ i=>simp at hi;simpa using RelL.get h3 i x hi
theorem RelL.drop{w:World}{rd}:∀ {xs:List AV} {vs:List Value},RelL w rd xs vs→∀ n,RelL w rd (xs.drop n) (vs.drop n)
 | xs,vs,h,0=>by simpa using h
 | [],vs,h,n+1=>by simp only[RelL] at h;subst h;simp[RelL]
 | x::xs,vs,h,n+1=>by
   simp only[RelL] at h;obtain⟨u,us,rfl,_,h3⟩:=h
   simpa using RelL.drop h3 n
theorem RelL.take{w:World}{rd}:∀ {xs:List AV} {vs:List Value},RelL w rd xs vs→∀ n,RelL w rd (xs.take n) (vs.take n)
 | xs,vs,h,0=>by simp[RelL]
 | [],vs,h,n+1=>by simp only[RelL] at h;subst h;simp[RelL]
 | x::xs,vs,h,n+1=>by
   simp only[RelL] at h;obtain⟨u,us,rfl,h2,h3⟩:=h;simp only[List.take_succ_cons,RelL];exact⟨u,us.take n,rfl,h2,RelL.take h3 n⟩
theorem RelL.append{w:World}{rd}:∀ {xs ys:List AV} {vs us:List Value},RelL w rd xs vs→RelL w rd ys us→RelL w rd (xs++ys) (vs++us)
 | [],ys,vs,us,h,k=>by simp only[RelL] at h;subst h;simpa using k
 | x::xs,ys,vs,us,h,k=>by
   simp only[RelL] at h;obtain⟨u,ws,rfl,h2,h3⟩:=h;simp only[List.cons_append,RelL];exact⟨u,ws++us,rfl,h2,RelL.append h3 k⟩
theorem RelL.set{w:World}{rd}:∀ {xs:List AV} {vs:List Value},RelL w rd xs vs→∀ (i:Nat) (y:AV) (u:Value),Rel w rd y u→RelL w rd (xs.set i y) (vs.set i u)
 | [],vs,h,i,y,u,hy=>by simp only[RelL] at h;subst h;simp[RelL]
 | x::xs,vs,h,0,y,u,hy=>by
   simp only[RelL] at h;obtain⟨u',us,rfl,h2,h3⟩:=h;simp only[List.set_cons_zero,RelL];exact⟨u,us,rfl,hy,h3⟩
 | x::xs,vs,h,i+1,y,u,hy=>by
   simp only[RelL] at h;obtain⟨u',us,rfl,h2,h3⟩:=h;simp only[List.set_cons_succ,RelL];exact⟨u',us.set i u,rfl,h2,RelL.set h3 i y u hy⟩
theorem RelAt.drop{w:World}{rd}{b:Nat}:∀ {xs:List AV} {off:Nat},RelAt w rd b off xs→∀ n,RelAt w rd b (off+n) (xs.drop n)
 | xs,off,h,0=>by simpa using h
 | [],off,h,n+1=>by simp[RelAt]
 | x::xs,off,h,n+1=>by
   simp only[RelAt] at h;have:=RelAt.drop h.2 n;rw[show off+(n+1)=off+1+n from by omega]
   simpa using this
theorem RelAt.get{w:World}{rd}{b:Nat}:∀ {xs:List AV} {off:Nat},RelAt w rd b off xs→∀ (i:Nat) (x:AV),xs[i]? = some x→∃ v,stab w rd b (off+i) v∧Rel w rd x v
 | [],off,h,i,x,hi=>by simp at hi
 | y::ys,off,h,i,x,hi=>by
   simp only[RelAt] at h
   cases i with
   | zero=>simp at hi;subst hi;simpa using h.1
   | succ i=>
     simp at hi
     have:=RelAt.get h.2 i x hi
     rwa [show off+1+i=off+(i+1) from by omega] at this
theorem RelRows.get{w:World}{rd}{k b:Nat}:∀ {es:List (List AV)} {off:Nat},RelRows w rd k b off es→∀ (i:Nat) (e:List AV),es[i]? = some e→e.length=k∧RelAt w rd b (off+i*k) e
 | [],off,h,i,e,hi=>by simp at hi
 | y::ys,off,h,i,e,hi=>by
   simp only[RelRows] at h
   cases i with
   | zero=>simp at hi;subst hi;simpa using h.1
   | succ i=>
     simp at hi
     have:=RelRows.get h.2 i e hi
     rwa [show off+k+i*k=off+(i+1)*k from by rw[Nat.succ_mul];omega] at this
theorem RelRows.drop{w:World}{rd}{k b:Nat}:∀ {es:List (List AV)} {off:Nat},RelRows w rd k b off es→∀ n,RelRows w rd k b (off+n*k) (es.drop n)
 | es,off,h,0=>by simpa using h
 | [],off,h,n+1=>by simp[RelRows]
 | e::es,off,h,n+1=>by
   simp only[RelRows] at h;have:=RelRows.drop h.2 n;rw[show off+(n+1)*k=off+k+n*k from by rw[Nat.succ_mul];omega]
   simpa using this
theorem RelRows.take{w:World}{rd}{k b:Nat}:∀ {es:List (List AV)} {off:Nat},RelRows w rd k b off es→∀ n,RelRows w rd k b off (es.take n)
 | es,off,h,0=>by simp[RelRows]
 | [],off,h,n+1=>by simp[RelRows]
 | e::es,off,h,n+1=>by
   simp only[RelRows] at h;simp only[List.take_succ_cons,RelRows];exact⟨h.1,RelRows.take h.2 n⟩
theorem RelRows.lens{w:World}{rd}{k b:Nat}:∀ {es:List (List AV)} {off:Nat},RelRows w rd k b off es→∀ e∈es,e.length=k
 | [],off,h,e,he=>by simp at he
 | y::ys,off,h,e,he=>by
   simp only[RelRows] at h
   rcases List.mem_cons.1 he with rfl | he
   ·exact h.1.1
   ·exact RelRows.lens h.2 e he
theorem rdOf_all{S:St}{r:Nat}(h:∀ off,rdOf S r off):S r=none:=by
 cases e:S r with
 | none=>rfl
 | some o=>
   cases o with
   | tip e' k n=>
     have:=h (n*k)
     simp only[rdOf,e] at this;omega
   | _=>have:=h 0;simp only[rdOf,e] at this
theorem MiterOk.mono{w w':World}{S S':St}(h:Adv w S w' S'){m:Option Nat}{since:Nat}{seen:Array Nat}{last:Nat}{cur:Option (AV×AV)}{left:List (AV×AV)}(ho:MiterOk w (rdOf S) m since seen last cur left):MiterOk w' (rdOf S') m since seen last cur left:=by
 cases m with
 | none=>exact ho
 | some r=>
   obtain⟨h1,ms,h2,h3,h4,h5,h6,h7⟩:=ho;have hn:=rdOf_all h1;obtain⟨k1,k2⟩:=h.old r (lt_of_block h2) hn;exact⟨fun off=>by simp only[rdOf,k1],ms,k2.trans h2,h3,h4,RelL.mono h _ _ h5,RelL.mono h _ _ h6,fun kv hkv=>by
    obtain⟨e,e1,e2,e3,e4⟩:=h7 kv hkv;exact⟨e,e1,e2,Rel.mono h _ _ e3,Rel.mono h _ _ e4⟩⟩
theorem OwnOk.mono{w w':World}{S S':St}(h:Adv w S w' S'){b:Nat}{o:Own}(hb:w'.heap[b]? = w.heap[b]?)(ho:OwnOk w (rdOf S) b o):OwnOk w' (rdOf S') b o:=by
 cases o with
 | obj e cells=>obtain⟨cs,h1,h2,h3⟩:=ho;exact⟨cs,hb.trans h1,RelL.mono h _ _ h2,h3⟩
 | tip e k n=>obtain⟨cur,cap,h1,h2⟩:=ho;exact⟨cur,cap,hb.trans h1,h2⟩
 | mapo es=>obtain⟨ms,c,h1,h2,h3,h4⟩:=ho;exact⟨ms,c,hb.trans h1,RelL.mono h _ _ h2,RelL.mono h _ _ h3,h4⟩
 | siter s pos=>exact hb.trans ho
 | lp R st=>exact hb.trans ho
 | miter cur left=>obtain⟨m,since,seen,last,h1,h2⟩:=ho;exact⟨m,since,seen,last,hb.trans h1,MiterOk.mono h h2⟩
theorem OwnOk.lt{w:World}{rd}{b:Nat}{o:Own}(ho:OwnOk w rd b o):b<w.heap.size:=by
 have:∃ x,w.heap[b]? = some x:=by
  cases o with
  | obj e cells=>obtain⟨cs,h1,_⟩:=ho;exact⟨_,h1⟩
  | tip e k n=>obtain⟨cur,cap,h1,_⟩:=ho;exact⟨_,h1⟩
  | mapo es=>obtain⟨ms,c,h1,_⟩:=ho;exact⟨_,h1⟩
  | siter s pos=>exact⟨_,ho⟩
  | lp R st=>exact⟨_,ho⟩
  | miter cur left=>obtain⟨m,since,seen,last,h1,_⟩:=ho;exact⟨_,h1⟩
 obtain⟨x,hx⟩:=this;exact lt_of_block hx
theorem Inv.emp(w:World):Inv w St.emp:=fun b o h=>by cases h
theorem Inv.lt{w:World}{S:St}(hi:Inv w S){b:Nat}{o:Own}(h:S b=some o):b<w.heap.size:=(hi b o h).lt
theorem Inv.fresh{w:World}{S:St}(hi:Inv w S):S w.heap.size=none:=by
 cases h:S w.heap.size with
 | none=>rfl
 | some o=>exact absurd (hi.lt h) (Nat.lt_irrefl _)
theorem Inv.drew{w:World}{S:St}(hi:Inv w S):Inv w.drew S:=fun b o h=>
 OwnOk.mono (w:=w) (S:=S) (Adv.refl w S).drew rfl (hi b o h)
theorem Adv.del{w:World}{S:St}(b:Nat):Adv w S w (S.del b):=by
 refine⟨rfl,rfl,rfl,Nat.le_refl _,fun x hx hn=>⟨?_,rfl⟩,fun x off hx hr=>⟨?_,rfl⟩,fun _ _ _ h=>h⟩
 ·by_cases e:x=b
  ·subst e;exact St.del_same _ _
  ·rw[St.del_ne _ _ _ e];exact hn
 ·by_cases e:x=b
  ·subst e;simp only[rdOf,St.del_same]
  ·simp only[rdOf,St.del_ne _ _ _ e];exact hr
theorem Inv.del{w:World}{S:St}(hi:Inv w S)(b:Nat):Inv w (S.del b):=by
 intro x o h
 by_cases e:x=b
 ·subst e;rw[St.del_same] at h;cases h
 ·rw[St.del_ne _ _ _ e] at h;exact OwnOk.mono (Adv.del b) rfl (hi x o h)
theorem Adv.shrink{w:World}{S S':St}(h:St.le S S'):Adv w S' w S:=by
 refine⟨rfl,rfl,rfl,Nat.le_refl _,fun x hx hn=>⟨?_,rfl⟩,fun x off hx hr=>⟨?_,rfl⟩,fun _ _ _ h=>h⟩
 ·cases e:S x with
  | none=>rfl
  | some o=>rw[h x o e] at hn;cases hn
 ·cases e:S x with
  | none=>simp only[rdOf,e]
  | some o=>simp only[rdOf,e];simp only[rdOf,h x o e] at hr;exact hr
theorem Inv.shrink{w:World}{S S':St}(hi:Inv w S')(h:St.le S S'):Inv w S:=fun x o e=>
 OwnOk.mono (Adv.shrink h) rfl (hi x o (h x o e))
inductive TK where
 | int (k:IntKind) | bool | str | slice (e:TypeId) | ptr (e:TypeId) | strct (fs:List (Nat×TypeId)) | array (n:Nat) (e:TypeId) | iface (plain:Bool) | fn | map (k e:TypeId) | other
structure TI where
 size:Nat
 bytes:Nat
 zero:Value
 kind:TK
def TI.none:TI:=⟨0,0,.nilIface,.other⟩
def kindOf:TypeDesc→TK
 | .int k=>.int k
 | .bool=>.bool
 | .string=>.str
 | .slice e=>.slice e
 | .pointer e=>.ptr e
 | .struct fa=>.strct (fa.toList.map fun f=>(f.offset,f.type))
 | .array n e=>.array n e
 | .interface ms=>.iface ms.isEmpty
 | .func ..=>.fn
 | .map k e=>.map k e
 | _=>.other
def TI.agg(ti:TI):Bool:=match ti.kind with | .strct _ | .array ..=>true | _=>false
def TIok(P:Program)(t:TypeId)(ti:TI):Prop:=
 (P.info? t).map (fun i=>(i.size,i.bytes,i.zero))=some (ti.size,ti.bytes,some ti.zero)∧(P.underlying t).map kindOf=some ti.kind∧
 ti.zero.cells.size=ti.size∧ti.zero.cells.toList.all Value.oneCell'=true
structure YSpec where
 l:Nat
 spec:List AV→St→(Bool→St→Prop)→Prop
structure Cx where
 T:TypeId→TI
 G:Nat→Option (List AV)
 E:TypeId→Bool
 Y:Option YSpec:=none
 inR:Bool:=false
 A:Bool:=false
def Cx.call(C:Cx):Cx:=⟨C.T,C.G,C.E,C.Y,false,false⟩
def Cx.round(C:Cx):Cx:=⟨C.T,C.G,C.E,C.Y,true,C.A⟩
def Cx.arr(C:Cx):Cx:=⟨C.T,C.G,C.E,C.Y,C.inR,true⟩
def Cx.withY(C:Cx)(y:YSpec):Cx:=⟨C.T,C.G,C.E,some y,false,false⟩
def Cx.noY(C:Cx):Cx:=⟨C.T,C.G,C.E,none,false,false⟩
def EqOkB(P:Program)(t:TypeId):Bool:=
 !P.stoodInHeld t && !P.eqGuardType P.depth t && (match P.underlying t with
  | some (.struct fa) => fa.toList.all fun f => f.name != "_"
  | _=>false)
def TyOk(P:Program)(C:Cx):Prop:=(∀ t,TIok P t (C.T t)∨C.T t=TI.none)∧∀ t,C.E t=true→EqOkB P t=true
def GlobOk(C:Cx)(w:World)(S:St):Prop:=∀ g xs,C.G g=some xs→S g=none∧g<w.heap.size∧RelAt w (rdOf S) g 0 xs∧∃ e,w.shape? g=some (e,xs.length)
def Good(C:Cx)(w:World)(S:St):Prop:=Inv w S∧GlobOk C w S
def ofV0:Value→AV
 | .int k n=>.int k n
 | .bool b=>.bool b
 | .string s=>.str s
 | .pointer none=>.nilp
 | .slice none 0 0=>.nils
 | .nilIface=>.nili
 | .nilFunc=>.nilf
 | .map none=>.nilm
 | v=>.raw v
def ofV:Value→AV
 | .agg cs=>if cs.toList.all Value.oneCell' then .ag (cs.toList.map ofV0) else .raw (.agg cs)
 | v=>ofV0 v
def scal:AV→Bool
 | .ag _ | .tu _ | .raw _ | .top=>false
 | _=>true
def cellsOf:AV→List AV
 | .ag xs=>xs
 | x=>[x]
def okCells:AV→Bool
 | .ag _=>true
 | x=>scal x
def setRange(cells:List AV)(off:Nat):List AV→List AV
 | []=>cells
 | x::xs=>setRange (cells.set off x) (off+1) xs
def aFill(place:Nat→Option (Nat×Nat))(cells:List AV):List (Nat×AV)→Option (List AV)
 | []=>some cells
 | (i,x)::r=>
  match place i with
  | none=>none
  | some (off,size)=>bif okCells x && (Nat.beq (cellsOf x).length size && Nat.ble (off+size) cells.length) then aFill place (setRange cells off (cellsOf x)) r else none
def byteAt(s:ByteArray)(i:Nat):Int:=((s.data.toList.getD i 0).toNat:Int)
def mulL(k:Nat)(xs:List AV):Nat→List AV
 | 0=>[]
 | n+1=>xs++mulL k xs n
def rowsOf(k:Nat)(cells:List AV):Nat→List (List AV)
 | 0=>[]
 | n+1=>cells.take k::rowsOf k (cells.drop k) n
abbrev Env:=List (Nat×AV)
def look(t:Nat):Env→AV
 | []=>.top
 | (s,x)::r=>bif Nat.beq s t then x else look t r
def put(d:Option Tmp)(x:AV)(env:Env):Env:=
 match d with
 | some d=>(d,x)::env
 | none=>env
def putK(d:Option Tmp)(x:AV)(env:Env)(K:Env→Prop):Prop:=
 match d with
 | some d=>K ((d,x)::env)
 | none=>K env
def ev(C:Cx)(env:Env):Operand→AV
 | .tmp t=>look t env
 | .const v=>ofV v
 | .global g=>match C.G g with | some xs=>.imm xs | none=>.raw (.pointer (some ⟨g,0,none⟩))
 | .func f=>.fn (.func f) [] []
def force(x:AV)(K:AV→Prop):Prop:=
 match x with
 | .int k n=>K (.int k n)
 | .bool b=>K (.bool b)
 | .str s=>K (.str s)
 | .nilp=>K .nilp
 | .ref b o=>K (.ref b o)
 | .imm xs=>K (.imm xs)
 | .nils=>K .nils
 | .sl sh k es=>K (.sl sh k es)
 | .arr b o n c=>K (.arr b o n c)
 | .ag xs=>K (.ag xs)
 | .tu xs=>K (.tu xs)
 | .nilf=>K .nilf
 | .fn f a b=>K (.fn f a b)
 | .nili=>K .nili
 | .ifc t y=>K (.ifc t y)
 | .nilm=>K .nilm
 | .mp r=>K (.mp r)
 | .raw v=>K (.raw v)
 | .top=>K .top
def forceL:List AV→(List AV→Prop)→Prop
 | [],K=>K []
 | x::xs,K=>force x fun y=>forceL xs fun ys=>K (y::ys)
def forceR:List (List AV)→(List (List AV)→Prop)→Prop
 | [],K=>K []
 | r::rs,K=>forceL r fun r'=>forceR rs fun rs'=>K (r'::rs')
def split(b:Bool)(Kt Kf:Prop):Prop:=match b with | true=>Kt | false=>Kf
inductive Out where
 | ret (x:AV)
 | pan (x:AV)
def OutRel(w:World)(S:St):Out→Ending→Prop
 | .ret x,.returned v=>Rel w (rdOf S) x v
 | .pan x,.panicked chain=>∃ v,chain=[{ v,recovered:=false }]∧Rel w (rdOf S) x v
 | _,_=>False
def YOk(P:Program)(C:Cx)(w₀:World)(S₀:St):Prop:=∀ y,C.Y=some y→∀ (xs:List AV) (S:St) (K:Bool→St→Prop),y.spec xs S K→∀ (w:World) (vs:Array Value) (m:Nat),Adv w₀ S₀ w S→Good C w S→RelL w (rdOf S) xs vs.toList→
 YieldAt Fence.wide m P y.l vs w fun e w'=>∃ b S',e=.returned (.bool b)∧Good C w' S'∧Adv w S w' S'∧K b S'
theorem YOk.mono{P:Program}{C:Cx}{w₀ w₁:World}{S₀ S₁:St}(h:YOk P C w₀ S₀)(ha:Adv w₀ S₀ w₁ S₁):YOk P C w₁ S₁:=fun y hy xs S K hs w vs m hb hg hr=>h y hy xs S K hs w vs m (ha.trans hb) hg hr
theorem YOk.none{P:Program}{C:Cx}(h:C.Y=none)(w₀:World)(S₀:St):YOk P C w₀ S₀:=fun y hy=>by rw[h] at hy;cases hy
def Goes(P:Program)(f:FuncId)(vs:Array Value)(w:World)(R:Ending→World→Prop):Prop:=
 ((callFunc f vs).run P w=.ok (.enter f vs) w∧Calls P f vs w R)∨∃ v w',(callFunc f vs).run P w=.ok (.value v) w'∧R (.returned v) w'
theorem Goes.mono{P:Program}{f:FuncId}{vs:Array Value}{w:World}{R R':Ending→World→Prop}(h:Goes P f vs w R)(hr:∀ e w',R e w'→R' e w'):Goes P f vs w R':=by
 rcases h with ⟨h1,h2⟩ | ⟨v,w',h1,h2⟩
 ·exact .inl ⟨h1,h2.mono hr⟩
 ·exact .inr ⟨v,w',h1,hr _ _ h2⟩
structure Triple (P:Program) (C:Cx) (f:FuncId) (args:List AV) (S:St) (Q:Out→St→Prop):Prop where
 mk ::
 out:∀ (w:World) (vs:Array Value),YOk P C w S→Good C w S→RelL w (rdOf S) args vs.toList→
  Goes P f vs w fun e w'=>∃ o S',OutRel w' S' o e∧Good C w' S'∧Adv w S w' S'∧Q o S'
structure TripleE (P:Program) (C:Cx) (f:FuncId) (args:List AV) (S:St) (Q:Out→St→Prop):Prop where
 mk ::
 enter:∀ (vs:Array Value) (w:World),(callFunc f vs).run P w=.ok (.enter f vs) w
 out:∀ (w:World) (vs:Array Value),YOk P C w S→Good C w S→RelL w (rdOf S) args vs.toList→
  Calls P f vs w fun e w'=>∃ o S',OutRel w' S' o e∧Good C w' S'∧Adv w S w' S'∧Q o S'
theorem TripleE.triple{P:Program}{C:Cx}{f:FuncId}{args:List AV}{S:St}{Q:Out→St→Prop}(h:TripleE P C f args S Q):Triple P C f args S Q:=
 ⟨fun w vs hY hg hr=>.inl ⟨h.enter vs w,h.out w vs hY hg hr⟩⟩
section
variable (P:Program) (C:Cx)
def when(b:Bool)(K:Prop):Prop:=match b with | true=>K | false=>False
def known(t:TypeId):Bool:=match (C.T t).kind with | .other=>false | _=>true
def aIntOp(op:BinOp)(k:IntKind)(a b:Int)(K:AV→Prop):Prop:=
 match op with
 | .add=>K (.int k (k.wrap (a+b)))
 | .sub=>K (.int k (k.wrap (a-b)))
 | .mul=>K (.int k (k.wrap (a*b)))
 | .quo=>b≠0∧K (.int k (k.wrap (a.tdiv b)))
 | .rem=>b≠0∧K (.int k (a.tmod b))
 | .eql=>K (.bool (a == b))
 | .neq=>K (.bool (a != b))
 | .lss=>K (.bool (decide (a<b)))
 | .leq=>K (.bool (decide (a≤b)))
 | .gtr=>K (.bool (decide (a > b)))
 | .geq=>K (.bool (decide (a ≥ b)))
 | _=>False
def aStrOp(op:BinOp)(a b:ByteArray)(K:AV→Prop):Prop:=
 match op with
 | .add=>a.size+b.size≤9223372036854775807∧K (.str (a++b))
 | .eql=>K (.bool (decide (a=b)))
 | .neq=>K (.bool (!decide (a=b)))
 | _=>False
def flatEq(k:TK)(x y:AV):Option Bool:=
 match k,x,y with
 | .int k,.int k1 a,.int k2 b=>(match decide (k1=k2) with | true=>some (a == b) | false=>none)
 | .str,.str a,.str b=>some (decide (a=b))
 | .bool,.bool a,.bool b=>some (a == b)
 | _,_,_=>none
def aEqN(k:TK):Nat→List AV→List AV→Option (Bool×List AV×List AV)
 | 0,xs,ys=>some (true,xs,ys)
 | n+1,x::xs,y::ys=>(match flatEq k x y,aEqN k n xs ys with
    | some a,some (b,xs',ys')=>some (a && b,xs',ys')
    | _,_=>none)
 | _,_,_=>none
def aEqF(i:Nat):List (Nat×TypeId)→List AV→List AV→Option Bool
 | [],[],[]=>some true
 | (off,ft)::fs,xs,ys=>(match Nat.beq off i,(C.T ft).kind with
     | true,.array n e=>(match Nat.beq (C.T ft).size n && Nat.beq (C.T e).size 1,aEqN (C.T e).kind n xs ys with
        | true,some (a,xs',ys')=>(match aEqF (i+n) fs xs' ys' with | some b=>some (a && b) | none=>none)
        | _,_=>none)
     | true,k=>(match xs,ys with
        | x::xs,y::ys=>(match flatEq k x y with
           | some a=>(match aEqF (i+1) fs xs ys with | some b=>some (a && b) | none=>none)
           | none=>none)
        | _,_=>none)
     | _,_=>none)
 | _,_,_=>none
def aEq(xt:TypeId)(a b:AV):Option Bool:=
 match (C.T xt).kind,a,b with
 | .strct fs,.ag xs,.ag ys=>(match C.E xt with | true=>aEqF C 0 fs xs ys | false=>none)
 | .bool,.bool a,.bool b=>some (a == b)
 | .ptr _,.nilp,.nilp=>some true
 | .ptr _,.nilp,.ref ..=>some false
 | .ptr _,.ref ..,.nilp=>some false
 | .ptr _,.nilp,.imm ..=>some false
 | .ptr _,.imm ..,.nilp=>some false
 | .slice _,.nils,.nils=>some true
 | .slice _,.arr ..,.nils=>some false
 | .slice _,.sl .nn ..,.nils=>some false
 | .slice _,.sl .full ..,.nils=>some false
 | .slice _,.sl (.own _) ..,.nils=>some false
 | .fn,.nilf,.nilf=>some true
 | .fn,.fn ..,.nilf=>some false
 | .iface _,.nili,.ifc ..=>some false
 | .iface _,.ifc ..,.nili=>some false
 | _,_,_=>none
def isConst:Operand→Bool | .const _=>true | _=>false
def aBin(op:BinOp)(xt:TypeId)(x y:Operand)(a b:AV)(K:AV→Prop):Prop:=
 match a,b with
 | .int k m,.int k' n=>(match op with
  | .shl=>0≤n∧K (.int k (k.wrap (m*2 ^ (min n.toNat k.bits))))
  | .shr=>0≤n∧K (.int k (m.fdiv (2 ^ (min n.toNat k.bits))))
  | _=>when (decide (k=k')) (aIntOp op k m n K))
 | .str s,.str t=>aStrOp op s t K
 | .nili,.nili=>(match (C.T xt).kind,op with
  | .iface _,.eql=>when (isConst x || isConst y) (K (.bool true))
  | .iface _,.neq=>when (isConst x || isConst y) (K (.bool false))
  | _,_=>False)
 | a,b=>(match op with
    | .eql=>(match aEq C xt a b with | some r=>K (.bool r) | none=>False)
    | .neq=>(match aEq C xt a b with | some r=>K (.bool (!r)) | none=>False)
    | _=>False)
def aUn(op:UnOp)(x:AV)(K:AV→Prop):Prop:=
 match op,x with
 | .neg,.int k n=>K (.int k (k.wrap (0-n)))
 | .not,.bool b=>K (.bool (!b))
 | _,_=>False
def rowsB(s:ByteArray):List (List AV):=s.data.toList.map fun b=>[.int .u8 (b.toNat:Int)]
def isU8(t:TypeId):Bool:=match (C.T t).kind with | .int .u8=>Nat.beq 1 (C.T t).size | _=>false
def aConv(src dst:TypeId)(x:AV)(S:St)(K:AV→Prop):Prop:=
 match (C.T src).kind,(C.T dst).kind,x with
 | .int _,.int k,.int _ n=>K (.int k (k.wrap n))
 | .str,.str,.str s=>K (.str s)
 | .str,.slice te,.str s=>when (isU8 C te) (s.size≤140737488355328∧K (.sl .nn 1 (rowsB s)))
 | .slice te,.str,.sl _ k es=>when (isU8 C te && Nat.beq k 1) (∃ s,es=rowsB s∧K (.str s))
 | .slice te,.str,.nils=>when (isU8 C te) (K (.str ByteArray.empty))
 | _,_,_=>False
def aPart(t:TypeId)(xs:List AV)(off:Nat)(K:AV→Prop):Prop:=
 match (C.T t).agg with
 | true=>when (Nat.ble (off+(C.T t).size) xs.length) (forceL ((xs.drop off).take (C.T t).size) fun cs=>K (.ag cs))
 | false=>(match xs.drop off with | x::_=>force x K | []=>False)
def aLoad(t:TypeId)(p:AV)(S:St)(K:AV→Prop):Prop:=
 match p with
 | .imm xs=>when (known C t) (aPart C t xs 0 K)
 | .ref b off=>when (known C t) (∃ e cells,S b=some (.obj e cells)∧aPart C t cells off K)
 | _=>False
def aStore(t:TypeId)(p x:AV)(S:St)(K:St→Prop):Prop:=
 match p with
 | .ref b off=>when (known C t && (okCells x && Nat.beq (cellsOf x).length (C.T t).size)) (∃ e cells,S b=some (.obj e cells)∧when (Nat.ble (off+(C.T t).size) cells.length) (forceL (setRange cells off (cellsOf x)) fun cs=>K (S.upd b (.obj e cs))))
 | _=>False
def fieldOf(t:TypeId)(f:Nat):Option (Nat×TypeId):=
 match (C.T t).kind with
 | .strct fs=>fs[f]?
 | _=>none
def aFieldAddr(t:TypeId)(p:AV)(f:Nat)(K:AV→Prop):Prop:=
 match fieldOf C t f with
 | some (off,ft)=>when (known C ft && Nat.blt 0 (C.T ft).size) (match p with
   | .ref b o=>K (.ref b (o+off))
   | .imm xs=>K (.imm (xs.drop off))
   | _=>False)
 | none=>False
def aField(t:TypeId)(x:AV)(f:Nat)(K:AV→Prop):Prop:=
 match fieldOf C t f,x with
 | some (off,ft),.ag xs=>when (known C ft) (aPart C ft xs off K)
 | _,_=>False
def aIndexAddr(t:TypeId)(x i:AV)(K:AV→Prop):Prop:=
 match (C.T t).kind,x,i with
 | .slice e,.sl sh k es,.int _ n=>when (known C e && Nat.beq (C.T e).size k) (∃ r,(0≤n∧es[n.toNat]? = some r)∧K (.imm r))
 | .slice e,.arr b off m cap,.int _ n=>when (known C e) ((0≤n∧n<m)∧K (.ref b (off+n.toNat*(C.T e).size)))
 | .array m e,.ref b off,.int _ n=>when (known C e) ((0≤n∧n<m)∧K (.ref b (off+n.toNat*(C.T e).size)))
 | _,_,_=>False
def aIndex(t:TypeId)(x i:AV)(K:AV→Prop):Prop:=
 match (C.T t).kind,x,i with
 | .str,.str s,.int _ n=>(0≤n∧n<s.size)∧K (.int .u8 (byteAt s n.toNat))
 | _,_,_=>False
def optN(d:Nat):Option AV→Option Int
 | none=>some d
 | some (.int _ n)=>some n
 | some _=>none
def aSlice(t:TypeId)(x:AV)(lo hi mx:Option AV)(K:AV→Prop):Prop:=
 match (C.T t).kind,x,mx with
 | .str,.str s,none=>(match optN 0 lo,optN s.size hi with
  | some l,some h=>(0≤l∧l≤h∧h≤s.size)∧K (.str (s.extract l.toNat h.toNat))
  | _,_=>False)
 | .slice e,.sl sh k es,none=>when (known C e && Nat.beq (C.T e).size k) (match optN 0 lo,optN es.length hi with
  | some l,some h=>(0≤l∧l≤h∧h≤es.length)∧K (.sl sh.less k ((es.take h.toNat).drop l.toNat))
  | _,_=>False)
 | .slice e,.sl sh k es,some m=>when (known C e && Nat.beq (C.T e).size k) (match lo,hi,m with
  | none,some (.int _ h),.int _ m=>split (h == 0 && m == 0) (K (match sh with | .any | .acc _=>.sl .any k [] | _=>.sl .full k []))
     ((0≤h∧h≤m∧m≤es.length)∧K (.sl sh.less k (es.take h.toNat)))
  | _,_,_=>False)
 | .slice e,.arr b off n cap,none=>when (known C e) (match optN 0 lo,optN n hi with
  | some l,some h=>(0≤l∧l≤h∧h≤cap)∧K (.arr b (bif Nat.beq cap l.toNat then off else off+l.toNat*(C.T e).size) (h.toNat-l.toNat) (cap-l.toNat))
  | _,_=>False)
 | .slice e,.arr b off n cap,some m=>when (known C e) (match lo,hi,m with
  | none,some (.int _ h),.int _ m=>(0≤h∧h≤m∧m≤cap)∧K (.arr b off h.toNat m.toNat)
  | _,_,_=>False)
 | .slice e,.nils,none=>when (known C e) (match optN 0 lo,optN 0 hi with
  | some l,some h=>(l=0∧h=0)∧K .nils
  | _,_=>False)
 | .slice e,.nils,some m=>when (known C e) (match lo,hi,m with
  | none,some (.int _ 0),.int _ 0=>K .nils
  | _,_,_=>False)
 | _,_,_=>False
def aLen(t:TypeId)(x:AV)(S:St)(K:AV→Prop):Prop:=
 match (C.T t).kind,x with
 | .str,.str s=>K (.int .i64 (s.size:Int))
 | .slice _,.sl _ _ es=>((es.length:Int)≤9223372036854775807→K (.int .i64 (es.length:Int)))
 | .slice _,.nils=>K (.int .i64 0)
 | .slice _,.arr _ _ n _=>K (.int .i64 (n:Int))
 | .map _ _,.nilm=>K (.int .i64 0)
 | .map _ _,.mp r=>∃ es,S r=some (.mapo es)∧K (.int .i64 (es.length:Int))
 | _,_=>False
def AccStep(S:St)(b:Nat)(e:TypeId)(k n m:Nat)(b':Nat)(S':St):Prop:=
 (m=0∧b'=b∧S'=S)∨(0<m∧∃ S₁,(n=0→S₁=S)∧(0<n→S₁=S.del b)∧S₁ b'=none∧S'=S₁.upd b' (.tip e k (n+m)))
def aGrow(e:TypeId)(s:AV)(new:List (List AV))(S:St)(K:AV→St→Prop):Prop:=
 when (known C e && Nat.blt 0 (C.T e).bytes) (match s with
  | .nils=>new.length*(C.T e).bytes≤140737488355328∧∀ b S',AccStep S b e (C.T e).size 0 new.length b S'→K (.sl (.acc b) (C.T e).size new) S'
  | .sl (.own b) k es=>when (Nat.beq (C.T e).size k) ((S b=some (.tip e (C.T e).size es.length)∧(es.length+new.length)*(C.T e).bytes≤140737488355328)∧
   ∀ b',(S.del b) b'=none→K (.sl (.own b') (C.T e).size (es++new)) ((S.del b).upd b' (.tip e (C.T e).size (es.length+new.length))))
  | .sl (.acc b) k es=>when (Nat.beq (C.T e).size k) (((0<es.length→S b=some (.tip e (C.T e).size es.length))∧(es.length+new.length)*(C.T e).bytes≤140737488355328)∧
   ∀ b' S',AccStep S b e (C.T e).size es.length new.length b' S'→K (.sl (.acc b') (C.T e).size (es++new)) S')
  | _=>False)
def aSrc(e tx:TypeId)(x:AV)(S:St)(K:List (List AV)→Prop):Prop:=
 match (C.T tx).kind,x with
 | .str,.str s=>when (Nat.beq 1 (C.T e).size) (K (rowsB s))
 | .slice e',.arr b off n cap=>when (Nat.beq e' e) (∃ te cells,S b=some (.obj te cells)∧off+n*(C.T e').size≤cells.length∧K (rowsOf (C.T e').size ((cells.drop off).take (n*(C.T e').size)) n))
 | _,_=>False
def other:AV→Bool | .str _ | .arr ..=>true | _=>false
def aAppend(t:TypeId)(s x:AV)(S:St)(K:AV→St→Prop):Prop:=
 match (C.T t).kind with
 | .slice e=>when (known C e && (Nat.blt 0 (C.T e).size && Nat.blt 0 (C.T e).bytes)) (match x with
  | .nils=>(match s with
   | .nils=>K .nils S
   | .sl sh k es=>K (.sl sh k es) S
   | _=>False)
  | .sl _ k' new=>when (Nat.beq (C.T e).size k') (match s with
   | .nils=>new.length*(C.T e).bytes≤140737488355328∧(match new with
    | []=>K .nils S
    | r::rs=>∀ b,S b=none→K (.sl (.own b) k' (r::rs)) (S.upd b (.tip e k' (r::rs).length)))
   | .sl (.own b) k es=>when (Nat.beq k k') ((S b=some (.tip e k es.length)∧(es.length+new.length)*(C.T e).bytes≤140737488355328)∧
    ∀ b',(S.del b) b'=none→K (.sl (.own b') k (es++new)) ((S.del b).upd b' (.tip e k (es.length+new.length))))
   | .sl (.acc b) k es=>when (Nat.beq k k') (((es≠[]→S b=some (.tip e k es.length))∧(es.length+new.length)*(C.T e).bytes≤140737488355328)∧(match new with
    | []=>K (.sl (.acc b) k es) S
    | r::rs=>∀ S₁,(es=[]→S₁=S)→(es≠[]→S₁=S.del b)→∀ b',S₁ b'=none→K (.sl (.acc b') k (es++(r::rs))) (S₁.upd b' (.tip e k (es.length+(r::rs).length)))))
   | .sl .full k es=>when (Nat.beq k k') ((es.length+new.length)*(C.T e).bytes≤140737488355328∧(match new with
    | []=>K (.sl .full k es) S
    | r::rs=>∀ b,S b=none→K (.sl (.own b) k (es++(r::rs))) (S.upd b (.tip e k (es.length+(r::rs).length)))))
   | _=>False)
  | _=>False)
 | _=>False
def aMM(mx:Bool):AV→List AV→(AV→Prop)→Prop
 | x,[],K=>force x K
 | .int k a,.int _ b::r,K=>aMM mx (.int k (match mx with | true=>if b > a then b else a | false=>if b<a then b else a)) r K
 | _,_,_=>False
def aBuiltin(b:Builtin)(ts:List TypeId)(xs:List AV)(S:St)(K:AV→St→Prop):Prop:=
 match b,ts,xs with
 | .len,[t],[x]=>aLen C t x S fun y=>K y S
 | .append,[t,t'],[s,x]=>(match other x with
  | true=>(match (C.T t).kind with | .slice e=>aSrc C e t' x S fun new=>aGrow C e s new S K | _=>False)
  | false=>when (Nat.beq t t') (aAppend C t s x S K))
 | .cap,[t],[x]=>(match (C.T t).kind,x with | .slice _,.arr _ _ _ c=>K (.int .i64 (c:Int)) S | _,_=>False)
 | .max,_,x::r=>aMM true x r fun y=>K y S
 | .min,_,x::r=>aMM false x r fun y=>K y S
 | _,_,_=>False
def aCall(f:AV)(args:List AV)(S:St)(K:AV→St→Prop)(Qp:AV→St→Prop):Prop:=
 match f with
 | .fn (.func g) first cap=>forceL (first++args++cap) fun l=>Triple P C.call g l S fun o S'=>match o with | .ret x=>K x S' | .pan x=>Qp x S'
 | _=>False
def keyEq:AV→AV→Option Bool
 | .int k a,.int k' b=>(match decide (k=k') with | true=>some (a == b) | false=>none)
 | .str a,.str b=>some (decide (a=b))
 | _,_=>none
def aFindK(k:AV):List (AV×AV)→(AV→Prop)→Prop→Prop
 | [],K,Kn=>Kn
 | (k0,v0)::r,K,Kn=>(match keyEq k k0 with
     | some b=>split b (K v0) (aFindK k r K Kn)
     | none=>False)
def aSetK(k v:AV):List (AV×AV)→(List (AV×AV)→Prop)→Prop
 | [],K=>K [(k,v)]
 | (k0,v0)::r,K=>(match keyEq k k0 with
     | some b=>split b (K ((k,v)::r)) (aSetK k v r fun es=>K ((k0,v0)::es))
     | none=>False)
def keyOk(kt:TypeId)(k:AV):Bool:=
 match (C.T kt).kind,k with
 | .int k,.int k' _=>decide (k=k')
 | .str,.str _=>true
 | _,_=>false
def nilTest(op:BinOp)(t:TypeId)(a b:AV):Option (Bool×List (List AV)):=
 match (C.T t).kind,a,b with
 | .slice _,.sl .any _ es,.nils=>(match op with | .eql=>some (true,es) | .neq=>some (false,es) | _=>none)
 | .slice _,.sl (.acc _) _ es,.nils=>(match op with | .eql=>some (true,es) | .neq=>some (false,es) | _=>none)
 | _,_,_=>none
def aOpE(o:Oper)(e:Operand→AV)(S:St)(K:AV→St→Prop)(Qp:AV→St→Prop):Prop:=
 match o.op with
 | .move x | .assign x=>force (e x) fun y=>K y S
 | .pick c a b=>(match e c with
  | .bool t=>split t (force (e a) fun y=>K y S) (force (e b) fun y=>K y S)
  | _=>False)
 | .alloc t=>when (known C t) <| ∀ b,S b=none→forceL (cellsOf (ofV (C.T t).zero)) fun cs=>K (.ref b 0) (S.upd b (.obj t cs))
 | .box t x=>force (e x) fun y=>when (okCells y) <| ∀ b,S b=none→forceL (cellsOf y) fun cs=>K (.ref b 0) (S.upd b (.obj t cs))
 | .build t parts=>(match (C.T t).kind with
  | .strct fs=>(match aFill (fun i=>(fs[i]?).map fun f=>(f.1,(C.T f.2).size)) (cellsOf (ofV (C.T t).zero)) (parts.toList.map fun p=>(p.1,e p.2)) with
   | some cells=>when (fs.all fun f=>known C f.2) (forceL cells fun cs=>K (.ag cs) S)
   | none=>False)
  | _=>False)
 | .buildSlice t n parts=>(match (C.T t).kind with
  | .slice te=>bif C.A && Nat.beq n 0 then when (known C te) (parts.toList=[]∧∀ b,S b=none→K (.arr b 0 0 0) (S.upd b (.obj te []))) else when (known C te && (Nat.ble (n*(C.T te).size) 4096 && Nat.blt 0 (C.T te).size)) (match aFill (fun i=>some (i*(C.T te).size,(C.T te).size)) (mulL 0 (cellsOf (ofV (C.T te).zero)) n) (parts.toList.map fun p=>(p.1,e p.2)) with
   | some cells=>∀ b,S b=none→forceR (rowsOf (C.T te).size cells n) fun rs=>K (.sl (.own b) (C.T te).size rs) (S.upd b (.tip te (C.T te).size n))
   | none=>False)
  | _=>False)
 | .load t p=>aLoad C t (e p) S fun y=>K y S
 | .store t p x=>force (e x) fun y=>aStore C t (e p) y S fun S'=>K .top S'
 | .nilCheck x=>(match e x with
  | .ref b o=>K (.ref b o) S
  | .imm xs=>K (.imm xs) S
  | .ifc t y=>K (.ifc t y) S
  | .fn (.func f) a b=>K (.fn (.func f) a b) S
  | _=>False)
 | .binOp op t x y _=>(match nilTest C op t (e x) (e y) with
  | some (pos,es)=>∀ c:Bool,(es≠[]→c=!pos)→K (.bool c) S
  | none=>aBin C op t x y (e x) (e y) fun z=>K z S)
 | .unOp op _ x=>aUn op (e x) fun z=>K z S
 | .convert s d x=>aConv C s d (e x) S fun z=>K z S
 | .makeInterface t x=>(match (C.T t).kind with | .iface _ | .other=>False | _=>force (e x) fun y=>K (.ifc t y) S)
 | .makeFunc f a b=>forceL (a.toList.map e) fun xs=>forceL (b.toList.map e) fun ys=>K (.fn f xs ys) S
 | .slice t x lo hi mx=>aSlice C t (e x) (lo.map e) (hi.map e) (mx.map e) fun y=>K y S
 | .fieldAddr t p f=>aFieldAddr C t (e p) f fun y=>K y S
 | .field t x f=>aField C t (e x) f fun y=>K y S
 | .indexAddr t x i=>aIndexAddr C t (e x) (e i) fun y=>K y S
 | .index t x i=>aIndex C t (e x) (e i) fun y=>K y S
 | .extract x i=>(match e x with
  | .tu xs=>(match xs.drop i with | y::_=>force y fun z=>K z S | []=>False)
  | _=>False)
 | .makeSlice t l c=>(match (C.T t).kind,e l,e c with
  | .slice te,.int _ n,.int _ m=>when (known C te) ((0≤n∧n≤m∧(C.T te).bytes*m≤140737488355328∧m≤9223372036854775807)∧
   ∀ b,S b=none→K (.arr b 0 n.toNat m.toNat) (S.upd b (.obj te (mulL 0 (cellsOf (ofV (C.T te).zero)) m.toNat))))
  | _,_,_=>False)
 | .typeAssert x xt asserted ok=>(match (C.T asserted).kind with
  | .iface _ | .other=>False
  | _=>(match e x,ok with
    | .nili,true=>force (ofV (C.T asserted).zero) fun z=>K (.tu [z,.bool false]) S
    | .ifc t y,true=>(match Nat.beq t asserted with
     | true=>force y fun y=>K (.tu [y,.bool true]) S
     | false=>force (ofV (C.T asserted).zero) fun z=>K (.tu [z,.bool false]) S)
    | .ifc t y,false=>when (Nat.beq t asserted) (force y fun y=>K y S)
    | _,_=>False))
 | .makeMap t none=>(match (C.T t).kind with
  | .map _ _=>∀ r,S r=none→K (.mp r) (S.upd r (.mapo []))
  | _=>False)
 | .insert t m k v | .mapUpdate t m k v=>(match (C.T t).kind,e m with
  | .map kt _,.mp r=>force (e k) fun kk=>force (e v) fun vv=>when (keyOk C kt kk) (∃ es,S r=some (.mapo es)∧aSetK kk vv es fun es'=>K .top (S.upd r (.mapo es')))
  | _,_=>False)
 | .lookup t m k ok=>(match (C.T t).kind,e m with
  | .map kt et,.mp r=>force (e k) fun kk=>when (keyOk C kt kk && known C et) (∃ es,S r=some (.mapo es)∧aFindK kk es
   (fun v=>K (match ok with | true=>.tu [v,.bool true] | false=>v) S)
   (force (ofV (C.T et).zero) fun z=>K (match ok with | true=>.tu [z,.bool false] | false=>z) S))
  | .map kt et,.nilm=>force (e k) fun kk=>when (keyOk C kt kk && known C et) (force (ofV (C.T et).zero) fun z=>K (match ok with | true=>.tu [z,.bool false] | false=>z) S)
  | _,_=>False)
 | .range t x=>(match (C.T t).kind,e x with
  | .str,.str s=>∀ b,S b=none→K (.ref b 0) (S.upd b (.siter s 0))
  | .map _ _,.mp r=>∃ es,S r=some (.mapo es)∧∀ b,(S.del r) b=none→K (.ref b 0) ((S.del r).upd b (.miter none es))
  | .map _ _,.nilm=>∀ b,S b=none→K (.ref b 0) (S.upd b (.miter none []))
  | _,_=>False)
 | .next x true=>(match e x with
  | .ref b 0=>∃ s pos,S b=some (.siter s pos)∧split (decide (pos<s.size))
   (K (.tu [.bool true,.int .i64 (pos:Int),.int .i32 (Utf8.decode s pos).1]) (S.upd b (.siter s (pos+(Utf8.decode s pos).2))))
   (K (.tu [.bool false]) S)
  | _=>False)
 | .next x false=>(match e x with
  | .ref b 0=>∃ cur left,S b=some (.miter cur left)∧(left=[]→K (.tu [.bool false]) S)∧∀ pre kv post,left=pre++kv::post→K (.tu [.bool true,kv.1,kv.2]) (S.upd b (.miter (some kv) (pre++post)))
  | _=>False)
 | .entry x=>(match e x with
  | .ref b 0=>∃ kv left,S b=some (.miter (some kv) left)∧K (.tu [kv.1,kv.2]) S
  | _=>False)
 | .panic x=>(match e x with
  | .ifc t y=>Qp (.ifc t y) S
  | _=>False)
 | .call c=>(match c.callee with
  | .builtin b=>aBuiltin C b c.argTypes.toList (c.args.toList.map e) S K
  | .value f=>aCall P C (e f) (c.args.toList.map e) S K Qp
  | .invoke _ _=>False)
 | _=>False
def aAppendArr(t t':TypeId)(b n cap:Nat)(x:AV)(S:St)(K:AV→St→Prop):Prop:=
 match (C.T t).kind,x with
 | .slice e,.sl _ k new=>when (known C e && (Nat.blt 0 (C.T e).size && (Nat.blt 0 (C.T e).bytes && (Nat.beq t t' && Nat.beq (C.T e).size k))))
  (∃ cells,S b=some (.obj e cells)∧(n≤cap∧cap*k≤cells.length∧cap≤maxLen∧(n+new.length)*(C.T e).bytes≤140737488355328)∧
   split (decide (n+new.length≤cap))
    (K (.arr b 0 (n+new.length) cap) (S.upd b (.obj e (setRange cells (n*k) new.flatten))))
    (∀ b' cap',S b'=none→n+new.length≤cap'→cap'≤maxLen→K (.arr b' 0 (n+new.length) cap') (S.upd b' (.obj e (cells.take (n*k)++(new.flatten++mulL 0 (cellsOf (ofV (C.T e).zero)) (cap' - (n+new.length))))))))
 | _,_=>False
def aAppendNew(t t':TypeId)(k:Nat)(x:AV)(S:St)(K:AV→St→Prop):Prop:=
 match (C.T t).kind,x with
 | .slice e,.sl _ k2 (r::rs)=>when (known C e && (Nat.blt 0 (C.T e).size && (Nat.blt 0 (C.T e).bytes && (Nat.beq t t' && (Nat.beq (C.T e).size k && Nat.beq k2 k)))))
  ((r::rs).length*(C.T e).bytes≤140737488355328∧
   ∀ b' cap',S b'=none→(r::rs).length≤cap'→cap'≤maxLen→K (.arr b' 0 (r::rs).length cap') (S.upd b' (.obj e ((r::rs).flatten++mulL 0 (cellsOf (ofV (C.T e).zero)) (cap' - (r::rs).length)))))
 | _,_=>False
def aAppendNil(t t':TypeId)(k:Nat)(x:AV)(S:St)(K:AV→St→Prop):Prop:=
 match (C.T t).kind,x with
 | .slice e,.sl _ k2 []=>when (known C e && (Nat.beq t t' && Nat.beq (C.T e).size k)) (K (.sl .any k []) S)
 | _,_=>False
def aOp(o:Oper)(env:Env)(S:St)(K:AV→St→Prop)(Qp:AV→St→Prop):Prop:=
 match o.op with
 | .call c=>(match c.callee,c.argTypes.toList,c.args.toList with
  | .builtin .append,[t,t'],[s,x]=>(match ev C env s with
   | .arr b 0 n cap=>aAppendArr C t t' b n cap (ev C env x) S K
   | .sl .any k []=>aAppendNil C t t' k (ev C env x) S K
   | .sl .full k []=>bif C.A then aAppendNew C t t' k (ev C env x) S K else aOpE P C o (ev C env) S K Qp
   | _=>aOpE P C o (ev C env) S K Qp)
  | .value f,_,_=>(match ev C env f with
   | .fn (.yield l) [] []=>(match C.Y with
    | some y=>l=y.l∧forceL (c.args.toList.map (ev C env)) fun xs=>y.spec xs S fun b S'=>K (.bool b) S'
    | none=>False)
   | _=>aOpE P C o (ev C env) S K Qp)
  | _,_,_=>aOpE P C o (ev C env) S K Qp)
 | _=>aOpE P C o (ev C env) S K Qp
def aOps(ops:List Oper):List Oper→Env→St→(Env→St→Prop)→(AV→St→Prop)→Prop
 | [],env,S,K,Qp=>K env S
 | o::r,env,S,K,Qp=>
   match o.guard with
   | none=>aOp P C o env S (fun x S'=>putK o.dst x env fun env'=>aOps ops r env' S' K Qp) Qp
   | some (j,want)=>
     match (ops[j]?).bind (·.dst) with
     | some d=>(match look d env with
       | .bool b=>split b
        (match want with
          | true=>aOp P C o ((d,.bool true)::env) S (fun x S'=>putK o.dst x ((d,.bool true)::env) fun env'=>aOps ops r env' S' K Qp) Qp
          | false=>putK o.dst (.tu []) ((d,.bool true)::env) fun env'=>aOps ops r env' S K Qp)
        (match want with
          | false=>aOp P C o ((d,.bool false)::env) S (fun x S'=>putK o.dst x ((d,.bool false)::env) fun env'=>aOps ops r env' S' K Qp) Qp
          | true=>putK o.dst (.tu []) ((d,.bool false)::env) fun env'=>aOps ops r env' S K Qp)
       | .tu []=>putK o.dst (.tu []) env fun env'=>aOps ops r env' S K Qp
       | _=>False)
     | none=>False
def aLenQ(t:TypeId)(x:AV)(K:AV→Prop):Prop:=
 match (C.T t).kind,x with
 | .str,.str s=>K (.int .i64 (s.size:Int))
 | .slice _,.sl _ _ es=>K (.int .i64 (es.length:Int))
 | .slice _,.nils=>K (.int .i64 0)
 | .slice _,.arr _ _ n _=>K (.int .i64 (n:Int))
 | _,_=>False
def aOpQ(o:Oper)(e:Operand→AV)(S:St)(K:AV→Prop):Prop:=
 match o.op with
 | .call c=>(match c.callee,c.argTypes.toList,c.args.toList with
  | .builtin .len,[t],[x]=>aLenQ C t (e x) K
  | _,_,_=>False)
 | .binOp op t x y _=>aBin C op t x y (e x) (e y) K
 | .convert s d x=>aConv C s d (e x) S K
 | _=>aOpE P C o e S (fun y _=>K y) (fun _ _=>False)
def opClass(o:Oper):Nat:=
 match o.op with
 | .move _ | .assign _ | .pick .. | .build .. | .nilCheck _ | .binOp .. | .unOp .. | .convert .. | .makeInterface .. | .makeFunc .. | .slice .. | .fieldAddr .. | .field .. | .indexAddr .. | .index .. | .extract ..=>0
 | .load ..=>1
 | .alloc _ | .box .. | .buildSlice .. | .makeSlice ..=>2
 | .call c=>(match c.callee with
  | .builtin .len=>0
  | .builtin .append=>2
  | _=>3)
 | _=>3
def clsOf(qc:List Nat)(i:Nat)(o:Oper):Nat:=bif qc.any (Nat.beq i) then 4 else opClass o
def aCore(c:Nat)(o:Oper)(e:Operand→AV)(S:St)(K:AV→St→Prop)(Qp:AV→St→Prop):Prop:=
 match c with
 | 0 | 1=>aOpQ P C o e S fun x=>K x S
 | 4=>∃ x,aOpE P C o e S (fun y S'=>y=x∧S'=S) (fun _ _=>False)∧K x S
 | _=>aOpE P C o e S K Qp
def aStep(qc:List Nat)(ops:List Oper)(i:Nat)(env:Env)(S:St)(K:Env→St→Prop)(Qp:AV→St→Prop):Prop:=
 match ops[i]? with
 | none=>False
 | some o=>
   match o.guard with
   | none=>aCore P C (clsOf qc i o) o (ev C env) S (fun x S'=>putK o.dst x env fun env'=>K env' S') Qp
   | some (j,want)=>
     match (ops[j]?).bind (·.dst) with
     | some d=>(match look d env with
       | .bool b=>split b
        (match want with
          | true=>aCore P C (clsOf qc i o) o (ev C env) S (fun x S'=>putK o.dst x env fun env'=>K env' S') Qp
          | false=>putK o.dst (.tu []) env fun env'=>K env' S)
        (match want with
          | false=>aCore P C (clsOf qc i o) o (ev C env) S (fun x S'=>putK o.dst x env fun env'=>K env' S') Qp
          | true=>putK o.dst (.tu []) env fun env'=>K env' S)
       | .tu []=>putK o.dst (.tu []) env fun env'=>K env' S
       | _=>False)
     | none=>False
inductive Plan where
 | done
 | free (i:Nat) (p:Plan)
 | one (i:Nat) (p q:Plan)
 | none
def aPlan(qc:List Nat)(ops:List Oper):Plan→Env→St→(Env→St→Prop)→(AV→St→Prop)→Prop
 | .done,env,S,K,Qp=>K env S
 | .free i p,env,S,K,Qp=>aStep P C qc ops i env S (fun env' S'=>aPlan qc ops p env' S' K Qp) Qp
 | .one i p .none,env,S,K,Qp=>aStep P C qc ops i env S (fun env' S'=>aPlan qc ops p env' S' K Qp) Qp
 | .one i p q,env,S,K,Qp=>aStep P C qc ops i env S (fun env' S'=>aPlan qc ops p env' S' K Qp) Qp∧aPlan qc ops q env S K Qp
 | .none,env,S,K,Qp=>True
def mixes(ci cj:Nat):Bool:=
 match ci with
 | 0=>true
 | 1=>Nat.ble cj 2 || Nat.beq cj 4
 | 4=>Nat.ble cj 1 || Nat.beq cj 4
 | _=>false
def depsL(ops:Array Oper)(i:Nat):List Nat:=
 (List.range ops.size).foldl (fun D j=>bif (match ops[j]? with | some oj=>oj.after.any fun e=>Region.binds .any e && (Nat.beq e.on i || D.any (Nat.beq e.on)) | none=>false) then j::D else D) []
def freeB(qc:List Nat)(ops:Array Oper)(listed:Array Bool)(i:Nat):Bool:=
 match ops[i]? with
 | none=>false
 | some oi=>
   let D:=depsL ops i
   (D.all fun j=>match ops[j]? with
     | some oj=>!listed.getD j true && oj.after.any fun e=>Region.binds .any e && (Nat.beq e.on i || D.any (Nat.beq e.on))
     | none=>false) &&
   (List.range ops.size).all fun j=>
     Nat.beq j i || listed.getD j true || D.any (Nat.beq j) ||
     match ops[j]? with
     | none=>true
     | some oj=>oi.apart ops oj && mixes (clsOf qc i oi) (clsOf qc j oj)
def readyL(ops:Array Oper)(listed:Array Bool):List Nat:=
 (List.range ops.size).filter fun i=>!listed.getD i true && ((ops[i]?).map (·.after.all fun e=>!Region.binds .any e || listed.getD e.on false)).getD false
def Plan.quietAt(qc:List Nat)(ops:Array Oper)(i:Nat):Bool:=
 match ops[i]? with
 | some o=>Nat.ble (clsOf qc i o) 1 || Nat.beq (clsOf qc i o) 4
 | _=>false
def Plan.ok(qc:List Nat)(ops:Array Oper):Plan→Nat→Array Bool→List Nat→Bool
 | .done,_,l,_=>(readyL ops l).isEmpty
 | .free i p,n+1,l,_=>(readyL ops l).contains i && freeB qc ops l i && Plan.quietAt qc ops i && Plan.ok qc ops p n (l.setIfInBounds i true) []
 | .one i p q,n+1,l,acc=>Plan.ok qc ops p n (l.setIfInBounds i true) [] && Plan.ok qc ops q (n+1) l (i::acc)
 | .none,_+1,l,acc=>!(readyL ops l).isEmpty && (readyL ops l).all acc.contains
 | _,_,_,_=>false
def Plan.lin(n:Nat):Nat→Plan
 | 0=>.done
 | m+1=>.free (n-(m+1)) (Plan.lin n m)
inductive AExit where
 | normal
 | exit (id:Nat)
 | ret
 | panic (x:AV)
def AV.le:AV→AV→Prop
 | _,.top=>True
 | .sl _ k es,.sl .any k' es'=>k=k'∧es=es'
 | .sl sh k es,.sl .nn k' es'=>sh.mayNil=false∧k=k'∧es=es'
 | .nils,.sl .any _ es=>es=[]
 | .nils,.sl (.acc _) _ es=>es=[]
 | .sl (.own b) k es,.sl (.acc b') k' es'=>es≠[]∧b=b'∧k=k'∧es=es'
 | a,b=>a=b
def AV.leA(S S':St)(x y:AV):Prop:=x=y∨match x,y with
 | .arr b off n cap,.sl .any k es=>(S' b=none∧0<k∧n≤cap∧cap≤maxLen)∧∃ e cells,S b=some (.obj e cells)∧off+n*k≤cells.length∧es=rowsOf k (cells.drop off) n
 | _,_=>False
def AV.leC(S S':St):List AV→List AV→Prop
 | [],[]=>True
 | x::xs,y::ys=>AV.leA S S' x y∧AV.leC S S' xs ys
 | _,_=>False
mutual
def AV.leS(S S':St):AV→AV→Prop
 | .sl sh k es,y=>(match y with
  | .sl .any k' es'=>k=k'∧es=es'
  | .sl .nn k' es'=>sh.mayNil=false∧k=k'∧es=es'
  | .top=>True
  | y=>AV.sl sh k es=y)
 | .nils,y=>(match y with
  | .sl .any _ es=>es=[]
  | .top=>True
  | y=>AV.nils=y)
 | .ref b off,y=>(match y with
  | .imm xs=>S' b=none∧∃ e cells,S b=some (.obj e cells)∧xs=cells.drop off
  | .top=>True
  | y=>AV.ref b off=y)
 | .arr b off n cap,y=>(match y with
  | .sl .any k es=>(S' b=none∧0<k∧n≤cap∧cap≤maxLen)∧∃ e cells,S b=some (.obj e cells)∧off+n*k≤cells.length∧∃ cells',AV.leC S S' cells cells'∧es=rowsOf k (cells'.drop off) n
  | .top=>True
  | y=>AV.arr b off n cap=y)
 | .ifc t x,y=>(match y with
  | .ifc t' y=>t=t'∧AV.leS S S' x y
  | .top=>True
  | _=>False)
 | .tu xs,y=>(match y with
  | .tu ys=>AV.leSL S S' xs ys
  | .top=>True
  | _=>False)
 | .ag xs,y=>(match y with
  | .ag ys=>AV.leSL S S' xs ys
  | .top=>True
  | _=>False)
 | x,y=>(match y with
    | .top=>True
    | y=>x=y)
def AV.leSL(S S':St):List AV→List AV→Prop
 | [],ys=>ys=[]
 | x::xs,ys=>(match ys with
    | []=>False
    | y::ys=>AV.leS S S' x y∧AV.leSL S S' xs ys)
end
def Env.le(env:Env):Env→Prop
 | []=>True
 | (t,x)::r=>AV.le (look t env) x∧Env.le env r
def leL:List AV→List AV→Prop
 | [],[]=>True
 | x::xs,y::ys=>AV.le x y∧leL xs ys
 | _,_=>False
def St.leW(S₀ S:St):Prop:=∀ b,S₀ b=S b∨∃ e cs cs',S b=some (.obj e cs)∧S₀ b=some (.obj e cs')∧leL cs cs'
structure LoopI where
 ι:Type
 F:ι→Env
 G:ι→St→Prop
 μ:ι→Nat
def putPs:List Tmp→List AV→Env→Env
 | p::ps,x::xs,env=>putPs ps xs ((p,x)::env)
 | _,_,env=>env
end
section
variable (P:Program)
def awp:Cx→Code→Env→St→(AExit→Env→St→Prop)→Prop
 | C,.skip,env,S,Q=>Q .normal env S
 | C,.label _,env,S,Q=>Q .normal env S
 | C,.ret,env,S,Q=>Q .ret env S
 | C,.exit id,env,S,Q=>Q (.exit id) env S
 | C,.seq a b,env,S,Q=>awp C a env S fun e env' S'=>match e with
    | .normal=>awp C b env' S' Q
    | e=>Q e env' S'
 | C,.region _ ops false,env,S,Q=>aOps P C ops.toList ops.toList env S (fun env' S'=>Q .normal env' S') (fun x S'=>Q (.panic x) [] S')
 | C,.region _ ops true,env,S,Q=>∃ (qc:List Nat) (pl:Plan) (M:Env→St→Prop),pl.ok qc ops ops.size (Array.replicate ops.size false) []=true∧
    aPlan P C qc ops.toList pl env S M (fun x S'=>Q (.panic x) [] S')∧∀ env' S',M env' S'→∃ F,(F=env'∨Env.le env' F)∧Q .normal F S'
 | C,.cond (.tmp t) x y,env,S,Q=>(match look t env with
    | .bool b=>split b (awp C x ((t,.bool true)::env) S Q) (awp C y ((t,.bool false)::env) S Q)
    | _=>False)
 | C,.block id c,env,S,Q=>awp C c env S fun e env' S'=>match e with
    | .exit id'=>(bif Nat.beq id' id then Q .normal env' S' else Q (.exit id') env' S')
    | e=>Q e env' S'
 | C,.scope c,env,S,Q=>False
 | C,.loop c,env,S,Q=>∃ L:LoopI,(∃ i,Env.le env (L.F i)∧∃ S₀,St.leW S₀ S∧L.G i S₀)∧∀ i S₁,L.G i S₁→awp C c (L.F i) S₁ fun e env' S'=>match e with
    | .normal=>∃ j,Env.le env' (L.F j)∧(∃ S₀,St.leW S₀ S'∧L.G j S₀)∧L.μ j<L.μ i
    | e=>Q e env' S'
 | C,.rangeFunc g ps assign body,env,S,Q=>(match C.inR,ev C env g with
    | false,.fn (.func gf) [] lb=>forceL lb fun lb=>∀ (l:Nat) (R:LpSt→Loop),S l=none→
       TripleE P (C.withY ⟨l,fun xs S₁ K=>(S₁ l=some (.lp R .ready)∧xs.length=ps.size)∧
        awp C.round assign (putPs ps.toList xs env) S₁ fun e env₁ S₂=>match e with
         | .normal=>S₂ l=some (.lp R .ready)∧awp C.round body env₁ (S₂.upd l (.lp R .busy)) fun e _ S₃=>S₃ l=some (.lp R .busy)∧(match e with
          | .normal=>K true (S₃.upd l (.lp R .ready))
          | .ret=>K false (S₃.upd l (.lp R (.done .ret)))
          | .exit i=>K false (S₃.upd l (.lp R (.done (.exit i))))
          | .panic _=>False)
         | _=>False⟩) gf (.fn (.yield l) [] []::lb) (S.upd l (.lp R .ready)) fun o S'=>(∃ x,o=.ret x)∧∃ st,S' l=some (.lp R st)∧(match st with
           | .ready=>Q .normal env (S'.del l)
           | .done .ret=>Q .ret env (S'.del l)
           | .done (.exit i)=>Q (.exit i) env (S'.del l)
           | _=>False)
    | _,_=>False)
 | _,_,_,_,_=>False
end
section
variable (C:Cx)
def aRes(env:Env)(S:St):List ResultVar→(List AV→Prop)→Prop
 | [],K=>K []
 | .tmp t::r,K=>force (look t env) fun x=>aRes env S r fun xs=>K (x::xs)
 | .cell a t::r,K=>aLoad C t (look a env) S fun x=>aRes env S r fun xs=>K (x::xs)
def aOut(rs:List ResultVar)(env:Env)(S:St)(K:AV→Prop):Prop:=
 match rs with
 | [r]=>aRes C env S [r] fun xs=>(match xs with | [x]=>K x | _=>False)
 | rs=>aRes C env S rs fun xs=>K (.tu xs)
def aPost(rs:List ResultVar)(Q:Out→St→Prop):AExit→Env→St→Prop
 | .normal,env,S | .ret,env,S=>aOut C rs env S fun x=>∃ y S',Q (.ret y) S'∧St.le S' S∧AV.leS S S' x y
 | .panic x,env,S=>force x fun x=>∃ y S',Q (.pan y) S'∧St.le S' S∧AV.leS S S' x y
 | _,_,_=>False
def argEnv(i:Nat):List AV→Env
 | []=>[]
 | x::r=>(i,x)::argEnv (i+1) r
end
def dstOk(n:Nat):Code→Bool
 | .region _ ops _=>ops.toList.all fun o=>match o.dst with | some d=>Nat.blt d n | none=>true
 | .seq a b=>dstOk n a && dstOk n b
 | .cond _ a b=>dstOk n a && dstOk n b
 | .block _ c=>dstOk n c
 | .loop c=>dstOk n c
 | .rangeFunc _ ps a b=>(ps.toList.all fun p=>Nat.blt p n) && (dstOk n a && dstOk n b)
 | _=>true
set_option maxRecDepth 100000
open Go
def leafT(n:Nat)(ti:TI)(t:Nat):TI:=bif Nat.beq t n then ti else TI.none
def OkT(P:Program)(t:Nat)(ti:TI):Prop:=TIok P t ti∨ti=TI.none
theorem leafT_ok{P:Program}{n:Nat}{ti:TI}(h:TIok P n ti)(t:Nat):OkT P t (leafT n ti t):=by
 unfold leafT
 cases e:Nat.beq t n with
 | true=>have:=Nat.eq_of_beq_eq_true e;subst this;exact .inl h
 | false=>exact .inr rfl
theorem nodeT_ok{P:Program}{t:Nat}{b:Bool}{x y:TI}(hx:OkT P t x)(hy:OkT P t y):OkT P t (bif b then x else y):=by cases b<;>assumption
def Tt(t:TypeId):TI:= bif Nat.blt t 169 then bif Nat.blt t 82 then bif Nat.blt t 42 then bif Nat.blt t 20 then bif Nat.blt t 10 then bif Nat.blt t 5 then bif Nat.blt t 3 then bif Nat.blt t 2 then leafT 1 ⟨1,8,.nilFunc,.fn⟩ t else leafT 2 ⟨1,8,.int .i64 0,.int .i64⟩ t else bif Nat.blt t 4 then leafT 3 ⟨1,8,.int .i64 0,.int .i64⟩ t else leafT 4 ⟨1,1,.bool false,.bool⟩ t else bif Nat.blt t 7 then bif Nat.blt t 6 then leafT 5 ⟨1,1,.int .u8 0,.int .u8⟩ t else leafT 6 ⟨1,1,.int .u8 0,.int .u8⟩ t else bif Nat.blt t 8 then leafT 7 ⟨4,24,.agg #[.int .i64 0,.int .i64 0,.bool false,.int .u8 0],.strct [(0,2),(1,3),(2,4),(3,6)]⟩ t else bif Nat.blt t 9 then leafT 8 ⟨4,24,.agg #[.int .i64 0,.int .i64 0,.bool false,.int .u8 0],.strct [(0,2),(1,3),(2,4),(3,6)]⟩ t else leafT 9 ⟨1,16,.string ByteArray.empty,.str⟩ t else bif Nat.blt t 15 then bif Nat.blt t 12 then bif Nat.blt t 11 then leafT 10 ⟨1,16,.string ByteArray.empty,.str⟩ t else leafT 11 ⟨1,16,.string ByteArray.empty,.str⟩ t else bif Nat.blt t 13 then leafT 12 ⟨1,8,.int .u64 0,.int .u64⟩ t else bif Nat.blt t 14 then leafT 13 ⟨2,24,.agg #[.string ByteArray.empty,.int .u64 0],.strct [(0,9),(1,12)]⟩ t else leafT 14 ⟨2,24,.agg #[.string ByteArray.empty,.int .u64 0],.strct [(0,9),(1,12)]⟩ t else bif Nat.blt t 17 then bif Nat.blt t 16 then leafT 15 ⟨1,8,.pointer none,.ptr 313⟩ t else leafT 16 ⟨1,8,.pointer none,.ptr 316⟩ t else bif Nat.blt t 18 then leafT 17 ⟨1,8,.pointer none,.ptr 323⟩ t else bif Nat.blt t 19 then leafT 18 ⟨1,8,.agg #[.pointer none],.strct [(0,17)]⟩ t else leafT 19 ⟨1,8,.agg #[.pointer none],.strct [(0,17)]⟩ t else bif Nat.blt t 29 then bif Nat.blt t 24 then bif Nat.blt t 22 then bif Nat.blt t 21 then leafT 20 ⟨1,16,.nilIface,.iface true⟩ t else leafT 21 ⟨1,4,.int .i32 0,.int .i32⟩ t else bif Nat.blt t 23 then leafT 22 ⟨1,24,.slice none 0 0,.slice 49⟩ t else leafT 23 ⟨1,24,.slice none 0 0,.slice 51⟩ t else bif Nat.blt t 26 then bif Nat.blt t 25 then leafT 24 ⟨1,24,.slice none 0 0,.slice 67⟩ t else leafT 25 ⟨4,80,.agg #[.slice none 0 0,.slice none 0 0,.bool false,.slice none 0 0],.strct [(0,22),(1,23),(2,4),(3,24)]⟩ t else bif Nat.blt t 27 then leafT 26 ⟨4,80,.agg #[.slice none 0 0,.slice none 0 0,.bool false,.slice none 0 0],.strct [(0,22),(1,23),(2,4),(3,24)]⟩ t else bif Nat.blt t 28 then leafT 27 ⟨1,24,.slice none 0 0,.slice 3⟩ t else leafT 28 ⟨1,8,.nilFunc,.fn⟩ t else bif Nat.blt t 35 then bif Nat.blt t 32 then bif Nat.blt t 30 then leafT 29 ⟨1,8,.nilFunc,.fn⟩ t else leafT 30 ⟨1,24,.slice none 0 0,.slice 27⟩ t else bif Nat.blt t 33 then leafT 32 ⟨1,8,.nilFunc,.fn⟩ t else bif Nat.blt t 34 then leafT 33 ⟨1,8,.nilFunc,.fn⟩ t else leafT 34 ⟨1,8,.nilFunc,.fn⟩ t else bif Nat.blt t 38 then bif Nat.blt t 37 then leafT 35 ⟨1,8,.nilFunc,.fn⟩ t else leafT 37 ⟨1,8,.nilFunc,.fn⟩ t else bif Nat.blt t 39 then leafT 38 ⟨5,56,.agg #[.int .i64 0,.int .i64 0,.int .i64 0,.int .i64 0,.slice none 0 0],.strct [(0,3),(1,3),(2,3),(3,3),(4,27)]⟩ t else bif Nat.blt t 41 then leafT 39 ⟨5,56,.agg #[.int .i64 0,.int .i64 0,.int .i64 0,.int .i64 0,.slice none 0 0],.strct [(0,3),(1,3),(2,3),(3,3),(4,27)]⟩ t else leafT 41 ⟨1,8,.nilFunc,.fn⟩ t else bif Nat.blt t 62 then bif Nat.blt t 51 then bif Nat.blt t 46 then bif Nat.blt t 44 then bif Nat.blt t 43 then leafT 42 ⟨1,8,.nilFunc,.fn⟩ t else leafT 43 ⟨1,8,.nilFunc,.fn⟩ t else bif Nat.blt t 45 then leafT 44 ⟨1,8,.nilFunc,.fn⟩ t else leafT 45 ⟨1,8,.nilFunc,.fn⟩ t else bif Nat.blt t 48 then bif Nat.blt t 47 then leafT 46 ⟨1,8,.nilFunc,.fn⟩ t else leafT 47 ⟨1,8,.nilFunc,.fn⟩ t else bif Nat.blt t 49 then leafT 48 ⟨3,32,.agg #[.string ByteArray.empty,.int .i64 0,.int .i64 0],.strct [(0,9),(1,3),(2,3)]⟩ t else bif Nat.blt t 50 then leafT 49 ⟨3,32,.agg #[.string ByteArray.empty,.int .i64 0,.int .i64 0],.strct [(0,9),(1,3),(2,3)]⟩ t else leafT 50 ⟨10,144,.agg #[.int .i64 0,.int .i64 0,.slice none 0 0,.int .i64 0,.int .i64 0,.int .i64 0,.int .i64 0,.slice none 0 0,.slice none 0 0,.slice none 0 0],.strct [(0,3),(1,3),(2,24),(3,3),(4,3),(5,3),(6,3),(7,27),(8,27),(9,30)]⟩ t else bif Nat.blt t 56 then bif Nat.blt t 53 then bif Nat.blt t 52 then leafT 51 ⟨10,144,.agg #[.int .i64 0,.int .i64 0,.slice none 0 0,.int .i64 0,.int .i64 0,.int .i64 0,.int .i64 0,.slice none 0 0,.slice none 0 0,.slice none 0 0],.strct [(0,3),(1,3),(2,24),(3,3),(4,3),(5,3),(6,3),(7,27),(8,27),(9,30)]⟩ t else leafT 52 ⟨1,8,.nilFunc,.fn⟩ t else bif Nat.blt t 54 then leafT 53 ⟨13,104,.agg #[.int .i64 0,.int .i64 0,.int .i64 0,.int .i64 0,.int .i64 0,.int .i64 0,.int .i64 0,.int .i64 0,.int .i64 0,.int .i64 0,.int .i64 0,.int .i64 0,.int .i64 0],.array 13 3⟩ t else bif Nat.blt t 55 then leafT 54 ⟨19,152,.agg #[.int .i64 0,.int .i64 0,.int .i64 0,.int .i64 0,.int .i64 0,.int .i64 0,.int .i64 0,.int .i64 0,.int .i64 0,.int .i64 0,.int .i64 0,.int .i64 0,.int .i64 0,.int .i64 0,.int .i64 0,.int .i64 0,.int .i64 0,.int .i64 0,.int .i64 0],.strct [(0,3),(1,3),(2,3),(3,3),(4,3),(5,3),(6,53)]⟩ t else leafT 55 ⟨19,152,.agg #[.int .i64 0,.int .i64 0,.int .i64 0,.int .i64 0,.int .i64 0,.int .i64 0,.int .i64 0,.int .i64 0,.int .i64 0,.int .i64 0,.int .i64 0,.int .i64 0,.int .i64 0,.int .i64 0,.int .i64 0,.int .i64 0,.int .i64 0,.int .i64 0,.int .i64 0],.strct [(0,3),(1,3),(2,3),(3,3),(4,3),(5,3),(6,53)]⟩ t else bif Nat.blt t 59 then bif Nat.blt t 57 then leafT 56 ⟨1,16,.nilIface,.iface false⟩ t else leafT 57 ⟨1,16,.nilIface,.iface false⟩ t else bif Nat.blt t 60 then leafT 59 ⟨1,8,.nilFunc,.fn⟩ t else bif Nat.blt t 61 then leafT 60 ⟨1,24,.slice none 0 0,.slice 9⟩ t else leafT 61 ⟨1,8,.nilFunc,.fn⟩ t else bif Nat.blt t 72 then bif Nat.blt t 67 then bif Nat.blt t 64 then bif Nat.blt t 63 then leafT 62 ⟨1,8,.nilFunc,.fn⟩ t else leafT 63 ⟨1,8,.pointer none,.ptr 101⟩ t else bif Nat.blt t 65 then leafT 64 ⟨1,8,.nilFunc,.fn⟩ t else bif Nat.blt t 66 then leafT 65 ⟨1,8,.nilFunc,.fn⟩ t else leafT 66 ⟨2,16,.agg #[.int .i64 0,.int .i64 0],.strct [(0,3),(1,3)]⟩ t else bif Nat.blt t 69 then bif Nat.blt t 68 then leafT 67 ⟨2,16,.agg #[.int .i64 0,.int .i64 0],.strct [(0,3),(1,3)]⟩ t else leafT 68 ⟨1,8,.nilFunc,.fn⟩ t else bif Nat.blt t 70 then leafT 69 ⟨1,8,.nilFunc,.fn⟩ t else bif Nat.blt t 71 then leafT 70 ⟨1,8,.nilFunc,.fn⟩ t else leafT 71 ⟨1,8,.nilFunc,.fn⟩ t else bif Nat.blt t 77 then bif Nat.blt t 74 then bif Nat.blt t 73 then leafT 72 ⟨1,8,.nilFunc,.fn⟩ t else leafT 73 ⟨1,8,.nilFunc,.fn⟩ t else bif Nat.blt t 75 then leafT 74 ⟨1,8,.nilFunc,.fn⟩ t else bif Nat.blt t 76 then leafT 75 ⟨1,8,.nilFunc,.fn⟩ t else leafT 76 ⟨1,8,.nilFunc,.fn⟩ t else bif Nat.blt t 79 then bif Nat.blt t 78 then leafT 77 ⟨1,8,.nilFunc,.fn⟩ t else leafT 78 ⟨1,8,.pointer none,.ptr 51⟩ t else bif Nat.blt t 80 then leafT 79 ⟨1,8,.nilFunc,.fn⟩ t else bif Nat.blt t 81 then leafT 80 ⟨1,8,.nilFunc,.fn⟩ t else leafT 81 ⟨1,8,.pointer none,.ptr 84⟩ t else bif Nat.blt t 127 then bif Nat.blt t 102 then bif Nat.blt t 91 then bif Nat.blt t 86 then bif Nat.blt t 84 then bif Nat.blt t 83 then leafT 82 ⟨13,104,.agg #[.int .i64 0,.int .i64 0,.int .i64 0,.int .i64 0,.int .i64 0,.int .i64 0,.int .i64 0,.int .i64 0,.int .i64 0,.int .i64 0,.int .i64 0,.int .i64 0,.int .i64 0],.array 13 3⟩ t else leafT 83 ⟨33,264,.agg #[.int .i64 0,.int .i64 0,.int .i64 0,.int .i64 0,.int .i64 0,.int .i64 0,.int .i64 0,.int .i64 0,.int .i64 0,.int .i64 0,.int .i64 0,.int .i64 0,.int .i64 0,.int .i64 0,.int .i64 0,.int .i64 0,.int .i64 0,.int .i64 0,.int .i64 0,.int .i64 0,.int .i64 0,.int .i64 0,.int .i64 0,.int .i64 0,.int .i64 0,.int .i64 0,.int .i64 0,.int .i64 0,.int .i64 0,.int .i64 0,.int .i64 0,.int .i64 0,.int .i64 0],.strct [(0,82),(13,55),(32,3)]⟩ t else bif Nat.blt t 85 then leafT 84 ⟨33,264,.agg #[.int .i64 0,.int .i64 0,.int .i64 0,.int .i64 0,.int .i64 0,.int .i64 0,.int .i64 0,.int .i64 0,.int .i64 0,.int .i64 0,.int .i64 0,.int .i64 0,.int .i64 0,.int .i64 0,.int .i64 0,.int .i64 0,.int .i64 0,.int .i64 0,.int .i64 0,.int .i64 0,.int .i64 0,.int .i64 0,.int .i64 0,.int .i64 0,.int .i64 0,.int .i64 0,.int .i64 0,.int .i64 0,.int .i64 0,.int .i64 0,.int .i64 0,.int .i64 0,.int .i64 0],.strct [(0,82),(13,55),(32,3)]⟩ t else leafT 85 ⟨1,24,.slice none 0 0,.slice 201⟩ t else bif Nat.blt t 88 then bif Nat.blt t 87 then leafT 86 ⟨1,24,.slice none 0 0,.slice 222⟩ t else leafT 87 ⟨2,40,.agg #[.slice none 0 0,.string ByteArray.empty],.strct [(0,86),(1,9)]⟩ t else bif Nat.blt t 89 then leafT 88 ⟨2,40,.agg #[.slice none 0 0,.string ByteArray.empty],.strct [(0,86),(1,9)]⟩ t else bif Nat.blt t 90 then leafT 89 ⟨10,176,.agg #[.int .i64 0,.string ByteArray.empty,.slice none 0 0,.slice none 0 0,.string ByteArray.empty,.slice none 0 0,.slice none 0 0,.int .i64 0,.string ByteArray.empty,.string ByteArray.empty],.strct [(0,3),(1,9),(2,85),(3,88),(5,27),(6,60),(7,3),(8,9),(9,9)]⟩ t else leafT 90 ⟨10,176,.agg #[.int .i64 0,.string ByteArray.empty,.slice none 0 0,.slice none 0 0,.string ByteArray.empty,.slice none 0 0,.slice none 0 0,.int .i64 0,.string ByteArray.empty,.string ByteArray.empty],.strct [(0,3),(1,9),(2,85),(3,88),(5,27),(6,60),(7,3),(8,9),(9,9)]⟩ t else bif Nat.blt t 97 then bif Nat.blt t 94 then bif Nat.blt t 93 then leafT 91 ⟨1,8,.int .i64 0,.int .i64⟩ t else leafT 93 ⟨1,8,.nilFunc,.fn⟩ t else bif Nat.blt t 95 then leafT 94 ⟨1,8,.pointer none,.ptr 96⟩ t else bif Nat.blt t 96 then leafT 95 ⟨3,24,.agg #[.int .i64 0,.int .i64 0,.int .i64 0],.strct [(0,3),(1,3),(2,91)]⟩ t else leafT 96 ⟨3,24,.agg #[.int .i64 0,.int .i64 0,.int .i64 0],.strct [(0,3),(1,3),(2,91)]⟩ t else bif Nat.blt t 99 then bif Nat.blt t 98 then leafT 97 ⟨1,8,.nilFunc,.fn⟩ t else leafT 98 ⟨1,8,.nilFunc,.fn⟩ t else bif Nat.blt t 100 then leafT 99 ⟨1,8,.nilFunc,.fn⟩ t else bif Nat.blt t 101 then leafT 100 ⟨1,8,.agg #[.int .i64 0],.strct [(0,3)]⟩ t else leafT 101 ⟨1,8,.agg #[.int .i64 0],.strct [(0,3)]⟩ t else bif Nat.blt t 113 then bif Nat.blt t 108 then bif Nat.blt t 104 then bif Nat.blt t 103 then leafT 102 ⟨1,8,.nilFunc,.fn⟩ t else leafT 103 ⟨1,8,.nilFunc,.fn⟩ t else bif Nat.blt t 106 then leafT 104 ⟨1,8,.nilFunc,.fn⟩ t else bif Nat.blt t 107 then leafT 106 ⟨1,8,.nilFunc,.fn⟩ t else leafT 107 ⟨1,8,.nilFunc,.fn⟩ t else bif Nat.blt t 110 then bif Nat.blt t 109 then leafT 108 ⟨1,8,.nilFunc,.fn⟩ t else leafT 109 ⟨1,8,.nilFunc,.fn⟩ t else bif Nat.blt t 111 then leafT 110 ⟨10,24,.agg #[.bool false,.bool false,.bool false,.bool false,.bool false,.bool false,.bool false,.bool false,.bool false,.nilFunc],.strct [(0,4),(1,4),(2,4),(3,4),(4,4),(5,4),(6,4),(7,4),(8,4),(9,109)]⟩ t else bif Nat.blt t 112 then leafT 111 ⟨10,24,.agg #[.bool false,.bool false,.bool false,.bool false,.bool false,.bool false,.bool false,.bool false,.bool false,.nilFunc],.strct [(0,4),(1,4),(2,4),(3,4),(4,4),(5,4),(6,4),(7,4),(8,4),(9,109)]⟩ t else leafT 112 ⟨1,8,.map none,.map 3 111⟩ t else bif Nat.blt t 119 then bif Nat.blt t 116 then bif Nat.blt t 115 then leafT 113 ⟨1,8,.nilFunc,.fn⟩ t else leafT 115 ⟨1,8,.nilFunc,.fn⟩ t else bif Nat.blt t 117 then leafT 116 ⟨1,8,.nilFunc,.fn⟩ t else bif Nat.blt t 118 then leafT 117 ⟨1,8,.pointer none,.ptr 94⟩ t else leafT 118 ⟨1,8,.nilFunc,.fn⟩ t else bif Nat.blt t 122 then bif Nat.blt t 121 then leafT 119 ⟨1,8,.nilFunc,.fn⟩ t else leafT 121 ⟨1,8,.nilFunc,.fn⟩ t else bif Nat.blt t 123 then leafT 122 ⟨1,8,.nilFunc,.fn⟩ t else bif Nat.blt t 126 then leafT 123 ⟨1,8,.nilFunc,.fn⟩ t else leafT 126 ⟨1,8,.nilFunc,.fn⟩ t else bif Nat.blt t 149 then bif Nat.blt t 136 then bif Nat.blt t 131 then bif Nat.blt t 129 then bif Nat.blt t 128 then leafT 127 ⟨1,8,.nilFunc,.fn⟩ t else leafT 128 ⟨1,8,.nilFunc,.fn⟩ t else bif Nat.blt t 130 then leafT 129 ⟨1,8,.nilFunc,.fn⟩ t else leafT 130 ⟨1,8,.nilFunc,.fn⟩ t else bif Nat.blt t 133 then bif Nat.blt t 132 then leafT 131 ⟨1,8,.nilFunc,.fn⟩ t else leafT 132 ⟨1,8,.nilFunc,.fn⟩ t else bif Nat.blt t 134 then leafT 133 ⟨1,8,.nilFunc,.fn⟩ t else bif Nat.blt t 135 then leafT 134 ⟨1,8,.pointer none,.ptr 136⟩ t else leafT 135 ⟨11,200,.agg #[.slice none 0 0,.int .i64 0,.string ByteArray.empty,.slice none 0 0,.slice none 0 0,.string ByteArray.empty,.slice none 0 0,.slice none 0 0,.int .i64 0,.string ByteArray.empty,.string ByteArray.empty],.strct [(0,60),(1,90)]⟩ t else bif Nat.blt t 143 then bif Nat.blt t 139 then bif Nat.blt t 138 then leafT 136 ⟨11,200,.agg #[.slice none 0 0,.int .i64 0,.string ByteArray.empty,.slice none 0 0,.slice none 0 0,.string ByteArray.empty,.slice none 0 0,.slice none 0 0,.int .i64 0,.string ByteArray.empty,.string ByteArray.empty],.strct [(0,60),(1,90)]⟩ t else leafT 138 ⟨1,8,.nilFunc,.fn⟩ t else bif Nat.blt t 141 then leafT 139 ⟨1,8,.nilFunc,.fn⟩ t else bif Nat.blt t 142 then leafT 141 ⟨1,8,.map none,.map 9 139⟩ t else leafT 142 ⟨1,8,.nilFunc,.fn⟩ t else bif Nat.blt t 146 then bif Nat.blt t 144 then leafT 143 ⟨1,8,.nilFunc,.fn⟩ t else leafT 144 ⟨1,8,.nilFunc,.fn⟩ t else bif Nat.blt t 147 then leafT 146 ⟨1,8,.int .u64 0,.int .u64⟩ t else bif Nat.blt t 148 then leafT 147 ⟨3,24,.agg #[.pointer none,.pointer none,.int .u64 0],.strct [(0,17),(1,145),(2,146)]⟩ t else leafT 148 ⟨3,24,.agg #[.pointer none,.pointer none,.int .u64 0],.strct [(0,17),(1,145),(2,146)]⟩ t else bif Nat.blt t 159 then bif Nat.blt t 154 then bif Nat.blt t 151 then bif Nat.blt t 150 then leafT 149 ⟨1,8,.nilFunc,.fn⟩ t else leafT 150 ⟨1,16,.nilIface,.iface false⟩ t else bif Nat.blt t 152 then leafT 151 ⟨1,16,.nilIface,.iface false⟩ t else bif Nat.blt t 153 then leafT 152 ⟨1,8,.nilFunc,.fn⟩ t else leafT 153 ⟨1,1,.int .u8 0,.int .u8⟩ t else bif Nat.blt t 156 then bif Nat.blt t 155 then leafT 154 ⟨1,8,.nilFunc,.fn⟩ t else leafT 155 ⟨1,8,.nilFunc,.fn⟩ t else bif Nat.blt t 157 then leafT 156 ⟨1,8,.nilFunc,.fn⟩ t else bif Nat.blt t 158 then leafT 157 ⟨1,8,.nilFunc,.fn⟩ t else leafT 158 ⟨1,8,.nilFunc,.fn⟩ t else bif Nat.blt t 164 then bif Nat.blt t 161 then bif Nat.blt t 160 then leafT 159 ⟨1,8,.nilFunc,.fn⟩ t else leafT 160 ⟨1,8,.nilFunc,.fn⟩ t else bif Nat.blt t 162 then leafT 161 ⟨1,8,.nilFunc,.fn⟩ t else bif Nat.blt t 163 then leafT 162 ⟨1,8,.nilFunc,.fn⟩ t else leafT 163 ⟨1,8,.nilFunc,.fn⟩ t else bif Nat.blt t 166 then bif Nat.blt t 165 then leafT 164 ⟨1,8,.nilFunc,.fn⟩ t else leafT 165 ⟨5,40,.agg #[.int .i64 0,.int .i64 0,.int .i64 0,.int .i64 0,.int .i64 0],.strct [(0,3),(1,3),(2,3),(3,3),(4,3)]⟩ t else bif Nat.blt t 167 then leafT 166 ⟨5,40,.agg #[.int .i64 0,.int .i64 0,.int .i64 0,.int .i64 0,.int .i64 0],.strct [(0,3),(1,3),(2,3),(3,3),(4,3)]⟩ t else bif Nat.blt t 168 then leafT 167 ⟨1,8,.nilFunc,.fn⟩ t else leafT 168 ⟨1,8,.nilFunc,.fn⟩ t else bif Nat.blt t 255 then bif Nat.blt t 212 then bif Nat.blt t 190 then bif Nat.blt t 178 then bif Nat.blt t 173 then bif Nat.blt t 171 then bif Nat.blt t 170 then leafT 169 ⟨1,8,.nilFunc,.fn⟩ t else leafT 170 ⟨1,8,.nilFunc,.fn⟩ t else bif Nat.blt t 172 then leafT 171 ⟨1,8,.nilFunc,.fn⟩ t else leafT 172 ⟨1,8,.nilFunc,.fn⟩ t else bif Nat.blt t 175 then bif Nat.blt t 174 then leafT 173 ⟨1,8,.agg #[.pointer none],.strct [(0,17)]⟩ t else leafT 174 ⟨1,8,.agg #[.pointer none],.strct [(0,17)]⟩ t else bif Nat.blt t 176 then leafT 175 ⟨1,8,.pointer none,.ptr 327⟩ t else bif Nat.blt t 177 then leafT 176 ⟨1,8,.nilFunc,.fn⟩ t else leafT 177 ⟨1,8,.nilFunc,.fn⟩ t else bif Nat.blt t 184 then bif Nat.blt t 181 then bif Nat.blt t 179 then leafT 178 ⟨1,8,.nilFunc,.fn⟩ t else leafT 179 ⟨1,16,.nilIface,.iface false⟩ t else bif Nat.blt t 182 then leafT 181 ⟨1,8,.nilFunc,.fn⟩ t else bif Nat.blt t 183 then leafT 182 ⟨1,16,.nilIface,.iface false⟩ t else leafT 183 ⟨1,16,.nilIface,.iface false⟩ t else bif Nat.blt t 186 then bif Nat.blt t 185 then leafT 184 ⟨1,24,.slice none 0 0,.slice 57⟩ t else leafT 185 ⟨1,8,.nilFunc,.fn⟩ t else bif Nat.blt t 188 then leafT 186 ⟨1,8,.nilFunc,.fn⟩ t else bif Nat.blt t 189 then leafT 188 ⟨1,8,.nilFunc,.fn⟩ t else leafT 189 ⟨1,8,.nilFunc,.fn⟩ t else bif Nat.blt t 200 then bif Nat.blt t 195 then bif Nat.blt t 192 then bif Nat.blt t 191 then leafT 190 ⟨1,8,.nilFunc,.fn⟩ t else leafT 191 ⟨1,8,.nilFunc,.fn⟩ t else bif Nat.blt t 193 then leafT 192 ⟨1,8,.nilFunc,.fn⟩ t else bif Nat.blt t 194 then leafT 193 ⟨1,8,.nilFunc,.fn⟩ t else leafT 194 ⟨1,8,.int .u64 0,.int .u64⟩ t else bif Nat.blt t 197 then bif Nat.blt t 196 then leafT 195 ⟨1,24,.slice none 0 0,.slice 197⟩ t else leafT 196 ⟨2,16,.agg #[.int .i64 0,.int .i64 0],.strct [(0,3),(1,3)]⟩ t else bif Nat.blt t 198 then leafT 197 ⟨2,16,.agg #[.int .i64 0,.int .i64 0],.strct [(0,3),(1,3)]⟩ t else bif Nat.blt t 199 then leafT 198 ⟨1,8,.nilFunc,.fn⟩ t else leafT 199 ⟨1,8,.nilFunc,.fn⟩ t else bif Nat.blt t 206 then bif Nat.blt t 203 then bif Nat.blt t 201 then leafT 200 ⟨3,32,.agg #[.int .i64 0,.string ByteArray.empty,.int .i64 0],.strct [(0,3),(1,9),(2,3)]⟩ t else leafT 201 ⟨3,32,.agg #[.int .i64 0,.string ByteArray.empty,.int .i64 0],.strct [(0,3),(1,9),(2,3)]⟩ t else bif Nat.blt t 204 then leafT 203 ⟨1,8,.nilFunc,.fn⟩ t else bif Nat.blt t 205 then leafT 204 ⟨1,8,.nilFunc,.fn⟩ t else leafT 205 ⟨1,8,.nilFunc,.fn⟩ t else bif Nat.blt t 209 then bif Nat.blt t 208 then leafT 206 ⟨1,8,.int .i64 0,.int .i64⟩ t else leafT 208 ⟨1,8,.nilFunc,.fn⟩ t else bif Nat.blt t 210 then leafT 209 ⟨1,8,.nilFunc,.fn⟩ t else bif Nat.blt t 211 then leafT 210 ⟨1,8,.nilFunc,.fn⟩ t else leafT 211 ⟨1,8,.nilFunc,.fn⟩ t else bif Nat.blt t 233 then bif Nat.blt t 222 then bif Nat.blt t 216 then bif Nat.blt t 214 then bif Nat.blt t 213 then leafT 212 ⟨1,8,.nilFunc,.fn⟩ t else leafT 213 ⟨1,4,.int .u32 0,.int .u32⟩ t else bif Nat.blt t 215 then leafT 214 ⟨1,8,.nilFunc,.fn⟩ t else leafT 215 ⟨1,8,.int .u64 0,.int .u64⟩ t else bif Nat.blt t 218 then bif Nat.blt t 217 then leafT 216 ⟨1,8,.nilFunc,.fn⟩ t else leafT 217 ⟨1,8,.nilFunc,.fn⟩ t else bif Nat.blt t 220 then leafT 218 ⟨1,8,.map none,.map 9 3⟩ t else bif Nat.blt t 221 then leafT 220 ⟨1,8,.nilFunc,.fn⟩ t else leafT 221 ⟨2,24,.agg #[.string ByteArray.empty,.int .i64 0],.strct [(0,9),(1,3)]⟩ t else bif Nat.blt t 228 then bif Nat.blt t 224 then bif Nat.blt t 223 then leafT 222 ⟨2,24,.agg #[.string ByteArray.empty,.int .i64 0],.strct [(0,9),(1,3)]⟩ t else leafT 223 ⟨256,256,.agg #[.int .u8 0,.int .u8 0,.int .u8 0,.int .u8 0,.int .u8 0,.int .u8 0,.int .u8 0,.int .u8 0,.int .u8 0,.int .u8 0,.int .u8 0,.int .u8 0,.int .u8 0,.int .u8 0,.int .u8 0,.int .u8 0,.int .u8 0,.int .u8 0,.int .u8 0,.int .u8 0,.int .u8 0,.int .u8 0,.int .u8 0,.int .u8 0,.int .u8 0,.int .u8 0,.int .u8 0,.int .u8 0,.int .u8 0,.int .u8 0,.int .u8 0,.int .u8 0,.int .u8 0,.int .u8 0,.int .u8 0,.int .u8 0,.int .u8 0,.int .u8 0,.int .u8 0,.int .u8 0,.int .u8 0,.int .u8 0,.int .u8 0,.int .u8 0,.int .u8 0,.int .u8 0,.int .u8 0,.int .u8 0,.int .u8 0,.int .u8 0,.int .u8 0,.int .u8 0,.int .u8 0,.int .u8 0,.int .u8 0,.int .u8 0,.int .u8 0,.int .u8 0,.int .u8 0,.int .u8 0,.int .u8 0,.int .u8 0,.int .u8 0,.int .u8 0,.int .u8 0,.int .u8 0,.int .u8 0,.int .u8 0,.int .u8 0,.int .u8 0,.int .u8 0,.int .u8 0,.int .u8 0,.int .u8 0,.int .u8 0,.int .u8 0,.int .u8 0,.int .u8 0,.int .u8 0,.int .u8 0,.int .u8 0,.int .u8 0,.int .u8 0,.int .u8 0,.int .u8 0,.int .u8 0,.int .u8 0,.int .u8 0,.int .u8 0,.int .u8 0,.int .u8 0,.int .u8 0,.int .u8 0,.int .u8 0,.int .u8 0,.int .u8 0,.int .u8 0,.int .u8 0,.int .u8 0,.int .u8 0,.int .u8 0,.int .u8 0,.int .u8 0,.int .u8 0,.int .u8 0,.int .u8 0,.int .u8 0,.int .u8 0,.int .u8 0,.int .u8 0,.int .u8 0,.int .u8 0,.int .u8 0,.int .u8 0,.int .u8 0,.int .u8 0,.int .u8 0,.int .u8 0,.int .u8 0,.int .u8 0,.int .u8 0,.int .u8 0,.int .u8 0,.int .u8 0,.int .u8 0,.int .u8 0,.int .u8 0,.int .u8 0,.int .u8 0,.int .u8 0,.int .u8 0,.int .u8 0,.int .u8 0,.int .u8 0,.int .u8 0,.int .u8 0,.int .u8 0,.int .u8 0,.int .u8 0,.int .u8 0,.int .u8 0,.int .u8 0,.int .u8 0,.int .u8 0,.int .u8 0,.int .u8 0,.int .u8 0,.int .u8 0,.int .u8 0,.int .u8 0,.int .u8 0,.int .u8 0,.int .u8 0,.int .u8 0,.int .u8 0,.int .u8 0,.int .u8 0,.int .u8 0,.int .u8 0,.int .u8 0,.int .u8 0,.int .u8 0,.int .u8 0,.int .u8 0,.int .u8 0,.int .u8 0,.int .u8 0,.int .u8 0,.int .u8 0,.int .u8 0,.int .u8 0,.int .u8 0,.int .u8 0,.int .u8 0,.int .u8 0,.int .u8 0,.int .u8 0,.int .u8 0,.int .u8 0,.int .u8 0,.int .u8 0,.int .u8 0,.int .u8 0,.int .u8 0,.int .u8 0,.int .u8 0,.int .u8 0,.int .u8 0,.int .u8 0,.int .u8 0,.int .u8 0,.int .u8 0,.int .u8 0,.int .u8 0,.int .u8 0,.int .u8 0,.int .u8 0,.int .u8 0,.int .u8 0,.int .u8 0,.int .u8 0,.int .u8 0,.int .u8 0,.int .u8 0,.int .u8 0,.int .u8 0,.int .u8 0,.int .u8 0,.int .u8 0,.int .u8 0,.int .u8 0,.int .u8 0,.int .u8 0,.int .u8 0,.int .u8 0,.int .u8 0,.int .u8 0,.int .u8 0,.int .u8 0,.int .u8 0,.int .u8 0,.int .u8 0,.int .u8 0,.int .u8 0,.int .u8 0,.int .u8 0,.int .u8 0,.int .u8 0,.int .u8 0,.int .u8 0,.int .u8 0,.int .u8 0,.int .u8 0,.int .u8 0,.int .u8 0,.int .u8 0,.int .u8 0,.int .u8 0,.int .u8 0,.int .u8 0,.int .u8 0,.int .u8 0,.int .u8 0,.int .u8 0,.int .u8 0,.int .u8 0,.int .u8 0,.int .u8 0,.int .u8 0,.int .u8 0,.int .u8 0,.int .u8 0,.int .u8 0,.int .u8 0,.int .u8 0,.int .u8 0],.array 256 5⟩ t else bif Nat.blt t 225 then leafT 224 ⟨2,2,.agg #[.int .u8 0,.int .u8 0],.strct [(0,5),(1,5)]⟩ t else bif Nat.blt t 226 then leafT 225 ⟨2,2,.agg #[.int .u8 0,.int .u8 0],.strct [(0,5),(1,5)]⟩ t else leafT 226 ⟨32,32,.agg #[.int .u8 0,.int .u8 0,.int .u8 0,.int .u8 0,.int .u8 0,.int .u8 0,.int .u8 0,.int .u8 0,.int .u8 0,.int .u8 0,.int .u8 0,.int .u8 0,.int .u8 0,.int .u8 0,.int .u8 0,.int .u8 0,.int .u8 0,.int .u8 0,.int .u8 0,.int .u8 0,.int .u8 0,.int .u8 0,.int .u8 0,.int .u8 0,.int .u8 0,.int .u8 0,.int .u8 0,.int .u8 0,.int .u8 0,.int .u8 0,.int .u8 0,.int .u8 0],.array 16 225⟩ t else bif Nat.blt t 230 then bif Nat.blt t 229 then leafT 228 ⟨1,8,.nilFunc,.fn⟩ t else leafT 229 ⟨1,8,.int .u64 0,.int .u64⟩ t else bif Nat.blt t 231 then leafT 230 ⟨1,8,.nilFunc,.fn⟩ t else bif Nat.blt t 232 then leafT 231 ⟨1,8,.nilFunc,.fn⟩ t else leafT 232 ⟨1,8,.nilFunc,.fn⟩ t else bif Nat.blt t 245 then bif Nat.blt t 239 then bif Nat.blt t 235 then bif Nat.blt t 234 then leafT 233 ⟨1,8,.pointer none,.ptr 3⟩ t else leafT 234 ⟨1,8,.nilFunc,.fn⟩ t else bif Nat.blt t 236 then leafT 235 ⟨1,24,.slice none 0 0,.slice 213⟩ t else bif Nat.blt t 237 then leafT 236 ⟨3,40,.agg #[.int .i64 0,.bool false,.slice none 0 0],.strct [(0,3),(1,4),(2,235)]⟩ t else leafT 237 ⟨3,40,.agg #[.int .i64 0,.bool false,.slice none 0 0],.strct [(0,3),(1,4),(2,235)]⟩ t else bif Nat.blt t 241 then bif Nat.blt t 240 then leafT 239 ⟨1,8,.nilFunc,.fn⟩ t else leafT 240 ⟨1,8,.nilFunc,.fn⟩ t else bif Nat.blt t 243 then leafT 241 ⟨1,8,.nilFunc,.fn⟩ t else bif Nat.blt t 244 then leafT 243 ⟨1,8,.nilFunc,.fn⟩ t else leafT 244 ⟨1,8,.nilFunc,.fn⟩ t else bif Nat.blt t 250 then bif Nat.blt t 247 then bif Nat.blt t 246 then leafT 245 ⟨1,8,.pointer none,.ptr 229⟩ t else leafT 246 ⟨1,8,.nilFunc,.fn⟩ t else bif Nat.blt t 248 then leafT 247 ⟨1,8,.nilFunc,.fn⟩ t else bif Nat.blt t 249 then leafT 248 ⟨1,8,.nilFunc,.fn⟩ t else leafT 249 ⟨1,8,.nilFunc,.fn⟩ t else bif Nat.blt t 252 then bif Nat.blt t 251 then leafT 250 ⟨1,8,.nilFunc,.fn⟩ t else leafT 251 ⟨1,8,.nilFunc,.fn⟩ t else bif Nat.blt t 253 then leafT 252 ⟨1,8,.nilFunc,.fn⟩ t else bif Nat.blt t 254 then leafT 253 ⟨1,8,.nilFunc,.fn⟩ t else leafT 254 ⟨1,8,.nilFunc,.fn⟩ t else bif Nat.blt t 298 then bif Nat.blt t 276 then bif Nat.blt t 265 then bif Nat.blt t 260 then bif Nat.blt t 258 then bif Nat.blt t 256 then leafT 255 ⟨1,8,.nilFunc,.fn⟩ t else leafT 256 ⟨1,8,.nilFunc,.fn⟩ t else bif Nat.blt t 259 then leafT 258 ⟨1,8,.nilFunc,.fn⟩ t else leafT 259 ⟨1,8,.nilFunc,.fn⟩ t else bif Nat.blt t 262 then bif Nat.blt t 261 then leafT 260 ⟨1,8,.nilFunc,.fn⟩ t else leafT 261 ⟨1,8,.nilFunc,.fn⟩ t else bif Nat.blt t 263 then leafT 262 ⟨1,8,.nilFunc,.fn⟩ t else bif Nat.blt t 264 then leafT 263 ⟨1,8,.pointer none,.ptr 266⟩ t else leafT 264 ⟨1,24,.slice none 0 0,.slice 5⟩ t else bif Nat.blt t 270 then bif Nat.blt t 267 then bif Nat.blt t 266 then leafT 265 ⟨2,32,.agg #[.pointer none,.slice none 0 0],.strct [(0,263),(1,264)]⟩ t else leafT 266 ⟨2,32,.agg #[.pointer none,.slice none 0 0],.strct [(0,263),(1,264)]⟩ t else bif Nat.blt t 268 then leafT 267 ⟨1,8,.nilFunc,.fn⟩ t else bif Nat.blt t 269 then leafT 268 ⟨1,8,.nilFunc,.fn⟩ t else leafT 269 ⟨1,8,.nilFunc,.fn⟩ t else bif Nat.blt t 272 then bif Nat.blt t 271 then leafT 270 ⟨1,8,.nilFunc,.fn⟩ t else leafT 271 ⟨1,8,.nilFunc,.fn⟩ t else bif Nat.blt t 273 then leafT 272 ⟨1,8,.nilFunc,.fn⟩ t else bif Nat.blt t 274 then leafT 273 ⟨1,8,.nilFunc,.fn⟩ t else leafT 274 ⟨1,8,.int .i64 0,.int .i64⟩ t else bif Nat.blt t 287 then bif Nat.blt t 282 then bif Nat.blt t 278 then bif Nat.blt t 277 then leafT 276 ⟨1,8,.nilFunc,.fn⟩ t else leafT 277 ⟨1,8,.pointer none,.ptr 293⟩ t else bif Nat.blt t 279 then leafT 278 ⟨1,8,.nilFunc,.fn⟩ t else bif Nat.blt t 281 then leafT 279 ⟨1,8,.nilFunc,.fn⟩ t else leafT 281 ⟨1,8,.nilFunc,.fn⟩ t else bif Nat.blt t 284 then bif Nat.blt t 283 then leafT 282 ⟨1,8,.nilFunc,.fn⟩ t else leafT 283 ⟨1,8,.pointer none,.ptr 5⟩ t else bif Nat.blt t 285 then leafT 284 ⟨1,8,.pointer none,.ptr 286⟩ t else bif Nat.blt t 286 then leafT 285 ⟨2,32,.agg #[.slice none 0 0,.int .i64 0],.strct [(0,235),(1,2)]⟩ t else leafT 286 ⟨2,32,.agg #[.slice none 0 0,.int .i64 0],.strct [(0,235),(1,2)]⟩ t else bif Nat.blt t 293 then bif Nat.blt t 290 then bif Nat.blt t 288 then leafT 287 ⟨1,8,.nilFunc,.fn⟩ t else leafT 288 ⟨1,8,.nilFunc,.fn⟩ t else bif Nat.blt t 291 then leafT 290 ⟨1,8,.nilFunc,.fn⟩ t else bif Nat.blt t 292 then leafT 291 ⟨1,8,.nilFunc,.fn⟩ t else leafT 292 ⟨3,48,.agg #[.string ByteArray.empty,.string ByteArray.empty,.nilIface],.strct [(0,9),(1,9),(2,57)]⟩ t else bif Nat.blt t 295 then bif Nat.blt t 294 then leafT 293 ⟨3,48,.agg #[.string ByteArray.empty,.string ByteArray.empty,.nilIface],.strct [(0,9),(1,9),(2,57)]⟩ t else leafT 294 ⟨1,8,.nilFunc,.fn⟩ t else bif Nat.blt t 296 then leafT 295 ⟨1,8,.nilFunc,.fn⟩ t else bif Nat.blt t 297 then leafT 296 ⟨1,8,.nilFunc,.fn⟩ t else leafT 297 ⟨1,8,.nilFunc,.fn⟩ t else bif Nat.blt t 318 then bif Nat.blt t 308 then bif Nat.blt t 302 then bif Nat.blt t 300 then bif Nat.blt t 299 then leafT 298 ⟨1,8,.nilFunc,.fn⟩ t else leafT 299 ⟨1,8,.pointer none,.ptr 301⟩ t else bif Nat.blt t 301 then leafT 300 ⟨1,16,.agg #[.string ByteArray.empty],.strct [(0,9)]⟩ t else leafT 301 ⟨1,16,.agg #[.string ByteArray.empty],.strct [(0,9)]⟩ t else bif Nat.blt t 305 then bif Nat.blt t 303 then leafT 302 ⟨24,24,.agg #[.int .u8 0,.int .u8 0,.int .u8 0,.int .u8 0,.int .u8 0,.int .u8 0,.int .u8 0,.int .u8 0,.int .u8 0,.int .u8 0,.int .u8 0,.int .u8 0,.int .u8 0,.int .u8 0,.int .u8 0,.int .u8 0,.int .u8 0,.int .u8 0,.int .u8 0,.int .u8 0,.int .u8 0,.int .u8 0,.int .u8 0,.int .u8 0],.array 24 5⟩ t else leafT 303 ⟨1,8,.nilFunc,.fn⟩ t else bif Nat.blt t 306 then leafT 305 ⟨1,8,.nilFunc,.fn⟩ t else bif Nat.blt t 307 then leafT 306 ⟨1,8,.nilFunc,.fn⟩ t else leafT 307 ⟨1,8,.nilFunc,.fn⟩ t else bif Nat.blt t 313 then bif Nat.blt t 310 then bif Nat.blt t 309 then leafT 308 ⟨20,160,.agg #[.int .u64 0,.int .u64 0,.int .u64 0,.int .u64 0,.int .u64 0,.int .u64 0,.int .u64 0,.int .u64 0,.int .u64 0,.int .u64 0,.int .u64 0,.int .u64 0,.int .u64 0,.int .u64 0,.int .u64 0,.int .u64 0,.int .u64 0,.int .u64 0,.int .u64 0,.int .u64 0],.array 20 215⟩ t else leafT 309 ⟨65,65,.agg #[.int .u8 0,.int .u8 0,.int .u8 0,.int .u8 0,.int .u8 0,.int .u8 0,.int .u8 0,.int .u8 0,.int .u8 0,.int .u8 0,.int .u8 0,.int .u8 0,.int .u8 0,.int .u8 0,.int .u8 0,.int .u8 0,.int .u8 0,.int .u8 0,.int .u8 0,.int .u8 0,.int .u8 0,.int .u8 0,.int .u8 0,.int .u8 0,.int .u8 0,.int .u8 0,.int .u8 0,.int .u8 0,.int .u8 0,.int .u8 0,.int .u8 0,.int .u8 0,.int .u8 0,.int .u8 0,.int .u8 0,.int .u8 0,.int .u8 0,.int .u8 0,.int .u8 0,.int .u8 0,.int .u8 0,.int .u8 0,.int .u8 0,.int .u8 0,.int .u8 0,.int .u8 0,.int .u8 0,.int .u8 0,.int .u8 0,.int .u8 0,.int .u8 0,.int .u8 0,.int .u8 0,.int .u8 0,.int .u8 0,.int .u8 0,.int .u8 0,.int .u8 0,.int .u8 0,.int .u8 0,.int .u8 0,.int .u8 0,.int .u8 0,.int .u8 0,.int .u8 0],.array 65 5⟩ t else bif Nat.blt t 311 then leafT 310 ⟨32,32,.agg #[.int .u8 0,.int .u8 0,.int .u8 0,.int .u8 0,.int .u8 0,.int .u8 0,.int .u8 0,.int .u8 0,.int .u8 0,.int .u8 0,.int .u8 0,.int .u8 0,.int .u8 0,.int .u8 0,.int .u8 0,.int .u8 0,.int .u8 0,.int .u8 0,.int .u8 0,.int .u8 0,.int .u8 0,.int .u8 0,.int .u8 0,.int .u8 0,.int .u8 0,.int .u8 0,.int .u8 0,.int .u8 0,.int .u8 0,.int .u8 0,.int .u8 0,.int .u8 0],.array 32 5⟩ t else bif Nat.blt t 312 then leafT 311 ⟨64,64,.agg #[.int .u8 0,.int .u8 0,.int .u8 0,.int .u8 0,.int .u8 0,.int .u8 0,.int .u8 0,.int .u8 0,.int .u8 0,.int .u8 0,.int .u8 0,.int .u8 0,.int .u8 0,.int .u8 0,.int .u8 0,.int .u8 0,.int .u8 0,.int .u8 0,.int .u8 0,.int .u8 0,.int .u8 0,.int .u8 0,.int .u8 0,.int .u8 0,.int .u8 0,.int .u8 0,.int .u8 0,.int .u8 0,.int .u8 0,.int .u8 0,.int .u8 0,.int .u8 0,.int .u8 0,.int .u8 0,.int .u8 0,.int .u8 0,.int .u8 0,.int .u8 0,.int .u8 0,.int .u8 0,.int .u8 0,.int .u8 0,.int .u8 0,.int .u8 0,.int .u8 0,.int .u8 0,.int .u8 0,.int .u8 0,.int .u8 0,.int .u8 0,.int .u8 0,.int .u8 0,.int .u8 0,.int .u8 0,.int .u8 0,.int .u8 0,.int .u8 0,.int .u8 0,.int .u8 0,.int .u8 0,.int .u8 0,.int .u8 0,.int .u8 0,.int .u8 0],.array 64 5⟩ t else leafT 312 ⟨4,40,.agg #[.pointer none,.pointer none,.pointer none,.string ByteArray.empty],.strct [(0,17),(1,17),(2,17),(3,9)]⟩ t else bif Nat.blt t 315 then bif Nat.blt t 314 then leafT 313 ⟨4,40,.agg #[.pointer none,.pointer none,.pointer none,.string ByteArray.empty],.strct [(0,17),(1,17),(2,17),(3,9)]⟩ t else leafT 314 ⟨0,0,.agg #[],.array 0 16⟩ t else bif Nat.blt t 316 then leafT 315 ⟨0,0,.agg #[],.strct [(0,314)]⟩ t else bif Nat.blt t 317 then leafT 316 ⟨0,0,.agg #[],.strct [(0,314)]⟩ t else leafT 317 ⟨1,8,.nilFunc,.fn⟩ t else bif Nat.blt t 328 then bif Nat.blt t 323 then bif Nat.blt t 320 then bif Nat.blt t 319 then leafT 318 ⟨1,1,.int .u8 0,.int .u8⟩ t else leafT 319 ⟨1,8,.nilFunc,.fn⟩ t else bif Nat.blt t 321 then leafT 320 ⟨1,4,.int .i32 0,.int .i32⟩ t else bif Nat.blt t 322 then leafT 321 ⟨1,4,.int .i32 0,.int .i32⟩ t else leafT 322 ⟨11,48,.agg #[.int .u64 0,.int .u64 0,.int .u32 0,.int .u8 0,.int .u8 0,.int .u8 0,.int .u8 0,.nilFunc,.pointer none,.int .i32 0,.int .i32 0],.strct [(0,12),(1,12),(2,213),(3,318),(4,5),(5,5),(6,153),(7,319),(8,283),(9,320),(10,321)]⟩ t else bif Nat.blt t 325 then bif Nat.blt t 324 then leafT 323 ⟨11,48,.agg #[.int .u64 0,.int .u64 0,.int .u32 0,.int .u8 0,.int .u8 0,.int .u8 0,.int .u8 0,.nilFunc,.pointer none,.int .i32 0,.int .i32 0],.strct [(0,12),(1,12),(2,213),(3,318),(4,5),(5,5),(6,153),(7,319),(8,283),(9,320),(10,321)]⟩ t else leafT 324 ⟨1,8,.nilFunc,.fn⟩ t else bif Nat.blt t 326 then leafT 325 ⟨1,8,.nilFunc,.fn⟩ t else bif Nat.blt t 327 then leafT 326 ⟨2,24,.agg #[.string ByteArray.empty,.int .u8 0],.strct [(0,9),(1,153)]⟩ t else leafT 327 ⟨2,24,.agg #[.string ByteArray.empty,.int .u8 0],.strct [(0,9),(1,153)]⟩ t else bif Nat.blt t 333 then bif Nat.blt t 330 then bif Nat.blt t 329 then leafT 328 ⟨1,8,.pointer none,.ptr 332⟩ t else leafT 329 ⟨1,8,.nilFunc,.fn⟩ t else bif Nat.blt t 331 then leafT 330 ⟨1,2,.int .u16 0,.int .u16⟩ t else bif Nat.blt t 332 then leafT 331 ⟨5,16,.agg #[.int .i32 0,.int .u16 0,.int .u16 0,.int .u32 0,.int .u32 0],.strct [(0,320),(1,330),(2,330),(3,213),(4,213)]⟩ t else leafT 332 ⟨5,16,.agg #[.int .i32 0,.int .u16 0,.int .u16 0,.int .u32 0,.int .u32 0],.strct [(0,320),(1,330),(2,330),(3,213),(4,213)]⟩ t else bif Nat.blt t 335 then bif Nat.blt t 334 then leafT 333 ⟨1,24,.slice none 0 0,.slice 336⟩ t else leafT 334 ⟨1,4,.int .i32 0,.int .i32⟩ t else bif Nat.blt t 336 then leafT 335 ⟨4,16,.agg #[.int .i32 0,.int .i32 0,.int .i32 0,.int .i32 0],.strct [(0,320),(1,321),(2,334),(3,334)]⟩ t else bif Nat.blt t 337 then leafT 336 ⟨4,16,.agg #[.int .i32 0,.int .i32 0,.int .i32 0,.int .i32 0],.strct [(0,320),(1,321),(2,334),(3,334)]⟩ t else leafT 337 ⟨1,8,.pointer none,.ptr 57⟩ t
theorem Tt_ok(t:TypeId):TIok Tryz.prog t (Tt t)∨Tt t=TI.none:=by
 show OkT Tryz.prog t (Tt t)
 unfold Tt
 repeat' (first | exact leafT_ok ⟨by kernel_rfl,by kernel_rfl,rfl,rfl⟩ t | apply nodeT_ok)
theorem eqOk49:EqOkB Tryz.prog 49=true:=by kernel_rfl
theorem eqOk55:EqOkB Tryz.prog 55=true:=by kernel_rfl
theorem eqOk67:EqOkB Tryz.prog 67=true:=by kernel_rfl
theorem eqOk96:EqOkB Tryz.prog 96=true:=by kernel_rfl
theorem eqOk101:EqOkB Tryz.prog 101=true:=by kernel_rfl
theorem eqOk166:EqOkB Tryz.prog 166=true:=by kernel_rfl
theorem eqOk201:EqOkB Tryz.prog 201=true:=by kernel_rfl
theorem eqOk222:EqOkB Tryz.prog 222=true:=by kernel_rfl
def Et(t:TypeId):Bool:=[49,55,67,96,101,166,201,222].any (Nat.beq t)
theorem Et_ok(t:TypeId)(h:Et t=true):EqOkB Tryz.prog t=true:=by
 obtain⟨x,hx,he⟩:=List.any_eq_true.1 h;have:=Nat.eq_of_beq_eq_true he;subst this;simp only[List.mem_cons,List.not_mem_nil,or_false] at hx
 rcases hx with rfl | rfl | rfl | rfl | rfl | rfl | rfl | rfl
 ·exact eqOk49
 ·exact eqOk55
 ·exact eqOk67
 ·exact eqOk96
 ·exact eqOk101
 ·exact eqOk166
 ·exact eqOk201
 ·exact eqOk222
end Go.Proofs.YtjpboanohpaibaaGreatDoor.Aw
