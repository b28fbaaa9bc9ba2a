/- The words of an abstract walk over the model: values that bear their contents (AV), a ghost store of what may still be w -/
import Derived.WalkKit
import Derived.Maps.AppendAt
import Derived.Below
import Derived.OneCell
import Derived.KernelRfl
import Derived.RangeFuncSeq
import Derived.RangeFuncLeaves
import Derived.RangeFuncRecord
import Derived.RangeFuncCalls
import Derived.Sort.LoopGhostIn
import Derived.OrdersIn
import Derived.Laws.CopyRow
set_option linter.all false
namespace Go.Proofs.YtogipknpafkfpaaGreatDoor.Aw
open Go Go.RowKit
inductive Sh where
 | any | nn | full
 | own (b:Nat)
 | acc (b:Nat)
def Sh.mayNil:Sh→Bool
 | .any | .acc _=>true
 | _=>false
def NilV(sh:Sh)(v:Value):Prop:=v=.slice none 0 0∨(sh=.any∧∃ a:Addr,v=.slice (some a) 0 0)
theorem NilV.cases{sh:Sh}{v:Value}(h:NilV sh v):v=.slice none 0 0∨∃ a:Addr,v=.slice (some a) 0 0:=h.imp id fun h=>h.2
theorem NilV.slice{sh:Sh}{v:Value}(h:NilV sh v):∃ p:Option Addr,v=.slice p 0 0:=by
 rcases h with h | ⟨_,a,h⟩
 ·exact⟨_,h⟩
 ·exact⟨_,h⟩
theorem NilV.any{sh:Sh}{v:Value}(h:NilV sh v):NilV .any v:=h.imp id fun h=>⟨rfl,h.2⟩
theorem NilV.acc{b:Nat}{v:Value}(h:NilV (.acc b) v):v=.slice none 0 0:=h.resolve_right fun h=>by cases h.1
def Sh.less:Sh→Sh
 | .any | .acc _=>.any
 | _=>.nn
inductive AV where
 | int (k:IntKind) (n:Int)
 | bool (b:Bool)
 | str (s:ByteArray)
 | nilp
 | ref (b off:Nat)
 | imm (xs:List AV)
 | nils
 | sl (sh:Sh) (k:Nat) (es:List (List AV))
 | arr (b off n cap:Nat)
 | ag (xs:List AV)
 | tu (xs:List AV)
 | nilf
 | fn (f:Fn) (first cap:List AV)
 | nili
 | ifc (t:TypeId) (x:AV)
 | nilm
 | mp (r:Nat)
 | raw (v:Value)
 | top
instance:Inhabited AV:=⟨.top⟩
inductive LpSt where
 | ready
 | busy
 | done (c:Code)
inductive Own where
 | obj (e:TypeId) (cells:List AV)
 | tip (e:TypeId) (k n:Nat)
 | mapo (es:List (AV×AV))
 | siter (s:ByteArray) (pos:Nat)
 | miter (cur:Option (AV×AV)) (left:List (AV×AV))
 | lp (R:LpSt→Loop) (st:LpSt)
def St:=Nat→Option Own
def St.emp:St:=fun _=>none
def St.upd(S:St)(b:Nat)(o:Own):St:=fun x=>if x=b then some o else S x
def St.del(S:St)(b:Nat):St:=fun x=>if x=b then none else S x
theorem St.upd_same(S:St)(b:Nat)(o:Own):(S.upd b o) b=some o:=if_pos rfl
theorem St.upd_ne(S:St)(b:Nat)(o:Own)(x:Nat)(h:x≠b):(S.upd b o) x=S x:=if_neg h
theorem St.del_same(S:St)(b:Nat):(S.del b) b=none:=if_pos rfl
theorem St.del_ne(S:St)(b x:Nat)(h:x≠b):(S.del b) x=S x:=if_neg h
theorem St.upd_upd(S:St)(b:Nat)(o o':Own):(S.upd b o).upd b o'=S.upd b o':=by
 funext x;simp only[St.upd];split<;>rfl
def St.le(S S':St):Prop:=∀ b o,S b=some o→S' b=some o
theorem St.le_refl(S:St):St.le S S:=fun _ _ h=>h
theorem St.le_trans{S S' S'':St}(h:St.le S S')(h':St.le S' S''):St.le S S'':=fun b o e=>h' b o (h b o e)
theorem St.le_upd{S S':St}(h:St.le S S'){b:Nat}(hb:S b=none)(o:Own):St.le S (S'.upd b o):=fun x p e=>by
 have:x≠b:=fun hx=>by rw[hx,hb] at e;cases e
 rw[St.upd_ne _ _ _ _ this];exact h x p e
theorem St.ne_of'{S:St}{b x:Nat}{o:Own}(hx:S x=none)(hb:S b=some o):x≠b:=fun e=>by rw[e,hb] at hx;cases hx
theorem St.ne_of{S:St}{b x:Nat}{o:Own}(hb:S b=none)(hx:S x=some o):x≠b:=fun e=>by rw[e,hb] at hx;cases hx
def rdOf(S:St)(b off:Nat):Prop:=
 match S b with
 | none=>True
 | some (.tip _ k n)=>off<n*k
 | some _=>False
section
variable (w:World) (rd:Nat→Nat→Prop)
def stab(b off:Nat)(v:Value):Prop:=rd b off∧w.cell? ⟨b,off,none⟩=some v∧v.oneCell'=true
def ShOk(sh:Sh)(k b off n cap:Nat):Prop:=
 match sh with
 | .any=>True
 | .nn=>True
 | .full=>cap=n
 | .own b'=>b'=b∧off=0∧∃ e,w.shape? b=some (e,cap*k)
 | .acc b'=>0<n∧b'=b∧off=0∧∃ e,w.shape? b=some (e,cap*k)
mutual
def Rel:AV→Value→Prop
 | .int k n,v=>v=.int k n
 | .bool b,v=>v=.bool b
 | .str s,v=>v=.string s
 | .nilp,v=>v=.pointer none
 | .ref b off,v=>v=.pointer (some ⟨b,off,none⟩)
 | .imm xs,v=>∃ b off,v=.pointer (some ⟨b,off,none⟩)∧RelAt b off xs
 | .nils,v=>v=.slice none 0 0
 | .sl sh k es,v=>(sh.mayNil=true∧es=[]∧NilV sh v)∨∃ b off cap,v=.slice (some ⟨b,off,none⟩) es.length cap∧es.length≤cap∧cap≤maxLen∧ShOk w sh k b off es.length cap∧RelRows k b off es
 | .arr b off n cap,v=>v=.slice (some ⟨b,off,none⟩) n cap
 | .ag xs,v=>∃ cs:Array Value,v=.agg cs∧RelL xs cs.toList∧∀ u∈cs.toList,u.oneCell'=true
 | .tu xs,v=>∃ cs:Array Value,v=.tuple cs∧RelL xs cs.toList
 | .nilf,v=>v=.nilFunc
 | .fn f xs ys,v=>∃ a b:Array Value,v=.func f a b∧RelL xs a.toList∧RelL ys b.toList
 | .nili,v=>v=.nilIface
 | .ifc t x,v=>∃ y,v=.iface t y∧Rel x y
 | .nilm,v=>v=.map none
 | .mp r,v=>v=.map (some r)
 | .raw u,v=>v=u
 | .top,_=>True
def RelL:List AV→List Value→Prop
 | [],vs=>vs=[]
 | x::xs,vs=>∃ u us,vs=u::us∧Rel x u∧RelL xs us
def RelAt(b off:Nat):List AV→Prop
 | []=>True
 | x::xs=>(∃ v,stab w rd b off v∧Rel x v)∧RelAt b (off+1) xs
def RelRows(k b off:Nat):List (List AV)→Prop
 | []=>True
 | e::es=>(e.length=k∧RelAt b off e)∧RelRows k b (off+k) es
end
end
def BornOk(ms:Array MapEntry)(clock:Nat):Prop:=(∀ e∈ms.toList,e.born<clock)∧(ms.toList.map (·.born)).Nodup
def MiterOk(w:World)(rd:Nat→Nat→Prop)(m:Option Nat)(since:Nat)(seen:Array Nat)(last:Nat)(cur:Option (AV×AV))(left:List (AV×AV)):Prop:=
 match m with
 | none=>left=[]∧cur=none
 | some r=>(∀ off,rd r off)∧∃ ms:Array MapEntry,w.heap[r]? = some (.map ms since)∧last=since∧BornOk ms since∧
    RelL w rd (left.map (·.1)) ((ms.toList.filter fun e=>!seen.contains e.born).map (·.key))∧RelL w rd (left.map (·.2)) ((ms.toList.filter fun e=>!seen.contains e.born).map (·.val))∧
    ∀ kv,cur=some kv→∃ e∈ms.toList,seen.back? = some e.born∧Rel w rd kv.1 e.key∧Rel w rd kv.2 e.val
def OwnOk(w:World)(rd:Nat→Nat→Prop)(b:Nat):Own→Prop
 | .obj e cells=>∃ cs:Array Value,w.heap[b]? = some (.cells cs e (0,0))∧RelL w rd cells cs.toList∧∀ v∈cs.toList,v.oneCell'=true
 | .tip e k n=>∃ (cur:Array Value) (cap:Nat),w.heap[b]? = some (.cells cur e (0,0))∧n≤cap∧cap≤maxLen∧cur.size=cap*k∧∀ v∈cur.toList,v.oneCell'=true
 | .mapo es=>∃ (ms:Array MapEntry) (clock:Nat),w.heap[b]? = some (.map ms clock)∧RelL w rd (es.map (·.1)) (ms.toList.map (·.key))∧RelL w rd (es.map (·.2)) (ms.toList.map (·.val))∧BornOk ms clock
 | .siter s pos=>w.heap[b]? = some (.stringIter s pos)
 | .miter cur left=>∃ m since seen last,w.heap[b]? = some (.mapIter m since seen last)∧MiterOk w rd m since seen last cur left
 | .lp R st=>w.heap[b]? = some (.loop (R st))
def Inv(w:World)(S:St):Prop:=∀ b o,S b=some o→OwnOk w (rdOf S) b o
structure Adv (w:World) (S:St) (w':World) (S':St):Prop where
 os:w'.os=w.os
 tape:w'.tape=w.tape
 output:w'.output=w.output
 size:w.heap.size≤w'.heap.size
 old:∀ b,b<w.heap.size→S b=none→S' b=none∧w'.heap[b]? = w.heap[b]?
 stay:∀ b off,b<w.heap.size→rdOf S b off→rdOf S' b off∧w'.cell? ⟨b,off,none⟩=w.cell? ⟨b,off,none⟩
 shape:∀ b e n,w.shape? b=some (e,n)→w'.shape? b=some (e,n)
theorem Adv.refl(w:World)(S:St):Adv w S w S:=⟨rfl,rfl,rfl,Nat.le_refl _,fun _ _ h=>⟨h,rfl⟩,fun _ _ _ h=>⟨h,rfl⟩,fun _ _ _ h=>h⟩
theorem Adv.trans{a b c:World}{S T U:St}(h:Adv a S b T)(k:Adv b T c U):Adv a S c U:=
 ⟨k.os.trans h.os,k.tape.trans h.tape,k.output.trans h.output,Nat.le_trans h.size k.size,
  fun x hx hn=>by
   obtain⟨h1,h2⟩:=h.old x hx hn;obtain⟨k1,k2⟩:=k.old x (Nat.lt_of_lt_of_le hx h.size) h1;exact⟨k1,k2.trans h2⟩,
  fun x off hx hr=>by
   obtain⟨h1,h2⟩:=h.stay x off hx hr;obtain⟨k1,k2⟩:=k.stay x off (Nat.lt_of_lt_of_le hx h.size) h1;exact⟨k1,k2.trans h2⟩,
  fun x e n hx=>k.shape x e n (h.shape x e n hx)⟩
theorem Adv.drew{a b:World}{S T:St}(h:Adv a S b T):Adv a S b.drew T:=⟨h.os,h.tape,h.output,h.size,h.old,h.stay,h.shape⟩
theorem Adv.below{w w':World}{S':St}(h:Adv w St.emp w' S'):Below w.heap.size w w':=
 ⟨h.os,h.tape,h.output,h.size,fun k hk=>(h.old k hk rfl).2⟩
section mono
variable {w w':World} {S S':St}
theorem stab_mono(h:Adv w S w' S'){b off:Nat}{v:Value}(hs:stab w (rdOf S) b off v):stab w' (rdOf S') b off v:=by
 obtain⟨h1,h2,h3⟩:=hs;have hb:b<w.heap.size:=World.block_lt_of_cell? w ⟨b,off,none⟩ h2;obtain⟨k1,k2⟩:=h.stay b off hb h1;exact⟨k1,k2.trans h2,h3⟩
theorem ShOk_mono(h:Adv w S w' S'){sh:Sh}{k b off n cap:Nat}(hs:ShOk w sh k b off n cap):ShOk w' sh k b off n cap:=by
 cases sh with
 | own b'=>obtain⟨h1,h2,e,h3⟩:=hs;exact⟨h1,h2,e,h.shape _ _ _ h3⟩
 | acc b'=>obtain⟨h0,h1,h2,e,h3⟩:=hs;exact⟨h0,h1,h2,e,h.shape _ _ _ h3⟩
 | _=>exact hs
mutual
theorem Rel.mono(h:Adv w S w' S'):∀ (x:AV) (v:Value),Rel w (rdOf S) x v→Rel w' (rdOf S') x v
 | .int ..,v,hr=>by simpa only[Rel] using hr
 | .bool ..,v,hr=>by simpa only[Rel] using hr
 | .str ..,v,hr=>by simpa only[Rel] using hr
 | .nilp,v,hr=>by simpa only[Rel] using hr
 | .ref ..,v,hr=>by simpa only[Rel] using hr
 | .imm xs,v,hr=>by
  simp only[Rel] at hr ⊢;obtain⟨b,off,h1,h2⟩:=hr;exact⟨b,off,h1,RelAt.mono h b off xs h2⟩
 | .nils,v,hr=>by simpa only[Rel] using hr
 | .sl sh k es,v,hr=>by
  simp only[Rel] at hr ⊢
  rcases hr with hr | ⟨b,off,cap,h1,h2,h3,h4,h5⟩
  ·exact .inl hr
  ·exact .inr ⟨b,off,cap,h1,h2,h3,ShOk_mono h h4,RelRows.mono h k b off es h5⟩
 | .arr ..,v,hr=>by simpa only[Rel] using hr
 | .ag xs,v,hr=>by
  simp only[Rel] at hr ⊢;obtain⟨cs,h1,h2,h3⟩:=hr;exact⟨cs,h1,RelL.mono h xs _ h2,h3⟩
 | .tu xs,v,hr=>by
  simp only[Rel] at hr ⊢;obtain⟨cs,h1,h2⟩:=hr;exact⟨cs,h1,RelL.mono h xs _ h2⟩
 | .nilf,v,hr=>by simpa only[Rel] using hr
 | .fn f xs ys,v,hr=>by
  simp only[Rel] at hr ⊢;obtain⟨a,b,h1,h2,h3⟩:=hr;exact⟨a,b,h1,RelL.mono h xs _ h2,RelL.mono h ys _ h3⟩
 | .nili,v,hr=>by simpa only[Rel] using hr
 | .ifc t x,v,hr=>by
  simp only[Rel] at hr ⊢;obtain⟨y,h1,h2⟩:=hr;exact⟨y,h1,Rel.mono h x y h2⟩
 | .nilm,v,hr=>by simpa only[Rel] using hr
 | .mp ..,v,hr=>by simpa only[Rel] using hr
 | .raw ..,v,hr=>by simpa only[Rel] using hr
 | .top,v,hr=>by simp only[Rel]
theorem RelL.mono(h:Adv w S w' S'):∀ (xs:List AV) (vs:List Value),RelL w (rdOf S) xs vs→RelL w' (rdOf S') xs vs
 | [],vs,hr=>by simpa only[RelL] using hr
 | x::xs,vs,hr=>by
   simp only[RelL] at hr ⊢;obtain⟨u,us,h1,h2,h3⟩:=hr;exact⟨u,us,h1,Rel.mono h x u h2,RelL.mono h xs us h3⟩
theorem RelAt.mono(h:Adv w S w' S')(b off:Nat):∀ (xs:List AV),RelAt w (rdOf S) b off xs→RelAt w' (rdOf S') b off xs
 | [],hr=>by simp only[RelAt]
 | x::xs,hr=>by
   simp only[RelAt] at hr ⊢;obtain⟨⟨v,h1,h2⟩,h3⟩:=hr;exact⟨⟨v,stab_mono h h1,Rel.mono h x v h2⟩,RelAt.mono h b (off+1) xs h3⟩
theorem RelRows.mono(h:Adv w S w' S')(k b off:Nat):∀ (es:List (List AV)),RelRows w (rdOf S) k b off es→RelRows w' (rdOf S') k b off es
 | [],hr=>by simp only[RelRows]
 | e::es,hr=>by
   simp only[RelRows] at hr ⊢;obtain⟨⟨h1,h2⟩,h3⟩:=hr;exact⟨⟨h1,RelAt.mono h b off e h2⟩,RelRows.mono h k b (off+k) es h3⟩
end
end mono
theorem RelL.length{w:World}{rd}:∀ {xs:List AV} {vs:List Value},RelL w rd xs vs→xs.length=vs.length
 | [],vs,h=>by simp only[RelL] at h;subst h;rfl
 | x::xs,vs,h=>by
   simp only[RelL] at h;obtain⟨u,us,rfl,_,h3⟩:=h
   simp[RelL.length h3]
theorem RelL.get{w:World}{rd}:∀ {xs:List AV} {vs:List Value},RelL w rd xs vs→∀ (i:Nat) (x:AV),xs[i]? = some x→∃ v,vs[i]? = some v∧Rel w rd x v
 | [],vs,h,i,x,hi=>by simp at hi
 | y::ys,vs,h,i,x,hi=>by
   simp only[RelL] at h;obtain⟨u,us,rfl,h2,h3⟩:=h
   cases i with
   | zero=>simp at hi;subst hi;exact⟨u,rfl,h2⟩
   | succ i=>simp at hi;simpa using RelL.get h3 i x hi
theorem RelL.drop{w:World}{rd}:∀ {xs:List AV} {vs:List Value},RelL w rd xs vs→∀ n,RelL w rd (xs.drop n) (vs.drop n)
 | xs,vs,h,0=>by simpa using h
 | [],vs,h,n+1=>by simp only[RelL] at h;subst h;simp[RelL]
 | x::xs,vs,h,n+1=>by
   simp only[RelL] at h;obtain⟨u,us,rfl,_,h3⟩:=h
   simpa using RelL.drop h3 n
theorem RelL.take{w:World}{rd}:∀ {xs:List AV} {vs:List Value},RelL w rd xs vs→∀ n,RelL w rd (xs.take n) (vs.take n)
 | xs,vs,h,0=>by simp[RelL]
 | [],vs,h,n+1=>by simp only[RelL] at h;subst h;simp[RelL]
 | x::xs,vs,h,n+1=>by
   simp only[RelL] at h;obtain⟨u,us,rfl,h2,h3⟩:=h;simp only[List.take_succ_cons,RelL];exact⟨u,us.take n,rfl,h2,RelL.take h3 n⟩
theorem RelL.append{w:World}{rd}:∀ {xs ys:List AV} {vs us:List Value},RelL w rd xs vs→RelL w rd ys us→RelL w rd (xs++ys) (vs++us)
 | [],ys,vs,us,h,k=>by simp only[RelL] at h;subst h;simpa using k
 | x::xs,ys,vs,us,h,k=>by
   simp only[RelL] at h;obtain⟨u,ws,rfl,h2,h3⟩:=h;simp only[List.cons_append,RelL];exact⟨u,ws++us,rfl,h2,RelL.append h3 k⟩
theorem RelL.set{w:World}{rd}:∀ {xs:List AV} {vs:List Value},RelL w rd xs vs→∀ (i:Nat) (y:AV) (u:Value),Rel w rd y u→RelL w rd (xs.set i y) (vs.set i u)
 | [],vs,h,i,y,u,hy=>by simp only[RelL] at h;subst h;simp[RelL]
 | x::xs,vs,h,0,y,u,hy=>by
   simp only[RelL] at h;obtain⟨u',us,rfl,h2,h3⟩:=h;simp only[List.set_cons_zero,RelL];exact⟨u,us,rfl,hy,h3⟩
 | x::xs,vs,h,i+1,y,u,hy=>by
   simp only[RelL] at h;obtain⟨u',us,rfl,h2,h3⟩:=h;simp only[List.set_cons_succ,RelL];exact⟨u',us.set i u,rfl,h2,RelL.set h3 i y u hy⟩
theorem RelAt.drop{w:World}{rd}{b:Nat}:∀ {xs:List AV} {off:Nat},RelAt w rd b off xs→∀ n,RelAt w rd b (off+n) (xs.drop n)
 | xs,off,h,0=>by simpa using h
 | [],off,h,n+1=>by simp[RelAt]
 | x::xs,off,h,n+1=>by
   simp only[RelAt] at h;have:=RelAt.drop h.2 n;rw[show off+(n+1)=off+1+n from by omega]
   simpa using this
theorem RelAt.get{w:World}{rd}{b:Nat}:∀ {xs:List AV} {off:Nat},RelAt w rd b off xs→∀ (i:Nat) (x:AV),xs[i]? = some x→∃ v,stab w rd b (off+i) v∧Rel w rd x v
 | [],off,h,i,x,hi=>by simp at hi
 | y::ys,off,h,i,x,hi=>by
   simp only[RelAt] at h
   cases i with
   | zero=>simp at hi;subst hi;simpa using h.1
   | succ i=>
     simp at hi
     have:=RelAt.get h.2 i x hi
     rwa [show off+1+i=off+(i+1) from by omega] at this
theorem RelRows.get{w:World}{rd}{k b:Nat}:∀ {es:List (List AV)} {off:Nat},RelRows w rd k b off es→∀ (i:Nat) (e:List AV),es[i]? = some e→e.length=k∧RelAt w rd b (off+i*k) e
 | [],off,h,i,e,hi=>by simp at hi
 | y::ys,off,h,i,e,hi=>by
   simp only[RelRows] at h
   cases i with
   | zero=>simp at hi;subst hi;simpa using h.1
   | succ i=>
     simp at hi
     have:=RelRows.get h.2 i e hi
     rwa [show off+k+i*k=off+(i+1)*k from by rw[Nat.succ_mul];omega] at this
theorem RelRows.drop{w:World}{rd}{k b:Nat}:∀ {es:List (List AV)} {off:Nat},RelRows w rd k b off es→∀ n,RelRows w rd k b (off+n*k) (es.drop n)
 | es,off,h,0=>by simpa using h
 | [],off,h,n+1=>by simp[RelRows]
 | e::es,off,h,n+1=>by
   simp only[RelRows] at h;have:=RelRows.drop h.2 n;rw[show off+(n+1)*k=off+k+n*k from by rw[Nat.succ_mul];omega]
   simpa using this
theorem RelRows.take{w:World}{rd}{k b:Nat}:∀ {es:List (List AV)} {off:Nat},RelRows w rd k b off es→∀ n,RelRows w rd k b off (es.take n)
 | es,off,h,0=>by simp[RelRows]
 | [],off,h,n+1=>by simp[RelRows]
 | e::es,off,h,n+1=>by
   simp only[RelRows] at h;simp only[List.take_succ_cons,RelRows];exact⟨h.1,RelRows.take h.2 n⟩
theorem RelRows.lens{w:World}{rd}{k b:Nat}:∀ {es:List (List AV)} {off:Nat},RelRows w rd k b off es→∀ e∈es,e.length=k
 | [],off,h,e,he=>by simp at he
 | y::ys,off,h,e,he=>by
   simp only[RelRows] at h
   rcases List.mem_cons.1 he with rfl | he
   ·exact h.1.1
   ·exact RelRows.lens h.2 e he
theorem rdOf_all{S:St}{r:Nat}(h:∀ off,rdOf S r off):S r=none:=by
 cases e:S r with
 | none=>rfl
 | some o=>
   cases o with
   | tip e' k n=>
     have:=h (n*k)
     simp only[rdOf,e] at this;omega
   | _=>have:=h 0;simp only[rdOf,e] at this
theorem MiterOk.mono{w w':World}{S S':St}(h:Adv w S w' S'){m:Option Nat}{since:Nat}{seen:Array Nat}{last:Nat}{cur:Option (AV×AV)}{left:List (AV×AV)}(ho:MiterOk w (rdOf S) m since seen last cur left):MiterOk w' (rdOf S') m since seen last cur left:=by
 cases m with
 | none=>exact ho
 | some r=>
   obtain⟨h1,ms,h2,h3,h4,h5,h6,h7⟩:=ho;have hn:=rdOf_all h1;obtain⟨k1,k2⟩:=h.old r (lt_of_block h2) hn;exact⟨fun off=>by simp only[rdOf,k1],ms,k2.trans h2,h3,h4,RelL.mono h _ _ h5,RelL.mono h _ _ h6,fun kv hkv=>by
    obtain⟨e,e1,e2,e3,e4⟩:=h7 kv hkv;exact⟨e,e1,e2,Rel.mono h _ _ e3,Rel.mono h _ _ e4⟩⟩
theorem OwnOk.mono{w w':World}{S S':St}(h:Adv w S w' S'){b:Nat}{o:Own}(hb:w'.heap[b]? = w.heap[b]?)(ho:OwnOk w (rdOf S) b o):OwnOk w' (rdOf S') b o:=by
 cases o with
 | obj e cells=>obtain⟨cs,h1,h2,h3⟩:=ho;exact⟨cs,hb.trans h1,RelL.mono h _ _ h2,h3⟩
 | tip e k n=>obtain⟨cur,cap,h1,h2⟩:=ho;exact⟨cur,cap,hb.trans h1,h2⟩
 | mapo es=>obtain⟨ms,c,h1,h2,h3,h4⟩:=ho;exact⟨ms,c,hb.trans h1,RelL.mono h _ _ h2,RelL.mono h _ _ h3,h4⟩
 | siter s pos=>exact hb.trans ho
 | lp R st=>exact hb.trans ho
 | miter cur left=>obtain⟨m,since,seen,last,h1,h2⟩:=ho;exact⟨m,since,seen,last,hb.trans h1,MiterOk.mono h h2⟩
theorem OwnOk.lt{w:World}{rd}{b:Nat}{o:Own}(ho:OwnOk w rd b o):b<w.heap.size:=by
 have:∃ x,w.heap[b]? = some x:=by
  cases o with
  | obj e cells=>obtain⟨cs,h1,_⟩:=ho;exact⟨_,h1⟩
  | tip e k n=>obtain⟨cur,cap,h1,_⟩:=ho;exact⟨_,h1⟩
  | mapo es=>obtain⟨ms,c,h1,_⟩:=ho;exact⟨_,h1⟩
  | siter s pos=>exact⟨_,ho⟩
  | lp R st=>exact⟨_,ho⟩
  | miter cur left=>obtain⟨m,since,seen,last,h1,_⟩:=ho;exact⟨_,h1⟩
 obtain⟨x,hx⟩:=this;exact lt_of_block hx
theorem Inv.emp(w:World):Inv w St.emp:=fun b o h=>by cases h
theorem Inv.lt{w:World}{S:St}(hi:Inv w S){b:Nat}{o:Own}(h:S b=some o):b<w.heap.size:=(hi b o h).lt
theorem Inv.fresh{w:World}{S:St}(hi:Inv w S):S w.heap.size=none:=by
 cases h:S w.heap.size with
 | none=>rfl
 | some o=>exact absurd (hi.lt h) (Nat.lt_irrefl _)
theorem Inv.drew{w:World}{S:St}(hi:Inv w S):Inv w.drew S:=fun b o h=>
 OwnOk.mono (w:=w) (S:=S) (Adv.refl w S).drew rfl (hi b o h)
theorem Adv.del{w:World}{S:St}(b:Nat):Adv w S w (S.del b):=by
 refine⟨rfl,rfl,rfl,Nat.le_refl _,fun x hx hn=>⟨?_,rfl⟩,fun x off hx hr=>⟨?_,rfl⟩,fun _ _ _ h=>h⟩
 ·by_cases e:x=b
  ·subst e;exact St.del_same _ _
  ·rw[St.del_ne _ _ _ e];exact hn
 ·by_cases e:x=b
  ·subst e;simp only[rdOf,St.del_same]
  ·simp only[rdOf,St.del_ne _ _ _ e];exact hr
theorem Inv.del{w:World}{S:St}(hi:Inv w S)(b:Nat):Inv w (S.del b):=by
 intro x o h
 by_cases e:x=b
 ·subst e;rw[St.del_same] at h;cases h
 ·rw[St.del_ne _ _ _ e] at h;exact OwnOk.mono (Adv.del b) rfl (hi x o h)
theorem Adv.shrink{w:World}{S S':St}(h:St.le S S'):Adv w S' w S:=by
 refine⟨rfl,rfl,rfl,Nat.le_refl _,fun x hx hn=>⟨?_,rfl⟩,fun x off hx hr=>⟨?_,rfl⟩,fun _ _ _ h=>h⟩
 ·cases e:S x with
  | none=>rfl
  | some o=>rw[h x o e] at hn;cases hn
 ·cases e:S x with
  | none=>simp only[rdOf,e]
  | some o=>simp only[rdOf,e];simp only[rdOf,h x o e] at hr;exact hr
theorem Inv.shrink{w:World}{S S':St}(hi:Inv w S')(h:St.le S S'):Inv w S:=fun x o e=>
 OwnOk.mono (Adv.shrink h) rfl (hi x o (h x o e))
inductive TK where
 | int (k:IntKind) | bool | str | slice (e:TypeId) | ptr (e:TypeId) | strct (fs:List (Nat×TypeId)) | array (n:Nat) (e:TypeId) | iface (plain:Bool) | fn | map (k e:TypeId) | other
structure TI where
 size:Nat
 bytes:Nat
 zero:Value
 kind:TK
def TI.none:TI:=⟨0,0,.nilIface,.other⟩
def kindOf:TypeDesc→TK
 | .int k=>.int k
 | .bool=>.bool
 | .string=>.str
 | .slice e=>.slice e
 | .pointer e=>.ptr e
 | .struct fa=>.strct (fa.toList.map fun f=>(f.offset,f.type))
 | .array n e=>.array n e
 | .interface ms=>.iface ms.isEmpty
 | .func ..=>.fn
 | .map k e=>.map k e
 | _=>.other
def TI.agg(ti:TI):Bool:=match ti.kind with | .strct _ | .array ..=>true | _=>false
def TIok(P:Program)(t:TypeId)(ti:TI):Prop:=
 (P.info? t).map (fun i=>(i.size,i.bytes,i.zero))=some (ti.size,ti.bytes,some ti.zero)∧(P.underlying t).map kindOf=some ti.kind∧
 ti.zero.cells.size=ti.size∧ti.zero.cells.toList.all Value.oneCell'=true
structure YSpec where
 l:Nat
 spec:List AV→St→(Bool→St→Prop)→Prop
structure Cx where
 T:TypeId→TI
 G:Nat→Option (List AV)
 E:TypeId→Bool
 Y:Option YSpec:=none
 inR:Bool:=false
 A:Bool:=false
def Cx.call(C:Cx):Cx:=⟨C.T,C.G,C.E,C.Y,false,false⟩
def Cx.round(C:Cx):Cx:=⟨C.T,C.G,C.E,C.Y,true,C.A⟩
def Cx.arr(C:Cx):Cx:=⟨C.T,C.G,C.E,C.Y,C.inR,true⟩
def Cx.withY(C:Cx)(y:YSpec):Cx:=⟨C.T,C.G,C.E,some y,false,false⟩
def EqOkB(P:Program)(t:TypeId):Bool:=
 !P.stoodInHeld t && !P.eqGuardType P.depth t && (match P.underlying t with
  | some (.struct fa) => fa.toList.all fun f => f.name != "_"
  | _=>false)
def TyOk(P:Program)(C:Cx):Prop:=(∀ t,TIok P t (C.T t)∨C.T t=TI.none)∧∀ t,C.E t=true→EqOkB P t=true
def GlobOk(C:Cx)(w:World)(S:St):Prop:=∀ g xs,C.G g=some xs→S g=none∧g<w.heap.size∧RelAt w (rdOf S) g 0 xs∧∃ e,w.shape? g=some (e,xs.length)
def Good(C:Cx)(w:World)(S:St):Prop:=Inv w S∧GlobOk C w S
def ofV0:Value→AV
 | .int k n=>.int k n
 | .bool b=>.bool b
 | .string s=>.str s
 | .pointer none=>.nilp
 | .slice none 0 0=>.nils
 | .nilIface=>.nili
 | .nilFunc=>.nilf
 | .map none=>.nilm
 | v=>.raw v
def ofV:Value→AV
 | .agg cs=>if cs.toList.all Value.oneCell' then .ag (cs.toList.map ofV0) else .raw (.agg cs)
 | v=>ofV0 v
def scal:AV→Bool
 | .ag _ | .tu _ | .raw _ | .top=>false
 | _=>true
def cellsOf:AV→List AV
 | .ag xs=>xs
 | x=>[x]
def okCells:AV→Bool
 | .ag _=>true
 | x=>scal x
def setRange(cells:List AV)(off:Nat):List AV→List AV
 | []=>cells
 | x::xs=>setRange (cells.set off x) (off+1) xs
def aFill(place:Nat→Option (Nat×Nat))(cells:List AV):List (Nat×AV)→Option (List AV)
 | []=>some cells
 | (i,x)::r=>
  match place i with
  | none=>none
  | some (off,size)=>bif okCells x && (Nat.beq (cellsOf x).length size && Nat.ble (off+size) cells.length) then aFill place (setRange cells off (cellsOf x)) r else none
def byteAt(s:ByteArray)(i:Nat):Int:=((s.data.toList.getD i 0).toNat:Int)
def mulL(k:Nat)(xs:List AV):Nat→List AV
 | 0=>[]
 | n+1=>xs++mulL k xs n
def rowsOf(k:Nat)(cells:List AV):Nat→List (List AV)
 | 0=>[]
 | n+1=>cells.take k::rowsOf k (cells.drop k) n
abbrev Env:=List (Nat×AV)
def look(t:Nat):Env→AV
 | []=>.top
 | (s,x)::r=>bif Nat.beq s t then x else look t r
def put(d:Option Tmp)(x:AV)(env:Env):Env:=
 match d with
 | some d=>(d,x)::env
 | none=>env
def putK(d:Option Tmp)(x:AV)(env:Env)(K:Env→Prop):Prop:=
 match d with
 | some d=>K ((d,x)::env)
 | none=>K env
def ev(C:Cx)(env:Env):Operand→AV
 | .tmp t=>look t env
 | .const v=>ofV v
 | .global g=>match C.G g with | some xs=>.imm xs | none=>.raw (.pointer (some ⟨g,0,none⟩))
 | .func f=>.fn (.func f) [] []
def force(x:AV)(K:AV→Prop):Prop:=
 match x with
 | .int k n=>K (.int k n)
 | .bool b=>K (.bool b)
 | .str s=>K (.str s)
 | .nilp=>K .nilp
 | .ref b o=>K (.ref b o)
 | .imm xs=>K (.imm xs)
 | .nils=>K .nils
 | .sl sh k es=>K (.sl sh k es)
 | .arr b o n c=>K (.arr b o n c)
 | .ag xs=>K (.ag xs)
 | .tu xs=>K (.tu xs)
 | .nilf=>K .nilf
 | .fn f a b=>K (.fn f a b)
 | .nili=>K .nili
 | .ifc t y=>K (.ifc t y)
 | .nilm=>K .nilm
 | .mp r=>K (.mp r)
 | .raw v=>K (.raw v)
 | .top=>K .top
def forceL:List AV→(List AV→Prop)→Prop
 | [],K=>K []
 | x::xs,K=>force x fun y=>forceL xs fun ys=>K (y::ys)
def forceR:List (List AV)→(List (List AV)→Prop)→Prop
 | [],K=>K []
 | r::rs,K=>forceL r fun r'=>forceR rs fun rs'=>K (r'::rs')
def split(b:Bool)(Kt Kf:Prop):Prop:=match b with | true=>Kt | false=>Kf
inductive Out where
 | ret (x:AV)
 | pan (x:AV)
def OutRel(w:World)(S:St):Out→Ending→Prop
 | .ret x,.returned v=>Rel w (rdOf S) x v
 | .pan x,.panicked chain=>∃ v,chain=[{ v,recovered:=false }]∧Rel w (rdOf S) x v
 | _,_=>False
def YOk(P:Program)(C:Cx)(w₀:World)(S₀:St):Prop:=∀ y,C.Y=some y→∀ (xs:List AV) (S:St) (K:Bool→St→Prop),y.spec xs S K→∀ (w:World) (vs:Array Value) (m:Nat),Adv w₀ S₀ w S→Good C w S→RelL w (rdOf S) xs vs.toList→
 YieldAt Fence.wide m P y.l vs w fun e w'=>∃ b S',e=.returned (.bool b)∧Good C w' S'∧Adv w S w' S'∧K b S'
theorem YOk.mono{P:Program}{C:Cx}{w₀ w₁:World}{S₀ S₁:St}(h:YOk P C w₀ S₀)(ha:Adv w₀ S₀ w₁ S₁):YOk P C w₁ S₁:=fun y hy xs S K hs w vs m hb hg hr=>h y hy xs S K hs w vs m (ha.trans hb) hg hr
theorem YOk.none{P:Program}{C:Cx}(h:C.Y=none)(w₀:World)(S₀:St):YOk P C w₀ S₀:=fun y hy=>by rw[h] at hy;cases hy
def Goes(P:Program)(f:FuncId)(vs:Array Value)(w:World)(R:Ending→World→Prop):Prop:=
 ((callFunc f vs).run P w=.ok (.enter f vs) w∧Calls P f vs w R)∨∃ v w',(callFunc f vs).run P w=.ok (.value v) w'∧R (.returned v) w'
theorem Goes.mono{P:Program}{f:FuncId}{vs:Array Value}{w:World}{R R':Ending→World→Prop}(h:Goes P f vs w R)(hr:∀ e w',R e w'→R' e w'):Goes P f vs w R':=by
 rcases h with ⟨h1,h2⟩ | ⟨v,w',h1,h2⟩
 ·exact .inl ⟨h1,h2.mono hr⟩
 ·exact .inr ⟨v,w',h1,hr _ _ h2⟩
structure Triple (P:Program) (C:Cx) (f:FuncId) (args:List AV) (S:St) (Q:Out→St→Prop):Prop where
 mk ::
 out:∀ (w:World) (vs:Array Value),YOk P C w S→Good C w S→RelL w (rdOf S) args vs.toList→
  Goes P f vs w fun e w'=>∃ o S',OutRel w' S' o e∧Good C w' S'∧Adv w S w' S'∧Q o S'
structure TripleE (P:Program) (C:Cx) (f:FuncId) (args:List AV) (S:St) (Q:Out→St→Prop):Prop where
 mk ::
 enter:∀ (vs:Array Value) (w:World),(callFunc f vs).run P w=.ok (.enter f vs) w
 out:∀ (w:World) (vs:Array Value),YOk P C w S→Good C w S→RelL w (rdOf S) args vs.toList→
  Calls P f vs w fun e w'=>∃ o S',OutRel w' S' o e∧Good C w' S'∧Adv w S w' S'∧Q o S'
theorem TripleE.triple{P:Program}{C:Cx}{f:FuncId}{args:List AV}{S:St}{Q:Out→St→Prop}(h:TripleE P C f args S Q):Triple P C f args S Q:=
 ⟨fun w vs hY hg hr=>.inl ⟨h.enter vs w,h.out w vs hY hg hr⟩⟩
section
variable (P:Program) (C:Cx)
def when(b:Bool)(K:Prop):Prop:=match b with | true=>K | false=>False
def known(t:TypeId):Bool:=match (C.T t).kind with | .other=>false | _=>true
def aIntOp(op:BinOp)(k:IntKind)(a b:Int)(K:AV→Prop):Prop:=
 match op with
 | .add=>K (.int k (k.wrap (a+b)))
 | .sub=>K (.int k (k.wrap (a-b)))
 | .mul=>K (.int k (k.wrap (a*b)))
 | .quo=>b≠0∧K (.int k (k.wrap (a.tdiv b)))
 | .rem=>b≠0∧K (.int k (a.tmod b))
 | .eql=>K (.bool (a == b))
 | .neq=>K (.bool (a != b))
 | .lss=>K (.bool (decide (a<b)))
 | .leq=>K (.bool (decide (a≤b)))
 | .gtr=>K (.bool (decide (a > b)))
 | .geq=>K (.bool (decide (a ≥ b)))
 | _=>False
def aStrOp(op:BinOp)(a b:ByteArray)(K:AV→Prop):Prop:=
 match op with
 | .add=>a.size+b.size≤9223372036854775807∧K (.str (a++b))
 | .eql=>K (.bool (decide (a=b)))
 | .neq=>K (.bool (!decide (a=b)))
 | _=>False
def flatEq(k:TK)(x y:AV):Option Bool:=
 match k,x,y with
 | .int k,.int k1 a,.int k2 b=>(match decide (k1=k2) with | true=>some (a == b) | false=>none)
 | .str,.str a,.str b=>some (decide (a=b))
 | .bool,.bool a,.bool b=>some (a == b)
 | _,_,_=>none
def aEqN(k:TK):Nat→List AV→List AV→Option (Bool×List AV×List AV)
 | 0,xs,ys=>some (true,xs,ys)
 | n+1,x::xs,y::ys=>(match flatEq k x y,aEqN k n xs ys with
    | some a,some (b,xs',ys')=>some (a && b,xs',ys')
    | _,_=>none)
 | _,_,_=>none
def aEqF(i:Nat):List (Nat×TypeId)→List AV→List AV→Option Bool
 | [],[],[]=>some true
 | (off,ft)::fs,xs,ys=>(match Nat.beq off i,(C.T ft).kind with
     | true,.array n e=>(match Nat.beq (C.T ft).size n && Nat.beq (C.T e).size 1,aEqN (C.T e).kind n xs ys with
        | true,some (a,xs',ys')=>(match aEqF (i+n) fs xs' ys' with | some b=>some (a && b) | none=>none)
        | _,_=>none)
     | true,k=>(match xs,ys with
        | x::xs,y::ys=>(match flatEq k x y with
           | some a=>(match aEqF (i+1) fs xs ys with | some b=>some (a && b) | none=>none)
           | none=>none)
        | _,_=>none)
     | _,_=>none)
 | _,_,_=>none
def aEq(xt:TypeId)(a b:AV):Option Bool:=
 match (C.T xt).kind,a,b with
 | .strct fs,.ag xs,.ag ys=>(match C.E xt with | true=>aEqF C 0 fs xs ys | false=>none)
 | .bool,.bool a,.bool b=>some (a == b)
 | .ptr _,.nilp,.nilp=>some true
 | .ptr _,.nilp,.ref ..=>some false
 | .ptr _,.ref ..,.nilp=>some false
 | .ptr _,.nilp,.imm ..=>some false
 | .ptr _,.imm ..,.nilp=>some false
 | .slice _,.nils,.nils=>some true
 | .slice _,.arr ..,.nils=>some false
 | .slice _,.sl .nn ..,.nils=>some false
 | .slice _,.sl .full ..,.nils=>some false
 | .slice _,.sl (.own _) ..,.nils=>some false
 | .fn,.nilf,.nilf=>some true
 | .fn,.fn ..,.nilf=>some false
 | .iface _,.nili,.ifc ..=>some false
 | .iface _,.ifc ..,.nili=>some false
 | _,_,_=>none
def isConst:Operand→Bool | .const _=>true | _=>false
def aBin(op:BinOp)(xt:TypeId)(x y:Operand)(a b:AV)(K:AV→Prop):Prop:=
 match a,b with
 | .int k m,.int k' n=>(match op with
  | .shl=>0≤n∧K (.int k (k.wrap (m*2 ^ (min n.toNat k.bits))))
  | .shr=>0≤n∧K (.int k (m.fdiv (2 ^ (min n.toNat k.bits))))
  | _=>when (decide (k=k')) (aIntOp op k m n K))
 | .str s,.str t=>aStrOp op s t K
 | .nili,.nili=>(match (C.T xt).kind,op with
  | .iface _,.eql=>when (isConst x || isConst y) (K (.bool true))
  | .iface _,.neq=>when (isConst x || isConst y) (K (.bool false))
  | _,_=>False)
 | a,b=>(match op with
    | .eql=>(match aEq C xt a b with | some r=>K (.bool r) | none=>False)
    | .neq=>(match aEq C xt a b with | some r=>K (.bool (!r)) | none=>False)
    | _=>False)
def aUn(op:UnOp)(x:AV)(K:AV→Prop):Prop:=
 match op,x with
 | .neg,.int k n=>K (.int k (k.wrap (0-n)))
 | .not,.bool b=>K (.bool (!b))
 | _,_=>False
def rowsB(s:ByteArray):List (List AV):=s.data.toList.map fun b=>[.int .u8 (b.toNat:Int)]
def isU8(t:TypeId):Bool:=match (C.T t).kind with | .int .u8=>Nat.beq 1 (C.T t).size | _=>false
def aConv(src dst:TypeId)(x:AV)(S:St)(K:AV→Prop):Prop:=
 match (C.T src).kind,(C.T dst).kind,x with
 | .int _,.int k,.int _ n=>K (.int k (k.wrap n))
 | .str,.str,.str s=>K (.str s)
 | .str,.slice te,.str s=>when (isU8 C te) (s.size≤140737488355328∧K (.sl .nn 1 (rowsB s)))
 | .slice te,.str,.sl _ k es=>when (isU8 C te && Nat.beq k 1) (∃ s,es=rowsB s∧K (.str s))
 | .slice te,.str,.nils=>when (isU8 C te) (K (.str ByteArray.empty))
 | _,_,_=>False
def aPart(t:TypeId)(xs:List AV)(off:Nat)(K:AV→Prop):Prop:=
 match (C.T t).agg with
 | true=>when (Nat.ble (off+(C.T t).size) xs.length) (forceL ((xs.drop off).take (C.T t).size) fun cs=>K (.ag cs))
 | false=>(match xs.drop off with | x::_=>force x K | []=>False)
def aLoad(t:TypeId)(p:AV)(S:St)(K:AV→Prop):Prop:=
 match p with
 | .imm xs=>when (known C t) (aPart C t xs 0 K)
 | .ref b off=>when (known C t) (∃ e cells,S b=some (.obj e cells)∧aPart C t cells off K)
 | _=>False
def aStore(t:TypeId)(p x:AV)(S:St)(K:St→Prop):Prop:=
 match p with
 | .ref b off=>when (known C t && (okCells x && Nat.beq (cellsOf x).length (C.T t).size)) (∃ e cells,S b=some (.obj e cells)∧when (Nat.ble (off+(C.T t).size) cells.length) (forceL (setRange cells off (cellsOf x)) fun cs=>K (S.upd b (.obj e cs))))
 | _=>False
def fieldOf(t:TypeId)(f:Nat):Option (Nat×TypeId):=
 match (C.T t).kind with
 | .strct fs=>fs[f]?
 | _=>none
def aFieldAddr(t:TypeId)(p:AV)(f:Nat)(K:AV→Prop):Prop:=
 match fieldOf C t f with
 | some (off,ft)=>when (known C ft && Nat.blt 0 (C.T ft).size) (match p with
   | .ref b o=>K (.ref b (o+off))
   | .imm xs=>K (.imm (xs.drop off))
   | _=>False)
 | none=>False
def aField(t:TypeId)(x:AV)(f:Nat)(K:AV→Prop):Prop:=
 match fieldOf C t f,x with
 | some (off,ft),.ag xs=>when (known C ft) (aPart C ft xs off K)
 | _,_=>False
def aIndexAddr(t:TypeId)(x i:AV)(K:AV→Prop):Prop:=
 match (C.T t).kind,x,i with
 | .slice e,.sl sh k es,.int _ n=>when (known C e && Nat.beq (C.T e).size k) (∃ r,(0≤n∧es[n.toNat]? = some r)∧K (.imm r))
 | .slice e,.arr b off m cap,.int _ n=>when (known C e) ((0≤n∧n<m)∧K (.ref b (off+n.toNat*(C.T e).size)))
 | .array m e,.ref b off,.int _ n=>when (known C e) ((0≤n∧n<m)∧K (.ref b (off+n.toNat*(C.T e).size)))
 | _,_,_=>False
def aIndex(t:TypeId)(x i:AV)(K:AV→Prop):Prop:=
 match (C.T t).kind,x,i with
 | .str,.str s,.int _ n=>(0≤n∧n<s.size)∧K (.int .u8 (byteAt s n.toNat))
 | _,_,_=>False
def optN(d:Nat):Option AV→Option Int
 | none=>some d
 | some (.int _ n)=>some n
 | some _=>none
def aSlice(t:TypeId)(x:AV)(lo hi mx:Option AV)(K:AV→Prop):Prop:=
 match (C.T t).kind,x,mx with
 | .str,.str s,none=>(match optN 0 lo,optN s.size hi with
  | some l,some h=>(0≤l∧l≤h∧h≤s.size)∧K (.str (s.extract l.toNat h.toNat))
  | _,_=>False)
 | .slice e,.sl sh k es,none=>when (known C e && Nat.beq (C.T e).size k) (match optN 0 lo,optN es.length hi with
  | some l,some h=>(0≤l∧l≤h∧h≤es.length)∧K (.sl sh.less k ((es.take h.toNat).drop l.toNat))
  | _,_=>False)
 | .slice e,.sl sh k es,some m=>when (known C e && Nat.beq (C.T e).size k) (match lo,hi,m with
  | none,some (.int _ h),.int _ m=>split (h == 0 && m == 0) (K (match sh with | .any | .acc _=>.sl .any k [] | _=>.sl .full k []))
     ((0≤h∧h≤m∧m≤es.length)∧K (.sl sh.less k (es.take h.toNat)))
  | _,_,_=>False)
 | .slice e,.arr b off n cap,none=>when (known C e) (match optN 0 lo,optN n hi with
  | some l,some h=>(0≤l∧l≤h∧h≤cap)∧K (.arr b (bif Nat.beq cap l.toNat then off else off+l.toNat*(C.T e).size) (h.toNat-l.toNat) (cap-l.toNat))
  | _,_=>False)
 | .slice e,.arr b off n cap,some m=>when (known C e) (match lo,hi,m with
  | none,some (.int _ h),.int _ m=>(0≤h∧h≤m∧m≤cap)∧K (.arr b off h.toNat m.toNat)
  | _,_,_=>False)
 | .slice e,.nils,none=>when (known C e) (match optN 0 lo,optN 0 hi with
  | some l,some h=>(l=0∧h=0)∧K .nils
  | _,_=>False)
 | .slice e,.nils,some m=>when (known C e) (match lo,hi,m with
  | none,some (.int _ 0),.int _ 0=>K .nils
  | _,_,_=>False)
 | _,_,_=>False
def aLen(t:TypeId)(x:AV)(S:St)(K:AV→Prop):Prop:=
 match (C.T t).kind,x with
 | .str,.str s=>K (.int .i64 (s.size:Int))
 | .slice _,.sl _ _ es=>((es.length:Int)≤9223372036854775807→K (.int .i64 (es.length:Int)))
 | .slice _,.nils=>K (.int .i64 0)
 | .slice _,.arr _ _ n _=>K (.int .i64 (n:Int))
 | .map _ _,.nilm=>K (.int .i64 0)
 | .map _ _,.mp r=>∃ es,S r=some (.mapo es)∧K (.int .i64 (es.length:Int))
 | _,_=>False
def AccStep(S:St)(b:Nat)(e:TypeId)(k n m:Nat)(b':Nat)(S':St):Prop:=
 (m=0∧b'=b∧S'=S)∨(0<m∧∃ S₁,(n=0→S₁=S)∧(0<n→S₁=S.del b)∧S₁ b'=none∧S'=S₁.upd b' (.tip e k (n+m)))
def aGrow(e:TypeId)(s:AV)(new:List (List AV))(S:St)(K:AV→St→Prop):Prop:=
 when (known C e && Nat.blt 0 (C.T e).bytes) (match s with
  | .nils=>new.length*(C.T e).bytes≤140737488355328∧∀ b S',AccStep S b e (C.T e).size 0 new.length b S'→K (.sl (.acc b) (C.T e).size new) S'
  | .sl (.own b) k es=>when (Nat.beq (C.T e).size k) ((S b=some (.tip e (C.T e).size es.length)∧(es.length+new.length)*(C.T e).bytes≤140737488355328)∧
   ∀ b',(S.del b) b'=none→K (.sl (.own b') (C.T e).size (es++new)) ((S.del b).upd b' (.tip e (C.T e).size (es.length+new.length))))
  | .sl (.acc b) k es=>when (Nat.beq (C.T e).size k) (((0<es.length→S b=some (.tip e (C.T e).size es.length))∧(es.length+new.length)*(C.T e).bytes≤140737488355328)∧
   ∀ b' S',AccStep S b e (C.T e).size es.length new.length b' S'→K (.sl (.acc b') (C.T e).size (es++new)) S')
  | _=>False)
def aSrc(e tx:TypeId)(x:AV)(S:St)(K:List (List AV)→Prop):Prop:=
 match (C.T tx).kind,x with
 | .str,.str s=>when (Nat.beq 1 (C.T e).size) (K (rowsB s))
 | .slice e',.arr b off n cap=>when (Nat.beq e' e) (∃ te cells,S b=some (.obj te cells)∧off+n*(C.T e').size≤cells.length∧K (rowsOf (C.T e').size ((cells.drop off).take (n*(C.T e').size)) n))
 | _,_=>False
def other:AV→Bool | .str _ | .arr ..=>true | _=>false
def aAppend(t:TypeId)(s x:AV)(S:St)(K:AV→St→Prop):Prop:=
 match (C.T t).kind with
 | .slice e=>when (known C e && (Nat.blt 0 (C.T e).size && Nat.blt 0 (C.T e).bytes)) (match x with
  | .nils=>(match s with
   | .nils=>K .nils S
   | .sl sh k es=>K (.sl sh k es) S
   | _=>False)
  | .sl _ k' new=>when (Nat.beq (C.T e).size k') (match s with
   | .nils=>new.length*(C.T e).bytes≤140737488355328∧(match new with
    | []=>K .nils S
    | r::rs=>∀ b,S b=none→K (.sl (.own b) k' (r::rs)) (S.upd b (.tip e k' (r::rs).length)))
   | .sl (.own b) k es=>when (Nat.beq k k') ((S b=some (.tip e k es.length)∧(es.length+new.length)*(C.T e).bytes≤140737488355328)∧
    ∀ b',(S.del b) b'=none→K (.sl (.own b') k (es++new)) ((S.del b).upd b' (.tip e k (es.length+new.length))))
   | .sl (.acc b) k es=>when (Nat.beq k k') (((es≠[]→S b=some (.tip e k es.length))∧(es.length+new.length)*(C.T e).bytes≤140737488355328)∧(match new with
    | []=>K (.sl (.acc b) k es) S
    | r::rs=>∀ S₁,(es=[]→S₁=S)→(es≠[]→S₁=S.del b)→∀ b',S₁ b'=none→K (.sl (.acc b') k (es++(r::rs))) (S₁.upd b' (.tip e k (es.length+(r::rs).length)))))
   | .sl .full k es=>when (Nat.beq k k') ((es.length+new.length)*(C.T e).bytes≤140737488355328∧(match new with
    | []=>K (.sl .full k es) S
    | r::rs=>∀ b,S b=none→K (.sl (.own b) k (es++(r::rs))) (S.upd b (.tip e k (es.length+(r::rs).length)))))
   | _=>False)
  | _=>False)
 | _=>False
def aMM(mx:Bool):AV→List AV→(AV→Prop)→Prop
 | x,[],K=>force x K
 | .int k a,.int _ b::r,K=>aMM mx (.int k (match mx with | true=>if b > a then b else a | false=>if b<a then b else a)) r K
 | _,_,_=>False
def aBuiltin(b:Builtin)(ts:List TypeId)(xs:List AV)(S:St)(K:AV→St→Prop):Prop:=
 match b,ts,xs with
 | .len,[t],[x]=>aLen C t x S fun y=>K y S
 | .append,[t,t'],[s,x]=>(match other x with
  | true=>(match (C.T t).kind with | .slice e=>aSrc C e t' x S fun new=>aGrow C e s new S K | _=>False)
  | false=>when (Nat.beq t t') (aAppend C t s x S K))
 | .cap,[t],[x]=>(match (C.T t).kind,x with | .slice _,.arr _ _ _ c=>K (.int .i64 (c:Int)) S | _,_=>False)
 | .max,_,x::r=>aMM true x r fun y=>K y S
 | .min,_,x::r=>aMM false x r fun y=>K y S
 | _,_,_=>False
def aCall(f:AV)(args:List AV)(S:St)(K:AV→St→Prop)(Qp:AV→St→Prop):Prop:=
 match f with
 | .fn (.func g) first cap=>forceL (first++args++cap) fun l=>Triple P C.call g l S fun o S'=>match o with | .ret x=>K x S' | .pan x=>Qp x S'
 | _=>False
def keyEq:AV→AV→Option Bool
 | .int k a,.int k' b=>(match decide (k=k') with | true=>some (a == b) | false=>none)
 | .str a,.str b=>some (decide (a=b))
 | _,_=>none
def aFindK(k:AV):List (AV×AV)→(AV→Prop)→Prop→Prop
 | [],K,Kn=>Kn
 | (k0,v0)::r,K,Kn=>(match keyEq k k0 with
     | some b=>split b (K v0) (aFindK k r K Kn)
     | none=>False)
def aSetK(k v:AV):List (AV×AV)→(List (AV×AV)→Prop)→Prop
 | [],K=>K [(k,v)]
 | (k0,v0)::r,K=>(match keyEq k k0 with
     | some b=>split b (K ((k,v)::r)) (aSetK k v r fun es=>K ((k0,v0)::es))
     | none=>False)
def keyOk(kt:TypeId)(k:AV):Bool:=
 match (C.T kt).kind,k with
 | .int k,.int k' _=>decide (k=k')
 | .str,.str _=>true
 | _,_=>false
def nilTest(op:BinOp)(t:TypeId)(a b:AV):Option (Bool×List (List AV)):=
 match (C.T t).kind,a,b with
 | .slice _,.sl .any _ es,.nils=>(match op with | .eql=>some (true,es) | .neq=>some (false,es) | _=>none)
 | .slice _,.sl (.acc _) _ es,.nils=>(match op with | .eql=>some (true,es) | .neq=>some (false,es) | _=>none)
 | _,_,_=>none
def aOpE(o:Oper)(e:Operand→AV)(S:St)(K:AV→St→Prop)(Qp:AV→St→Prop):Prop:=
 match o.op with
 | .move x | .assign x=>force (e x) fun y=>K y S
 | .pick c a b=>(match e c with
  | .bool t=>split t (force (e a) fun y=>K y S) (force (e b) fun y=>K y S)
  | _=>False)
 | .alloc t=>when (known C t) <| ∀ b,S b=none→forceL (cellsOf (ofV (C.T t).zero)) fun cs=>K (.ref b 0) (S.upd b (.obj t cs))
 | .box t x=>force (e x) fun y=>when (okCells y) <| ∀ b,S b=none→forceL (cellsOf y) fun cs=>K (.ref b 0) (S.upd b (.obj t cs))
 | .build t parts=>(match (C.T t).kind with
  | .strct fs=>(match aFill (fun i=>(fs[i]?).map fun f=>(f.1,(C.T f.2).size)) (cellsOf (ofV (C.T t).zero)) (parts.toList.map fun p=>(p.1,e p.2)) with
   | some cells=>when (fs.all fun f=>known C f.2) (forceL cells fun cs=>K (.ag cs) S)
   | none=>False)
  | _=>False)
 | .buildSlice t n parts=>(match (C.T t).kind with
  | .slice te=>bif C.A && Nat.beq n 0 then when (known C te) (parts.toList=[]∧∀ b,S b=none→K (.arr b 0 0 0) (S.upd b (.obj te []))) else when (known C te && (Nat.ble (n*(C.T te).size) 4096 && Nat.blt 0 (C.T te).size)) (match aFill (fun i=>some (i*(C.T te).size,(C.T te).size)) (mulL 0 (cellsOf (ofV (C.T te).zero)) n) (parts.toList.map fun p=>(p.1,e p.2)) with
   | some cells=>∀ b,S b=none→forceR (rowsOf (C.T te).size cells n) fun rs=>K (.sl (.own b) (C.T te).size rs) (S.upd b (.tip te (C.T te).size n))
   | none=>False)
  | _=>False)
 | .load t p=>aLoad C t (e p) S fun y=>K y S
 | .store t p x=>force (e x) fun y=>aStore C t (e p) y S fun S'=>K .top S'
 | .nilCheck x=>(match e x with
  | .ref b o=>K (.ref b o) S
  | .imm xs=>K (.imm xs) S
  | .ifc t y=>K (.ifc t y) S
  | .fn (.func f) a b=>K (.fn (.func f) a b) S
  | _=>False)
 | .binOp op t x y _=>(match nilTest C op t (e x) (e y) with
  | some (pos,es)=>∀ c:Bool,(es≠[]→c=!pos)→K (.bool c) S
  | none=>aBin C op t x y (e x) (e y) fun z=>K z S)
 | .unOp op _ x=>aUn op (e x) fun z=>K z S
 | .convert s d x=>aConv C s d (e x) S fun z=>K z S
 | .makeInterface t x=>(match (C.T t).kind with | .iface _ | .other=>False | _=>force (e x) fun y=>K (.ifc t y) S)
 | .makeFunc f a b=>forceL (a.toList.map e) fun xs=>forceL (b.toList.map e) fun ys=>K (.fn f xs ys) S
 | .slice t x lo hi mx=>aSlice C t (e x) (lo.map e) (hi.map e) (mx.map e) fun y=>K y S
 | .fieldAddr t p f=>aFieldAddr C t (e p) f fun y=>K y S
 | .field t x f=>aField C t (e x) f fun y=>K y S
 | .indexAddr t x i=>aIndexAddr C t (e x) (e i) fun y=>K y S
 | .index t x i=>aIndex C t (e x) (e i) fun y=>K y S
 | .extract x i=>(match e x with
  | .tu xs=>(match xs.drop i with | y::_=>force y fun z=>K z S | []=>False)
  | _=>False)
 | .makeSlice t l c=>(match (C.T t).kind,e l,e c with
  | .slice te,.int _ n,.int _ m=>when (known C te) ((0≤n∧n≤m∧(C.T te).bytes*m≤140737488355328∧m≤9223372036854775807)∧
   ∀ b,S b=none→K (.arr b 0 n.toNat m.toNat) (S.upd b (.obj te (mulL 0 (cellsOf (ofV (C.T te).zero)) m.toNat))))
  | _,_,_=>False)
 | .typeAssert x xt asserted ok=>(match (C.T asserted).kind with
  | .iface _ | .other=>False
  | _=>(match e x,ok with
    | .nili,true=>force (ofV (C.T asserted).zero) fun z=>K (.tu [z,.bool false]) S
    | .ifc t y,true=>(match Nat.beq t asserted with
     | true=>force y fun y=>K (.tu [y,.bool true]) S
     | false=>force (ofV (C.T asserted).zero) fun z=>K (.tu [z,.bool false]) S)
    | .ifc t y,false=>when (Nat.beq t asserted) (force y fun y=>K y S)
    | _,_=>False))
 | .makeMap t none=>(match (C.T t).kind with
  | .map _ _=>∀ r,S r=none→K (.mp r) (S.upd r (.mapo []))
  | _=>False)
 | .insert t m k v | .mapUpdate t m k v=>(match (C.T t).kind,e m with
  | .map kt _,.mp r=>force (e k) fun kk=>force (e v) fun vv=>when (keyOk C kt kk) (∃ es,S r=some (.mapo es)∧aSetK kk vv es fun es'=>K .top (S.upd r (.mapo es')))
  | _,_=>False)
 | .lookup t m k ok=>(match (C.T t).kind,e m with
  | .map kt et,.mp r=>force (e k) fun kk=>when (keyOk C kt kk && known C et) (∃ es,S r=some (.mapo es)∧aFindK kk es
   (fun v=>K (match ok with | true=>.tu [v,.bool true] | false=>v) S)
   (force (ofV (C.T et).zero) fun z=>K (match ok with | true=>.tu [z,.bool false] | false=>z) S))
  | .map kt et,.nilm=>force (e k) fun kk=>when (keyOk C kt kk && known C et) (force (ofV (C.T et).zero) fun z=>K (match ok with | true=>.tu [z,.bool false] | false=>z) S)
  | _,_=>False)
 | .range t x=>(match (C.T t).kind,e x with
  | .str,.str s=>∀ b,S b=none→K (.ref b 0) (S.upd b (.siter s 0))
  | .map _ _,.mp r=>∃ es,S r=some (.mapo es)∧∀ b,(S.del r) b=none→K (.ref b 0) ((S.del r).upd b (.miter none es))
  | .map _ _,.nilm=>∀ b,S b=none→K (.ref b 0) (S.upd b (.miter none []))
  | _,_=>False)
 | .next x true=>(match e x with
  | .ref b 0=>∃ s pos,S b=some (.siter s pos)∧split (decide (pos<s.size))
   (K (.tu [.bool true,.int .i64 (pos:Int),.int .i32 (Utf8.decode s pos).1]) (S.upd b (.siter s (pos+(Utf8.decode s pos).2))))
   (K (.tu [.bool false]) S)
  | _=>False)
 | .next x false=>(match e x with
  | .ref b 0=>∃ cur left,S b=some (.miter cur left)∧(left=[]→K (.tu [.bool false]) S)∧∀ pre kv post,left=pre++kv::post→K (.tu [.bool true,kv.1,kv.2]) (S.upd b (.miter (some kv) (pre++post)))
  | _=>False)
 | .entry x=>(match e x with
  | .ref b 0=>∃ kv left,S b=some (.miter (some kv) left)∧K (.tu [kv.1,kv.2]) S
  | _=>False)
 | .panic x=>(match e x with
  | .ifc t y=>Qp (.ifc t y) S
  | _=>False)
 | .call c=>(match c.callee with
  | .builtin b=>aBuiltin C b c.argTypes.toList (c.args.toList.map e) S K
  | .value f=>aCall P C (e f) (c.args.toList.map e) S K Qp
  | .invoke _ _=>False)
 | _=>False
def aAppendArr(t t':TypeId)(b n cap:Nat)(x:AV)(S:St)(K:AV→St→Prop):Prop:=
 match (C.T t).kind,x with
 | .slice e,.sl _ k new=>when (known C e && (Nat.blt 0 (C.T e).size && (Nat.blt 0 (C.T e).bytes && (Nat.beq t t' && Nat.beq (C.T e).size k))))
  (∃ cells,S b=some (.obj e cells)∧(n≤cap∧cap*k≤cells.length∧cap≤maxLen∧(n+new.length)*(C.T e).bytes≤140737488355328)∧
   split (decide (n+new.length≤cap))
    (K (.arr b 0 (n+new.length) cap) (S.upd b (.obj e (setRange cells (n*k) new.flatten))))
    (∀ b' cap',S b'=none→n+new.length≤cap'→cap'≤maxLen→K (.arr b' 0 (n+new.length) cap') (S.upd b' (.obj e (cells.take (n*k)++(new.flatten++mulL 0 (cellsOf (ofV (C.T e).zero)) (cap' - (n+new.length))))))))
 | _,_=>False
def aOp(o:Oper)(env:Env)(S:St)(K:AV→St→Prop)(Qp:AV→St→Prop):Prop:=
 match o.op with
 | .call c=>(match c.callee,c.argTypes.toList,c.args.toList with
  | .builtin .append,[t,t'],[s,x]=>(match ev C env s with
   | .arr b 0 n cap=>aAppendArr C t t' b n cap (ev C env x) S K
   | _=>aOpE P C o (ev C env) S K Qp)
  | .value f,_,_=>(match ev C env f with
   | .fn (.yield l) [] []=>(match C.Y with
    | some y=>l=y.l∧forceL (c.args.toList.map (ev C env)) fun xs=>y.spec xs S fun b S'=>K (.bool b) S'
    | none=>False)
   | _=>aOpE P C o (ev C env) S K Qp)
  | _,_,_=>aOpE P C o (ev C env) S K Qp)
 | _=>aOpE P C o (ev C env) S K Qp
def aOps(ops:List Oper):List Oper→Env→St→(Env→St→Prop)→(AV→St→Prop)→Prop
 | [],env,S,K,Qp=>K env S
 | o::r,env,S,K,Qp=>
   match o.guard with
   | none=>aOp P C o env S (fun x S'=>putK o.dst x env fun env'=>aOps ops r env' S' K Qp) Qp
   | some (j,want)=>
     match (ops[j]?).bind (·.dst) with
     | some d=>(match look d env with
       | .bool b=>split b
        (match want with
          | true=>aOp P C o ((d,.bool true)::env) S (fun x S'=>putK o.dst x ((d,.bool true)::env) fun env'=>aOps ops r env' S' K Qp) Qp
          | false=>putK o.dst (.tu []) ((d,.bool true)::env) fun env'=>aOps ops r env' S K Qp)
        (match want with
          | false=>aOp P C o ((d,.bool false)::env) S (fun x S'=>putK o.dst x ((d,.bool false)::env) fun env'=>aOps ops r env' S' K Qp) Qp
          | true=>putK o.dst (.tu []) ((d,.bool false)::env) fun env'=>aOps ops r env' S K Qp)
       | .tu []=>putK o.dst (.tu []) env fun env'=>aOps ops r env' S K Qp
       | _=>False)
     | none=>False
def aLenQ(t:TypeId)(x:AV)(K:AV→Prop):Prop:=
 match (C.T t).kind,x with
 | .str,.str s=>K (.int .i64 (s.size:Int))
 | .slice _,.sl _ _ es=>K (.int .i64 (es.length:Int))
 | .slice _,.nils=>K (.int .i64 0)
 | .slice _,.arr _ _ n _=>K (.int .i64 (n:Int))
 | _,_=>False
def aOpQ(o:Oper)(e:Operand→AV)(S:St)(K:AV→Prop):Prop:=
 match o.op with
 | .call c=>(match c.callee,c.argTypes.toList,c.args.toList with
  | .builtin .len,[t],[x]=>aLenQ C t (e x) K
  | _,_,_=>False)
 | .binOp op t x y _=>aBin C op t x y (e x) (e y) K
 | .convert s d x=>aConv C s d (e x) S K
 | _=>aOpE P C o e S (fun y _=>K y) (fun _ _=>False)
def opClass(o:Oper):Nat:=
 match o.op with
 | .move _ | .assign _ | .pick .. | .build .. | .nilCheck _ | .binOp .. | .unOp .. | .convert .. | .makeInterface .. | .makeFunc .. | .slice .. | .fieldAddr .. | .field .. | .indexAddr .. | .index .. | .extract ..=>0
 | .load ..=>1
 | .alloc _ | .box .. | .buildSlice .. | .makeSlice ..=>2
 | .call c=>(match c.callee with
  | .builtin .len=>0
  | .builtin .append=>2
  | _=>3)
 | _=>3
def clsOf(qc:List Nat)(i:Nat)(o:Oper):Nat:=bif qc.any (Nat.beq i) then 4 else opClass o
def aCore(c:Nat)(o:Oper)(e:Operand→AV)(S:St)(K:AV→St→Prop)(Qp:AV→St→Prop):Prop:=
 match c with
 | 0 | 1=>aOpQ P C o e S fun x=>K x S
 | 4=>∃ x,aOpE P C o e S (fun y S'=>y=x∧S'=S) (fun _ _=>False)∧K x S
 | _=>aOpE P C o e S K Qp
def aStep(qc:List Nat)(ops:List Oper)(i:Nat)(env:Env)(S:St)(K:Env→St→Prop)(Qp:AV→St→Prop):Prop:=
 match ops[i]? with
 | none=>False
 | some o=>
   match o.guard with
   | none=>aCore P C (clsOf qc i o) o (ev C env) S (fun x S'=>putK o.dst x env fun env'=>K env' S') Qp
   | some (j,want)=>
     match (ops[j]?).bind (·.dst) with
     | some d=>(match look d env with
       | .bool b=>split b
        (match want with
          | true=>aCore P C (clsOf qc i o) o (ev C env) S (fun x S'=>putK o.dst x env fun env'=>K env' S') Qp
          | false=>putK o.dst (.tu []) env fun env'=>K env' S)
        (match want with
          | false=>aCore P C (clsOf qc i o) o (ev C env) S (fun x S'=>putK o.dst x env fun env'=>K env' S') Qp
          | true=>putK o.dst (.tu []) env fun env'=>K env' S)
       | .tu []=>putK o.dst (.tu []) env fun env'=>K env' S
       | _=>False)
     | none=>False
inductive Plan where
 | done
 | free (i:Nat) (p:Plan)
 | one (i:Nat) (p q:Plan)
 | none
def aPlan(qc:List Nat)(ops:List Oper):Plan→Env→St→(Env→St→Prop)→(AV→St→Prop)→Prop
 | .done,env,S,K,Qp=>K env S
 | .free i p,env,S,K,Qp=>aStep P C qc ops i env S (fun env' S'=>aPlan qc ops p env' S' K Qp) Qp
 | .one i p .none,env,S,K,Qp=>aStep P C qc ops i env S (fun env' S'=>aPlan qc ops p env' S' K Qp) Qp
 | .one i p q,env,S,K,Qp=>aStep P C qc ops i env S (fun env' S'=>aPlan qc ops p env' S' K Qp) Qp∧aPlan qc ops q env S K Qp
 | .none,env,S,K,Qp=>True
def mixes(ci cj:Nat):Bool:=
 match ci with
 | 0=>true
 | 1=>Nat.ble cj 2 || Nat.beq cj 4
 | 4=>Nat.ble cj 1 || Nat.beq cj 4
 | _=>false
def depsL(ops:Array Oper)(i:Nat):List Nat:=
 (List.range ops.size).foldl (fun D j=>bif (match ops[j]? with | some oj=>oj.after.any fun e=>Region.binds .any e && (Nat.beq e.on i || D.any (Nat.beq e.on)) | none=>false) then j::D else D) []
def freeB(qc:List Nat)(ops:Array Oper)(listed:Array Bool)(i:Nat):Bool:=
 match ops[i]? with
 | none=>false
 | some oi=>
   let D:=depsL ops i
   (D.all fun j=>match ops[j]? with
     | some oj=>!listed.getD j true && oj.after.any fun e=>Region.binds .any e && (Nat.beq e.on i || D.any (Nat.beq e.on))
     | none=>false) &&
   (List.range ops.size).all fun j=>
     Nat.beq j i || listed.getD j true || D.any (Nat.beq j) ||
     match ops[j]? with
     | none=>true
     | some oj=>oi.apart ops oj && mixes (clsOf qc i oi) (clsOf qc j oj)
def readyL(ops:Array Oper)(listed:Array Bool):List Nat:=
 (List.range ops.size).filter fun i=>!listed.getD i true && ((ops[i]?).map (·.after.all fun e=>!Region.binds .any e || listed.getD e.on false)).getD false
def Plan.quietAt(qc:List Nat)(ops:Array Oper)(i:Nat):Bool:=
 match ops[i]? with
 | some o=>Nat.ble (clsOf qc i o) 1 || Nat.beq (clsOf qc i o) 4
 | _=>false
def Plan.ok(qc:List Nat)(ops:Array Oper):Plan→Nat→Array Bool→List Nat→Bool
 | .done,_,l,_=>(readyL ops l).isEmpty
 | .free i p,n+1,l,_=>(readyL ops l).contains i && freeB qc ops l i && Plan.quietAt qc ops i && Plan.ok qc ops p n (l.setIfInBounds i true) []
 | .one i p q,n+1,l,acc=>Plan.ok qc ops p n (l.setIfInBounds i true) [] && Plan.ok qc ops q (n+1) l (i::acc)
 | .none,_+1,l,acc=>!(readyL ops l).isEmpty && (readyL ops l).all acc.contains
 | _,_,_,_=>false
inductive AExit where
 | normal
 | exit (id:Nat)
 | ret
 | panic (x:AV)
def AV.le:AV→AV→Prop
 | _,.top=>True
 | .sl _ k es,.sl .any k' es'=>k=k'∧es=es'
 | .sl sh k es,.sl .nn k' es'=>sh.mayNil=false∧k=k'∧es=es'
 | .nils,.sl .any _ es=>es=[]
 | .nils,.sl (.acc _) _ es=>es=[]
 | .sl (.own b) k es,.sl (.acc b') k' es'=>es≠[]∧b=b'∧k=k'∧es=es'
 | a,b=>a=b
mutual
def AV.leS(S S':St):AV→AV→Prop
 | .sl sh k es,y=>(match y with
  | .sl .any k' es'=>k=k'∧es=es'
  | .sl .nn k' es'=>sh.mayNil=false∧k=k'∧es=es'
  | .top=>True
  | y=>AV.sl sh k es=y)
 | .nils,y=>(match y with
  | .sl .any _ es=>es=[]
  | .top=>True
  | y=>AV.nils=y)
 | .ref b off,y=>(match y with
  | .imm xs=>S' b=none∧∃ e cells,S b=some (.obj e cells)∧xs=cells.drop off
  | .top=>True
  | y=>AV.ref b off=y)
 | .arr b off n cap,y=>(match y with
  | .sl .any k es=>(S' b=none∧0<k∧n≤cap∧cap≤maxLen)∧∃ e cells,S b=some (.obj e cells)∧off+n*k≤cells.length∧es=rowsOf k (cells.drop off) n
  | .top=>True
  | y=>AV.arr b off n cap=y)
 | .ifc t x,y=>(match y with
  | .ifc t' y=>t=t'∧AV.leS S S' x y
  | .top=>True
  | _=>False)
 | .tu xs,y=>(match y with
  | .tu ys=>AV.leSL S S' xs ys
  | .top=>True
  | _=>False)
 | .ag xs,y=>(match y with
  | .ag ys=>AV.leSL S S' xs ys
  | .top=>True
  | _=>False)
 | x,y=>(match y with
    | .top=>True
    | y=>x=y)
def AV.leSL(S S':St):List AV→List AV→Prop
 | [],ys=>ys=[]
 | x::xs,ys=>(match ys with
    | []=>False
    | y::ys=>AV.leS S S' x y∧AV.leSL S S' xs ys)
end
def Env.le(env:Env):Env→Prop
 | []=>True
 | (t,x)::r=>AV.le (look t env) x∧Env.le env r
def leL:List AV→List AV→Prop
 | [],[]=>True
 | x::xs,y::ys=>AV.le x y∧leL xs ys
 | _,_=>False
def St.leW(S₀ S:St):Prop:=∀ b,S₀ b=S b∨∃ e cs cs',S b=some (.obj e cs)∧S₀ b=some (.obj e cs')∧leL cs cs'
structure LoopI where
 ι:Type
 F:ι→Env
 G:ι→St→Prop
 μ:ι→Nat
def putPs:List Tmp→List AV→Env→Env
 | p::ps,x::xs,env=>putPs ps xs ((p,x)::env)
 | _,_,env=>env
end
section
variable (P:Program)
def awp:Cx→Code→Env→St→(AExit→Env→St→Prop)→Prop
 | C,.skip,env,S,Q=>Q .normal env S
 | C,.label _,env,S,Q=>Q .normal env S
 | C,.ret,env,S,Q=>Q .ret env S
 | C,.exit id,env,S,Q=>Q (.exit id) env S
 | C,.seq a b,env,S,Q=>awp C a env S fun e env' S'=>match e with
    | .normal=>awp C b env' S' Q
    | e=>Q e env' S'
 | C,.region _ ops false,env,S,Q=>aOps P C ops.toList ops.toList env S (fun env' S'=>Q .normal env' S') (fun x S'=>Q (.panic x) [] S')
 | C,.region _ ops true,env,S,Q=>∃ (qc:List Nat) (pl:Plan) (M:Env→St→Prop),pl.ok qc ops ops.size (Array.replicate ops.size false) []=true∧
    aPlan P C qc ops.toList pl env S M (fun x S'=>Q (.panic x) [] S')∧∀ env' S',M env' S'→∃ F,(F=env'∨Env.le env' F)∧Q .normal F S'
 | C,.cond (.tmp t) x y,env,S,Q=>(match look t env with
    | .bool b=>split b (awp C x ((t,.bool true)::env) S Q) (awp C y ((t,.bool false)::env) S Q)
    | _=>False)
 | C,.block id c,env,S,Q=>awp C c env S fun e env' S'=>match e with
    | .exit id'=>(bif Nat.beq id' id then Q .normal env' S' else Q (.exit id') env' S')
    | e=>Q e env' S'
 | C,.scope c,env,S,Q=>False
 | C,.loop c,env,S,Q=>∃ L:LoopI,(∃ i,Env.le env (L.F i)∧∃ S₀,St.leW S₀ S∧L.G i S₀)∧∀ i S₁,L.G i S₁→awp C c (L.F i) S₁ fun e env' S'=>match e with
    | .normal=>∃ j,Env.le env' (L.F j)∧(∃ S₀,St.leW S₀ S'∧L.G j S₀)∧L.μ j<L.μ i
    | e=>Q e env' S'
 | C,.rangeFunc g ps assign body,env,S,Q=>(match C.inR,ev C env g with
    | false,.fn (.func gf) [] lb=>forceL lb fun lb=>∀ (l:Nat) (R:LpSt→Loop),S l=none→
       TripleE P (C.withY ⟨l,fun xs S₁ K=>(S₁ l=some (.lp R .ready)∧xs.length=ps.size)∧
        awp C.round assign (putPs ps.toList xs env) S₁ fun e env₁ S₂=>match e with
         | .normal=>S₂ l=some (.lp R .ready)∧awp C.round body env₁ (S₂.upd l (.lp R .busy)) fun e _ S₃=>S₃ l=some (.lp R .busy)∧(match e with
          | .normal=>K true (S₃.upd l (.lp R .ready))
          | .ret=>K false (S₃.upd l (.lp R (.done .ret)))
          | .exit i=>K false (S₃.upd l (.lp R (.done (.exit i))))
          | .panic _=>False)
         | _=>False⟩) gf (.fn (.yield l) [] []::lb) (S.upd l (.lp R .ready)) fun o S'=>(∃ x,o=.ret x)∧∃ st,S' l=some (.lp R st)∧(match st with
           | .ready=>Q .normal env (S'.del l)
           | .done .ret=>Q .ret env (S'.del l)
           | .done (.exit i)=>Q (.exit i) env (S'.del l)
           | _=>False)
    | _,_=>False)
 | _,_,_,_,_=>False
end
section
variable (C:Cx)
def aRes(env:Env)(S:St):List ResultVar→(List AV→Prop)→Prop
 | [],K=>K []
 | .tmp t::r,K=>force (look t env) fun x=>aRes env S r fun xs=>K (x::xs)
 | .cell a t::r,K=>aLoad C t (look a env) S fun x=>aRes env S r fun xs=>K (x::xs)
def aOut(rs:List ResultVar)(env:Env)(S:St)(K:AV→Prop):Prop:=
 match rs with
 | [r]=>aRes C env S [r] fun xs=>(match xs with | [x]=>K x | _=>False)
 | rs=>aRes C env S rs fun xs=>K (.tu xs)
def aPost(rs:List ResultVar)(Q:Out→St→Prop):AExit→Env→St→Prop
 | .normal,env,S | .ret,env,S=>aOut C rs env S fun x=>∃ y S',Q (.ret y) S'∧St.le S' S∧AV.leS S S' x y
 | .panic x,env,S=>force x fun x=>∃ y S',Q (.pan y) S'∧St.le S' S∧AV.leS S S' x y
 | _,_,_=>False
def argEnv(i:Nat):List AV→Env
 | []=>[]
 | x::r=>(i,x)::argEnv (i+1) r
end
def dstOk(n:Nat):Code→Bool
 | .region _ ops _=>ops.toList.all fun o=>match o.dst with | some d=>Nat.blt d n | none=>true
 | .seq a b=>dstOk n a && dstOk n b
 | .cond _ a b=>dstOk n a && dstOk n b
 | .block _ c=>dstOk n c
 | .loop c=>dstOk n c
 | .rangeFunc _ ps a b=>(ps.toList.all fun p=>Nat.blt p n) && (dstOk n a && dstOk n b)
 | _=>true
theorem force_eq(x:AV)(K:AV→Prop):force x K=K x:=by cases x<;>rfl
theorem forceL_eq(xs:List AV)(K:List AV→Prop):forceL xs K=K xs:=by
 induction xs generalizing K with
 | nil=>rfl
 | cons x xs ih=>simp only[forceL,force_eq,ih]
theorem forceR_eq(xs:List (List AV))(K:List (List AV)→Prop):forceR xs K=K xs:=by
 induction xs generalizing K with
 | nil=>rfl
 | cons x xs ih=>simp only[forceR,forceL_eq,ih]
theorem when_iff(b:Bool)(K:Prop):when b K↔b=true∧K:=by cases b<;>simp[when]
theorem split_iff(b:Bool)(Kt Kf:Prop):split b Kt Kf↔(b=true→Kt)∧(b=false→Kf):=by cases b<;>simp[split]
theorem split_of{b:Bool}{Kt Kf:Prop}(ht:b=true→Kt)(hf:b=false→Kf):split b Kt Kf:=(split_iff _ _ _).2 ⟨ht,hf⟩
section
variable {P:Program} {C:Cx}
theorem ty_info(hT:TyOk P C){t:TypeId}(hk:known C t=true) :
 ∃ i d,P.info? t=some i∧i.size=(C.T t).size∧i.bytes=(C.T t).bytes∧i.zero=some (C.T t).zero∧P.underlying t=some d∧kindOf d=(C.T t).kind∧
  (C.T t).zero.cells.size=(C.T t).size∧(C.T t).zero.cells.toList.all Value.oneCell'=true:=by
 rcases hT.1 t with h | h
 ·obtain⟨h1,h2,h3,h4⟩:=h;obtain⟨i,hi,he⟩:=Option.map_eq_some_iff.1 h1;obtain⟨d,hd,hk⟩:=Option.map_eq_some_iff.1 h2;simp only[Prod.mk.injEq] at he;exact⟨i,d,hi,he.1,he.2.1,he.2.2,hd,hk,h3,h4⟩
 ·simp[known,h,TI.none] at hk
theorem known_of{t:TypeId}{k:TK}(h:(C.T t).kind=k)(hk:k≠.other):known C t=true:=by
 unfold known;rw[h];cases k<;>simp_all
theorem und_slice(hT:TyOk P C){t e:TypeId}(h:(C.T t).kind=.slice e):P.underlying t=some (.slice e):=by
 obtain⟨i,d,_,_,_,_,hd,hk,_⟩:=ty_info hT (known_of h (by simp))
 rw[h] at hk;rw[hd];cases d<;>simp_all [kindOf]
theorem und_array(hT:TyOk P C){t e:TypeId}{n:Nat}(h:(C.T t).kind=.array n e):P.underlying t=some (.array n e):=by
 obtain⟨i,d,_,_,_,_,hd,hk,_⟩:=ty_info hT (known_of h (by simp))
 rw[h] at hk;rw[hd];cases d<;>simp_all [kindOf]
theorem und_str(hT:TyOk P C){t:TypeId}(h:(C.T t).kind=.str):P.underlying t=some .string:=by
 obtain⟨i,d,_,_,_,_,hd,hk,_⟩:=ty_info hT (known_of h (by simp))
 rw[h] at hk;rw[hd];cases d<;>simp_all [kindOf]
theorem und_int(hT:TyOk P C){t:TypeId}{k:IntKind}(h:(C.T t).kind=.int k):P.underlying t=some (.int k):=by
 obtain⟨i,d,_,_,_,_,hd,hk,_⟩:=ty_info hT (known_of h (by simp))
 rw[h] at hk;rw[hd];cases d<;>simp_all [kindOf]
theorem und_map(hT:TyOk P C){t k e:TypeId}(h:(C.T t).kind=.map k e):P.underlying t=some (.map k e):=by
 obtain⟨i,d,_,_,_,_,hd,hk,_⟩:=ty_info hT (known_of h (by simp))
 rw[h] at hk;rw[hd];cases d<;>simp_all [kindOf]
theorem und_struct(hT:TyOk P C){t:TypeId}{fs:List (Nat×TypeId)}(h:(C.T t).kind=.strct fs):∃ fa,P.underlying t=some (.struct fa)∧fa.toList.map (fun f=>(f.offset,f.type))=fs:=by
 obtain⟨i,d,_,_,_,_,hd,hk,_⟩:=ty_info hT (known_of h (by simp))
 rw[h] at hk
 cases d<;>simp_all [kindOf]
theorem und_ptr(hT:TyOk P C){t e:TypeId}(h:(C.T t).kind=.ptr e):P.underlying t=some (.pointer e):=by
 obtain⟨i,d,_,_,_,_,hd,hk,_⟩:=ty_info hT (known_of h (by simp))
 rw[h] at hk;rw[hd];cases d<;>simp_all [kindOf]
theorem und_bool(hT:TyOk P C){t:TypeId}(h:(C.T t).kind=.bool):P.underlying t=some .bool:=by
 obtain⟨i,d,_,_,_,_,hd,hk,_⟩:=ty_info hT (known_of h (by simp))
 rw[h] at hk;rw[hd];cases d<;>simp_all [kindOf]
theorem und_iface(hT:TyOk P C){t:TypeId}{b:Bool}(h:(C.T t).kind=.iface b):∃ ms,P.underlying t=some (.interface ms):=by
 obtain⟨i,d,_,_,_,_,hd,hk,_⟩:=ty_info hT (known_of h (by simp))
 rw[h] at hk;cases d<;>simp_all [kindOf]
theorem und_fn(hT:TyOk P C){t:TypeId}(h:(C.T t).kind=.fn):∃ a b c,P.underlying t=some (.func a b c):=by
 obtain⟨i,d,_,_,_,_,hd,hk,_⟩:=ty_info hT (known_of h (by simp))
 rw[h] at hk;cases d<;>simp_all [kindOf]
theorem run_size(hT:TyOk P C){t:TypeId}(hk:known C t=true)(w:World):(sizeOf t).run P w=.ok (C.T t).size w:=by
 obtain⟨i,d,hi,hs,_⟩:=ty_info hT hk
 simp[sizeOf,typeInfo,hi,hs]
theorem run_isAgg(hT:TyOk P C){t:TypeId}(hk:known C t=true)(w:World):(isAgg t).run P w=.ok (C.T t).agg w:=by
 obtain⟨i,d,hi,_,_,_,hd,hk,_⟩:=ty_info hT hk;simp only[isAgg,Sem.run_bind,run_underlying hd,Result.andThen_ok,TI.agg,← hk]
 cases d<;>rfl
end
theorem Rel_ofV0(w:World)(rd)(v:Value):Rel w rd (ofV0 v) v:=by
 unfold ofV0
 split<;>simp[Rel]
theorem RelL_ofV0(w:World)(rd):∀ vs:List Value,RelL w rd (vs.map ofV0) vs
 | []=>by simp[RelL]
 | v::vs=>by simp only[List.map_cons,RelL];exact⟨v,vs,rfl,Rel_ofV0 w rd v,RelL_ofV0 w rd vs⟩
theorem Rel_ofV(w:World)(rd)(v:Value):Rel w rd (ofV v) v:=by
 unfold ofV
 split
 ·split
  ·rename_i cs h
   simp only[Rel];exact⟨cs,rfl,RelL_ofV0 w rd _,fun u hu=>List.all_eq_true.1 h u hu⟩
  ·simp[Rel]
 ·exact Rel_ofV0 w rd v
theorem RelL_cellsOf{w:World}{rd}{x:AV}{v:Value}(h:Rel w rd x v)(ho:okCells x=true):RelL w rd (cellsOf x) v.cells.toList∧∀ u∈v.cells.toList,u.oneCell'=true:=by
 cases x<;>simp only[okCells,scal,Bool.false_eq_true] at ho<;>simp only[cellsOf]
 case ag xs=>
  simp only[Rel] at h;obtain⟨cs,rfl,h2,h3⟩:=h;exact⟨h2,h3⟩
 all_goals
  have hc:v.cells=#[v]∧v.oneCell'=true:=by
   simp only[Rel] at h
   first
    | (subst h;exact⟨rfl,rfl⟩)
    | (rcases h with ⟨_,_,hz⟩ | ⟨_,_,_,rfl,_⟩
       ·obtain⟨_,rfl⟩:=hz.slice;exact⟨rfl,rfl⟩
       ·exact⟨rfl,rfl⟩)
    | (obtain⟨_,_,rfl,_⟩:=h;exact⟨rfl,rfl⟩)
    | (obtain⟨_,rfl,_⟩:=h;exact⟨rfl,rfl⟩)
  refine⟨?_,by rw[hc.1];simpa using hc.2⟩
  rw[hc.1];simp only[RelL];exact⟨v,[],rfl,h,rfl⟩
theorem heap_alloc_lt(w:World)(o:Obj){b:Nat}(hb:b<w.heap.size):(w.alloc o).heap[b]? = w.heap[b]?:=heap_alloc_old w o hb
theorem cell_of_block{w w':World}{b:Nat}(h:w'.heap[b]? = w.heap[b]?)(off:Nat):w'.cell? ⟨b,off,none⟩=w.cell? ⟨b,off,none⟩:=
 World.cell?_of_block (a:=⟨b,off,none⟩) h
theorem shape_of_block{w w':World}{b:Nat}(h:w'.heap[b]? = w.heap[b]?):w'.shape? b=w.shape? b:=by simp[World.shape?,h]
theorem shape_lt{w:World}{b:Nat}{x}(h:w.shape? b=some x):b<w.heap.size:=by
 unfold World.shape? at h
 cases e:w.heap[b]? with
 | none=>rw[e] at h;cases h
 | some o=>exact lt_of_block e
theorem Adv.alloc{w:World}{S:St}(o:Obj)(hS:S w.heap.size=none):Adv w S (w.alloc o) S:=by
 refine⟨rfl,rfl,rfl,by simp,fun b hb hn=>⟨hn,heap_alloc_lt w o hb⟩,fun b off hb hr=>⟨hr,cell_of_block (heap_alloc_lt w o hb) off⟩,fun b e n h=>?_⟩
 rw[shape_of_block (heap_alloc_lt w o (shape_lt h))];exact h
theorem Adv.allocOwn{w:World}{S:St}(o:Obj)(p:Own)(hS:S w.heap.size=none):Adv w S (w.alloc o) (S.upd w.heap.size p):=by
 refine⟨rfl,rfl,rfl,by simp,fun b hb hn=>⟨?_,heap_alloc_lt w o hb⟩,fun b off hb hr=>⟨?_,cell_of_block (heap_alloc_lt w o hb) off⟩,fun b e n h=>?_⟩
 ·rw[St.upd_ne _ _ _ _ (Nat.ne_of_lt hb)];exact hn
 ·simp only[rdOf,St.upd_ne _ _ _ _ (Nat.ne_of_lt hb)];exact hr
 ·rw[shape_of_block (heap_alloc_lt w o (shape_lt h))];exact h
theorem Inv.alloc{w:World}{S:St}(hi:Inv w S)(o:Obj):Inv (w.alloc o) S:=fun b p h=>
 OwnOk.mono (Adv.alloc o hi.fresh) (heap_alloc_lt w o (hi.lt h)) (hi b p h)
theorem Inv.allocOwn{w:World}{S:St}(hi:Inv w S)(o:Obj)(p:Own)(hp:OwnOk (w.alloc o) (rdOf (S.upd w.heap.size p)) w.heap.size p):Inv (w.alloc o) (S.upd w.heap.size p):=by
 intro b q h
 by_cases e:b=w.heap.size
 ·subst e;rw[St.upd_same] at h;cases h;exact hp
 ·rw[St.upd_ne _ _ _ _ e] at h;exact OwnOk.mono (Adv.allocOwn o p hi.fresh) (heap_alloc_lt w o (hi.lt h)) (hi b q h)
theorem GlobOk.mono{C:Cx}{w w':World}{S S':St}(hg:GlobOk C w S)(h:Adv w S w' S'):GlobOk C w' S':=fun g xs e=>by
 obtain⟨h1,h2,h3,ee,h4⟩:=hg g xs e;exact⟨(h.old g h2 h1).1,Nat.lt_of_lt_of_le h2 h.size,RelAt.mono h g 0 xs h3,ee,h.shape _ _ _ h4⟩
theorem Good.mk{C:Cx}{w w':World}{S S':St}(hg:Good C w S)(hi:Inv w' S')(h:Adv w S w' S'):Good C w' S':=⟨hi,hg.2.mono h⟩
theorem Good.drew{C:Cx}{w:World}{S:St}(hg:Good C w S):Good C w.drew S:=hg.mk hg.1.drew (Adv.refl w S).drew
theorem Good.shrink{C:Cx}{w:World}{S S':St}(hg:Good C w S')(h:St.le S S'):Good C w S:=hg.mk (hg.1.shrink h) (Adv.shrink h)
structure RelEnv (w:World) (S:St) (tmps:Array Value) (env:Env) (n:Nat):Prop where
 size:tmps.size=n
 at_:∀ t,Rel w (rdOf S) (look t env) (tmps.getD t undef)
theorem RelEnv.mono{w w':World}{S S':St}{tmps:Array Value}{env:Env}{n:Nat}(h:RelEnv w S tmps env n)(ha:Adv w S w' S'):RelEnv w' S' tmps env n:=
 ⟨h.size,fun t=>Rel.mono ha _ _ (h.at_ t)⟩
theorem look_cons(t s:Nat)(x:AV)(env:Env):look t ((s,x)::env)=if s=t then x else look t env:=by
 show(bif Nat.beq s t then x else look t env)=_
 by_cases h:s=t
 ·subst h;rw[if_pos rfl,Nat.beq_refl];rfl
 ·rw[if_neg h];have:Nat.beq s t=false:=by
   cases e:Nat.beq s t with
   | false=>rfl
   | true=>exact absurd (Nat.eq_of_beq_eq_true e) h
  rw[this];rfl
theorem RelEnv.put{w:World}{S:St}{a:Act}{env:Env}{n:Nat}(h:RelEnv w S a.tmps env n)(d:Option Tmp)(hd:∀ t,d=some t→t<n){x:AV}{v:Value}(hx:Rel w (rdOf S) x v) :
 RelEnv w S (a.put d v).tmps (put d x env) n:=by
 cases d with
 | none=>exact h
 | some d=>
   have hdn:=hd d rfl
   have hsz:=h.size
   refine⟨by simp[Act.put,h.size],fun t=>?_⟩
   simp only[Act.put,Aw.put,look_cons]
   by_cases e:d=t
   ·subst e;simp only[if_true];simp[Array.getD,h.size,hdn];exact hx
   ·simp only[if_neg e];have:=h.at_ t;simp only[Array.getD_eq_getD_getElem?,Array.getElem?_setIfInBounds_ne e] at this ⊢;exact this
theorem RelEnv.know{w:World}{S:St}{tmps:Array Value}{env:Env}{n:Nat}(h:RelEnv w S tmps env n)(t:Nat){x:AV}(hx:Rel w (rdOf S) x (tmps.getD t undef)):RelEnv w S tmps ((t,x)::env) n:=
 ⟨h.size,fun s=>by rw[look_cons];split;(· rename_i e;subst e;exact hx);exact h.at_ s⟩
theorem ev_sound{C:Cx}{w:World}{S:St}{a:Act}{env:Env}{n:Nat}(hg:Good C w S)(h:RelEnv w S a.tmps env n)(x:Operand):Rel w (rdOf S) (ev C env x) (a.eval x):=by
 cases x with
 | tmp t=>exact h.at_ t
 | const v=>exact Rel_ofV w _ v
 | func f=>simp only[ev,Act.eval,Rel];exact⟨#[],#[],rfl,by simp[RelL],by simp[RelL]⟩
 | global g=>
   simp only[ev,Act.eval]
   cases e:C.G g with
   | none=>simp[Rel]
   | some xs=>simp only[Rel];exact⟨g,0,rfl,(hg.2 g xs e).2.2.1⟩
theorem evL_sound{C:Cx}{w:World}{S:St}{a:Act}{env:Env}{n:Nat}(hg:Good C w S)(h:RelEnv w S a.tmps env n):∀ xs:List Operand,RelL w (rdOf S) (xs.map (ev C env)) (xs.map a.eval)
 | []=>by simp[RelL]
 | x::xs=>by simp only[List.map_cons,RelL];exact⟨_,_,rfl,ev_sound hg h x,evL_sound hg h xs⟩
def CellsAt(w:World)(b off:Nat)(vs:List Value):Prop:=∀ i v,vs[i]? = some v→w.cell? ⟨b,off+i,none⟩=some v
def RdAt(rd:Nat→Nat→Prop)(b off n:Nat):Prop:=∀ i,i<n→rd b (off+i)
theorem RelAt.cells{w:World}{rd}{b:Nat}:∀ {xs:List AV} {off:Nat},RelAt w rd b off xs→∃ vs,RelL w rd xs vs∧CellsAt w b off vs∧(∀ u∈vs,u.oneCell'=true)∧RdAt rd b off xs.length
 | [],off,h=>⟨[],by simp[RelL],fun i v hi=>by simp at hi,by simp,fun i hi=>absurd hi (by simp)⟩
 | x::xs,off,h=>by
   simp only[RelAt] at h;obtain⟨⟨v,⟨h1,h2,h3⟩,hx⟩,hr⟩:=h;obtain⟨vs,k1,k2,k3,k4⟩:=RelAt.cells hr;refine⟨v::vs,by simp only[RelL];exact⟨v,vs,rfl,hx,k1⟩,fun i u hi=>?_,fun u hu=>?_,fun i hi=>?_⟩
   ·cases i with
    | zero=>simp at hi;subst hi;exact h2
    | succ i=>
      simp at hi
      have:=k2 i u hi
      rwa [show off+1+i=off+(i+1) from by omega] at this
   ·rcases List.mem_cons.1 hu with rfl | hu
    ·exact h3
    ·exact k3 u hu
   ·cases i with
    | zero=>exact h1
    | succ i=>
      have:=k4 i (by simp at hi;omega)
      rwa [show off+1+i=off+(i+1) from by omega] at this
theorem RelAt.of_cells{w:World}{rd}{b:Nat}:∀ {xs:List AV} {vs:List Value} {off:Nat},RelL w rd xs vs→CellsAt w b off vs→(∀ u∈vs,u.oneCell'=true)→RdAt rd b off xs.length→RelAt w rd b off xs
 | [],vs,off,h,hc,h1,hr=>by simp[RelAt]
 | x::xs,vs,off,h,hc,h1,hr=>by
   simp only[RelL] at h;obtain⟨u,us,rfl,h2,h3⟩:=h;simp only[RelAt];refine⟨⟨u,⟨hr 0 (by simp),hc 0 u rfl,h1 u (by simp)⟩,h2⟩,RelAt.of_cells h3 (fun i v hi=>?_) (fun u hu=>h1 u (by simp[hu])) (fun i hi=>?_)⟩
   ·have:=hc (i+1) v (by simpa using hi)
    rwa [show off+(i+1)=off+1+i from by omega] at this
   ·have:=hr (i+1) (by simp;omega)
    rwa [show off+(i+1)=off+1+i from by omega] at this
theorem RelRows.cells{w:World}{rd}{k b:Nat}:∀ {es:List (List AV)} {off:Nat},RelRows w rd k b off es→∃ vs,RelL w rd es.flatten vs∧CellsAt w b off vs∧(∀ u∈vs,u.oneCell'=true)∧RdAt rd b off (es.length*k)∧vs.length=es.length*k
 | [],off,h=>⟨[],by simp[RelL],fun i v hi=>by simp at hi,by simp,fun i hi=>absurd hi (by simp),by simp⟩
 | e::es,off,h=>by
   simp only[RelRows] at h;obtain⟨⟨hl,h1⟩,h2⟩:=h;obtain⟨vs,k1,k2,k3,k4⟩:=RelAt.cells h1;obtain⟨us,m1,m2,m3,m4,m5⟩:=RelRows.cells h2;have hvl:vs.length=k:=by rw[← RelL.length k1,hl]
   refine⟨vs++us,by simpa using RelL.append k1 m1,fun i v hi=>?_,fun u hu=>?_,fun i hi=>?_,by simp[hvl,m5,Nat.succ_mul];omega⟩
   ·by_cases hik:i<k
    ·rw[List.getElem?_append_left (by omega)] at hi
     exact k2 i v hi
    ·rw[List.getElem?_append_right (by omega),hvl] at hi
     have:=m2 (i-k) v hi
     rwa [show off+k+(i-k)=off+i from by omega] at this
   ·rcases List.mem_append.1 hu with hu | hu
    ·exact k3 u hu
    ·exact m3 u hu
   ·by_cases hik:i<k
    ·exact k4 i (by omega)
    ·have:=m4 (i-k) (by simp[Nat.succ_mul] at hi;omega)
     rwa [show off+k+(i-k)=off+i from by omega] at this
theorem RelRows.of_cells{w:World}{rd}{k b:Nat}:∀ {es:List (List AV)} {vs:List Value} {off:Nat},(∀ e∈es,e.length=k)→RelL w rd es.flatten vs→CellsAt w b off vs→(∀ u∈vs,u.oneCell'=true)→RdAt rd b off (es.length*k)→RelRows w rd k b off es
 | [],vs,off,hl,h,hc,h1,hr=>by simp[RelRows]
 | e::es,vs,off,hl,h,hc,h1,hr=>by
   have hel:e.length=k:=hl e (by simp)
   simp only[List.flatten_cons] at h;have ht:=RelL.take h k;have hd:=RelL.drop h k;rw[List.take_left' hel] at ht;rw[List.drop_left' hel] at hd;simp only[RelRows];refine⟨⟨hel,RelAt.of_cells ht (fun i v hi=>?_) (fun u hu=>h1 u (List.mem_of_mem_take hu)) (fun i hi=>?_)⟩,RelRows.of_cells (fun e he=>hl e (by simp[he])) hd (fun i v hi=>?_) (fun u hu=>h1 u (List.mem_of_mem_drop hu)) (fun i hi=>?_)⟩
   ·rw[List.getElem?_take] at hi
    split at hi
    ·exact hc i v hi
    ·cases hi
   ·exact hr i (by simp[Nat.succ_mul];omega)
   ·rw[List.getElem?_drop] at hi;have:=hc _ v hi
    rwa [show off+(k+i)=off+k+i from by omega] at this
   ·have:=hr (k+i) (by simp[Nat.succ_mul];omega)
    rwa [show off+(k+i)=off+k+i from by omega] at this
section
variable {P:Program} {C:Cx}
theorem run_loadCells_at(w:World)(b off:Nat)(vs:List Value)(h:CellsAt w b off vs):(loadCells ⟨b,off,none⟩ vs.length).run P w=.ok vs.toArray w:=
 run_loadCells_list w ⟨b,off,none⟩ vs fun j v hj=>by rw[Addr.add_lit];exact h j v hj
theorem aPart_load(hT:TyOk P C){w:World}{rd}{t:TypeId}(hk:known C t=true){b base off:Nat}{xs:List AV}{vs:List Value}(hr:RelL w rd xs vs)(hc:CellsAt w b base vs)(h1:∀ u∈vs,u.oneCell'=true)
 {K:AV→Prop} (h:aPart C t xs off K):∃ x v,K x∧(loadVar t ⟨b,base+off,none⟩).run P w=.ok v w∧Rel w rd x v:=by
 unfold aPart at h;unfold loadVar;simp only[Sem.run_bind,run_isAgg hT hk,Result.andThen_ok]
 cases ha:(C.T t).agg with
 | true=>
   rw[ha] at h;simp only[when_iff,forceL_eq] at h;obtain⟨hl,h⟩:=h;have hl:=Nat.le_of_ble_eq_true hl;have hd:((vs.drop off).take (C.T t).size).length=(C.T t).size:=by
    rw[List.length_take,List.length_drop,← RelL.length hr];omega
   have hcc:CellsAt w b (base+off) ((vs.drop off).take (C.T t).size):=fun i v hi=>by
    rw[List.getElem?_take] at hi
    split at hi
    ·rw[List.getElem?_drop] at hi;have:=hc _ v hi
     rwa [← Nat.add_assoc] at this
    ·cases hi
   have hrun:=run_loadCells_at (P:=P) w b (base+off) _ hcc
   rw[hd] at hrun;refine⟨_,.agg ((vs.drop off).take (C.T t).size).toArray,h,by simp[run_size hT hk,hrun],?_⟩
   simp only[Rel];exact⟨_,rfl,by simpa using RelL.take (RelL.drop hr off) _,fun u hu=>h1 u (List.mem_of_mem_drop (List.mem_of_mem_take (by simpa using hu)))⟩
 | false=>
   rw[ha] at h
   cases hx:xs.drop off with
   | nil=>rw[hx] at h;exact h.elim
   | cons x r=>
     rw[hx] at h;simp only[force_eq] at h;have hg:xs[off]? = some x:=by
      have:(xs.drop off)[0]? = some x:=by rw[hx];rfl
      simpa using this
     obtain⟨v,hv,hxv⟩:=RelL.get hr off x hg;exact⟨x,v,h,by simp[hc off v hv],hxv⟩
theorem aPart_part(hT:TyOk P C){w:World}{rd}{t:TypeId}(hk:known C t=true){off:Nat}{xs:List AV}{cs:Array Value}(hr:RelL w rd xs cs.toList)(h1:∀ u∈cs.toList,u.oneCell'=true)
 {K:AV→Prop} (h:aPart C t xs off K):∃ x v,K x∧(part t cs off).run P w=.ok v w∧Rel w rd x v:=by
 unfold aPart at h;unfold part;simp only[Sem.run_bind,run_isAgg hT hk,Result.andThen_ok]
 cases ha:(C.T t).agg with
 | true=>
   rw[ha] at h;simp only[when_iff,forceL_eq] at h;obtain⟨hl,h⟩:=h;have hl:=Nat.le_of_ble_eq_true hl;refine⟨_,.agg (cs.extract off (off+(C.T t).size)),h,by simp[run_size hT hk],?_⟩
   have he:(cs.extract off (off+(C.T t).size)).toList=(cs.toList.drop off).take (C.T t).size:=by
    rw[Array.toList_extract,List.extract_eq_take_drop]
    congr 1
    omega
   simp only[Rel];refine⟨_,rfl,?_,fun u hu=>?_⟩
   ·rw[he];exact RelL.take (RelL.drop hr off) _
   ·rw[he] at hu;exact h1 u (List.mem_of_mem_drop (List.mem_of_mem_take hu))
 | false=>
   rw[ha] at h
   cases hx:xs.drop off with
   | nil=>rw[hx] at h;exact h.elim
   | cons x r=>
     rw[hx] at h;simp only[force_eq] at h;have hg:xs[off]? = some x:=by
      have:(xs.drop off)[0]? = some x:=by rw[hx];rfl
      simpa using this
     obtain⟨v,hv,hxv⟩:=RelL.get hr off x hg;have hv':cs[off]? = some v:=by simpa using hv
     exact⟨x,v,h,by simp[hv'],hxv⟩
end
theorem setRange_length(cells:List AV)(off:Nat)(xs:List AV):(setRange cells off xs).length=cells.length:=by
 induction xs generalizing cells off with
 | nil=>rfl
 | cons x xs ih=>simp only[setRange,ih,List.length_set]
theorem RelL.setRange{w:World}{rd}:∀ {xs:List AV} {vs:List Value} {cells:List AV} {cs:List Value} {off:Nat},RelL w rd xs vs→RelL w rd cells cs→off+xs.length≤cells.length→
 RelL w rd (setRange cells off xs) (cs.take off++vs++cs.drop (off+vs.length))
 | [],vs,cells,cs,off,h,hc,hl=>by simp only[RelL] at h;subst h;simpa [Aw.setRange] using hc
 | x::xs,vs,cells,cs,off,h,hc,hl=>by
   simp only[RelL] at h;obtain⟨u,us,rfl,h2,h3⟩:=h;have hlen:=RelL.length hc;have hoff:off<cs.length:=by simp at hl;omega
   have:=RelL.setRange (off:=off+1) h3 (RelL.set hc off x u h2) (by simp at hl ⊢;omega)
   simp only[Aw.setRange];have e1:(cs.set off u).take (off+1)=cs.take off++[u]:=by
    rw[List.take_add_one,List.take_set_of_le (Nat.le_refl _)]
    simp[List.getElem?_set,hoff]
   have e2:(cs.set off u).drop (off+1+us.length)=cs.drop (off+(u::us).length):=by
    rw[List.drop_set_of_lt (by omega)]
    simp
    congr 1
    omega
   rw[e1,e2] at this
   simpa using this
theorem Adv.setRow{w:World}{S:St}{b:Nat}{e:TypeId}{cells:List AV}(hS:S b=some (.obj e cells)){old cs:Array Value}(hb:w.heap[b]? = some (.cells old e (0,0)))(hsz:cs.size=old.size)(cells':List AV) :
 Adv w S (w.setRow b cs) (S.upd b (.obj e cells')):=by
 have hother:∀ x,x≠b→(w.setRow b cs).heap[x]? = w.heap[x]?:=fun x hx=>setRow_other w b x cs hx
 refine⟨rfl,rfl,rfl,by simp[World.setRow],fun x hx hn=>?_,fun x off hx hr=>?_,fun x e' n hx=>?_⟩
 ·have hne:x≠b:=St.ne_of' hn hS
  exact⟨by rw[St.upd_ne _ _ _ _ hne];exact hn,hother x hne⟩
 ·have hne:x≠b:=by rintro rfl;simp only[rdOf,hS] at hr
  refine⟨by simp only[rdOf,St.upd_ne _ _ _ _ hne];exact hr,cell_of_block (hother x hne) off⟩
 ·by_cases hne:x=b
  ·subst hne;simp only[World.shape?,hb] at hx;simp only[World.shape?,setRow_heap w x old cs e (0,0) hb]
   simpa [hsz] using hx
  ·rw[shape_of_block (hother x hne)];exact hx
end Go.Proofs.YtogipknpafkfpaaGreatDoor.Aw
