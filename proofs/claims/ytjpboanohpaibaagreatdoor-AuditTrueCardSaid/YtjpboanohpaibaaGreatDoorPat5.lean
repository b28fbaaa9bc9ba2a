/- The abstract walk is sound: a region in the text's order, code, a function; and the rules by which contracts are used. N -/
import Derived.Test.YtjpboanohpaibaaGreatDoorPat4
import Derived.RangeFuncIn
set_option linter.all false
namespace Go.Proofs.YtjpboanohpaibaaGreatDoor.Aw
open Go Go.RowKit
section
variable {P:Program} {C:Cx}
theorem aOps_sound(hT:TyOk P C){ro:Option Nat}{m:Nat}{n:Nat}(ops:Array Oper):∀ (l:List Oper),(∀ o∈l,∀ d,o.dst=some d→d<n)→∀ {a:Act} {w:World} {S:St} {env:Env},YOk P C w S→Good C w S→RelEnv w S a.tmps env n→
 ∀ {K:Env→St→Prop} {Qp:AV→St→Prop},aOps P C ops.toList l env S K Qp→∀ {Q:Exit→Act→World→Prop},
 (∀ env' a' w' S',K env' S'→RelEnv w' S' a'.tmps env' n→a'.defers=a.defers→Good C w' S'→Adv w S w' S'→Q .normal a' w')→
 (∀ x v a' w' S',Qp x S'→Rel w' (rdOf S') x v→a'.tmps.size=n→a'.defers=a.defers→Good C w' S'→Adv w S w' S'→Q (.panic [{ v,recovered:=false }]) a' w')→
 wpListIn (Fr ro) m P ops Q l a w
 | [],hd,a,w,S,env,hY,hg,he,K,Qp,h,Q,hK,hQ=>hK _ _ _ _ h he rfl hg (Adv.refl w S)
 | o::r,hd,a,w,S,env,hY,hg,he,K,Qp,h,Q,hK,hQ=>by
   have hdr:∀ o∈r,∀ d,o.dst=some d→d<n:=fun o ho=>hd o (by simp[ho])
   have hdo:∀ d,o.dst=some d→d<n:=hd o (by simp)
   have hdef:∀ v,(a.put o.dst v).defers=a.defers:=fun v=>by cases o.dst<;>rfl
   have rec_:∀ (env₁:Env),RelEnv w S a.tmps env₁ n→aOp P C o env₁ S (fun x S'=>aOps P C ops.toList r (put o.dst x env₁) S' K Qp) Qp→o.wpIn (Fr ro) m P a w (wpListIn (Fr ro) m P ops Q r) Q:=fun env₁ he₁ h₁=>
    aOp_sound hT hY hg he₁ h₁
     (fun x v w' S' k1 k2 k3 k4=>aOps_sound hT ops r hdr (hY.mono k4) k3 ((he₁.mono k4).put o.dst hdo k2) k1
       (fun env' a' w'' S'' m1 m2 m3 m4 m5=>hK env' a' w'' S'' m1 m2 (m3.trans (hdef v)) m4 (k4.trans m5))
       (fun x' v' a' w'' S'' m1 m2 m0 m3 m4 m5=>hQ x' v' a' w'' S'' m1 m2 m0 (m3.trans (hdef v)) m4 (k4.trans m5)))
     (fun x v w' S' k1 k2 k3 k4=>hQ x v a w' S' k1 k2 he.size rfl k3 k4)
   have skip_:∀ (env₁:Env),RelEnv w S a.tmps env₁ n→aOps P C ops.toList r (put o.dst (.tu []) env₁) S K Qp→wpListIn (Fr ro) m P ops Q r (a.put o.dst undef) w:=fun env₁ he₁ h₁=>
    aOps_sound hT ops r hdr hY hg (he₁.put o.dst hdo (by simp only[Rel];exact⟨#[],rfl,by simp[RelL]⟩)) h₁
     (fun env' a' w'' S'' m1 m2 m3 m4 m5=>hK env' a' w'' S'' m1 m2 (m3.trans (hdef undef)) m4 m5)
     (fun x' v' a' w'' S'' m1 m2 m0 m3 m4 m5=>hQ x' v' a' w'' S'' m1 m2 m0 (m3.trans (hdef undef)) m4 m5)
   unfold wpListIn;unfold aOps at h;simp only[putK_eq] at h
   split at h
   ·rename_i hgd
    have hw:Region.wanted o (yielded ops a.tmps)=true:=by simp[Region.wanted,hgd]
    rw[if_pos hw];exact rec_ env he h
   ·rename_i j want hgd
    split at h
    ·rename_i d hdj
     have hdj':(ops[j]?).bind (·.dst)=some d:=by simpa using hdj
     split at h
     ·rename_i b hb
      have hbr:=he.at_ d
      rw[hb] at hbr;simp only[Rel] at hbr;have hy:yielded ops a.tmps j=some b:=by
       unfold yielded;rw[hdj'];simp only[Option.bind_some];rw[Array.getD_eq_getD_getElem?] at hbr
       cases e:a.tmps[d]? with
       | none=>rw[e] at hbr;simp[undef] at hbr
       | some u=>rw[e] at hbr;simp at hbr;subst hbr;rfl
      have hwanted:Region.wanted o (yielded ops a.tmps)=(b == want):=by
       simp only[Region.wanted,hgd,hy]
       cases b<;>cases want<;>rfl
      rw[hwanted];have he₁:RelEnv w S a.tmps ((d,.bool b)::env) n:=he.know d (by simp only[Rel];exact hbr)
      rw[split_iff] at h
      cases b<;>cases want
      ·exact rec_ _ he₁ (h.2 rfl)
      ·exact⟨fun _ _=>trivial,skip_ _ he₁ (h.2 rfl)⟩
      ·exact⟨fun _ _=>trivial,skip_ _ he₁ (h.1 rfl)⟩
      ·exact rec_ _ he₁ (h.1 rfl)
     ·rename_i hb
      have hbr:=he.at_ d
      rw[hb] at hbr;simp only[Rel] at hbr;obtain⟨cs,hcs,_⟩:=hbr;have hy:yielded ops a.tmps j=none:=by
       unfold yielded;rw[hdj'];simp only[Option.bind_some];rw[Array.getD_eq_getD_getElem?] at hcs
       cases e:a.tmps[d]? with
       | none=>rfl
       | some u=>rw[e] at hcs;simp at hcs;subst hcs;rfl
      have hwanted:Region.wanted o (yielded ops a.tmps)=false:=by
       simp only[Region.wanted,hgd,hy]
       cases want<;>rfl
      rw[hwanted];exact⟨fun _ _=>trivial,skip_ _ he h⟩
     ·exact h.elim
    ·exact h.elim
def ExRel(w:World)(S:St):AExit→Exit→Prop
 | .normal,.normal=>True
 | .exit i,.exit j=>i=j
 | .ret,.ret=>True
 | .panic x,.panic ch=>∃ v,ch=[{ v,recovered:=false }]∧Rel w (rdOf S) x v
 | _,_=>False
def markD(D:Nat):Deferred:={ target:=.collected D,args:=#[] }
def DefOk(nr:Bool)(w:World)(ds:List Deferred)(w':World)(S':St)(ds':List Deferred):Prop:=
 ∃ ms:List Nat,ds'=ms.map markD++ds∧ms.Nodup∧(nr=true→ms=[])∧∀ D∈ms,w.heap.size≤D∧S' D=none∧w'.heap[D]? = some (.deferred (some []))
theorem DefOk.refl(nr:Bool)(w:World)(ds:List Deferred)(w':World)(S':St):DefOk nr w ds w' S' ds:=⟨[],rfl,List.nodup_nil,fun _=>rfl,fun D hD=>by cases hD⟩
theorem DefOk.of_eq{nr:Bool}{w:World}{ds:List Deferred}{w':World}{S':St}{ds':List Deferred}(h:ds'=ds):DefOk nr w ds w' S' ds':=h ▸ DefOk.refl _ _ _ _ _
theorem DefOk.adv{nr:Bool}{w:World}{ds:List Deferred}{w' w'':World}{S' S'':St}{ds':List Deferred}(h:DefOk nr w ds w' S' ds')(ha:Adv w' S' w'' S''):DefOk nr w ds w'' S'' ds':=by
 obtain⟨ms,h1,h2,h0,h3⟩:=h;refine⟨ms,h1,h2,h0,fun D hD=>?_⟩
 obtain⟨k1,k2,k3⟩:=h3 D hD;obtain⟨m1,m2⟩:=ha.old D (lt_of_block k3) k2;exact⟨k1,m1,m2.trans k3⟩
theorem DefOk.trans{nr:Bool}{w w' w'':World}{S' S'':St}{ds ds' ds'':List Deferred}(h:DefOk nr w ds w' S' ds')(k:DefOk nr w' ds' w'' S'' ds'')(hw:w.heap.size≤w'.heap.size)(ha:Adv w' S' w'' S''):DefOk nr w ds w'' S'' ds'':=by
 obtain⟨ms',k1,k2,k0,k3⟩:=k;obtain⟨ms,h1,h2,h0,h3⟩:=h;refine⟨ms'++ms,by rw[k1,h1];simp,?_,fun hb=>by rw[k0 hb,h0 hb];rfl,fun D hD=>?_⟩
 ·rw[List.nodup_append];refine⟨k2,h2,fun a ha b hb hab=>?_⟩
  subst hab;have:=(k3 a ha).1;have:=lt_of_block (h3 a hb).2.2;omega
 ·rcases List.mem_append.1 hD with hD | hD
  ·obtain⟨m1,m2,m3⟩:=k3 D hD;exact⟨by omega,m2,m3⟩
  ·obtain⟨m1,m2,m3⟩:=h3 D hD;obtain⟨n1,n2⟩:=ha.old D (lt_of_block m3) m2;exact⟨m1,n1,n2.trans m3⟩
def noRange:Code→Bool
 | .seq a b=>noRange a && noRange b
 | .cond _ a b=>noRange a && noRange b
 | .block _ c=>noRange c
 | .loop c=>noRange c
 | .rangeFunc ..=>false
 | _=>true
def Post(nr:Bool)(C:Cx)(n:Nat)(ds:List Deferred)(w:World)(S:St)(Q:AExit→Env→St→Prop)(e:Exit)(a':Act)(w':World):Prop:=
 ∃ ae env' S',ExRel w' S' ae e∧RelEnv w' S' a'.tmps env' n∧DefOk nr w ds w' S' a'.defers∧Good C w' S'∧Adv w S w' S'∧Q ae env' S'
theorem AV.le_sound{w:World}{rd}{x y:AV}{v:Value}(h:AV.le x y)(hx:Rel w rd x v):Rel w rd y v:=by
 unfold AV.le at h
 split at h
 ·simp only[Rel]
 ·obtain⟨rfl,rfl⟩:=h;simp only[Rel] at hx ⊢
  rcases hx with ⟨_,rfl,hz⟩ | ⟨b,off,cap,h1,h2,h3,_,h5⟩
  ·exact .inl ⟨rfl,rfl,hz.any⟩
  ·exact .inr ⟨b,off,cap,h1,h2,h3,trivial,h5⟩
 ·obtain⟨hsh,rfl,rfl⟩:=h;simp only[Rel] at hx ⊢
  rcases hx with ⟨hh,_⟩ | ⟨b,off,cap,h1,h2,h3,_,h5⟩
  ·rw[hsh] at hh;cases hh
  ·exact .inr ⟨b,off,cap,h1,h2,h3,trivial,h5⟩
 ·subst h;simp only[Rel] at hx ⊢;exact .inl ⟨rfl,trivial,.inl hx⟩
 ·subst h;simp only[Rel] at hx ⊢;exact .inl ⟨rfl,trivial,.inl hx⟩
 ·obtain⟨hne,rfl,rfl,rfl⟩:=h;simp only[Rel] at hx ⊢
  rcases hx with ⟨hh,_⟩ | ⟨b,off,cap,h1,h2,h3,h4,h5⟩
  ·cases hh
  ·exact .inr ⟨b,off,cap,h1,h2,h3,⟨List.length_pos_iff.2 hne,h4⟩,h5⟩
 ·subst h;exact hx
theorem RelAt.take'{w:World}{rd:Nat→Nat→Prop}{b:Nat}:∀ {xs:List AV} {off:Nat},RelAt w rd b off xs→∀ n,RelAt w rd b off (xs.take n)
 | xs,off,h,0=>by simp[RelAt]
 | [],off,h,n+1=>by simp[RelAt]
 | x::xs,off,h,n+1=>by
   simp only[RelAt] at h;simp only[List.take_succ_cons,RelAt];exact⟨h.1,RelAt.take' h.2 n⟩
theorem rowsOf_length(k:Nat):∀ (n:Nat) (cells:List AV),(rowsOf k cells n).length=n
 | 0,_=>rfl
 | n+1,cells=>by simp only[rowsOf,List.length_cons,rowsOf_length k n]
theorem RelRows.of_rowsOf{w:World}{rd:Nat→Nat→Prop}{k b:Nat}(hk:0<k):∀ (n:Nat) (cells:List AV) (off:Nat),RelAt w rd b off cells→n*k≤cells.length→RelRows w rd k b off (rowsOf k cells n)
 | 0,cells,off,h,hl=>by simp only[rowsOf,RelRows]
 | n+1,cells,off,h,hl=>by
   rw[Nat.succ_mul] at hl;simp only[rowsOf,RelRows];refine⟨⟨by rw[List.length_take];omega,RelAt.take' h k⟩,RelRows.of_rowsOf hk n (cells.drop k) (off+k) (RelAt.drop h k) (by rw[List.length_drop];omega)⟩
mutual
theorem AV.leC_refl(S S':St):∀ xs,AV.leC S S' xs xs
 | []=>trivial
 | x::xs=>⟨.inl rfl,AV.leC_refl S S' xs⟩
theorem AV.leA_sound{w:World}{S S':St}(hi:Inv w S)(hle:St.le S' S){x y:AV}{v:Value}(h:AV.leA S S' x y)(hx:Rel w (rdOf S) x v):Rel w (rdOf S') y v:=by
 rcases h with rfl | h
 ·exact Rel.mono (Adv.shrink hle) _ _ hx
 ·split at h
  ·rename_i b off n cap k es
   obtain⟨⟨hn,hk,hnc,hcm⟩,e,cells,hS,hlen,rfl⟩:=h;simp only[Rel] at hx ⊢;obtain⟨cs,h1,h2,h3,h4⟩:=obj_cells hi hS;have hall:=RelAt.of_cells (b:=_) (off:=0) (RelL.mono (Adv.shrink hle) _ _ h2) h4 h3 (fun i hi'=>by simp only[rdOf,hn])
   have hd:=RelAt.drop hall off
   rw[Nat.zero_add] at hd;refine .inr ⟨b,off,cap,by rw[rowsOf_length];exact hx,by rw[rowsOf_length];exact hnc,hcm,trivial,?_⟩
   exact RelRows.of_rowsOf hk n _ _ hd (by rw[List.length_drop];omega)
  ·exact h.elim
theorem AV.leC_sound{w:World}{S S':St}(hi:Inv w S)(hle:St.le S' S):∀ {xs ys:List AV} {vs:List Value},AV.leC S S' xs ys→RelL w (rdOf S) xs vs→RelL w (rdOf S') ys vs
 | [],[],vs,_,h=>by simpa [RelL] using h
 | x::xs,y::ys,vs,hc,h=>by
   simp only[RelL] at h ⊢;obtain⟨u,us,rfl,h1,h2⟩:=h;exact⟨u,us,rfl,AV.leA_sound hi hle hc.1 h1,AV.leC_sound hi hle hc.2 h2⟩
 | [],_::_,_,hc,_=>hc.elim
 | _::_,[],_,hc,_=>hc.elim
theorem AV.leC_len{S S':St}:∀ {xs ys:List AV},AV.leC S S' xs ys→xs.length=ys.length
 | [],[],_=>rfl
 | x::xs,y::ys,h=>by simp[AV.leC_len h.2]
 | [],_::_,h=>h.elim
 | _::_,[],h=>h.elim
theorem AV.leS_sound{w:World}{S S':St}(hi:Inv w S)(hle:St.le S' S):∀ (x y:AV) (v:Value),AV.leS S S' x y→Rel w (rdOf S) x v→Rel w (rdOf S') y v
 | .sl sh k es,y,v,h,hx=>by
  have hx':=Rel.mono (Adv.shrink hle) _ _ hx
  unfold AV.leS at h
  split at h
  ·obtain⟨rfl,rfl⟩:=h;simp only[Rel] at hx' ⊢
   rcases hx' with ⟨_,rfl,hz⟩ | ⟨b,off,cap,h1,h2,h3,_,h5⟩
   ·exact .inl ⟨rfl,rfl,hz.any⟩
   ·exact .inr ⟨b,off,cap,h1,h2,h3,trivial,h5⟩
  ·obtain⟨hsh,rfl,rfl⟩:=h;simp only[Rel] at hx' ⊢
   rcases hx' with ⟨hh,_⟩ | ⟨b,off,cap,h1,h2,h3,_,h5⟩
   ·rw[hsh] at hh;cases hh
   ·exact .inr ⟨b,off,cap,h1,h2,h3,trivial,h5⟩
  ·simp only[Rel]
  ·subst h;exact hx'
 | .nils,y,v,h,hx=>by
  unfold AV.leS at h
  split at h
  ·subst h;simp only[Rel] at hx ⊢;exact .inl ⟨rfl,trivial,.inl hx⟩
  ·simp only[Rel]
  ·subst h;simpa only[Rel] using hx
 | .ref b off,y,v,h,hx=>by
  unfold AV.leS at h
  split at h
  ·obtain⟨hn,e,cells,hS,rfl⟩:=h;simp only[Rel] at hx ⊢;refine⟨b,off,hx,?_⟩;obtain⟨cs,h1,h2,h3,h4⟩:=obj_cells hi hS;have hall:=RelAt.of_cells (b:=b) (off:=0) (RelL.mono (Adv.shrink hle) _ _ h2) h4 h3 (fun i hi'=>by simp only[rdOf,hn])
   simpa using RelAt.drop hall off
  ·simp only[Rel]
  ·subst h;simpa only[Rel] using hx
 | .ifc t x,y,v,h,hx=>by
  unfold AV.leS at h
  split at h
  ·obtain⟨rfl,h⟩:=h;simp only[Rel] at hx ⊢;obtain⟨u,rfl,hu⟩:=hx;exact⟨u,rfl,AV.leS_sound hi hle x _ u h hu⟩
  ·simp only[Rel]
  ·exact h.elim
 | .tu xs,y,v,h,hx=>by
  unfold AV.leS at h
  split at h
  ·simp only[Rel] at hx ⊢;obtain⟨cs,rfl,hu⟩:=hx;exact⟨cs,rfl,AV.leSL_sound hi hle xs _ _ h hu⟩
  ·simp only[Rel]
  ·exact h.elim
 | .ag xs,y,v,h,hx=>by
  unfold AV.leS at h
  split at h
  ·simp only[Rel] at hx ⊢;obtain⟨cs,rfl,hu,h1⟩:=hx;exact⟨cs,rfl,AV.leSL_sound hi hle xs _ _ h hu,h1⟩
  ·simp only[Rel]
  ·exact h.elim
 | .int k n,y,v,h,hx=>by
  have hx':=Rel.mono (Adv.shrink hle) _ _ hx
  unfold AV.leS at h;split at h;(· simp only[Rel]);subst h;exact hx'
 | .bool k,y,v,h,hx=>by
  have hx':=Rel.mono (Adv.shrink hle) _ _ hx
  unfold AV.leS at h;split at h;(· simp only[Rel]);subst h;exact hx'
 | .str k,y,v,h,hx=>by
  have hx':=Rel.mono (Adv.shrink hle) _ _ hx
  unfold AV.leS at h;split at h;(· simp only[Rel]);subst h;exact hx'
 | .nilp,y,v,h,hx=>by
  have hx':=Rel.mono (Adv.shrink hle) _ _ hx
  unfold AV.leS at h;split at h;(· simp only[Rel]);subst h;exact hx'
 | .imm xs,y,v,h,hx=>by
  have hx':=Rel.mono (Adv.shrink hle) _ _ hx
  unfold AV.leS at h;split at h;(· simp only[Rel]);subst h;exact hx'
 | .arr b off n cap,y,v,h,hx=>by
  have hx':=Rel.mono (Adv.shrink hle) _ _ hx
  unfold AV.leS at h
  split at h
  ·obtain⟨⟨hn,hk,hnc,hcm⟩,e,cells,hS,hlen,cells',hcl,rfl⟩:=h;simp only[Rel] at hx ⊢;obtain⟨cs,h1,h2,h3,h4⟩:=obj_cells hi hS;have hll:=AV.leC_len hcl;have hall:=RelAt.of_cells (b:=b) (off:=0) (AV.leC_sound hi hle hcl h2) h4 h3 (fun i hi'=>by simp only[rdOf,hn])
   have hd:=RelAt.drop hall off
   rw[Nat.zero_add] at hd;refine .inr ⟨b,off,cap,by rw[rowsOf_length];exact hx,by rw[rowsOf_length];exact hnc,hcm,trivial,?_⟩
   exact RelRows.of_rowsOf hk n _ _ hd (by rw[List.length_drop,← hll];omega)
  ·simp only[Rel]
  ·subst h;exact hx'
 | .nilf,y,v,h,hx=>by
  have hx':=Rel.mono (Adv.shrink hle) _ _ hx
  unfold AV.leS at h;split at h;(· simp only[Rel]);subst h;exact hx'
 | .fn _ _ _,y,v,h,hx=>by
  have hx':=Rel.mono (Adv.shrink hle) _ _ hx
  unfold AV.leS at h;split at h;(· simp only[Rel]);subst h;exact hx'
 | .nili,y,v,h,hx=>by
  have hx':=Rel.mono (Adv.shrink hle) _ _ hx
  unfold AV.leS at h;split at h;(· simp only[Rel]);subst h;exact hx'
 | .nilm,y,v,h,hx=>by
  have hx':=Rel.mono (Adv.shrink hle) _ _ hx
  unfold AV.leS at h;split at h;(· simp only[Rel]);subst h;exact hx'
 | .mp _,y,v,h,hx=>by
  have hx':=Rel.mono (Adv.shrink hle) _ _ hx
  unfold AV.leS at h;split at h;(· simp only[Rel]);subst h;exact hx'
 | .raw _,y,v,h,hx=>by
  have hx':=Rel.mono (Adv.shrink hle) _ _ hx
  unfold AV.leS at h;split at h;(· simp only[Rel]);subst h;exact hx'
 | .top,y,v,h,hx=>by
  have hx':=Rel.mono (Adv.shrink hle) _ _ hx
  unfold AV.leS at h;split at h;(· simp only[Rel]);subst h;exact hx'
theorem AV.leSL_sound{w:World}{S S':St}(hi:Inv w S)(hle:St.le S' S):∀ (xs ys:List AV) (vs:List Value),AV.leSL S S' xs ys→RelL w (rdOf S) xs vs→RelL w (rdOf S') ys vs
 | [],ys,vs,h,hx=>by
  simp only[AV.leSL] at h;subst h
  simpa only[RelL] using hx
 | x::xs,ys,vs,h,hx=>by
   unfold AV.leSL at h
   split at h
   ·exact h.elim
   ·simp only[RelL] at hx ⊢;obtain⟨u,us,rfl,h1,h2⟩:=hx;exact⟨u,us,rfl,AV.leS_sound hi hle x _ u h.1 h1,AV.leSL_sound hi hle xs _ us h.2 h2⟩
end
theorem leL_sound{w:World}{rd}:∀ {xs ys:List AV} {vs:List Value},leL xs ys→RelL w rd xs vs→RelL w rd ys vs
 | [],[],vs,_,h=>h
 | x::xs,y::ys,vs,hl,h=>by
   simp only[RelL] at h ⊢;obtain⟨u,us,rfl,h1,h2⟩:=h;exact⟨u,us,rfl,AV.le_sound hl.1 h1,leL_sound hl.2 h2⟩
 | [],_::_,vs,hl,h=>hl.elim
 | _::_,[],vs,hl,h=>hl.elim
theorem St.leW_upd{S:St}{b:Nat}{e:TypeId}{cs cs':List AV}(h:S b=some (.obj e cs))(hl:leL cs cs'):St.leW (S.upd b (.obj e cs')) S:=fun x=>by
 by_cases hx:x=b
 ·subst hx;exact .inr ⟨e,cs,cs',h,St.upd_same _ _ _,hl⟩
 ·exact .inl (St.upd_ne _ _ _ _ hx)
theorem St.leW_rd{S₀ S:St}(h:St.leW S₀ S):rdOf S₀=rdOf S:=by
 funext b off
 rcases h b with h | ⟨e,cs,cs',h1,h2,_⟩
 ·simp only[rdOf,h]
 ·simp only[rdOf,h1,h2]
theorem St.leW_none{S₀ S:St}(h:St.leW S₀ S){b:Nat}(hb:S b=none):S₀ b=none:=by
 rcases h b with h | ⟨e,cs,cs',h1,h2,_⟩
 ·rw[h];exact hb
 ·rw[h1] at hb;cases hb
theorem Good.weakS{w:World}{S₀ S:St}(hg:Good C w S)(h:St.leW S₀ S):Good C w S₀:=by
 refine⟨fun b o ho=>?_,fun g xs hx=>?_⟩
 ·rw[St.leW_rd h]
  rcases h b with hb | ⟨e,cs,cs',h1,h2,hl⟩
  ·exact hg.1 b o (by rw[← hb];exact ho)
  ·rw[h2] at ho
   cases ho
   obtain⟨vs,k1,k2,k3⟩:=hg.1 b _ h1;exact⟨vs,k1,leL_sound hl k2,k3⟩
 ·obtain⟨k1,k2,k3,k4⟩:=hg.2 g xs hx;exact⟨St.leW_none h k1,k2,by rw[St.leW_rd h];exact k3,k4⟩
theorem Adv.weakS{w w':World}{S₀ S S':St}(h:St.leW S₀ S)(ha:Adv w S₀ w' S'):Adv w S w' S':=
 ⟨ha.os,ha.tape,ha.output,ha.size,fun b hb hn=>ha.old b hb (St.leW_none h hn),fun b off hb hr=>ha.stay b off hb (by rw[St.leW_rd h];exact hr),ha.shape⟩
theorem St.leW_refl(S:St):St.leW S S:=fun _=>.inl rfl
theorem RelEnv.weakS{w:World}{S₀ S:St}{tmps:Array Value}{env:Env}{n:Nat}(he:RelEnv w S tmps env n)(h:St.leW S₀ S):RelEnv w S₀ tmps env n:=
 ⟨he.size,fun t=>by rw[St.leW_rd h];exact he.at_ t⟩
theorem Env.le_sound{w:World}{S:St}{tmps:Array Value}{n:Nat}{env:Env}(he:RelEnv w S tmps env n):∀ {env':Env},Env.le env env'→RelEnv w S tmps env' n
 | [],_=>⟨he.size,fun t=>by simp only[look,Rel]⟩
 | (t,x)::r,h=>(Env.le_sound he h.2).know t (AV.le_sound h.1 (he.at_ t))
theorem RelEnv.put'{w:World}{S:St}{tmps:Array Value}{env:Env}{n:Nat}(h:RelEnv w S tmps env n)(d:Tmp)(hd:d<n){x:AV}{v:Value}(hx:Rel w (rdOf S) x v) :
 RelEnv w S (tmps.setIfInBounds d v) ((d,x)::env) n:=
 RelEnv.put (a:=⟨tmps,[]⟩) h (some d) (fun t ht=>by cases ht;exact hd) hx
theorem putPs_sound{w:World}{S:St}{n:Nat}:∀ {tmps:Array Value} {env:Env},RelEnv w S tmps env n→∀ (ps:List Tmp) (xs:List AV) (vs:List Value),(∀ p∈ps,p<n)→xs.length=ps.length→RelL w (rdOf S) xs vs→
 RelEnv w S ((ps.zip vs).foldl (fun tmps (t,a)=>tmps.setIfInBounds t a) tmps) (putPs ps xs env) n
 | tmps,env,he,[],[],vs,hp,hl,hr=>by simpa [putPs] using he
 | tmps,env,he,p::ps,x::xs,vs,hp,hl,hr=>by
   simp only[RelL] at hr;obtain⟨u,us,rfl,h1,h2⟩:=hr;simp only[List.zip_cons_cons,List.foldl_cons,putPs];exact putPs_sound (he.put' p (hp p (by simp)) h1) ps xs us (fun q hq=>hp q (by simp[hq])) (by simpa using hl) h2
 | _,_,_,[],_::_,_,_,hl,_=>by simp at hl
 | _,_,_,_::_,[],_,_,hl,_=>by simp at hl
theorem Adv.setLp{w:World}{S:St}{b:Nat}{R:LpSt→Loop}{st:LpSt}(hS:S b=some (.lp R st))(hb:w.heap[b]? = some (.loop (R st)))(st':LpSt):Adv w S (w.putObj b (.loop (R st'))) (S.upd b (.lp R st')):=by
 have hother:∀ x,x≠b→(w.putObj b (.loop (R st'))).heap[x]? = w.heap[x]?:=fun x hx=>World.putObj_heap_other hx
 refine⟨rfl,rfl,rfl,by simp,fun x hx hn=>?_,fun x off hx hr=>?_,fun x e' n hx=>?_⟩
 ·have hne:x≠b:=St.ne_of' hn hS
  exact⟨by rw[St.upd_ne _ _ _ _ hne];exact hn,hother x hne⟩
 ·have hne:x≠b:=by rintro rfl;simp only[rdOf,hS] at hr
  refine⟨by simp only[rdOf,St.upd_ne _ _ _ _ hne];exact hr,cell_of_block (hother x hne) off⟩
 ·by_cases hne:x=b
  ·subst hne;simp only[World.shape?,hb] at hx
   cases hx
  ·rw[shape_of_block (hother x hne)];exact hx
theorem Good.setLp{w:World}{S:St}{b:Nat}{R:LpSt→Loop}{st:LpSt}(hg:Good C w S)(hS:S b=some (.lp R st))(st':LpSt):Good C (w.putObj b (.loop (R st'))) (S.upd b (.lp R st')):=by
 have hb:w.heap[b]? = some (.loop (R st)):=hg.1 b _ hS
 have hadv:=Adv.setLp hS hb st'
 refine hg.mk (fun x o ho=>?_) hadv
 by_cases hx:x=b
 ·subst hx;rw[St.upd_same] at ho
  cases ho
  exact World.putObj_heap_same (lt_of_block hb)
 ·rw[St.upd_ne _ _ _ _ hx] at ho;exact OwnOk.mono hadv (World.putObj_heap_other hx) (hg.1 x o ho)
theorem Adv.endLp{w:World}{S:St}{b:Nat}{R:LpSt→Loop}{st:LpSt}(hS:S b=some (.lp R st))(hb:w.heap[b]? = some (.loop (R st)))(x:Loop):Adv w S (w.putObj b (.loop x)) (S.del b):=by
 have hother:∀ y,y≠b→(w.putObj b (.loop x)).heap[y]? = w.heap[y]?:=fun y hy=>World.putObj_heap_other hy
 refine⟨rfl,rfl,rfl,by simp,fun y hy hn=>?_,fun y off hy hr=>?_,fun y e' n hy=>?_⟩
 ·have hne:y≠b:=St.ne_of' hn hS
  exact⟨by rw[St.del_ne _ _ _ hne];exact hn,hother y hne⟩
 ·have hne:y≠b:=by rintro rfl;simp only[rdOf,hS] at hr
  refine⟨by simp only[rdOf,St.del_ne _ _ _ hne];exact hr,cell_of_block (hother y hne) off⟩
 ·by_cases hne:y=b
  ·subst hne;simp only[World.shape?,hb] at hy
   cases hy
  ·rw[shape_of_block (hother y hne)];exact hy
theorem Good.endLp{w:World}{S:St}{b:Nat}{R:LpSt→Loop}{st:LpSt}(hg:Good C w S)(hS:S b=some (.lp R st))(x:Loop):Good C (w.putObj b (.loop x)) (S.del b):=by
 have hb:w.heap[b]? = some (.loop (R st)):=hg.1 b _ hS
 have hadv:=Adv.endLp hS hb x
 refine hg.mk (fun y o ho=>?_) hadv
 by_cases hx:y=b
 ·subst hx;rw[St.del_same] at ho
  cases ho
 ·rw[St.del_ne _ _ _ hx] at ho;exact OwnOk.mono hadv (World.putObj_heap_other hx) (hg.1 y o ho)
theorem awp_sound(hm:P.follows .mixedOrders=true){n:Nat}:∀ (c:Code),dstOk n c=true→∀ {nr:Bool},(nr=true→noRange c=true)→∀ {C:Cx} {ro:Option Nat} {m:Nat},TyOk P C→(C.inR=false→ro=none)→∀ {a:Act} {w:World} {S:St} {env:Env},YOk P C w S→Good C w S→RelEnv w S a.tmps env n→∀ {Q:AExit→Env→St→Prop},awp P C c env S Q→
 c.wpIn (Fr ro) m P (Post nr C n a.defers w S Q) a w
 | .skip,hd,nr,hnr,C,ro,m,hT,hro,a,w,S,env,hY,hg,he,Q,h=>wpIn_skip ⟨.normal,env,S,trivial,he,DefOk.refl _ _ _ _ _,hg,Adv.refl w S,h⟩
 | .label l,hd,nr,hnr,C,ro,m,hT,hro,a,w,S,env,hY,hg,he,Q,h=>wpIn_label ⟨.normal,env,S,trivial,he,DefOk.refl _ _ _ _ _,hg,Adv.refl w S,h⟩
 | .ret,hd,nr,hnr,C,ro,m,hT,hro,a,w,S,env,hY,hg,he,Q,h=>wpIn_ret ⟨.ret,env,S,trivial,he,DefOk.refl _ _ _ _ _,hg,Adv.refl w S,h⟩
 | .exit i,hd,nr,hnr,C,ro,m,hT,hro,a,w,S,env,hY,hg,he,Q,h=>wpIn_exit ⟨.exit i,env,S,rfl,he,DefOk.refl _ _ _ _ _,hg,Adv.refl w S,h⟩
 | .seq x y,hd,nr,hnr,C,ro,m,hT,hro,a,w,S,env,hY,hg,he,Q,h=>by
  simp only[dstOk,Bool.and_eq_true] at hd;refine wpIn_seq (wpIn_mono (awp_sound hm x hd.1 (fun hb=>by have:=hnr hb;simp only[noRange,Bool.and_eq_true] at this;exact this.1) hT hro hY hg he h) ?_)
  rintro e a' w' ⟨ae,env',S',h1,h2,h3,h4,h5,h6⟩
  cases ae with
  | normal=>
    cases e<;>simp only[ExRel] at h1
    refine wpIn_mono (awp_sound hm y hd.2 (fun hb=>by have:=hnr hb;simp only[noRange,Bool.and_eq_true] at this;exact this.2) hT hro (hY.mono h5) h4 h2 h6) ?_
    rintro e a'' w'' ⟨ae,env'',S'',k1,k2,k3,k4,k5,k6⟩;exact⟨ae,env'',S'',k1,k2,h3.trans k3 h5.size k5,k4,h5.trans k5,k6⟩
  | exit i=>cases e<;>simp only[ExRel] at h1;exact⟨.exit i,env',S',h1,h2,h3,h4,h5,h6⟩
  | ret=>cases e<;>simp only[ExRel] at h1;exact⟨.ret,env',S',trivial,h2,h3,h4,h5,h6⟩
  | panic x=>cases e<;>simp only[ExRel] at h1;exact⟨.panic x,env',S',h1,h2,h3,h4,h5,h6⟩
 | .region id ops draw,hd,nr,hnr,C,ro,m,hT,hro,a,w,S,env,hY,hg,he,Q,h=>by
  cases draw with
  | true=>
    obtain⟨qc,pl,M,hok,hpl,hM⟩:=h;refine draw_sound hT hm (fun o ho d hod=>?_) hY hg he hok hpl (fun env' a' w' S' k1 k2 k3 k4 k5=>?_) (fun x v a' w' S' k1 k2 k0 k3 k4 k5=>⟨.panic x,[],S',⟨v,rfl,k2⟩,⟨k0,fun t=>by simp only[look,Rel]⟩,DefOk.of_eq k3,k4,k5,k1⟩)
    ·simp only[dstOk,List.all_eq_true] at hd;have:=hd o (by simpa using ho)
     simp only[hod] at this;exact Nat.le_of_ble_eq_true this
    ·obtain⟨F,f1,f2⟩:=hM env' S' k1
     rcases f1 with rfl | f1
     ·exact⟨.normal,F,S',trivial,k2,DefOk.of_eq k3,k4,k5,f2⟩
     ·exact⟨.normal,F,S',trivial,Env.le_sound k2 f1,DefOk.of_eq k3,k4,k5,f2⟩
  | false=>
    refine wpIn_region_list (aOps_sound hT ops ops.toList (fun o ho d hod=>?_) hY hg he h (fun env' a' w' S' k1 k2 k3 k4 k5=>⟨.normal,env',S',trivial,k2,DefOk.of_eq k3,k4,k5,k1⟩) (fun x v a' w' S' k1 k2 k0 k3 k4 k5=>⟨.panic x,[],S',⟨v,rfl,k2⟩,⟨k0,fun t=>by simp only[look,Rel]⟩,DefOk.of_eq k3,k4,k5,k1⟩))
    ·simp only[dstOk,List.all_eq_true] at hd;have:=hd o ho;simp only[hod] at this;exact Nat.le_of_ble_eq_true this
 | .cond (.tmp t) x y,hd,nr,hnr,C,ro,m,hT,hro,a,w,S,env,hY,hg,he,Q,h=>by
  simp only[dstOk,Bool.and_eq_true] at hd;unfold awp at h
  split at h
  ·rename_i b hb
   have hbr:=he.at_ t
   rw[hb] at hbr;simp only[Rel] at hbr;rw[split_iff] at h;have hev:a.eval (.tmp t)=.bool b:=hbr;refine wpIn_cond_split hev (fun hb'=>?_) (fun hb'=>?_)
   ·subst hb';exact awp_sound hm x hd.1 (fun hb=>by have:=hnr hb;simp only[noRange,Bool.and_eq_true] at this;exact this.1) hT hro hY hg (he.know t (by simp only[Rel];exact hbr)) (h.1 rfl)
   ·subst hb';exact awp_sound hm y hd.2 (fun hb=>by have:=hnr hb;simp only[noRange,Bool.and_eq_true] at this;exact this.2) hT hro hY hg (he.know t (by simp only[Rel];exact hbr)) (h.2 rfl)
  ·exact h.elim
 | .cond (.const v) x y,hd,nr,hnr,C,ro,m,hT,hro,a,w,S,env,hY,hg,he,Q,h=>h.elim
 | .cond (.global v) x y,hd,nr,hnr,C,ro,m,hT,hro,a,w,S,env,hY,hg,he,Q,h=>h.elim
 | .cond (.func v) x y,hd,nr,hnr,C,ro,m,hT,hro,a,w,S,env,hY,hg,he,Q,h=>h.elim
 | .block id c,hd,nr,hnr,C,ro,m,hT,hro,a,w,S,env,hY,hg,he,Q,h=>by
  refine wpIn_block (wpIn_mono (awp_sound hm c hd hnr hT hro hY hg he h) ?_);rintro e a' w' ⟨ae,env',S',h1,h2,h3,h4,h5,h6⟩
  cases ae with
  | normal=>cases e<;>simp only[ExRel] at h1;exact⟨.normal,env',S',trivial,h2,h3,h4,h5,h6⟩
  | exit i=>
    cases e<;>simp only[ExRel] at h1
    subst h1;simp only[cond_eq_ite] at h6;simp only[Exit.inBlock]
    by_cases hi:i=id
    ·subst hi;rw[if_pos rfl];rw[if_pos (Nat.beq_refl i)] at h6;exact⟨.normal,env',S',trivial,h2,h3,h4,h5,h6⟩
    ·rw[if_neg hi];rw[if_neg (fun hh=>hi (Nat.eq_of_beq_eq_true hh))] at h6
     exact⟨.exit i,env',S',rfl,h2,h3,h4,h5,h6⟩
  | ret=>cases e<;>simp only[ExRel] at h1;exact⟨.ret,env',S',trivial,h2,h3,h4,h5,h6⟩
  | panic x=>cases e<;>simp only[ExRel] at h1;exact⟨.panic x,env',S',h1,h2,h3,h4,h5,h6⟩
 | .loop c,hd,nr,hnr,C,ro,m,hT,hro,a,w,S,env,hY,hg,he,Q,h=>by
  obtain⟨L,⟨i₀,hle,S₀,hW,hG⟩,hround⟩:=h;have hadv0:Adv w S w S₀:=Adv.weakS hW (Adv.refl w S₀);refine Go.wpIn_loop_ghost (fun m a' w'=>∃ i S',L.μ i=m∧L.G i S'∧RelEnv w' S' a'.tmps (L.F i) n∧DefOk nr w a.defers w' S' a'.defers∧Good C w' S'∧Adv w S w' S') (L.μ i₀) ⟨i₀,S₀,rfl,hG,Env.le_sound (he.weakS hW) hle,DefOk.refl _ _ _ _ _,hg.weakS hW,hadv0⟩ ?_
  rintro m a' w' ⟨i,S',rfl,hG',he',hde,hg',hadv⟩;refine wpIn_mono (awp_sound hm c hd hnr hT hro (hY.mono hadv) hg' he' (hround i S' hG')) ?_;rintro e a'' w'' ⟨ae,env',S'',h1,h2,h3,h4,h5,h6⟩
  cases ae with
  | normal=>
    cases e<;>simp only[ExRel] at h1
    obtain⟨j,hle',⟨S₃,hW',hG''⟩,hlt⟩:=h6;exact⟨L.μ j,hlt,j,S₃,rfl,hG'',Env.le_sound (h2.weakS hW') hle',(hde.trans h3 hadv.size h5).adv (Adv.weakS hW' (Adv.refl _ _)),h4.weakS hW',hadv.trans (h5.trans (Adv.weakS hW' (Adv.refl _ _)))⟩
  | exit i=>cases e<;>simp only[ExRel] at h1;exact⟨.exit i,env',S'',h1,h2,hde.trans h3 hadv.size h5,h4,hadv.trans h5,h6⟩
  | ret=>cases e<;>simp only[ExRel] at h1;exact⟨.ret,env',S'',trivial,h2,hde.trans h3 hadv.size h5,h4,hadv.trans h5,h6⟩
  | panic x=>cases e<;>simp only[ExRel] at h1;exact⟨.panic x,env',S'',h1,h2,hde.trans h3 hadv.size h5,h4,hadv.trans h5,h6⟩
 | .scope c,hd,nr,hnr,C,ro,m,hT,hro,a,w,S,env,hY,hg,he,Q,h=>h.elim
 | .rangeFunc g ps assign body,hd,nr,hnr,C,ro,m,hT,hro,a,w,S,env,hY,hg,he,Q,h=>by
  simp only[dstOk,Bool.and_eq_true] at hd;obtain⟨hdp,hda,hdb⟩:=hd;unfold awp at h
  split at h
  ·rename_i gf lb hR hgv
   have hr0:=hro hR
   subst hr0;rw[forceL_eq] at h;have hgr:=ev_sound hg he g;rw[hgv] at hgr;simp only[Rel] at hgr;obtain⟨b1,b2,e1,r1,r2⟩:=hgr;simp only[RelL] at r1;have hb1:b1=#[]:=by simpa using r1
   subst hb1;refine wpIn_rangeFunc ?_;intro fn hfn;obtain⟨R,hRd⟩:∃ R:LpSt→Loop,R=fun st=>match st with
    | .ready=>{ state:=.ready,pending:=none,fn,tmps:=a.tmps,params:=ps,assign,body,defers:=w.heap.size }
    | .busy=>{ state:=.busy,pending:=none,fn,tmps:=a.tmps,params:=ps,assign,body,defers:=w.heap.size }
    | .done c=>{ state:=.done,pending:=some c,fn,tmps:=a.tmps,params:=ps,assign,body,defers:=w.heap.size }:=⟨_,rfl⟩
   have hSD:=hg.1.fresh
   have hg0:Good C (w.alloc (.deferred (some []))) S:=hg.mk (hg.1.alloc _) (Adv.alloc _ hSD)
   have hSl:=hg0.1.fresh
   have hadv1:Adv w S ((w.alloc (.deferred (some []))).alloc (.loop (R .ready))) (S.upd (w.alloc (.deferred (some []))).heap.size (.lp R .ready)):=(Adv.alloc _ hSD).trans (Adv.allocOwn _ _ hSl)
   have hg1:Good C ((w.alloc (.deferred (some []))).alloc (.loop (R .ready))) (S.upd (w.alloc (.deferred (some []))).heap.size (.lp R .ready)):=hg0.mk (hg0.1.allocOwn _ _ (heap_alloc_new _ _)) (Adv.allocOwn _ _ hSl)
   have hD1:((w.alloc (.deferred (some []))).alloc (.loop (R .ready))).heap[w.heap.size]? = some (.deferred (some [])):=(heap_alloc_lt _ _ (by simp)).trans (heap_alloc_new w _)
   have ht:=h (w.alloc (.deferred (some []))).heap.size R hSl
   rw[World.size_alloc] at ht hSl hg1 hadv1;have hSD1:(S.upd (w.heap.size+1) (.lp R .ready)) w.heap.size=none:=by rw[St.upd_ne _ _ _ _ (by omega)];exact hSD
   refine⟨w.heap.size+1,[markD w.heap.size],(w.alloc (.deferred (some []))).alloc (.loop (R .ready)),{ target:=.fn (.func gf) b2,args:=#[Value.func (.yield (w.heap.size+1)) #[] #[]] },(w.alloc (.deferred (some []))).alloc (.loop (R .ready)),gf,
    #[Value.func (.yield (w.heap.size+1)) #[] #[]]++b2,(w.alloc (.deferred (some []))).alloc (.loop (R .ready)),?_,?_,fun _ _=>trivial,?_,fun hh=>by simp[Fr,Fence.wide] at hh,?_⟩
   ·rw[hRd];exact run_enterLoop_outer _ _ _ _ _
   ·simp only[resolve,e1]
    simp[go_sem]
   ·simp only[invoke];exact ht.enter _ _
   ·have hrel1:RelL ((w.alloc (.deferred (some []))).alloc (.loop (R .ready))) (rdOf (S.upd (w.heap.size+1) (.lp R .ready))) (.fn (.yield (w.heap.size+1)) [] []::lb) (#[Value.func (.yield (w.heap.size+1)) #[] #[]]++b2).toList:=by
     simp only[Array.toList_append,List.singleton_append,RelL];exact⟨_,_,rfl,by simp only[Rel];exact⟨#[],#[],rfl,by simp[RelL],by simp[RelL]⟩,RelL.mono hadv1 _ _ r2⟩
    refine CallsIn.mono (callsIn_wide.2 (ht.out _ _ ?_ hg1 hrel1)) ?_
    ·-- A ROUND
     intro y hy xs S2 K hspec w2 vs m2 hadv2 hg2 hrel2;simp only[Cx.withY,Option.some.injEq] at hy;subst hy;obtain⟨⟨hS2,hlen⟩,haw⟩:=hspec;have hg2:Good C w2 S2:=hg2;have hL2:w2.heap[w.heap.size+1]? = some (.loop (R .ready)):=hg2.1 _ _ hS2;have hsz:vs.size=ps.size:=by have:=RelL.length hrel2;simp at this;omega
     have hyr:=run_yield (P:=P) (args:=vs) hL2 (by rw[hRd];exact hsz)
     have hadv02:=hadv1.trans hadv2
     have he2:RelEnv w2 S2 ((ps.zip vs).foldl (fun tmps (t,a)=>tmps.setIfInBounds t a) a.tmps) (putPs ps.toList xs env) n:=by
      have:=putPs_sound (he.mono hadv02) ps.toList xs vs.toList (fun p hp=>by simpa using List.all_eq_true.1 hdp p hp) (by simpa using hlen) hrel2
      rw[← Array.foldl_toList,Array.toList_zip];exact this
     rw[hRd] at hyr;refine⟨fn,_,assign,body,hyr,roundIn_of_wpIn (F:=Fence.wide) trivial ?_⟩;refine wpIn_mono (awp_sound hm assign hda (nr:=false) (fun hb=>by cases hb) (C:=C.round) (ro:=some (w.heap.size+1)) hT (fun hh=>by simp[Cx.round] at hh) (a:={ tmps:=_,defers:=[] }) (fun y hy=>(hY.mono hadv02) y hy) hg2 he2 haw) ?_
     rintro e a1 w3 ⟨ae,env1,S3,x1,x2,x3,x4,x5,x6⟩
     cases ae with
     | normal=>
       cases e<;>simp only[ExRel] at x1
       obtain⟨hS3,x6⟩:=x6;have x4:Good C w3 S3:=x4;have hL3:w3.heap[w.heap.size+1]? = some (.loop (R .ready)):=x4.1 _ _ hS3;have hbr:=run_beginRound (P:=P) hL3 (by rw[hRd])
       have hb2:({ R .ready with state:=.busy }:Loop)=R .busy:=by rw[hRd]
       rw[hb2] at hbr;have ha4:=Adv.setLp hS3 hL3 .busy;have hg4:=x4.setLp hS3 .busy;refine⟨_,hbr,?_⟩;refine wpIn_mono (awp_sound hm body hdb (nr:=false) (fun hb=>by cases hb) (C:=C.round) (ro:=some (w.heap.size+1)) hT (fun hh=>by simp[Cx.round] at hh) (fun y hy=>(hY.mono ((hadv02.trans x5).trans ha4)) y hy) hg4 (x2.mono ha4) x6) ?_
       rintro e a5 w5 ⟨ae,env5,S5,z1,z2,z3,z4,z5,hS5,z6⟩;have z4:Good C w5 S5:=z4;have hL5:w5.heap[w.heap.size+1]? = some (.loop (R .busy)):=z4.1 _ _ hS5;have fin:∀ (jump:Option Code) (st:LpSt),({ R .busy with state:=if jump.isNone then .ready else .done,pending:=jump }:Loop)=R st→K jump.isNone (S5.upd (w.heap.size+1) (.lp R st))→
        ∃ v w',(Instr.endRound (w.heap.size+1) jump).run P w5=.ok v w'∧∃ b S',(Ending.returned v)=.returned (.bool b)∧Good C w' S'∧Adv w2 S2 w' S'∧K b S':=fun jump st hst hk=>by
        have:=run_endRound (P:=P) jump hL5
        rw[hst] at this;exact⟨_,_,this,_,_,rfl,z4.setLp hS5 st,(x5.trans ha4).trans (z5.trans (Adv.setLp hS5 hL5 st)),hk⟩
       cases ae with
       | normal=>cases e<;>simp only[ExRel] at z1;exact fin none .ready (by rw[hRd];rfl) z6
       | ret=>cases e<;>simp only[ExRel] at z1;exact fin (some .ret) (.done .ret) (by rw[hRd];rfl) z6
       | exit i=>cases e<;>simp only[ExRel] at z1;subst z1;exact fin (some (.exit i)) (.done (.exit i)) (by rw[hRd];rfl) z6
       | panic x=>exact z6.elim
     | exit i=>exact x6.elim
     | ret=>exact x6.elim
     | panic x=>exact x6.elim
    ·-- THE END
     rintro e w3 ⟨o,S3,ho,hg3,hadv3,⟨x,rfl⟩,st,hS3,hq⟩;have hg3:Good C w3 S3:=hg3
     cases e with
     | returned v=>
       have hL3:w3.heap[w.heap.size+1]? = some (.loop (R st)):=hg3.1 _ _ hS3
       have ha4:∀ x,Adv w3 S3 (w3.putObj (w.heap.size+1) (.loop x)) (S3.del (w.heap.size+1)):=fun x=>Adv.endLp hS3 hL3 x
       have hg4:∀ x,Good C (w3.putObj (w.heap.size+1) (.loop x)) (S3.del (w.heap.size+1)):=fun x=>hg3.endLp hS3 x
       have hadv4:∀ x,Adv w S (w3.putObj (w.heap.size+1) (.loop x)) (S3.del (w.heap.size+1)):=fun x=>(hadv1.trans hadv3).trans (ha4 x)
       have hdef:∀ x,DefOk nr w a.defers (w3.putObj (w.heap.size+1) (.loop x)) (S3.del (w.heap.size+1)) ([markD w.heap.size]++a.defers):=fun x=>by
        obtain⟨k1,k2⟩:=(hadv3.trans (ha4 x)).old _ (lt_of_block hD1) hSD1;exact⟨[w.heap.size],rfl,by simp,fun hb=>by have:=hnr hb;simp[noRange] at this,fun D hD=>by simp at hD;subst hD;exact⟨Nat.le_refl _,k1,k2.trans hD1⟩⟩
       cases st with
       | ready=>
         have:=run_endLoop (P:=P) hL3 (by rw[hRd];simp)
         rw[show(R .ready).pending=none by rw[hRd]] at this
         exact⟨_,_,this,.normal,env,_,trivial,he.mono (hadv4 _),hdef _,hg4 _,hadv4 _,hq⟩
       | busy=>exact hq.elim
       | done c=>
         have:=run_endLoop (P:=P) hL3 (by rw[hRd];simp)
         rw[show(R (.done c)).pending=some c by rw[hRd]] at this
         refine⟨_,_,this,?_⟩;dsimp only
         cases c<;>dsimp only at hq<;>first | exact hq.elim | skip
         ·exact wpIn_exit ⟨.exit _,env,_,rfl,he.mono (hadv4 _),hdef _,hg4 _,hadv4 _,hq⟩
         ·exact wpIn_ret ⟨.ret,env,_,trivial,he.mono (hadv4 _),hdef _,hg4 _,hadv4 _,hq⟩
     | panicked ch=>exact ho.elim
     | outgrown=>exact ho.elim
  ·exact h.elim
 | .goto _,hd,nr,hnr,C,ro,m,hT,hro,a,w,S,env,hY,hg,he,Q,h=>h.elim
 | .refuse _,hd,nr,hnr,C,ro,m,hT,hro,a,w,S,env,hY,hg,he,Q,h=>h.elim
def resF(tmps:Array Value):ResultVar→Sem Value
 | .tmp t=>pure (tmps.getD t undef)
 | .cell a t=>do loadVar t (← asAddr (tmps.getD a undef))
theorem aLoad_ptr{w:World}{rd}{S:St}{t:TypeId}{p:AV}{x:Value}(hx:Rel w rd p x){K:AV→Prop}(h:aLoad C t p S K):∃ ad,x=.pointer (some ad):=by
 unfold aLoad at h
 split at h
 ·simp only[Rel] at hx;obtain⟨b,off,rfl,_⟩:=hx;exact⟨_,rfl⟩
 ·simp only[Rel] at hx;exact⟨_,hx⟩
 ·exact h.elim
theorem aRes_run(hT:TyOk P C){w:World}{S:St}{tmps:Array Value}{env:Env}{n:Nat}(hg:Good C w S)(he:RelEnv w S tmps env n):∀ (rs:List ResultVar) {K:List AV→Prop},aRes C env S rs K→
 ∃ xs vs,K xs∧(rs.mapM (resF tmps)).run P w=.ok vs w∧RelL w (rdOf S) xs vs∧vs.length=rs.length
 | [],K,h=>⟨[],[],h,rfl,by simp[RelL],rfl⟩
 | .tmp t::r,K,h=>by
  simp only[aRes,force_eq] at h;obtain⟨xs,vs,h1,h2,h3,h4⟩:=aRes_run hT hg he r h;refine⟨look t env::xs,tmps.getD t undef::vs,h1,?_,?_,by simp[h4]⟩
  ·rw[List.mapM_cons];simp only[resF,Sem.run_bind,Sem.run_pure,Result.andThen_ok,h2]
  ·simp only[RelL];exact⟨_,vs,rfl,he.at_ t,h3⟩
 | .cell a t::r,K,h=>by
  simp only[aRes] at h;obtain⟨x,v,h1,h2,h3⟩:=aLoad_sound (P:=P) hT hg.1 (he.at_ a) h;obtain⟨xs,vs,k1,k2,k3,k4⟩:=aRes_run hT hg he r h1;refine⟨x::xs,v::vs,k1,?_,?_,by simp[k4]⟩
  ·rw[List.mapM_cons];obtain⟨ad,had⟩:=aLoad_ptr (he.at_ a) h;rw[had] at h3;simp only[Instr.loadAt,Instr.sureAddr,Sem.run_bind,Sem.run_pure,Result.andThen_ok] at h3;have h5:(resF tmps (.cell a t)).run P w=.ok v w:=by
    simp only[resF,had,asAddr,Sem.run_bind,Sem.run_pure,Result.andThen_ok,h3]
   simp only[Sem.run_bind,h5,Result.andThen_ok,k2,Sem.run_pure]
  ·simp only[RelL];exact⟨_,vs,rfl,h2,k3⟩
theorem results_sound(hT:TyOk P C){w:World}{S:St}{tmps:Array Value}{env:Env}{n:Nat}(hg:Good C w S)(he:RelEnv w S tmps env n){fn:Func}{K:AV→Prop}(h:aOut C fn.results.toList env S K) :
 ∃ x v,K x∧(results fn tmps).run P w=.ok v w∧Rel w (rdOf S) x v:=by
 have hres:results fn tmps=(fn.results.mapM (resF tmps) >>= fun vs=>pure (if h:vs.size=1 then vs[0] else .tuple vs):Sem Value):=by
  unfold results
  congr 1
 rw[hres,Array.mapM_eq_mapM_toList];unfold aOut at h
 split at h
 ·rename_i r hr
  obtain⟨xs,vs,h1,h2,h3,h4⟩:=aRes_run (P:=P) hT hg he [r] h;rw[hr]
  match vs,h4 with
  | [v],_=>
   match xs,h3,h1 with
   | [x],h3,h1=>
    unfold RelL at h3;obtain⟨u,us,hu,h5,_⟩:=h3;simp only[List.cons.injEq] at hu;obtain⟨rfl,_⟩:=hu;exact⟨x,v,h1,by simp only[Sem.run_bind,Sem.run_map,h2,Result.andThen_ok,Sem.run_pure];rfl,h5⟩
 ·rename_i hne
  obtain⟨xs,vs,h1,h2,h3,h4⟩:=aRes_run (P:=P) hT hg he fn.results.toList h;have hn1:¬ vs.toArray.size=1:=by
   intro hh;have hl:fn.results.toList.length=1:=by rw[← h4];simpa using hh
   match hr:fn.results.toList,hl with
   | [r],_=>exact hne r hr
  refine⟨.tu xs,.tuple vs.toArray,h1,?_,by simp only[Rel];exact⟨_,rfl,by simpa using h3⟩⟩
  simp only[Sem.run_bind,Sem.run_map,h2,Result.andThen_ok,Sem.run_pure];rw[dif_neg hn1]
theorem argEnv_sound{w:World}{S:St}:∀ (i:Nat) (args:List AV) (vs:List Value),RelL w (rdOf S) args vs→∀ (t:Nat),Rel w (rdOf S) (look t (argEnv i args)) ((vs[t-i]?).getD undef)∨look t (argEnv i args)=.top
 | i,[],vs,h,t=>.inr rfl
 | i,x::xs,vs,h,t=>by
   simp only[RelL] at h;obtain⟨u,us,rfl,h1,h2⟩:=h;simp only[argEnv,look_cons]
   by_cases e:i=t
   ·subst e
    left
    simp only[if_true]
    simpa using h1
   ·rw[if_neg e]
    rcases argEnv_sound (i+1) xs us h2 t with h | h
    ·by_cases hlt:t<i
     ·right
      clear h h1 h2 e;have:∀ (ys:List AV) (j:Nat),t<j→look t (argEnv j ys)=.top:=by
       intro ys
       induction ys with
       | nil=>intro j _;rfl
       | cons y ys ih=>intro j hj;simp only[argEnv,look_cons,if_neg (show ¬ j=t by omega)];exact ih (j+1) (by omega)
      exact this xs (i+1) (by omega)
     ·left
      rw[show t-i=(t-(i+1))+1 from by omega]
      simpa using h
    ·exact .inr h
structure Shut (w w':World):Prop where
 os:w'.os=w.os
 tape:w'.tape=w.tape
 output:w'.output=w.output
 size:w'.heap.size=w.heap.size
 at_:∀ b:Nat,w'.heap[b]? = w.heap[b]?∨∃ x y,w.heap[b]? = some (Obj.deferred x)∧w'.heap[b]? = some (Obj.deferred y)
theorem Shut.refl(w:World):Shut w w:=⟨rfl,rfl,rfl,rfl,fun _=>.inl rfl⟩
theorem Shut.trans{w w' w'':World}(h:Shut w w')(k:Shut w' w''):Shut w w'':=
 ⟨k.os.trans h.os,k.tape.trans h.tape,k.output.trans h.output,k.size.trans h.size,fun b=>by
  rcases h.at_ b with h1 | ⟨x,y,h1,h2⟩
  ·rcases k.at_ b with k1 | ⟨x,y,k1,k2⟩
   ·exact .inl (k1.trans h1)
   ·exact .inr ⟨x,y,h1 ▸ k1,k2⟩
  ·rcases k.at_ b with k1 | ⟨x',y',k1,k2⟩
   ·exact .inr ⟨x,y,h1,k1.trans h2⟩
   ·exact .inr ⟨x,y',h1,k2⟩⟩
theorem Shut.put{w:World}{D:Nat}{x y:Option (List Deferred)}(h:w.heap[D]? = some (.deferred x)):Shut w (w.putObj D (.deferred y)):=
 ⟨rfl,rfl,rfl,by simp,fun b=>by
  by_cases hb:b=D
  ·subst hb;exact .inr ⟨x,y,h,World.putObj_heap_same (lt_of_block h)⟩
  ·exact .inl (World.putObj_heap_other hb)⟩
theorem Shut.same{w w':World}(h:Shut w w'){b:Nat}{o:Obj}(ho:w.heap[b]? = some o)(hn:∀ x,o≠.deferred x):w'.heap[b]? = some o:=by
 rcases h.at_ b with h1 | ⟨x,y,h1,h2⟩
 ·exact h1.trans ho
 ·rw[ho] at h1;cases h1;exact absurd rfl (hn x)
theorem Shut.cell{w w':World}(h:Shut w w')(b off:Nat):w'.cell? ⟨b,off,none⟩=w.cell? ⟨b,off,none⟩:=by
 rcases h.at_ b with h1 | ⟨x,y,h1,h2⟩
 ·exact cell_of_block h1 off
 ·simp[World.cell?,h1,h2]
theorem Shut.shape{w w':World}(h:Shut w w')(b:Nat):w'.shape? b=w.shape? b:=by
 rcases h.at_ b with h1 | ⟨x,y,h1,h2⟩
 ·exact shape_of_block h1
 ·simp[World.shape?,h1,h2]
section shut
variable {w w':World} {rd:Nat→Nat→Prop}
theorem stab_shut(h:Shut w w'){b off:Nat}{v:Value}(hs:stab w rd b off v):stab w' rd b off v:=⟨hs.1,(h.cell b off).trans hs.2.1,hs.2.2⟩
theorem ShOk_shut(h:Shut w w'){sh:Sh}{k b off n cap:Nat}(hs:ShOk w sh k b off n cap):ShOk w' sh k b off n cap:=by
 cases sh with
 | own b'=>obtain⟨h1,h2,e,h3⟩:=hs;exact⟨h1,h2,e,(h.shape _).trans h3⟩
 | acc b'=>obtain⟨h0,h1,h2,e,h3⟩:=hs;exact⟨h0,h1,h2,e,(h.shape _).trans h3⟩
 | _=>exact hs
mutual
theorem Rel.shut(h:Shut w w'):∀ (x:AV) (v:Value),Rel w rd x v→Rel w' rd x v
 | .int ..,v,hr=>by simpa only[Rel] using hr
 | .bool ..,v,hr=>by simpa only[Rel] using hr
 | .str ..,v,hr=>by simpa only[Rel] using hr
 | .nilp,v,hr=>by simpa only[Rel] using hr
 | .ref ..,v,hr=>by simpa only[Rel] using hr
 | .imm xs,v,hr=>by
  simp only[Rel] at hr ⊢;obtain⟨b,off,h1,h2⟩:=hr;exact⟨b,off,h1,RelAt.shut h b off xs h2⟩
 | .nils,v,hr=>by simpa only[Rel] using hr
 | .sl sh k es,v,hr=>by
  simp only[Rel] at hr ⊢
  rcases hr with hr | ⟨b,off,cap,h1,h2,h3,h4,h5⟩
  ·exact .inl hr
  ·exact .inr ⟨b,off,cap,h1,h2,h3,ShOk_shut h h4,RelRows.shut h k b off es h5⟩
 | .arr ..,v,hr=>by simpa only[Rel] using hr
 | .ag xs,v,hr=>by
  simp only[Rel] at hr ⊢;obtain⟨cs,h1,h2,h3⟩:=hr;exact⟨cs,h1,RelL.shut h xs _ h2,h3⟩
 | .tu xs,v,hr=>by
  simp only[Rel] at hr ⊢;obtain⟨cs,h1,h2⟩:=hr;exact⟨cs,h1,RelL.shut h xs _ h2⟩
 | .nilf,v,hr=>by simpa only[Rel] using hr
 | .fn f xs ys,v,hr=>by
  simp only[Rel] at hr ⊢;obtain⟨a,b,h1,h2,h3⟩:=hr;exact⟨a,b,h1,RelL.shut h xs _ h2,RelL.shut h ys _ h3⟩
 | .nili,v,hr=>by simpa only[Rel] using hr
 | .ifc t x,v,hr=>by
  simp only[Rel] at hr ⊢;obtain⟨y,h1,h2⟩:=hr;exact⟨y,h1,Rel.shut h x y h2⟩
 | .nilm,v,hr=>by simpa only[Rel] using hr
 | .mp ..,v,hr=>by simpa only[Rel] using hr
 | .raw ..,v,hr=>by simpa only[Rel] using hr
 | .top,v,hr=>by simp only[Rel]
theorem RelL.shut(h:Shut w w'):∀ (xs:List AV) (vs:List Value),RelL w rd xs vs→RelL w' rd xs vs
 | [],vs,hr=>by simpa only[RelL] using hr
 | x::xs,vs,hr=>by
   simp only[RelL] at hr ⊢;obtain⟨u,us,h1,h2,h3⟩:=hr;exact⟨u,us,h1,Rel.shut h x u h2,RelL.shut h xs us h3⟩
theorem RelAt.shut(h:Shut w w')(b off:Nat):∀ (xs:List AV),RelAt w rd b off xs→RelAt w' rd b off xs
 | [],hr=>by simp only[RelAt]
 | x::xs,hr=>by
   simp only[RelAt] at hr ⊢;obtain⟨⟨v,h1,h2⟩,h3⟩:=hr;exact⟨⟨v,stab_shut h h1,Rel.shut h x v h2⟩,RelAt.shut h b (off+1) xs h3⟩
theorem RelRows.shut(h:Shut w w')(k b off:Nat):∀ (es:List (List AV)),RelRows w rd k b off es→RelRows w' rd k b off es
 | [],hr=>by simp only[RelRows]
 | e::es,hr=>by
   simp only[RelRows] at hr ⊢;obtain⟨⟨h1,h2⟩,h3⟩:=hr;exact⟨⟨h1,RelAt.shut h b off e h2⟩,RelRows.shut h k b (off+k) es h3⟩
end
theorem OwnOk.shut(h:Shut w w'){b:Nat}{o:Own}(ho:OwnOk w rd b o):OwnOk w' rd b o:=by
 cases o with
 | obj e cells=>obtain⟨cs,h1,h2,h3⟩:=ho;exact⟨cs,h.same h1 (by simp),RelL.shut h _ _ h2,h3⟩
 | tip e k n=>obtain⟨cur,cap,h1,h2⟩:=ho;exact⟨cur,cap,h.same h1 (by simp),h2⟩
 | mapo es=>obtain⟨ms,c,h1,h2,h3,h4⟩:=ho;exact⟨ms,c,h.same h1 (by simp),RelL.shut h _ _ h2,RelL.shut h _ _ h3,h4⟩
 | siter s pos=>exact h.same ho (by simp)
 | lp R st=>exact h.same ho (by simp)
 | miter cur left=>
   obtain⟨m,since,seen,last,h1,h2⟩:=ho;refine⟨m,since,seen,last,h.same h1 (by simp),?_⟩
   cases m with
   | none=>exact h2
   | some r=>
     obtain⟨k1,ms,k2,k3,k4,k5,k6,k7⟩:=h2;exact⟨k1,ms,h.same k2 (by simp),k3,k4,RelL.shut h _ _ k5,RelL.shut h _ _ k6,fun kv hkv=>by
      obtain⟨e,e1,e2,e3,e4⟩:=k7 kv hkv;exact⟨e,e1,e2,Rel.shut h _ _ e3,Rel.shut h _ _ e4⟩⟩
theorem Good.shut(h:Shut w w'){S:St}(hg:Good C w S):Good C w' S:=
 ⟨fun b o ho=>OwnOk.shut h (hg.1 b o ho),fun g xs hx=>by
  obtain⟨k1,k2,k3,e,k4⟩:=hg.2 g xs hx;exact⟨k1,by rw[h.size];exact k2,RelAt.shut h _ _ _ k3,e,(h.shape g).trans k4⟩⟩
end shut
theorem leaves_marks{F:Fence}{m:Nat}{fn:Func}{tmps:Array Value}{R:Ending→World→Prop}{u:FrameMode}(hu:u≠.run):∀ (ms:List Nat) (w:World),ms.Nodup→(∀ D∈ms,w.heap[D]? = some (.deferred (some [])))→
 (∀ w',Shut w w'→(∀ b,b ∉ ms→w'.heap[b]? = w.heap[b]?)→LeavesIn F m P fn tmps R [] u w')→LeavesInM F m P fn tmps R (ms.map markD++[]) u w
 | [],w,hn,hm,h=>h w (Shut.refl w) (fun _ _=>rfl)
 | D::ms,w,hn,hm,h=>by
   have hD:=hm D (by simp)
   rw[List.nodup_cons] at hn;refine⟨hu,.inl ⟨D,_,rfl,run_takeDeferred hD,leaves_marks hu ms _ hn.2 (fun D' hD'=>?_) (fun w' h1 h2=>h w' ((Shut.put hD).trans h1) (fun b hb=>?_))⟩⟩
   ·exact(World.putObj_heap_other (by rintro rfl;exact hn.1 hD')).trans (hm D' (by simp[hD']))
   ·simp only[List.mem_cons,not_or] at hb;exact(h2 b hb.2).trans (World.putObj_heap_other hb.1)
theorem bodyPostM_of_post{nr:Bool}{F:Fence}{fn:Func}{R:Ending→World→Prop}(hT:TyOk P C){n m:Nat}{w:World}{S:St}{rs:List ResultVar}(hrs:fn.results.toList=rs){Q:Out→St→Prop}
 (hR:∀ o S' e w',OutRel w' S' o e→Good C w' S'→Adv w S w' S'→Q o S'→R e w') {e:Exit} {a':Act} {w':World} (h:Post nr C n [] w S (aPost C rs Q) e a' w'):bodyPostM F m P fn R e a' w':=by
 obtain⟨ae,env',S',h1,h2,⟨ms,hms,hnd,_,hmk⟩,h4,h5,h6⟩:=h;have close:∀ w'',Shut w' w''→(∀ b,b ∉ ms→w''.heap[b]? = w'.heap[b]?)→RelEnv w'' S' a'.tmps env' n∧Good C w'' S'∧Adv w S w'' S':=fun w'' hs ho=>by
  refine⟨⟨h2.size,fun t=>Rel.shut hs _ _ (h2.at_ t)⟩,Good.shut hs h4,hs.os.trans h5.os,hs.tape.trans h5.tape,hs.output.trans h5.output,by rw[hs.size];exact h5.size,fun b hb hn=>?_,fun b off hb hr=>?_,fun b e n hx=>?_⟩
  ·obtain⟨k1,k2⟩:=h5.old b hb hn;exact⟨k1,(ho b (fun hm=>by have:=(hmk b hm).1;omega)).trans k2⟩
  ·obtain⟨k1,k2⟩:=h5.stay b off hb hr;exact⟨k1,(hs.cell b off).trans k2⟩
  ·rw[hs.shape];exact h5.shape b e n hx
 have fin:aOut C rs env' S' (fun x=>∃ y S'',Q (.ret y) S''∧St.le S'' S'∧AV.leS S' S'' x y)→LeavesInM F m P fn a'.tmps R a'.defers .returning w':=by
  intro hx;rw[hms];refine leaves_marks (by simp) ms w' hnd (fun D hD=>(hmk D hD).2.2) fun w'' hs ho=>?_
  obtain⟨q2,q4,q5⟩:=close w'' hs ho;obtain⟨x,v,⟨y,S'',hq,hle,hxy⟩,k1,k2⟩:=results_sound (P:=P) hT q4 q2 (by rw[hrs];exact hx)
  exact⟨v,k1,hR (.ret y) S'' _ _ (AV.leS_sound q4.1 hle x y v hxy k2) (q4.shrink hle) (q5.trans (Adv.shrink hle)) hq⟩
 cases ae with
 | normal=>
   cases e<;>simp only[ExRel] at h1
   exact fin h6
 | exit i=>exact h6.elim
 | ret=>
   cases e<;>simp only[ExRel] at h1
   exact fin h6
 | panic x=>
   cases e<;>simp only[ExRel] at h1
   obtain⟨v,rfl,hv⟩:=h1;simp only[aPost,force_eq] at h6;obtain⟨y,S'',hq,hle,hxy⟩:=h6
   show LeavesInM F m P fn a'.tmps _ a'.defers _ w'
   rw[hms];refine leaves_marks (by simp) ms w' hnd (fun D hD=>(hmk D hD).2.2) fun w'' hs ho=>?_
   obtain⟨q2,q4,q5⟩:=close w'' hs ho;exact hR (.pan y) S'' _ _ ⟨v,rfl,AV.leS_sound q4.1 hle x y v hxy (Rel.shut hs _ _ hv)⟩ (q4.shrink hle) (q5.trans (Adv.shrink hle)) hq
theorem tripleE_of_awp(hT : TyOk P C)(hm : P.follows .mixedOrders = true){f : FuncId}{fn : Func}{c : Code}(hf : P.funcs[f]? = some fn)(hb : fn.body = some c)(hname : (fn.name == "runtime.NumGoroutine") = false)
 {n:Nat} (hn:fn.ntmps=n) (hd:dstOk n c=true) {args:List AV} (hargs:args.length≤n) {rs:List ResultVar} (hrs:fn.results.toList=rs) {S:St} {Q:Out→St→Prop}
 (h:awp P C c (argEnv 0 args) S (aPost C rs Q)):TripleE P C f args S Q:=by
 refine⟨fun vs w=>?_,fun w vs hY hg hr=>?_⟩
 · have hno : ¬ fn.name = "runtime.NumGoroutine" := by simpa using hname
   simp[callFunc,hf,hno,hb]
 ·have hvs:vs.size=args.length:=by simpa using (RelL.length hr).symm
  have he:RelEnv w S (vs++Array.replicate (fn.ntmps-vs.size) undef) (argEnv 0 args) n:=by
   refine⟨by simp[hn,hvs];omega,fun t=>?_⟩
   rcases argEnv_sound 0 args vs.toList hr t with h | h
   ·by_cases ht:t<vs.size
    ·have:(vs++Array.replicate (fn.ntmps-vs.size) undef).getD t undef=(vs.toList[t-0]?).getD undef:=by
      simp[Array.getD_eq_getD_getElem?,Array.getElem?_append_left ht]
     rw[this];exact h
    ·have htop:look t (argEnv 0 args)=.top:=by
      have:∀ (ys:List AV) (j:Nat),j+ys.length≤t→look t (argEnv j ys)=.top:=by
       intro ys
       induction ys with
       | nil=>intro j _;rfl
       | cons y ys ih=>intro j hj;simp only[argEnv,look_cons,if_neg (show ¬ j=t by simp at hj;omega)];exact ih (j+1) (by simp at hj;omega)
      exact this args 0 (by omega)
     rw[htop];simp only[Rel]
   ·rw[h];simp only[Rel]
  refine callsIn_wide.1 (callsIn_of_wp_marks (F:=Fence.wide) (n:=0) hf hb trivial (wpIn_mono (awp_sound hm c hd (nr:=false) (fun hb=>by cases hb) hT (ro:=none) (fun _=>rfl) hY hg (a:=⟨_,[]⟩) he h) ?_))
  exact fun e a' w' hp=>bodyPostM_of_post hT hrs (fun o S' e w' h1 h2 h3 h4=>⟨o,S',h1,h2,h3,h4⟩) hp
theorem triple_of_awp(hT : TyOk P C)(hm : P.follows .mixedOrders = true){f : FuncId}{fn : Func}{c : Code}(hf : P.funcs[f]? = some fn)(hb : fn.body = some c)(hname : (fn.name == "runtime.NumGoroutine") = false)
 {n:Nat} (hn:fn.ntmps=n) (hd:dstOk n c=true) {args:List AV} (hargs:args.length≤n) {rs:List ResultVar} (hrs:fn.results.toList=rs) {S:St} {Q:Out→St→Prop}
 (h:awp P C c (argEnv 0 args) S (aPost C rs Q)):Triple P C f args S Q:=(tripleE_of_awp hT hm hf hb hname hn hd hargs hrs h).triple
end
theorem wrap_i64{n:Int}(h0:-9223372036854775808≤n)(h1:n≤9223372036854775807):IntKind.i64.wrap n=n:=by
 rw[IntKind.wrap_i64];omega
theorem wrap_nat{i:Nat}(h:i+1≤9223372036854775807):IntKind.i64.wrap ((i:Int)+1)=((i+1:Nat):Int):=by
 rw[wrap_i64 (by omega) (by omega)];omega
theorem St.le_none{S S':St}(h:St.le S S'){b:Nat}(hb:S' b=none):S b=none:=by
 cases e:S b with
 | none=>rfl
 | some o=>rw[h b o e] at hb;cases hb
theorem St.le_del{S S':St}(h:St.le S S'){b:Nat}(hb:S b=none):St.le S (S'.del b):=fun x o e=>by
 have:x≠b:=fun hx=>by rw[hx,hb] at e;cases e
 rw[St.del_ne _ _ _ this];exact h x o e
theorem St.le_upd'{S S':St}(h:St.le S S'){b:Nat}(hb:S' b=none)(o:Own):St.le S (S'.upd b o):=St.le_upd h (St.le_none h hb) o
theorem St.del_upd{S:St}{b:Nat}(h:S b=none){o:Own}:(S.upd b o).del b=S:=by
 funext x
 by_cases hx:x=b
 ·subst hx;rw[St.del_same];exact h.symm
 ·rw[St.del_ne _ _ _ hx,St.upd_ne _ _ _ _ hx]
theorem St.le_upd2{S S':St}(h:St.le S S')(b:Nat)(o:Own):St.le (S.upd b o) (S'.upd b o):=fun x p e=>by
 by_cases hx:x=b
 ·subst hx;rw[St.upd_same] at e ⊢;exact e
 ·rw[St.upd_ne _ _ _ _ hx] at e ⊢;exact h x p e
theorem St.upd_comm{S:St}{b c:Nat}(h:b≠c)(o p:Own):(S.upd b o).upd c p=(S.upd c p).upd b o:=by
 funext x
 simp only[St.upd]
 by_cases h1:x=c
 ·subst h1;simp[Ne.symm h]
 ·simp[h1]
theorem St.upd_self{S:St}{b:Nat}{o:Own}(h:S b=some o):S.upd b o=S:=by
 funext x
 simp only[St.upd]
 split
 ·rename_i e;subst e;exact h.symm
 ·rfl
structure AccOk (S S₁:St) (e:TypeId) (k b n:Nat):Prop where
 le:St.le S S₁
 tip:0<n→S₁ b=some (.tip e k n)
 new:0<n→S b=none
theorem AccOk.init(S:St)(e:TypeId)(k b:Nat):AccOk S S e k b 0:=⟨St.le_refl S,by omega,by omega⟩
theorem AccOk.push{S S₁ S₂:St}{e:TypeId}{k b n m:Nat}(h:AccOk S S₁ e k b n){es:List (List AV)}(hn:es.length=n)(k1:es=[]→S₂=S₁)(k2:es≠[]→S₂=S₁.del b){b':Nat}(hb:S₂ b'=none){o:Own}(ho:o=.tip e k m) :
 AccOk S (S₂.upd b' o) e k b' m:=by
 subst ho;have hle:St.le S S₂:=by
  by_cases he:es=[]
  ·rw[k1 he];exact h.le
  ·rw[k2 he];exact St.le_del h.le (h.new (by rw[← hn];exact List.length_pos_iff.2 he))
 exact⟨St.le_upd' hle hb _,fun _=>St.upd_same _ _ _,fun _=>St.le_none hle hb⟩
mutual
theorem AV.leS_refl(S S':St):∀ x,AV.leS S S' x x
 | .sl sh k es=>by unfold AV.leS;split<;>simp_all [Sh.mayNil]
 | .nils=>by unfold AV.leS;rfl
 | .ref b o=>by unfold AV.leS;rfl
 | .ifc t x=>by unfold AV.leS;exact⟨rfl,AV.leS_refl S S' x⟩
 | .tu xs=>by unfold AV.leS;exact AV.leSL_refl S S' xs
 | .ag xs=>by unfold AV.leS;exact AV.leSL_refl S S' xs
 | .int _ _=>by unfold AV.leS;rfl
 | .bool _=>by unfold AV.leS;rfl
 | .str _=>by unfold AV.leS;rfl
 | .nilp=>by unfold AV.leS;rfl
 | .imm _=>by unfold AV.leS;rfl
 | .arr _ _ _ _=>by unfold AV.leS;rfl
 | .nilf=>by unfold AV.leS;rfl
 | .fn _ _ _=>by unfold AV.leS;rfl
 | .nili=>by unfold AV.leS;rfl
 | .nilm=>by unfold AV.leS;rfl
 | .mp _=>by unfold AV.leS;rfl
 | .raw _=>by unfold AV.leS;rfl
 | .top=>by unfold AV.leS;trivial
theorem AV.leSL_refl(S S':St):∀ xs,AV.leSL S S' xs xs
 | []=>by unfold AV.leSL;rfl
 | x::xs=>by unfold AV.leSL;exact⟨AV.leS_refl S S' x,AV.leSL_refl S S' xs⟩
end
section
variable {P:Program} {C:Cx}
theorem Adv.of_below{w w':World}{S:St}(hg:Inv w S)(h:Below w.heap.size w w'):Adv w S w' S:=by
 have hb:∀ b,b<w.heap.size→w'.heap[b]? = w.heap[b]?:=fun b hb=>h.block b hb
 exact⟨h.os,h.tape,h.output,h.size,fun b hlt hn=>⟨hn,hb b hlt⟩,fun b off hlt hr=>⟨hr,cell_of_block (hb b hlt) off⟩,fun b e n hs=>by rw[shape_of_block (hb b (shape_lt hs))];exact hs⟩
theorem Good.of_below{w w':World}{S:St}(hg:Good C w S)(h:Below w.heap.size w w'):Good C w' S:=by
 have hadv:=Adv.of_below hg.1 h
 exact hg.mk (fun b o ho=>OwnOk.mono hadv (h.block b (hg.1.lt ho)) (hg.1 b o ho)) hadv
theorem Triple.of_calls{f : FuncId}{fn : Func}{c : Code}(hf : P.funcs[f]? = some fn)(hb : fn.body = some c)(hname : (fn.name == "runtime.NumGoroutine") = false){args : List AV}{S : St}{x : AV}{Q : Out → St → Prop}
 (h:∀ (w:World) (vs:Array Value),Good C w S→RelL w (rdOf S) args vs.toList→Calls P f vs w fun e w'=>∃ v,e=.returned v∧Rel w' (rdOf S) x v∧Below w.heap.size w w') (hQ:Q (.ret x) S):Triple P C f args S Q:=by
 refine⟨fun w vs _ hg hr=>.inl ⟨?_,(h w vs hg hr).mono fun e w' he=>?_⟩⟩
 · have hno : ¬ fn.name = "runtime.NumGoroutine" := by simpa using hname
   simp[callFunc,hf,hno,hb]
 ·obtain⟨v,rfl,hv,hbel⟩:=he;exact⟨.ret x,S,hv,hg.of_below hbel,Adv.of_below hg.1 hbel,hQ⟩
theorem Triple.of_run{f:FuncId}{args:List AV}{S:St}{x:AV}{Q:Out→St→Prop}
 (h:∀ (w:World) (vs:Array Value),Good C w S→RelL w (rdOf S) args vs.toList→∃ v,(callFunc f vs).run P w=.ok (.value v) w∧Rel w (rdOf S) x v) (hQ:Q (.ret x) S):Triple P C f args S Q:=
 ⟨fun w vs _ hg hr=>by
  obtain⟨v,h1,h2⟩:=h w vs hg hr;exact .inr ⟨v,w,h1,.ret x,S,h2,hg,Adv.refl w S,hQ⟩⟩
theorem Triple.args{f:FuncId}{args args':List AV}{S:St}{Q:Out→St→Prop}(h:Triple P C f args' S Q)(hle:leL args args'):Triple P C f args S Q:=
 ⟨fun w vs hY hg hr=>h.out w vs hY hg (leL_sound hle hr)⟩
theorem Triple.use{f:FuncId}{args args':List AV}{S:St}{Q Q':Out→St→Prop}(h:Triple P C f args' S Q)(hle:leL args args')(hq:∀ o S',Q o S'→Q' o S'):Triple P C f args S Q':=(Triple.args h hle).mono hq
theorem Triple.weakS{f:FuncId}{args:List AV}{S₀ S:St}{Q:Out→St→Prop}(h:Triple P C f args S₀ Q)(hw:St.leW S₀ S):Triple P C f args S Q:=
 ⟨fun w vs hY hg hr=>(h.out w vs (hY.mono (Adv.weakS hw (Adv.refl w _))) (hg.weakS hw) (by rw[St.leW_rd hw];exact hr)).mono fun e w' ⟨o,S',h1,h2,h3,h4⟩=>⟨o,S',h1,h2,Adv.weakS hw h3,h4⟩⟩
def Out.leS(S S':St):Out→Out→Prop
 | .ret x,.ret y=>AV.leS S S' x y
 | .pan x,.pan y=>AV.leS S S' x y
 | _,_=>False
theorem Triple.lessen{f:FuncId}{args:List AV}{S:St}{Q Q':Out→St→Prop}(h:Triple P C f args S Q)(hq:∀ o S',Q o S'→∃ o' S'',Q' o' S''∧St.le S'' S'∧Out.leS S' S'' o o'):Triple P C f args S Q':=
 ⟨fun w vs hY hg hr=>(h.out w vs hY hg hr).mono fun e w' ⟨o,S',h1,h2,h3,h4⟩=>by
  obtain⟨o',S'',k1,k2,k3⟩:=hq o S' h4;refine⟨o',S'',?_,h2.shrink k2,h3.trans (Adv.shrink k2),k1⟩
  cases o<;>cases o'<;>first | exact k3.elim | skip
  ·cases e<;>first | exact h1.elim | exact AV.leS_sound h2.1 k2 _ _ _ k3 h1
  ·cases e<;>first | exact h1.elim | skip
   obtain⟨v,rfl,hv⟩:=h1;exact⟨v,rfl,AV.leS_sound h2.1 k2 _ _ _ k3 hv⟩⟩
end
theorem St.up{S:St}{b b₂:Nat}{o p:Own}(h:S b₂=none)(k:S b=some o):(S.upd b₂ p) b=some o:=(St.upd_ne _ _ _ _ (St.ne_of h k)).trans k
theorem St.ov{S:St}{b b₂:Nat}{o p:Own}(h:b≠b₂)(k:S b=some o):(S.upd b₂ p) b=some o:=(St.upd_ne _ _ _ _ h).trans k
theorem St.no{S:St}{b b₂:Nat}{p:Own}(h:(S.upd b₂ p) b=none):S b=none:=by
 by_cases e:b=b₂
 ·subst e;rw[St.upd_same] at h;cases h
 ·rwa [St.upd_ne _ _ _ _ e] at h
theorem St.ne_upd{S:St}{b b₂:Nat}{p:Own}(h:(S.upd b₂ p) b=none):b≠b₂:=fun e=>by subst e;rw[St.upd_same] at h;cases h
theorem awp_seq2{P:Program}{C:Cx}{a b:Code}{env:Env}{S:St}{Q:AExit→Env→St→Prop}(h:∀ K:AExit→Env→St→Prop,(∀ env' S',awp P C b env' S' Q→K .normal env' S')→(∀ e env' S',e≠.normal→Q e env' S'→K e env' S')→awp P C a env S K):awp P C (.seq a b) env S Q:=by
 unfold awp;exact h _ (fun _ _ h=>h) (fun e _ _ he h=>by cases e<;>first | exact absurd rfl he | exact h)
theorem awp_cond{P:Program}{C:Cx}{t:Tmp}{x y:Code}{env:Env}{S:St}{Q:AExit→Env→St→Prop}{b:Bool}(h:look t env=.bool b)(ht:b=true→awp P C x ((t,.bool true)::env) S Q)(hf:b=false→awp P C y ((t,.bool false)::env) S Q):awp P C (.cond (.tmp t) x y) env S Q:=by
 unfold awp;rw[h];exact split_of ht hf
theorem Triple.liftY{P:Program}{C:Cx}{y:Option YSpec}{f:FuncId}{args:List AV}{S:St}{Q:Out→St→Prop}(h:Triple P C.noY f args S Q):Triple P ⟨C.T,C.G,C.E,y,false,false⟩ f args S Q:=
 ⟨fun w vs _ hg hr=>h.out w vs (YOk.none rfl _ _) hg hr⟩
theorem Triple.arr{P:Program}{C:Cx}{f:FuncId}{args:List AV}{S:St}{Q:Out→St→Prop}(h:Triple P C.arr f args S Q):Triple P C f args S Q:=
 ⟨fun w vs hY hg hr=>h.out w vs hY hg hr⟩
end Go.Proofs.YtjpboanohpaibaaGreatDoor.Aw
