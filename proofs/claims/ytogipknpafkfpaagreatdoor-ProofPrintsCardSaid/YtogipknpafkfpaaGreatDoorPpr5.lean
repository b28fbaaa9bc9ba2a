/- The abstract walk is sound: a region in the text's order, code, a function; and the rules by which contracts are used. N -/
import Derived.Test.YtogipknpafkfpaaGreatDoorPpr4
import Derived.RangeFuncIn
import Derived.Test.YtogipknpafkfpaaGreatDoorPpr1
import Derived.Test.YtogipknpafkfpaaGreatDoorProg
set_option linter.all false
namespace Go.Proofs.YtogipknpafkfpaaGreatDoor.Aw
open Go Go.RowKit
section
variable {P:Program} {C:Cx}
theorem aOps_sound(hT:TyOk P C){ro:Option Nat}{m:Nat}{n:Nat}(ops:Array Oper):∀ (l:List Oper),(∀ o∈l,∀ d,o.dst=some d→d<n)→∀ {a:Act} {w:World} {S:St} {env:Env},YOk P C w S→Good C w S→RelEnv w S a.tmps env n→
 ∀ {K:Env→St→Prop} {Qp:AV→St→Prop},aOps P C ops.toList l env S K Qp→∀ {Q:Exit→Act→World→Prop},
 (∀ env' a' w' S',K env' S'→RelEnv w' S' a'.tmps env' n→a'.defers=a.defers→Good C w' S'→Adv w S w' S'→Q .normal a' w')→
 (∀ x v a' w' S',Qp x S'→Rel w' (rdOf S') x v→a'.tmps.size=n→a'.defers=a.defers→Good C w' S'→Adv w S w' S'→Q (.panic [{ v,recovered:=false }]) a' w')→
 wpListIn (Fr ro) m P ops Q l a w
 | [],hd,a,w,S,env,hY,hg,he,K,Qp,h,Q,hK,hQ=>hK _ _ _ _ h he rfl hg (Adv.refl w S)
 | o::r,hd,a,w,S,env,hY,hg,he,K,Qp,h,Q,hK,hQ=>by
   have hdr:∀ o∈r,∀ d,o.dst=some d→d<n:=fun o ho=>hd o (by simp[ho])
   have hdo:∀ d,o.dst=some d→d<n:=hd o (by simp)
   have hdef:∀ v,(a.put o.dst v).defers=a.defers:=fun v=>by cases o.dst<;>rfl
   have rec_:∀ (env₁:Env),RelEnv w S a.tmps env₁ n→aOp P C o env₁ S (fun x S'=>aOps P C ops.toList r (put o.dst x env₁) S' K Qp) Qp→o.wpIn (Fr ro) m P a w (wpListIn (Fr ro) m P ops Q r) Q:=fun env₁ he₁ h₁=>
    aOp_sound hT hY hg he₁ h₁
     (fun x v w' S' k1 k2 k3 k4=>aOps_sound hT ops r hdr (hY.mono k4) k3 ((he₁.mono k4).put o.dst hdo k2) k1
       (fun env' a' w'' S'' m1 m2 m3 m4 m5=>hK env' a' w'' S'' m1 m2 (m3.trans (hdef v)) m4 (k4.trans m5))
       (fun x' v' a' w'' S'' m1 m2 m0 m3 m4 m5=>hQ x' v' a' w'' S'' m1 m2 m0 (m3.trans (hdef v)) m4 (k4.trans m5)))
     (fun x v w' S' k1 k2 k3 k4=>hQ x v a w' S' k1 k2 he.size rfl k3 k4)
   have skip_:∀ (env₁:Env),RelEnv w S a.tmps env₁ n→aOps P C ops.toList r (put o.dst (.tu []) env₁) S K Qp→wpListIn (Fr ro) m P ops Q r (a.put o.dst undef) w:=fun env₁ he₁ h₁=>
    aOps_sound hT ops r hdr hY hg (he₁.put o.dst hdo (by simp only[Rel];exact⟨#[],rfl,by simp[RelL]⟩)) h₁
     (fun env' a' w'' S'' m1 m2 m3 m4 m5=>hK env' a' w'' S'' m1 m2 (m3.trans (hdef undef)) m4 m5)
     (fun x' v' a' w'' S'' m1 m2 m0 m3 m4 m5=>hQ x' v' a' w'' S'' m1 m2 m0 (m3.trans (hdef undef)) m4 m5)
   unfold wpListIn;unfold aOps at h;simp only[putK_eq] at h
   split at h
   ·rename_i hgd
    have hw:Region.wanted o (yielded ops a.tmps)=true:=by simp[Region.wanted,hgd]
    rw[if_pos hw];exact rec_ env he h
   ·rename_i j want hgd
    split at h
    ·rename_i d hdj
     have hdj':(ops[j]?).bind (·.dst)=some d:=by simpa using hdj
     split at h
     ·rename_i b hb
      have hbr:=he.at_ d
      rw[hb] at hbr;simp only[Rel] at hbr;have hy:yielded ops a.tmps j=some b:=by
       unfold yielded;rw[hdj'];simp only[Option.bind_some];rw[Array.getD_eq_getD_getElem?] at hbr
       cases e:a.tmps[d]? with
       | none=>rw[e] at hbr;simp[undef] at hbr
       | some u=>rw[e] at hbr;simp at hbr;subst hbr;rfl
      have hwanted:Region.wanted o (yielded ops a.tmps)=(b == want):=by
       simp only[Region.wanted,hgd,hy]
       cases b<;>cases want<;>rfl
      rw[hwanted];have he₁:RelEnv w S a.tmps ((d,.bool b)::env) n:=he.know d (by simp only[Rel];exact hbr)
      rw[split_iff] at h
      cases b<;>cases want
      ·exact rec_ _ he₁ (h.2 rfl)
      ·exact⟨fun _ _=>trivial,skip_ _ he₁ (h.2 rfl)⟩
      ·exact⟨fun _ _=>trivial,skip_ _ he₁ (h.1 rfl)⟩
      ·exact rec_ _ he₁ (h.1 rfl)
     ·rename_i hb
      have hbr:=he.at_ d
      rw[hb] at hbr;simp only[Rel] at hbr;obtain⟨cs,hcs,_⟩:=hbr;have hy:yielded ops a.tmps j=none:=by
       unfold yielded;rw[hdj'];simp only[Option.bind_some];rw[Array.getD_eq_getD_getElem?] at hcs
       cases e:a.tmps[d]? with
       | none=>rfl
       | some u=>rw[e] at hcs;simp at hcs;subst hcs;rfl
      have hwanted:Region.wanted o (yielded ops a.tmps)=false:=by
       simp only[Region.wanted,hgd,hy]
       cases want<;>rfl
      rw[hwanted];exact⟨fun _ _=>trivial,skip_ _ he h⟩
     ·exact h.elim
    ·exact h.elim
def ExRel(w:World)(S:St):AExit→Exit→Prop
 | .normal,.normal=>True
 | .exit i,.exit j=>i=j
 | .ret,.ret=>True
 | .panic x,.panic ch=>∃ v,ch=[{ v,recovered:=false }]∧Rel w (rdOf S) x v
 | _,_=>False
def markD(D:Nat):Deferred:={ target:=.collected D,args:=#[] }
def DefOk(nr:Bool)(w:World)(ds:List Deferred)(w':World)(S':St)(ds':List Deferred):Prop:=
 ∃ ms:List Nat,ds'=ms.map markD++ds∧ms.Nodup∧(nr=true→ms=[])∧∀ D∈ms,w.heap.size≤D∧S' D=none∧w'.heap[D]? = some (.deferred (some []))
theorem DefOk.refl(nr:Bool)(w:World)(ds:List Deferred)(w':World)(S':St):DefOk nr w ds w' S' ds:=⟨[],rfl,List.nodup_nil,fun _=>rfl,fun D hD=>by cases hD⟩
theorem DefOk.of_eq{nr:Bool}{w:World}{ds:List Deferred}{w':World}{S':St}{ds':List Deferred}(h:ds'=ds):DefOk nr w ds w' S' ds':=h ▸ DefOk.refl _ _ _ _ _
theorem DefOk.adv{nr:Bool}{w:World}{ds:List Deferred}{w' w'':World}{S' S'':St}{ds':List Deferred}(h:DefOk nr w ds w' S' ds')(ha:Adv w' S' w'' S''):DefOk nr w ds w'' S'' ds':=by
 obtain⟨ms,h1,h2,h0,h3⟩:=h;refine⟨ms,h1,h2,h0,fun D hD=>?_⟩
 obtain⟨k1,k2,k3⟩:=h3 D hD;obtain⟨m1,m2⟩:=ha.old D (lt_of_block k3) k2;exact⟨k1,m1,m2.trans k3⟩
theorem DefOk.trans{nr:Bool}{w w' w'':World}{S' S'':St}{ds ds' ds'':List Deferred}(h:DefOk nr w ds w' S' ds')(k:DefOk nr w' ds' w'' S'' ds'')(hw:w.heap.size≤w'.heap.size)(ha:Adv w' S' w'' S''):DefOk nr w ds w'' S'' ds'':=by
 obtain⟨ms',k1,k2,k0,k3⟩:=k;obtain⟨ms,h1,h2,h0,h3⟩:=h;refine⟨ms'++ms,by rw[k1,h1];simp,?_,fun hb=>by rw[k0 hb,h0 hb];rfl,fun D hD=>?_⟩
 ·rw[List.nodup_append];refine⟨k2,h2,fun a ha b hb hab=>?_⟩
  subst hab;have:=(k3 a ha).1;have:=lt_of_block (h3 a hb).2.2;omega
 ·rcases List.mem_append.1 hD with hD | hD
  ·obtain⟨m1,m2,m3⟩:=k3 D hD;exact⟨by omega,m2,m3⟩
  ·obtain⟨m1,m2,m3⟩:=h3 D hD;obtain⟨n1,n2⟩:=ha.old D (lt_of_block m3) m2;exact⟨m1,n1,n2.trans m3⟩
def noRange:Code→Bool
 | .seq a b=>noRange a && noRange b
 | .cond _ a b=>noRange a && noRange b
 | .block _ c=>noRange c
 | .loop c=>noRange c
 | .rangeFunc ..=>false
 | _=>true
def Post(nr:Bool)(C:Cx)(n:Nat)(ds:List Deferred)(w:World)(S:St)(Q:AExit→Env→St→Prop)(e:Exit)(a':Act)(w':World):Prop:=
 ∃ ae env' S',ExRel w' S' ae e∧RelEnv w' S' a'.tmps env' n∧DefOk nr w ds w' S' a'.defers∧Good C w' S'∧Adv w S w' S'∧Q ae env' S'
theorem AV.le_sound{w:World}{rd}{x y:AV}{v:Value}(h:AV.le x y)(hx:Rel w rd x v):Rel w rd y v:=by
 unfold AV.le at h
 split at h
 ·simp only[Rel]
 ·obtain⟨rfl,rfl⟩:=h;simp only[Rel] at hx ⊢
  rcases hx with ⟨_,rfl,hz⟩ | ⟨b,off,cap,h1,h2,h3,_,h5⟩
  ·exact .inl ⟨rfl,rfl,hz.any⟩
  ·exact .inr ⟨b,off,cap,h1,h2,h3,trivial,h5⟩
 ·obtain⟨hsh,rfl,rfl⟩:=h;simp only[Rel] at hx ⊢
  rcases hx with ⟨hh,_⟩ | ⟨b,off,cap,h1,h2,h3,_,h5⟩
  ·rw[hsh] at hh;cases hh
  ·exact .inr ⟨b,off,cap,h1,h2,h3,trivial,h5⟩
 ·subst h;simp only[Rel] at hx ⊢;exact .inl ⟨rfl,trivial,.inl hx⟩
 ·subst h;simp only[Rel] at hx ⊢;exact .inl ⟨rfl,trivial,.inl hx⟩
 ·obtain⟨hne,rfl,rfl,rfl⟩:=h;simp only[Rel] at hx ⊢
  rcases hx with ⟨hh,_⟩ | ⟨b,off,cap,h1,h2,h3,h4,h5⟩
  ·cases hh
  ·exact .inr ⟨b,off,cap,h1,h2,h3,⟨List.length_pos_iff.2 hne,h4⟩,h5⟩
 ·subst h;exact hx
theorem RelAt.take'{w:World}{rd:Nat→Nat→Prop}{b:Nat}:∀ {xs:List AV} {off:Nat},RelAt w rd b off xs→∀ n,RelAt w rd b off (xs.take n)
 | xs,off,h,0=>by simp[RelAt]
 | [],off,h,n+1=>by simp[RelAt]
 | x::xs,off,h,n+1=>by
   simp only[RelAt] at h;simp only[List.take_succ_cons,RelAt];exact⟨h.1,RelAt.take' h.2 n⟩
theorem rowsOf_length(k:Nat):∀ (n:Nat) (cells:List AV),(rowsOf k cells n).length=n
 | 0,_=>rfl
 | n+1,cells=>by simp only[rowsOf,List.length_cons,rowsOf_length k n]
theorem RelRows.of_rowsOf{w:World}{rd:Nat→Nat→Prop}{k b:Nat}(hk:0<k):∀ (n:Nat) (cells:List AV) (off:Nat),RelAt w rd b off cells→n*k≤cells.length→RelRows w rd k b off (rowsOf k cells n)
 | 0,cells,off,h,hl=>by simp only[rowsOf,RelRows]
 | n+1,cells,off,h,hl=>by
   rw[Nat.succ_mul] at hl;simp only[rowsOf,RelRows];refine⟨⟨by rw[List.length_take];omega,RelAt.take' h k⟩,RelRows.of_rowsOf hk n (cells.drop k) (off+k) (RelAt.drop h k) (by rw[List.length_drop];omega)⟩
mutual
theorem AV.leS_sound{w:World}{S S':St}(hi:Inv w S)(hle:St.le S' S):∀ (x y:AV) (v:Value),AV.leS S S' x y→Rel w (rdOf S) x v→Rel w (rdOf S') y v
 | .sl sh k es,y,v,h,hx=>by
  have hx':=Rel.mono (Adv.shrink hle) _ _ hx
  unfold AV.leS at h
  split at h
  ·obtain⟨rfl,rfl⟩:=h;simp only[Rel] at hx' ⊢
   rcases hx' with ⟨_,rfl,hz⟩ | ⟨b,off,cap,h1,h2,h3,_,h5⟩
   ·exact .inl ⟨rfl,rfl,hz.any⟩
   ·exact .inr ⟨b,off,cap,h1,h2,h3,trivial,h5⟩
  ·obtain⟨hsh,rfl,rfl⟩:=h;simp only[Rel] at hx' ⊢
   rcases hx' with ⟨hh,_⟩ | ⟨b,off,cap,h1,h2,h3,_,h5⟩
   ·rw[hsh] at hh;cases hh
   ·exact .inr ⟨b,off,cap,h1,h2,h3,trivial,h5⟩
  ·simp only[Rel]
  ·subst h;exact hx'
 | .nils,y,v,h,hx=>by
  unfold AV.leS at h
  split at h
  ·subst h;simp only[Rel] at hx ⊢;exact .inl ⟨rfl,trivial,.inl hx⟩
  ·simp only[Rel]
  ·subst h;simpa only[Rel] using hx
 | .ref b off,y,v,h,hx=>by
  unfold AV.leS at h
  split at h
  ·obtain⟨hn,e,cells,hS,rfl⟩:=h;simp only[Rel] at hx ⊢;refine⟨b,off,hx,?_⟩;obtain⟨cs,h1,h2,h3,h4⟩:=obj_cells hi hS;have hall:=RelAt.of_cells (b:=b) (off:=0) (RelL.mono (Adv.shrink hle) _ _ h2) h4 h3 (fun i hi'=>by simp only[rdOf,hn])
   simpa using RelAt.drop hall off
  ·simp only[Rel]
  ·subst h;simpa only[Rel] using hx
 | .ifc t x,y,v,h,hx=>by
  unfold AV.leS at h
  split at h
  ·obtain⟨rfl,h⟩:=h;simp only[Rel] at hx ⊢;obtain⟨u,rfl,hu⟩:=hx;exact⟨u,rfl,AV.leS_sound hi hle x _ u h hu⟩
  ·simp only[Rel]
  ·exact h.elim
 | .tu xs,y,v,h,hx=>by
  unfold AV.leS at h
  split at h
  ·simp only[Rel] at hx ⊢;obtain⟨cs,rfl,hu⟩:=hx;exact⟨cs,rfl,AV.leSL_sound hi hle xs _ _ h hu⟩
  ·simp only[Rel]
  ·exact h.elim
 | .ag xs,y,v,h,hx=>by
  unfold AV.leS at h
  split at h
  ·simp only[Rel] at hx ⊢;obtain⟨cs,rfl,hu,h1⟩:=hx;exact⟨cs,rfl,AV.leSL_sound hi hle xs _ _ h hu,h1⟩
  ·simp only[Rel]
  ·exact h.elim
 | .int k n,y,v,h,hx=>by
  have hx':=Rel.mono (Adv.shrink hle) _ _ hx
  unfold AV.leS at h;split at h;(· simp only[Rel]);subst h;exact hx'
 | .bool k,y,v,h,hx=>by
  have hx':=Rel.mono (Adv.shrink hle) _ _ hx
  unfold AV.leS at h;split at h;(· simp only[Rel]);subst h;exact hx'
 | .str k,y,v,h,hx=>by
  have hx':=Rel.mono (Adv.shrink hle) _ _ hx
  unfold AV.leS at h;split at h;(· simp only[Rel]);subst h;exact hx'
 | .nilp,y,v,h,hx=>by
  have hx':=Rel.mono (Adv.shrink hle) _ _ hx
  unfold AV.leS at h;split at h;(· simp only[Rel]);subst h;exact hx'
 | .imm xs,y,v,h,hx=>by
  have hx':=Rel.mono (Adv.shrink hle) _ _ hx
  unfold AV.leS at h;split at h;(· simp only[Rel]);subst h;exact hx'
 | .arr b off n cap,y,v,h,hx=>by
  have hx':=Rel.mono (Adv.shrink hle) _ _ hx
  unfold AV.leS at h
  split at h
  ·obtain⟨⟨hn,hk,hnc,hcm⟩,e,cells,hS,hlen,rfl⟩:=h;simp only[Rel] at hx ⊢;obtain⟨cs,h1,h2,h3,h4⟩:=obj_cells hi hS;have hall:=RelAt.of_cells (b:=b) (off:=0) (RelL.mono (Adv.shrink hle) _ _ h2) h4 h3 (fun i hi'=>by simp only[rdOf,hn])
   have hd:=RelAt.drop hall off
   rw[Nat.zero_add] at hd;refine .inr ⟨b,off,cap,by rw[rowsOf_length];exact hx,by rw[rowsOf_length];exact hnc,hcm,trivial,?_⟩
   exact RelRows.of_rowsOf hk n _ _ hd (by rw[List.length_drop];omega)
  ·simp only[Rel]
  ·subst h;exact hx'
 | .nilf,y,v,h,hx=>by
  have hx':=Rel.mono (Adv.shrink hle) _ _ hx
  unfold AV.leS at h;split at h;(· simp only[Rel]);subst h;exact hx'
 | .fn _ _ _,y,v,h,hx=>by
  have hx':=Rel.mono (Adv.shrink hle) _ _ hx
  unfold AV.leS at h;split at h;(· simp only[Rel]);subst h;exact hx'
 | .nili,y,v,h,hx=>by
  have hx':=Rel.mono (Adv.shrink hle) _ _ hx
  unfold AV.leS at h;split at h;(· simp only[Rel]);subst h;exact hx'
 | .nilm,y,v,h,hx=>by
  have hx':=Rel.mono (Adv.shrink hle) _ _ hx
  unfold AV.leS at h;split at h;(· simp only[Rel]);subst h;exact hx'
 | .mp _,y,v,h,hx=>by
  have hx':=Rel.mono (Adv.shrink hle) _ _ hx
  unfold AV.leS at h;split at h;(· simp only[Rel]);subst h;exact hx'
 | .raw _,y,v,h,hx=>by
  have hx':=Rel.mono (Adv.shrink hle) _ _ hx
  unfold AV.leS at h;split at h;(· simp only[Rel]);subst h;exact hx'
 | .top,y,v,h,hx=>by
  have hx':=Rel.mono (Adv.shrink hle) _ _ hx
  unfold AV.leS at h;split at h;(· simp only[Rel]);subst h;exact hx'
theorem AV.leSL_sound{w:World}{S S':St}(hi:Inv w S)(hle:St.le S' S):∀ (xs ys:List AV) (vs:List Value),AV.leSL S S' xs ys→RelL w (rdOf S) xs vs→RelL w (rdOf S') ys vs
 | [],ys,vs,h,hx=>by
  simp only[AV.leSL] at h;subst h
  simpa only[RelL] using hx
 | x::xs,ys,vs,h,hx=>by
   unfold AV.leSL at h
   split at h
   ·exact h.elim
   ·simp only[RelL] at hx ⊢;obtain⟨u,us,rfl,h1,h2⟩:=hx;exact⟨u,us,rfl,AV.leS_sound hi hle x _ u h.1 h1,AV.leSL_sound hi hle xs _ us h.2 h2⟩
end
theorem leL_sound{w:World}{rd}:∀ {xs ys:List AV} {vs:List Value},leL xs ys→RelL w rd xs vs→RelL w rd ys vs
 | [],[],vs,_,h=>h
 | x::xs,y::ys,vs,hl,h=>by
   simp only[RelL] at h ⊢;obtain⟨u,us,rfl,h1,h2⟩:=h;exact⟨u,us,rfl,AV.le_sound hl.1 h1,leL_sound hl.2 h2⟩
 | [],_::_,vs,hl,h=>hl.elim
 | _::_,[],vs,hl,h=>hl.elim
theorem St.leW_upd{S:St}{b:Nat}{e:TypeId}{cs cs':List AV}(h:S b=some (.obj e cs))(hl:leL cs cs'):St.leW (S.upd b (.obj e cs')) S:=fun x=>by
 by_cases hx:x=b
 ·subst hx;exact .inr ⟨e,cs,cs',h,St.upd_same _ _ _,hl⟩
 ·exact .inl (St.upd_ne _ _ _ _ hx)
theorem St.leW_rd{S₀ S:St}(h:St.leW S₀ S):rdOf S₀=rdOf S:=by
 funext b off
 rcases h b with h | ⟨e,cs,cs',h1,h2,_⟩
 ·simp only[rdOf,h]
 ·simp only[rdOf,h1,h2]
theorem St.leW_none{S₀ S:St}(h:St.leW S₀ S){b:Nat}(hb:S b=none):S₀ b=none:=by
 rcases h b with h | ⟨e,cs,cs',h1,h2,_⟩
 ·rw[h];exact hb
 ·rw[h1] at hb;cases hb
theorem Good.weakS{w:World}{S₀ S:St}(hg:Good C w S)(h:St.leW S₀ S):Good C w S₀:=by
 refine⟨fun b o ho=>?_,fun g xs hx=>?_⟩
 ·rw[St.leW_rd h]
  rcases h b with hb | ⟨e,cs,cs',h1,h2,hl⟩
  ·exact hg.1 b o (by rw[← hb];exact ho)
  ·rw[h2] at ho
   cases ho
   obtain⟨vs,k1,k2,k3⟩:=hg.1 b _ h1;exact⟨vs,k1,leL_sound hl k2,k3⟩
 ·obtain⟨k1,k2,k3,k4⟩:=hg.2 g xs hx;exact⟨St.leW_none h k1,k2,by rw[St.leW_rd h];exact k3,k4⟩
theorem Adv.weakS{w w':World}{S₀ S S':St}(h:St.leW S₀ S)(ha:Adv w S₀ w' S'):Adv w S w' S':=
 ⟨ha.os,ha.tape,ha.output,ha.size,fun b hb hn=>ha.old b hb (St.leW_none h hn),fun b off hb hr=>ha.stay b off hb (by rw[St.leW_rd h];exact hr),ha.shape⟩
theorem St.leW_refl(S:St):St.leW S S:=fun _=>.inl rfl
theorem RelEnv.weakS{w:World}{S₀ S:St}{tmps:Array Value}{env:Env}{n:Nat}(he:RelEnv w S tmps env n)(h:St.leW S₀ S):RelEnv w S₀ tmps env n:=
 ⟨he.size,fun t=>by rw[St.leW_rd h];exact he.at_ t⟩
theorem Env.le_sound{w:World}{S:St}{tmps:Array Value}{n:Nat}{env:Env}(he:RelEnv w S tmps env n):∀ {env':Env},Env.le env env'→RelEnv w S tmps env' n
 | [],_=>⟨he.size,fun t=>by simp only[look,Rel]⟩
 | (t,x)::r,h=>(Env.le_sound he h.2).know t (AV.le_sound h.1 (he.at_ t))
theorem RelEnv.put'{w:World}{S:St}{tmps:Array Value}{env:Env}{n:Nat}(h:RelEnv w S tmps env n)(d:Tmp)(hd:d<n){x:AV}{v:Value}(hx:Rel w (rdOf S) x v) :
 RelEnv w S (tmps.setIfInBounds d v) ((d,x)::env) n:=
 RelEnv.put (a:=⟨tmps,[]⟩) h (some d) (fun t ht=>by cases ht;exact hd) hx
theorem putPs_sound{w:World}{S:St}{n:Nat}:∀ {tmps:Array Value} {env:Env},RelEnv w S tmps env n→∀ (ps:List Tmp) (xs:List AV) (vs:List Value),(∀ p∈ps,p<n)→xs.length=ps.length→RelL w (rdOf S) xs vs→
 RelEnv w S ((ps.zip vs).foldl (fun tmps (t,a)=>tmps.setIfInBounds t a) tmps) (putPs ps xs env) n
 | tmps,env,he,[],[],vs,hp,hl,hr=>by simpa [putPs] using he
 | tmps,env,he,p::ps,x::xs,vs,hp,hl,hr=>by
   simp only[RelL] at hr;obtain⟨u,us,rfl,h1,h2⟩:=hr;simp only[List.zip_cons_cons,List.foldl_cons,putPs];exact putPs_sound (he.put' p (hp p (by simp)) h1) ps xs us (fun q hq=>hp q (by simp[hq])) (by simpa using hl) h2
 | _,_,_,[],_::_,_,_,hl,_=>by simp at hl
 | _,_,_,_::_,[],_,_,hl,_=>by simp at hl
theorem Adv.setLp{w:World}{S:St}{b:Nat}{R:LpSt→Loop}{st:LpSt}(hS:S b=some (.lp R st))(hb:w.heap[b]? = some (.loop (R st)))(st':LpSt):Adv w S (w.putObj b (.loop (R st'))) (S.upd b (.lp R st')):=by
 have hother:∀ x,x≠b→(w.putObj b (.loop (R st'))).heap[x]? = w.heap[x]?:=fun x hx=>World.putObj_heap_other hx
 refine⟨rfl,rfl,rfl,by simp,fun x hx hn=>?_,fun x off hx hr=>?_,fun x e' n hx=>?_⟩
 ·have hne:x≠b:=St.ne_of' hn hS
  exact⟨by rw[St.upd_ne _ _ _ _ hne];exact hn,hother x hne⟩
 ·have hne:x≠b:=by rintro rfl;simp only[rdOf,hS] at hr
  refine⟨by simp only[rdOf,St.upd_ne _ _ _ _ hne];exact hr,cell_of_block (hother x hne) off⟩
 ·by_cases hne:x=b
  ·subst hne;simp only[World.shape?,hb] at hx
   cases hx
  ·rw[shape_of_block (hother x hne)];exact hx
theorem Good.setLp{w:World}{S:St}{b:Nat}{R:LpSt→Loop}{st:LpSt}(hg:Good C w S)(hS:S b=some (.lp R st))(st':LpSt):Good C (w.putObj b (.loop (R st'))) (S.upd b (.lp R st')):=by
 have hb:w.heap[b]? = some (.loop (R st)):=hg.1 b _ hS
 have hadv:=Adv.setLp hS hb st'
 refine hg.mk (fun x o ho=>?_) hadv
 by_cases hx:x=b
 ·subst hx;rw[St.upd_same] at ho
  cases ho
  exact World.putObj_heap_same (lt_of_block hb)
 ·rw[St.upd_ne _ _ _ _ hx] at ho;exact OwnOk.mono hadv (World.putObj_heap_other hx) (hg.1 x o ho)
theorem Adv.endLp{w:World}{S:St}{b:Nat}{R:LpSt→Loop}{st:LpSt}(hS:S b=some (.lp R st))(hb:w.heap[b]? = some (.loop (R st)))(x:Loop):Adv w S (w.putObj b (.loop x)) (S.del b):=by
 have hother:∀ y,y≠b→(w.putObj b (.loop x)).heap[y]? = w.heap[y]?:=fun y hy=>World.putObj_heap_other hy
 refine⟨rfl,rfl,rfl,by simp,fun y hy hn=>?_,fun y off hy hr=>?_,fun y e' n hy=>?_⟩
 ·have hne:y≠b:=St.ne_of' hn hS
  exact⟨by rw[St.del_ne _ _ _ hne];exact hn,hother y hne⟩
 ·have hne:y≠b:=by rintro rfl;simp only[rdOf,hS] at hr
  refine⟨by simp only[rdOf,St.del_ne _ _ _ hne];exact hr,cell_of_block (hother y hne) off⟩
 ·by_cases hne:y=b
  ·subst hne;simp only[World.shape?,hb] at hy
   cases hy
  ·rw[shape_of_block (hother y hne)];exact hy
theorem Good.endLp{w:World}{S:St}{b:Nat}{R:LpSt→Loop}{st:LpSt}(hg:Good C w S)(hS:S b=some (.lp R st))(x:Loop):Good C (w.putObj b (.loop x)) (S.del b):=by
 have hb:w.heap[b]? = some (.loop (R st)):=hg.1 b _ hS
 have hadv:=Adv.endLp hS hb x
 refine hg.mk (fun y o ho=>?_) hadv
 by_cases hx:y=b
 ·subst hx;rw[St.del_same] at ho
  cases ho
 ·rw[St.del_ne _ _ _ hx] at ho;exact OwnOk.mono hadv (World.putObj_heap_other hx) (hg.1 y o ho)
theorem awp_sound(hm:P.follows .mixedOrders=true){n:Nat}:∀ (c:Code),dstOk n c=true→∀ {nr:Bool},(nr=true→noRange c=true)→∀ {C:Cx} {ro:Option Nat} {m:Nat},TyOk P C→(C.inR=false→ro=none)→∀ {a:Act} {w:World} {S:St} {env:Env},YOk P C w S→Good C w S→RelEnv w S a.tmps env n→∀ {Q:AExit→Env→St→Prop},awp P C c env S Q→
 c.wpIn (Fr ro) m P (Post nr C n a.defers w S Q) a w
 | .skip,hd,nr,hnr,C,ro,m,hT,hro,a,w,S,env,hY,hg,he,Q,h=>wpIn_skip ⟨.normal,env,S,trivial,he,DefOk.refl _ _ _ _ _,hg,Adv.refl w S,h⟩
 | .label l,hd,nr,hnr,C,ro,m,hT,hro,a,w,S,env,hY,hg,he,Q,h=>wpIn_label ⟨.normal,env,S,trivial,he,DefOk.refl _ _ _ _ _,hg,Adv.refl w S,h⟩
 | .ret,hd,nr,hnr,C,ro,m,hT,hro,a,w,S,env,hY,hg,he,Q,h=>wpIn_ret ⟨.ret,env,S,trivial,he,DefOk.refl _ _ _ _ _,hg,Adv.refl w S,h⟩
 | .exit i,hd,nr,hnr,C,ro,m,hT,hro,a,w,S,env,hY,hg,he,Q,h=>wpIn_exit ⟨.exit i,env,S,rfl,he,DefOk.refl _ _ _ _ _,hg,Adv.refl w S,h⟩
 | .seq x y,hd,nr,hnr,C,ro,m,hT,hro,a,w,S,env,hY,hg,he,Q,h=>by
  simp only[dstOk,Bool.and_eq_true] at hd;refine wpIn_seq (wpIn_mono (awp_sound hm x hd.1 (fun hb=>by have:=hnr hb;simp only[noRange,Bool.and_eq_true] at this;exact this.1) hT hro hY hg he h) ?_)
  rintro e a' w' ⟨ae,env',S',h1,h2,h3,h4,h5,h6⟩
  cases ae with
  | normal=>
    cases e<;>simp only[ExRel] at h1
    refine wpIn_mono (awp_sound hm y hd.2 (fun hb=>by have:=hnr hb;simp only[noRange,Bool.and_eq_true] at this;exact this.2) hT hro (hY.mono h5) h4 h2 h6) ?_
    rintro e a'' w'' ⟨ae,env'',S'',k1,k2,k3,k4,k5,k6⟩;exact⟨ae,env'',S'',k1,k2,h3.trans k3 h5.size k5,k4,h5.trans k5,k6⟩
  | exit i=>cases e<;>simp only[ExRel] at h1;exact⟨.exit i,env',S',h1,h2,h3,h4,h5,h6⟩
  | ret=>cases e<;>simp only[ExRel] at h1;exact⟨.ret,env',S',trivial,h2,h3,h4,h5,h6⟩
  | panic x=>cases e<;>simp only[ExRel] at h1;exact⟨.panic x,env',S',h1,h2,h3,h4,h5,h6⟩
 | .region id ops draw,hd,nr,hnr,C,ro,m,hT,hro,a,w,S,env,hY,hg,he,Q,h=>by
  cases draw with
  | true=>
    obtain⟨qc,pl,M,hok,hpl,hM⟩:=h;refine draw_sound hT hm (fun o ho d hod=>?_) hY hg he hok hpl (fun env' a' w' S' k1 k2 k3 k4 k5=>?_) (fun x v a' w' S' k1 k2 k0 k3 k4 k5=>⟨.panic x,[],S',⟨v,rfl,k2⟩,⟨k0,fun t=>by simp only[look,Rel]⟩,DefOk.of_eq k3,k4,k5,k1⟩)
    ·simp only[dstOk,List.all_eq_true] at hd;have:=hd o (by simpa using ho)
     simp only[hod] at this;exact Nat.le_of_ble_eq_true this
    ·obtain⟨F,f1,f2⟩:=hM env' S' k1
     rcases f1 with rfl | f1
     ·exact⟨.normal,F,S',trivial,k2,DefOk.of_eq k3,k4,k5,f2⟩
     ·exact⟨.normal,F,S',trivial,Env.le_sound k2 f1,DefOk.of_eq k3,k4,k5,f2⟩
  | false=>
    refine wpIn_region_list (aOps_sound hT ops ops.toList (fun o ho d hod=>?_) hY hg he h (fun env' a' w' S' k1 k2 k3 k4 k5=>⟨.normal,env',S',trivial,k2,DefOk.of_eq k3,k4,k5,k1⟩) (fun x v a' w' S' k1 k2 k0 k3 k4 k5=>⟨.panic x,[],S',⟨v,rfl,k2⟩,⟨k0,fun t=>by simp only[look,Rel]⟩,DefOk.of_eq k3,k4,k5,k1⟩))
    ·simp only[dstOk,List.all_eq_true] at hd;have:=hd o ho;simp only[hod] at this;exact Nat.le_of_ble_eq_true this
 | .cond (.tmp t) x y,hd,nr,hnr,C,ro,m,hT,hro,a,w,S,env,hY,hg,he,Q,h=>by
  simp only[dstOk,Bool.and_eq_true] at hd;unfold awp at h
  split at h
  ·rename_i b hb
   have hbr:=he.at_ t
   rw[hb] at hbr;simp only[Rel] at hbr;rw[split_iff] at h;have hev:a.eval (.tmp t)=.bool b:=hbr;refine wpIn_cond_split hev (fun hb'=>?_) (fun hb'=>?_)
   ·subst hb';exact awp_sound hm x hd.1 (fun hb=>by have:=hnr hb;simp only[noRange,Bool.and_eq_true] at this;exact this.1) hT hro hY hg (he.know t (by simp only[Rel];exact hbr)) (h.1 rfl)
   ·subst hb';exact awp_sound hm y hd.2 (fun hb=>by have:=hnr hb;simp only[noRange,Bool.and_eq_true] at this;exact this.2) hT hro hY hg (he.know t (by simp only[Rel];exact hbr)) (h.2 rfl)
  ·exact h.elim
 | .cond (.const v) x y,hd,nr,hnr,C,ro,m,hT,hro,a,w,S,env,hY,hg,he,Q,h=>h.elim
 | .cond (.global v) x y,hd,nr,hnr,C,ro,m,hT,hro,a,w,S,env,hY,hg,he,Q,h=>h.elim
 | .cond (.func v) x y,hd,nr,hnr,C,ro,m,hT,hro,a,w,S,env,hY,hg,he,Q,h=>h.elim
 | .block id c,hd,nr,hnr,C,ro,m,hT,hro,a,w,S,env,hY,hg,he,Q,h=>by
  refine wpIn_block (wpIn_mono (awp_sound hm c hd hnr hT hro hY hg he h) ?_);rintro e a' w' ⟨ae,env',S',h1,h2,h3,h4,h5,h6⟩
  cases ae with
  | normal=>cases e<;>simp only[ExRel] at h1;exact⟨.normal,env',S',trivial,h2,h3,h4,h5,h6⟩
  | exit i=>
    cases e<;>simp only[ExRel] at h1
    subst h1;simp only[cond_eq_ite] at h6;simp only[Exit.inBlock]
    by_cases hi:i=id
    ·subst hi;rw[if_pos rfl];rw[if_pos (Nat.beq_refl i)] at h6;exact⟨.normal,env',S',trivial,h2,h3,h4,h5,h6⟩
    ·rw[if_neg hi];rw[if_neg (fun hh=>hi (Nat.eq_of_beq_eq_true hh))] at h6
     exact⟨.exit i,env',S',rfl,h2,h3,h4,h5,h6⟩
  | ret=>cases e<;>simp only[ExRel] at h1;exact⟨.ret,env',S',trivial,h2,h3,h4,h5,h6⟩
  | panic x=>cases e<;>simp only[ExRel] at h1;exact⟨.panic x,env',S',h1,h2,h3,h4,h5,h6⟩
 | .loop c,hd,nr,hnr,C,ro,m,hT,hro,a,w,S,env,hY,hg,he,Q,h=>by
  obtain⟨L,⟨i₀,hle,S₀,hW,hG⟩,hround⟩:=h;have hadv0:Adv w S w S₀:=Adv.weakS hW (Adv.refl w S₀);refine Go.wpIn_loop_ghost (fun m a' w'=>∃ i S',L.μ i=m∧L.G i S'∧RelEnv w' S' a'.tmps (L.F i) n∧DefOk nr w a.defers w' S' a'.defers∧Good C w' S'∧Adv w S w' S') (L.μ i₀) ⟨i₀,S₀,rfl,hG,Env.le_sound (he.weakS hW) hle,DefOk.refl _ _ _ _ _,hg.weakS hW,hadv0⟩ ?_
  rintro m a' w' ⟨i,S',rfl,hG',he',hde,hg',hadv⟩;refine wpIn_mono (awp_sound hm c hd hnr hT hro (hY.mono hadv) hg' he' (hround i S' hG')) ?_;rintro e a'' w'' ⟨ae,env',S'',h1,h2,h3,h4,h5,h6⟩
  cases ae with
  | normal=>
    cases e<;>simp only[ExRel] at h1
    obtain⟨j,hle',⟨S₃,hW',hG''⟩,hlt⟩:=h6;exact⟨L.μ j,hlt,j,S₃,rfl,hG'',Env.le_sound (h2.weakS hW') hle',(hde.trans h3 hadv.size h5).adv (Adv.weakS hW' (Adv.refl _ _)),h4.weakS hW',hadv.trans (h5.trans (Adv.weakS hW' (Adv.refl _ _)))⟩
  | exit i=>cases e<;>simp only[ExRel] at h1;exact⟨.exit i,env',S'',h1,h2,hde.trans h3 hadv.size h5,h4,hadv.trans h5,h6⟩
  | ret=>cases e<;>simp only[ExRel] at h1;exact⟨.ret,env',S'',trivial,h2,hde.trans h3 hadv.size h5,h4,hadv.trans h5,h6⟩
  | panic x=>cases e<;>simp only[ExRel] at h1;exact⟨.panic x,env',S'',h1,h2,hde.trans h3 hadv.size h5,h4,hadv.trans h5,h6⟩
 | .scope c,hd,nr,hnr,C,ro,m,hT,hro,a,w,S,env,hY,hg,he,Q,h=>h.elim
 | .rangeFunc g ps assign body,hd,nr,hnr,C,ro,m,hT,hro,a,w,S,env,hY,hg,he,Q,h=>by
  simp only[dstOk,Bool.and_eq_true] at hd;obtain⟨hdp,hda,hdb⟩:=hd;unfold awp at h
  split at h
  ·rename_i gf lb hR hgv
   have hr0:=hro hR
   subst hr0;rw[forceL_eq] at h;have hgr:=ev_sound hg he g;rw[hgv] at hgr;simp only[Rel] at hgr;obtain⟨b1,b2,e1,r1,r2⟩:=hgr;simp only[RelL] at r1;have hb1:b1=#[]:=by simpa using r1
   subst hb1;refine wpIn_rangeFunc ?_;intro fn hfn;obtain⟨R,hRd⟩:∃ R:LpSt→Loop,R=fun st=>match st with
    | .ready=>{ state:=.ready,pending:=none,fn,tmps:=a.tmps,params:=ps,assign,body,defers:=w.heap.size }
    | .busy=>{ state:=.busy,pending:=none,fn,tmps:=a.tmps,params:=ps,assign,body,defers:=w.heap.size }
    | .done c=>{ state:=.done,pending:=some c,fn,tmps:=a.tmps,params:=ps,assign,body,defers:=w.heap.size }:=⟨_,rfl⟩
   have hSD:=hg.1.fresh
   have hg0:Good C (w.alloc (.deferred (some []))) S:=hg.mk (hg.1.alloc _) (Adv.alloc _ hSD)
   have hSl:=hg0.1.fresh
   have hadv1:Adv w S ((w.alloc (.deferred (some []))).alloc (.loop (R .ready))) (S.upd (w.alloc (.deferred (some []))).heap.size (.lp R .ready)):=(Adv.alloc _ hSD).trans (Adv.allocOwn _ _ hSl)
   have hg1:Good C ((w.alloc (.deferred (some []))).alloc (.loop (R .ready))) (S.upd (w.alloc (.deferred (some []))).heap.size (.lp R .ready)):=hg0.mk (hg0.1.allocOwn _ _ (heap_alloc_new _ _)) (Adv.allocOwn _ _ hSl)
   have hD1:((w.alloc (.deferred (some []))).alloc (.loop (R .ready))).heap[w.heap.size]? = some (.deferred (some [])):=(heap_alloc_lt _ _ (by simp)).trans (heap_alloc_new w _)
   have ht:=h (w.alloc (.deferred (some []))).heap.size R hSl
   rw[World.size_alloc] at ht hSl hg1 hadv1;have hSD1:(S.upd (w.heap.size+1) (.lp R .ready)) w.heap.size=none:=by rw[St.upd_ne _ _ _ _ (by omega)];exact hSD
   refine⟨w.heap.size+1,[markD w.heap.size],(w.alloc (.deferred (some []))).alloc (.loop (R .ready)),{ target:=.fn (.func gf) b2,args:=#[Value.func (.yield (w.heap.size+1)) #[] #[]] },(w.alloc (.deferred (some []))).alloc (.loop (R .ready)),gf,
    #[Value.func (.yield (w.heap.size+1)) #[] #[]]++b2,(w.alloc (.deferred (some []))).alloc (.loop (R .ready)),?_,?_,fun _ _=>trivial,?_,fun hh=>by simp[Fr,Fence.wide] at hh,?_⟩
   ·rw[hRd];exact run_enterLoop_outer _ _ _ _ _
   ·simp only[resolve,e1]
    simp[go_sem]
   ·simp only[invoke];exact ht.enter _ _
   ·have hrel1:RelL ((w.alloc (.deferred (some []))).alloc (.loop (R .ready))) (rdOf (S.upd (w.heap.size+1) (.lp R .ready))) (.fn (.yield (w.heap.size+1)) [] []::lb) (#[Value.func (.yield (w.heap.size+1)) #[] #[]]++b2).toList:=by
     simp only[Array.toList_append,List.singleton_append,RelL];exact⟨_,_,rfl,by simp only[Rel];exact⟨#[],#[],rfl,by simp[RelL],by simp[RelL]⟩,RelL.mono hadv1 _ _ r2⟩
    refine CallsIn.mono (callsIn_wide.2 (ht.out _ _ ?_ hg1 hrel1)) ?_
    ·-- A ROUND
     intro y hy xs S2 K hspec w2 vs m2 hadv2 hg2 hrel2;simp only[Cx.withY,Option.some.injEq] at hy;subst hy;obtain⟨⟨hS2,hlen⟩,haw⟩:=hspec;have hg2:Good C w2 S2:=hg2;have hL2:w2.heap[w.heap.size+1]? = some (.loop (R .ready)):=hg2.1 _ _ hS2;have hsz:vs.size=ps.size:=by have:=RelL.length hrel2;simp at this;omega
     have hyr:=run_yield (P:=P) (args:=vs) hL2 (by rw[hRd];exact hsz)
     have hadv02:=hadv1.trans hadv2
     have he2:RelEnv w2 S2 ((ps.zip vs).foldl (fun tmps (t,a)=>tmps.setIfInBounds t a) a.tmps) (putPs ps.toList xs env) n:=by
      have:=putPs_sound (he.mono hadv02) ps.toList xs vs.toList (fun p hp=>by simpa using List.all_eq_true.1 hdp p hp) (by simpa using hlen) hrel2
      rw[← Array.foldl_toList,Array.toList_zip];exact this
     rw[hRd] at hyr;refine⟨fn,_,assign,body,hyr,roundIn_of_wpIn (F:=Fence.wide) trivial ?_⟩;refine wpIn_mono (awp_sound hm assign hda (nr:=false) (fun hb=>by cases hb) (C:=C.round) (ro:=some (w.heap.size+1)) hT (fun hh=>by simp[Cx.round] at hh) (a:={ tmps:=_,defers:=[] }) (fun y hy=>(hY.mono hadv02) y hy) hg2 he2 haw) ?_
     rintro e a1 w3 ⟨ae,env1,S3,x1,x2,x3,x4,x5,x6⟩
     cases ae with
     | normal=>
       cases e<;>simp only[ExRel] at x1
       obtain⟨hS3,x6⟩:=x6;have x4:Good C w3 S3:=x4;have hL3:w3.heap[w.heap.size+1]? = some (.loop (R .ready)):=x4.1 _ _ hS3;have hbr:=run_beginRound (P:=P) hL3 (by rw[hRd])
       have hb2:({ R .ready with state:=.busy }:Loop)=R .busy:=by rw[hRd]
       rw[hb2] at hbr;have ha4:=Adv.setLp hS3 hL3 .busy;have hg4:=x4.setLp hS3 .busy;refine⟨_,hbr,?_⟩;refine wpIn_mono (awp_sound hm body hdb (nr:=false) (fun hb=>by cases hb) (C:=C.round) (ro:=some (w.heap.size+1)) hT (fun hh=>by simp[Cx.round] at hh) (fun y hy=>(hY.mono ((hadv02.trans x5).trans ha4)) y hy) hg4 (x2.mono ha4) x6) ?_
       rintro e a5 w5 ⟨ae,env5,S5,z1,z2,z3,z4,z5,hS5,z6⟩;have z4:Good C w5 S5:=z4;have hL5:w5.heap[w.heap.size+1]? = some (.loop (R .busy)):=z4.1 _ _ hS5;have fin:∀ (jump:Option Code) (st:LpSt),({ R .busy with state:=if jump.isNone then .ready else .done,pending:=jump }:Loop)=R st→K jump.isNone (S5.upd (w.heap.size+1) (.lp R st))→
        ∃ v w',(Instr.endRound (w.heap.size+1) jump).run P w5=.ok v w'∧∃ b S',(Ending.returned v)=.returned (.bool b)∧Good C w' S'∧Adv w2 S2 w' S'∧K b S':=fun jump st hst hk=>by
        have:=run_endRound (P:=P) jump hL5
        rw[hst] at this;exact⟨_,_,this,_,_,rfl,z4.setLp hS5 st,(x5.trans ha4).trans (z5.trans (Adv.setLp hS5 hL5 st)),hk⟩
       cases ae with
       | normal=>cases e<;>simp only[ExRel] at z1;exact fin none .ready (by rw[hRd];rfl) z6
       | ret=>cases e<;>simp only[ExRel] at z1;exact fin (some .ret) (.done .ret) (by rw[hRd];rfl) z6
       | exit i=>cases e<;>simp only[ExRel] at z1;subst z1;exact fin (some (.exit i)) (.done (.exit i)) (by rw[hRd];rfl) z6
       | panic x=>exact z6.elim
     | exit i=>exact x6.elim
     | ret=>exact x6.elim
     | panic x=>exact x6.elim
    ·-- THE END
     rintro e w3 ⟨o,S3,ho,hg3,hadv3,⟨x,rfl⟩,st,hS3,hq⟩;have hg3:Good C w3 S3:=hg3
     cases e with
     | returned v=>
       have hL3:w3.heap[w.heap.size+1]? = some (.loop (R st)):=hg3.1 _ _ hS3
       have ha4:∀ x,Adv w3 S3 (w3.putObj (w.heap.size+1) (.loop x)) (S3.del (w.heap.size+1)):=fun x=>Adv.endLp hS3 hL3 x
       have hg4:∀ x,Good C (w3.putObj (w.heap.size+1) (.loop x)) (S3.del (w.heap.size+1)):=fun x=>hg3.endLp hS3 x
       have hadv4:∀ x,Adv w S (w3.putObj (w.heap.size+1) (.loop x)) (S3.del (w.heap.size+1)):=fun x=>(hadv1.trans hadv3).trans (ha4 x)
       have hdef:∀ x,DefOk nr w a.defers (w3.putObj (w.heap.size+1) (.loop x)) (S3.del (w.heap.size+1)) ([markD w.heap.size]++a.defers):=fun x=>by
        obtain⟨k1,k2⟩:=(hadv3.trans (ha4 x)).old _ (lt_of_block hD1) hSD1;exact⟨[w.heap.size],rfl,by simp,fun hb=>by have:=hnr hb;simp[noRange] at this,fun D hD=>by simp at hD;subst hD;exact⟨Nat.le_refl _,k1,k2.trans hD1⟩⟩
       cases st with
       | ready=>
         have:=run_endLoop (P:=P) hL3 (by rw[hRd];simp)
         rw[show(R .ready).pending=none by rw[hRd]] at this
         exact⟨_,_,this,.normal,env,_,trivial,he.mono (hadv4 _),hdef _,hg4 _,hadv4 _,hq⟩
       | busy=>exact hq.elim
       | done c=>
         have:=run_endLoop (P:=P) hL3 (by rw[hRd];simp)
         rw[show(R (.done c)).pending=some c by rw[hRd]] at this
         refine⟨_,_,this,?_⟩;dsimp only
         cases c<;>dsimp only at hq<;>first | exact hq.elim | skip
         ·exact wpIn_exit ⟨.exit _,env,_,rfl,he.mono (hadv4 _),hdef _,hg4 _,hadv4 _,hq⟩
         ·exact wpIn_ret ⟨.ret,env,_,trivial,he.mono (hadv4 _),hdef _,hg4 _,hadv4 _,hq⟩
     | panicked ch=>exact ho.elim
     | outgrown=>exact ho.elim
  ·exact h.elim
 | .goto _,hd,nr,hnr,C,ro,m,hT,hro,a,w,S,env,hY,hg,he,Q,h=>h.elim
 | .refuse _,hd,nr,hnr,C,ro,m,hT,hro,a,w,S,env,hY,hg,he,Q,h=>h.elim
def resF(tmps:Array Value):ResultVar→Sem Value
 | .tmp t=>pure (tmps.getD t undef)
 | .cell a t=>do loadVar t (← asAddr (tmps.getD a undef))
theorem aLoad_ptr{w:World}{rd}{S:St}{t:TypeId}{p:AV}{x:Value}(hx:Rel w rd p x){K:AV→Prop}(h:aLoad C t p S K):∃ ad,x=.pointer (some ad):=by
 unfold aLoad at h
 split at h
 ·simp only[Rel] at hx;obtain⟨b,off,rfl,_⟩:=hx;exact⟨_,rfl⟩
 ·simp only[Rel] at hx;exact⟨_,hx⟩
 ·exact h.elim
theorem aRes_run(hT:TyOk P C){w:World}{S:St}{tmps:Array Value}{env:Env}{n:Nat}(hg:Good C w S)(he:RelEnv w S tmps env n):∀ (rs:List ResultVar) {K:List AV→Prop},aRes C env S rs K→
 ∃ xs vs,K xs∧(rs.mapM (resF tmps)).run P w=.ok vs w∧RelL w (rdOf S) xs vs∧vs.length=rs.length
 | [],K,h=>⟨[],[],h,rfl,by simp[RelL],rfl⟩
 | .tmp t::r,K,h=>by
  simp only[aRes,force_eq] at h;obtain⟨xs,vs,h1,h2,h3,h4⟩:=aRes_run hT hg he r h;refine⟨look t env::xs,tmps.getD t undef::vs,h1,?_,?_,by simp[h4]⟩
  ·rw[List.mapM_cons];simp only[resF,Sem.run_bind,Sem.run_pure,Result.andThen_ok,h2]
  ·simp only[RelL];exact⟨_,vs,rfl,he.at_ t,h3⟩
 | .cell a t::r,K,h=>by
  simp only[aRes] at h;obtain⟨x,v,h1,h2,h3⟩:=aLoad_sound (P:=P) hT hg.1 (he.at_ a) h;obtain⟨xs,vs,k1,k2,k3,k4⟩:=aRes_run hT hg he r h1;refine⟨x::xs,v::vs,k1,?_,?_,by simp[k4]⟩
  ·rw[List.mapM_cons];obtain⟨ad,had⟩:=aLoad_ptr (he.at_ a) h;rw[had] at h3;simp only[Instr.loadAt,Instr.sureAddr,Sem.run_bind,Sem.run_pure,Result.andThen_ok] at h3;have h5:(resF tmps (.cell a t)).run P w=.ok v w:=by
    simp only[resF,had,asAddr,Sem.run_bind,Sem.run_pure,Result.andThen_ok,h3]
   simp only[Sem.run_bind,h5,Result.andThen_ok,k2,Sem.run_pure]
  ·simp only[RelL];exact⟨_,vs,rfl,h2,k3⟩
theorem results_sound(hT:TyOk P C){w:World}{S:St}{tmps:Array Value}{env:Env}{n:Nat}(hg:Good C w S)(he:RelEnv w S tmps env n){fn:Func}{K:AV→Prop}(h:aOut C fn.results.toList env S K) :
 ∃ x v,K x∧(results fn tmps).run P w=.ok v w∧Rel w (rdOf S) x v:=by
 have hres:results fn tmps=(fn.results.mapM (resF tmps) >>= fun vs=>pure (if h:vs.size=1 then vs[0] else .tuple vs):Sem Value):=by
  unfold results
  congr 1
 rw[hres,Array.mapM_eq_mapM_toList];unfold aOut at h
 split at h
 ·rename_i r hr
  obtain⟨xs,vs,h1,h2,h3,h4⟩:=aRes_run (P:=P) hT hg he [r] h;rw[hr]
  match vs,h4 with
  | [v],_=>
   match xs,h3,h1 with
   | [x],h3,h1=>
    unfold RelL at h3;obtain⟨u,us,hu,h5,_⟩:=h3;simp only[List.cons.injEq] at hu;obtain⟨rfl,_⟩:=hu;exact⟨x,v,h1,by simp only[Sem.run_bind,Sem.run_map,h2,Result.andThen_ok,Sem.run_pure];rfl,h5⟩
 ·rename_i hne
  obtain⟨xs,vs,h1,h2,h3,h4⟩:=aRes_run (P:=P) hT hg he fn.results.toList h;have hn1:¬ vs.toArray.size=1:=by
   intro hh;have hl:fn.results.toList.length=1:=by rw[← h4];simpa using hh
   match hr:fn.results.toList,hl with
   | [r],_=>exact hne r hr
  refine⟨.tu xs,.tuple vs.toArray,h1,?_,by simp only[Rel];exact⟨_,rfl,by simpa using h3⟩⟩
  simp only[Sem.run_bind,Sem.run_map,h2,Result.andThen_ok,Sem.run_pure];rw[dif_neg hn1]
theorem argEnv_sound{w:World}{S:St}:∀ (i:Nat) (args:List AV) (vs:List Value),RelL w (rdOf S) args vs→∀ (t:Nat),Rel w (rdOf S) (look t (argEnv i args)) ((vs[t-i]?).getD undef)∨look t (argEnv i args)=.top
 | i,[],vs,h,t=>.inr rfl
 | i,x::xs,vs,h,t=>by
   simp only[RelL] at h;obtain⟨u,us,rfl,h1,h2⟩:=h;simp only[argEnv,look_cons]
   by_cases e:i=t
   ·subst e
    left
    simp only[if_true]
    simpa using h1
   ·rw[if_neg e]
    rcases argEnv_sound (i+1) xs us h2 t with h | h
    ·by_cases hlt:t<i
     ·right
      clear h h1 h2 e;have:∀ (ys:List AV) (j:Nat),t<j→look t (argEnv j ys)=.top:=by
       intro ys
       induction ys with
       | nil=>intro j _;rfl
       | cons y ys ih=>intro j hj;simp only[argEnv,look_cons,if_neg (show ¬ j=t by omega)];exact ih (j+1) (by omega)
      exact this xs (i+1) (by omega)
     ·left
      rw[show t-i=(t-(i+1))+1 from by omega]
      simpa using h
    ·exact .inr h
structure Shut (w w':World):Prop where
 os:w'.os=w.os
 tape:w'.tape=w.tape
 output:w'.output=w.output
 size:w'.heap.size=w.heap.size
 at_:∀ b:Nat,w'.heap[b]? = w.heap[b]?∨∃ x y,w.heap[b]? = some (Obj.deferred x)∧w'.heap[b]? = some (Obj.deferred y)
theorem Shut.refl(w:World):Shut w w:=⟨rfl,rfl,rfl,rfl,fun _=>.inl rfl⟩
theorem Shut.trans{w w' w'':World}(h:Shut w w')(k:Shut w' w''):Shut w w'':=
 ⟨k.os.trans h.os,k.tape.trans h.tape,k.output.trans h.output,k.size.trans h.size,fun b=>by
  rcases h.at_ b with h1 | ⟨x,y,h1,h2⟩
  ·rcases k.at_ b with k1 | ⟨x,y,k1,k2⟩
   ·exact .inl (k1.trans h1)
   ·exact .inr ⟨x,y,h1 ▸ k1,k2⟩
  ·rcases k.at_ b with k1 | ⟨x',y',k1,k2⟩
   ·exact .inr ⟨x,y,h1,k1.trans h2⟩
   ·exact .inr ⟨x,y',h1,k2⟩⟩
theorem Shut.put{w:World}{D:Nat}{x y:Option (List Deferred)}(h:w.heap[D]? = some (.deferred x)):Shut w (w.putObj D (.deferred y)):=
 ⟨rfl,rfl,rfl,by simp,fun b=>by
  by_cases hb:b=D
  ·subst hb;exact .inr ⟨x,y,h,World.putObj_heap_same (lt_of_block h)⟩
  ·exact .inl (World.putObj_heap_other hb)⟩
theorem Shut.same{w w':World}(h:Shut w w'){b:Nat}{o:Obj}(ho:w.heap[b]? = some o)(hn:∀ x,o≠.deferred x):w'.heap[b]? = some o:=by
 rcases h.at_ b with h1 | ⟨x,y,h1,h2⟩
 ·exact h1.trans ho
 ·rw[ho] at h1;cases h1;exact absurd rfl (hn x)
theorem Shut.cell{w w':World}(h:Shut w w')(b off:Nat):w'.cell? ⟨b,off,none⟩=w.cell? ⟨b,off,none⟩:=by
 rcases h.at_ b with h1 | ⟨x,y,h1,h2⟩
 ·exact cell_of_block h1 off
 ·simp[World.cell?,h1,h2]
theorem Shut.shape{w w':World}(h:Shut w w')(b:Nat):w'.shape? b=w.shape? b:=by
 rcases h.at_ b with h1 | ⟨x,y,h1,h2⟩
 ·exact shape_of_block h1
 ·simp[World.shape?,h1,h2]
section shut
variable {w w':World} {rd:Nat→Nat→Prop}
theorem stab_shut(h:Shut w w'){b off:Nat}{v:Value}(hs:stab w rd b off v):stab w' rd b off v:=⟨hs.1,(h.cell b off).trans hs.2.1,hs.2.2⟩
theorem ShOk_shut(h:Shut w w'){sh:Sh}{k b off n cap:Nat}(hs:ShOk w sh k b off n cap):ShOk w' sh k b off n cap:=by
 cases sh with
 | own b'=>obtain⟨h1,h2,e,h3⟩:=hs;exact⟨h1,h2,e,(h.shape _).trans h3⟩
 | acc b'=>obtain⟨h0,h1,h2,e,h3⟩:=hs;exact⟨h0,h1,h2,e,(h.shape _).trans h3⟩
 | _=>exact hs
mutual
theorem Rel.shut(h:Shut w w'):∀ (x:AV) (v:Value),Rel w rd x v→Rel w' rd x v
 | .int ..,v,hr=>by simpa only[Rel] using hr
 | .bool ..,v,hr=>by simpa only[Rel] using hr
 | .str ..,v,hr=>by simpa only[Rel] using hr
 | .nilp,v,hr=>by simpa only[Rel] using hr
 | .ref ..,v,hr=>by simpa only[Rel] using hr
 | .imm xs,v,hr=>by
  simp only[Rel] at hr ⊢;obtain⟨b,off,h1,h2⟩:=hr;exact⟨b,off,h1,RelAt.shut h b off xs h2⟩
 | .nils,v,hr=>by simpa only[Rel] using hr
 | .sl sh k es,v,hr=>by
  simp only[Rel] at hr ⊢
  rcases hr with hr | ⟨b,off,cap,h1,h2,h3,h4,h5⟩
  ·exact .inl hr
  ·exact .inr ⟨b,off,cap,h1,h2,h3,ShOk_shut h h4,RelRows.shut h k b off es h5⟩
 | .arr ..,v,hr=>by simpa only[Rel] using hr
 | .ag xs,v,hr=>by
  simp only[Rel] at hr ⊢;obtain⟨cs,h1,h2,h3⟩:=hr;exact⟨cs,h1,RelL.shut h xs _ h2,h3⟩
 | .tu xs,v,hr=>by
  simp only[Rel] at hr ⊢;obtain⟨cs,h1,h2⟩:=hr;exact⟨cs,h1,RelL.shut h xs _ h2⟩
 | .nilf,v,hr=>by simpa only[Rel] using hr
 | .fn f xs ys,v,hr=>by
  simp only[Rel] at hr ⊢;obtain⟨a,b,h1,h2,h3⟩:=hr;exact⟨a,b,h1,RelL.shut h xs _ h2,RelL.shut h ys _ h3⟩
 | .nili,v,hr=>by simpa only[Rel] using hr
 | .ifc t x,v,hr=>by
  simp only[Rel] at hr ⊢;obtain⟨y,h1,h2⟩:=hr;exact⟨y,h1,Rel.shut h x y h2⟩
 | .nilm,v,hr=>by simpa only[Rel] using hr
 | .mp ..,v,hr=>by simpa only[Rel] using hr
 | .raw ..,v,hr=>by simpa only[Rel] using hr
 | .top,v,hr=>by simp only[Rel]
theorem RelL.shut(h:Shut w w'):∀ (xs:List AV) (vs:List Value),RelL w rd xs vs→RelL w' rd xs vs
 | [],vs,hr=>by simpa only[RelL] using hr
 | x::xs,vs,hr=>by
   simp only[RelL] at hr ⊢;obtain⟨u,us,h1,h2,h3⟩:=hr;exact⟨u,us,h1,Rel.shut h x u h2,RelL.shut h xs us h3⟩
theorem RelAt.shut(h:Shut w w')(b off:Nat):∀ (xs:List AV),RelAt w rd b off xs→RelAt w' rd b off xs
 | [],hr=>by simp only[RelAt]
 | x::xs,hr=>by
   simp only[RelAt] at hr ⊢;obtain⟨⟨v,h1,h2⟩,h3⟩:=hr;exact⟨⟨v,stab_shut h h1,Rel.shut h x v h2⟩,RelAt.shut h b (off+1) xs h3⟩
theorem RelRows.shut(h:Shut w w')(k b off:Nat):∀ (es:List (List AV)),RelRows w rd k b off es→RelRows w' rd k b off es
 | [],hr=>by simp only[RelRows]
 | e::es,hr=>by
   simp only[RelRows] at hr ⊢;obtain⟨⟨h1,h2⟩,h3⟩:=hr;exact⟨⟨h1,RelAt.shut h b off e h2⟩,RelRows.shut h k b (off+k) es h3⟩
end
theorem OwnOk.shut(h:Shut w w'){b:Nat}{o:Own}(ho:OwnOk w rd b o):OwnOk w' rd b o:=by
 cases o with
 | obj e cells=>obtain⟨cs,h1,h2,h3⟩:=ho;exact⟨cs,h.same h1 (by simp),RelL.shut h _ _ h2,h3⟩
 | tip e k n=>obtain⟨cur,cap,h1,h2⟩:=ho;exact⟨cur,cap,h.same h1 (by simp),h2⟩
 | mapo es=>obtain⟨ms,c,h1,h2,h3,h4⟩:=ho;exact⟨ms,c,h.same h1 (by simp),RelL.shut h _ _ h2,RelL.shut h _ _ h3,h4⟩
 | siter s pos=>exact h.same ho (by simp)
 | lp R st=>exact h.same ho (by simp)
 | miter cur left=>
   obtain⟨m,since,seen,last,h1,h2⟩:=ho;refine⟨m,since,seen,last,h.same h1 (by simp),?_⟩
   cases m with
   | none=>exact h2
   | some r=>
     obtain⟨k1,ms,k2,k3,k4,k5,k6,k7⟩:=h2;exact⟨k1,ms,h.same k2 (by simp),k3,k4,RelL.shut h _ _ k5,RelL.shut h _ _ k6,fun kv hkv=>by
      obtain⟨e,e1,e2,e3,e4⟩:=k7 kv hkv;exact⟨e,e1,e2,Rel.shut h _ _ e3,Rel.shut h _ _ e4⟩⟩
theorem Good.shut(h:Shut w w'){S:St}(hg:Good C w S):Good C w' S:=
 ⟨fun b o ho=>OwnOk.shut h (hg.1 b o ho),fun g xs hx=>by
  obtain⟨k1,k2,k3,e,k4⟩:=hg.2 g xs hx;exact⟨k1,by rw[h.size];exact k2,RelAt.shut h _ _ _ k3,e,(h.shape g).trans k4⟩⟩
end shut
theorem leaves_marks{F:Fence}{m:Nat}{fn:Func}{tmps:Array Value}{R:Ending→World→Prop}{u:FrameMode}(hu:u≠.run):∀ (ms:List Nat) (w:World),ms.Nodup→(∀ D∈ms,w.heap[D]? = some (.deferred (some [])))→
 (∀ w',Shut w w'→(∀ b,b ∉ ms→w'.heap[b]? = w.heap[b]?)→LeavesIn F m P fn tmps R [] u w')→LeavesInM F m P fn tmps R (ms.map markD++[]) u w
 | [],w,hn,hm,h=>h w (Shut.refl w) (fun _ _=>rfl)
 | D::ms,w,hn,hm,h=>by
   have hD:=hm D (by simp)
   rw[List.nodup_cons] at hn;refine⟨hu,.inl ⟨D,_,rfl,run_takeDeferred hD,leaves_marks hu ms _ hn.2 (fun D' hD'=>?_) (fun w' h1 h2=>h w' ((Shut.put hD).trans h1) (fun b hb=>?_))⟩⟩
   ·exact(World.putObj_heap_other (by rintro rfl;exact hn.1 hD')).trans (hm D' (by simp[hD']))
   ·simp only[List.mem_cons,not_or] at hb;exact(h2 b hb.2).trans (World.putObj_heap_other hb.1)
theorem bodyPostM_of_post{nr:Bool}{F:Fence}{fn:Func}{R:Ending→World→Prop}(hT:TyOk P C){n m:Nat}{w:World}{S:St}{rs:List ResultVar}(hrs:fn.results.toList=rs){Q:Out→St→Prop}
 (hR:∀ o S' e w',OutRel w' S' o e→Good C w' S'→Adv w S w' S'→Q o S'→R e w') {e:Exit} {a':Act} {w':World} (h:Post nr C n [] w S (aPost C rs Q) e a' w'):bodyPostM F m P fn R e a' w':=by
 obtain⟨ae,env',S',h1,h2,⟨ms,hms,hnd,_,hmk⟩,h4,h5,h6⟩:=h;have close:∀ w'',Shut w' w''→(∀ b,b ∉ ms→w''.heap[b]? = w'.heap[b]?)→RelEnv w'' S' a'.tmps env' n∧Good C w'' S'∧Adv w S w'' S':=fun w'' hs ho=>by
  refine⟨⟨h2.size,fun t=>Rel.shut hs _ _ (h2.at_ t)⟩,Good.shut hs h4,hs.os.trans h5.os,hs.tape.trans h5.tape,hs.output.trans h5.output,by rw[hs.size];exact h5.size,fun b hb hn=>?_,fun b off hb hr=>?_,fun b e n hx=>?_⟩
  ·obtain⟨k1,k2⟩:=h5.old b hb hn;exact⟨k1,(ho b (fun hm=>by have:=(hmk b hm).1;omega)).trans k2⟩
  ·obtain⟨k1,k2⟩:=h5.stay b off hb hr;exact⟨k1,(hs.cell b off).trans k2⟩
  ·rw[hs.shape];exact h5.shape b e n hx
 have fin:aOut C rs env' S' (fun x=>∃ y S'',Q (.ret y) S''∧St.le S'' S'∧AV.leS S' S'' x y)→LeavesInM F m P fn a'.tmps R a'.defers .returning w':=by
  intro hx;rw[hms];refine leaves_marks (by simp) ms w' hnd (fun D hD=>(hmk D hD).2.2) fun w'' hs ho=>?_
  obtain⟨q2,q4,q5⟩:=close w'' hs ho;obtain⟨x,v,⟨y,S'',hq,hle,hxy⟩,k1,k2⟩:=results_sound (P:=P) hT q4 q2 (by rw[hrs];exact hx)
  exact⟨v,k1,hR (.ret y) S'' _ _ (AV.leS_sound q4.1 hle x y v hxy k2) (q4.shrink hle) (q5.trans (Adv.shrink hle)) hq⟩
 cases ae with
 | normal=>
   cases e<;>simp only[ExRel] at h1
   exact fin h6
 | exit i=>exact h6.elim
 | ret=>
   cases e<;>simp only[ExRel] at h1
   exact fin h6
 | panic x=>
   cases e<;>simp only[ExRel] at h1
   obtain⟨v,rfl,hv⟩:=h1;simp only[aPost,force_eq] at h6;obtain⟨y,S'',hq,hle,hxy⟩:=h6
   show LeavesInM F m P fn a'.tmps _ a'.defers _ w'
   rw[hms];refine leaves_marks (by simp) ms w' hnd (fun D hD=>(hmk D hD).2.2) fun w'' hs ho=>?_
   obtain⟨q2,q4,q5⟩:=close w'' hs ho;exact hR (.pan y) S'' _ _ ⟨v,rfl,AV.leS_sound q4.1 hle x y v hxy (Rel.shut hs _ _ hv)⟩ (q4.shrink hle) (q5.trans (Adv.shrink hle)) hq
theorem tripleE_of_awp(hT : TyOk P C)(hm : P.follows .mixedOrders = true){f : FuncId}{fn : Func}{c : Code}(hf : P.funcs[f]? = some fn)(hb : fn.body = some c)(hname : (fn.name == "runtime.NumGoroutine") = false)
 {n:Nat} (hn:fn.ntmps=n) (hd:dstOk n c=true) {args:List AV} (hargs:args.length≤n) {rs:List ResultVar} (hrs:fn.results.toList=rs) {S:St} {Q:Out→St→Prop}
 (h:awp P C c (argEnv 0 args) S (aPost C rs Q)):TripleE P C f args S Q:=by
 refine⟨fun vs w=>?_,fun w vs hY hg hr=>?_⟩
 · have hno : ¬ fn.name = "runtime.NumGoroutine" := by simpa using hname
   simp[callFunc,hf,hno,hb]
 ·have hvs:vs.size=args.length:=by simpa using (RelL.length hr).symm
  have he:RelEnv w S (vs++Array.replicate (fn.ntmps-vs.size) undef) (argEnv 0 args) n:=by
   refine⟨by simp[hn,hvs];omega,fun t=>?_⟩
   rcases argEnv_sound 0 args vs.toList hr t with h | h
   ·by_cases ht:t<vs.size
    ·have:(vs++Array.replicate (fn.ntmps-vs.size) undef).getD t undef=(vs.toList[t-0]?).getD undef:=by
      simp[Array.getD_eq_getD_getElem?,Array.getElem?_append_left ht]
     rw[this];exact h
    ·have htop:look t (argEnv 0 args)=.top:=by
      have:∀ (ys:List AV) (j:Nat),j+ys.length≤t→look t (argEnv j ys)=.top:=by
       intro ys
       induction ys with
       | nil=>intro j _;rfl
       | cons y ys ih=>intro j hj;simp only[argEnv,look_cons,if_neg (show ¬ j=t by simp at hj;omega)];exact ih (j+1) (by simp at hj;omega)
      exact this args 0 (by omega)
     rw[htop];simp only[Rel]
   ·rw[h];simp only[Rel]
  refine callsIn_wide.1 (callsIn_of_wp_marks (F:=Fence.wide) (n:=0) hf hb trivial (wpIn_mono (awp_sound hm c hd (nr:=false) (fun hb=>by cases hb) hT (ro:=none) (fun _=>rfl) hY hg (a:=⟨_,[]⟩) he h) ?_))
  exact fun e a' w' hp=>bodyPostM_of_post hT hrs (fun o S' e w' h1 h2 h3 h4=>⟨o,S',h1,h2,h3,h4⟩) hp
theorem triple_of_awp(hT : TyOk P C)(hm : P.follows .mixedOrders = true){f : FuncId}{fn : Func}{c : Code}(hf : P.funcs[f]? = some fn)(hb : fn.body = some c)(hname : (fn.name == "runtime.NumGoroutine") = false)
 {n:Nat} (hn:fn.ntmps=n) (hd:dstOk n c=true) {args:List AV} (hargs:args.length≤n) {rs:List ResultVar} (hrs:fn.results.toList=rs) {S:St} {Q:Out→St→Prop}
 (h:awp P C c (argEnv 0 args) S (aPost C rs Q)):Triple P C f args S Q:=(tripleE_of_awp hT hm hf hb hname hn hd hargs hrs h).triple
end
theorem wrap_i64{n:Int}(h0:-9223372036854775808≤n)(h1:n≤9223372036854775807):IntKind.i64.wrap n=n:=by
 rw[IntKind.wrap_i64];omega
theorem wrap_nat{i:Nat}(h:i+1≤9223372036854775807):IntKind.i64.wrap ((i:Int)+1)=((i+1:Nat):Int):=by
 rw[wrap_i64 (by omega) (by omega)];omega
theorem St.le_none{S S':St}(h:St.le S S'){b:Nat}(hb:S' b=none):S b=none:=by
 cases e:S b with
 | none=>rfl
 | some o=>rw[h b o e] at hb;cases hb
theorem St.le_del{S S':St}(h:St.le S S'){b:Nat}(hb:S b=none):St.le S (S'.del b):=fun x o e=>by
 have:x≠b:=fun hx=>by rw[hx,hb] at e;cases e
 rw[St.del_ne _ _ _ this];exact h x o e
theorem St.le_upd'{S S':St}(h:St.le S S'){b:Nat}(hb:S' b=none)(o:Own):St.le S (S'.upd b o):=St.le_upd h (St.le_none h hb) o
theorem St.del_upd{S:St}{b:Nat}(h:S b=none){o:Own}:(S.upd b o).del b=S:=by
 funext x
 by_cases hx:x=b
 ·subst hx;rw[St.del_same];exact h.symm
 ·rw[St.del_ne _ _ _ hx,St.upd_ne _ _ _ _ hx]
theorem St.le_upd2{S S':St}(h:St.le S S')(b:Nat)(o:Own):St.le (S.upd b o) (S'.upd b o):=fun x p e=>by
 by_cases hx:x=b
 ·subst hx;rw[St.upd_same] at e ⊢;exact e
 ·rw[St.upd_ne _ _ _ _ hx] at e ⊢;exact h x p e
theorem St.upd_comm{S:St}{b c:Nat}(h:b≠c)(o p:Own):(S.upd b o).upd c p=(S.upd c p).upd b o:=by
 funext x
 simp only[St.upd]
 by_cases h1:x=c
 ·subst h1;simp[Ne.symm h]
 ·simp[h1]
theorem St.upd_self{S:St}{b:Nat}{o:Own}(h:S b=some o):S.upd b o=S:=by
 funext x
 simp only[St.upd]
 split
 ·rename_i e;subst e;exact h.symm
 ·rfl
structure AccOk (S S₁:St) (e:TypeId) (k b n:Nat):Prop where
 le:St.le S S₁
 tip:0<n→S₁ b=some (.tip e k n)
 new:0<n→S b=none
theorem AccOk.init(S:St)(e:TypeId)(k b:Nat):AccOk S S e k b 0:=⟨St.le_refl S,by omega,by omega⟩
theorem AccOk.push{S S₁ S₂:St}{e:TypeId}{k b n m:Nat}(h:AccOk S S₁ e k b n){es:List (List AV)}(hn:es.length=n)(k1:es=[]→S₂=S₁)(k2:es≠[]→S₂=S₁.del b){b':Nat}(hb:S₂ b'=none){o:Own}(ho:o=.tip e k m) :
 AccOk S (S₂.upd b' o) e k b' m:=by
 subst ho;have hle:St.le S S₂:=by
  by_cases he:es=[]
  ·rw[k1 he];exact h.le
  ·rw[k2 he];exact St.le_del h.le (h.new (by rw[← hn];exact List.length_pos_iff.2 he))
 exact⟨St.le_upd' hle hb _,fun _=>St.upd_same _ _ _,fun _=>St.le_none hle hb⟩
mutual
theorem AV.leS_refl(S S':St):∀ x,AV.leS S S' x x
 | .sl sh k es=>by unfold AV.leS;split<;>simp_all [Sh.mayNil]
 | .nils=>by unfold AV.leS;rfl
 | .ref b o=>by unfold AV.leS;rfl
 | .ifc t x=>by unfold AV.leS;exact⟨rfl,AV.leS_refl S S' x⟩
 | .tu xs=>by unfold AV.leS;exact AV.leSL_refl S S' xs
 | .ag xs=>by unfold AV.leS;exact AV.leSL_refl S S' xs
 | .int _ _=>by unfold AV.leS;rfl
 | .bool _=>by unfold AV.leS;rfl
 | .str _=>by unfold AV.leS;rfl
 | .nilp=>by unfold AV.leS;rfl
 | .imm _=>by unfold AV.leS;rfl
 | .arr _ _ _ _=>by unfold AV.leS;rfl
 | .nilf=>by unfold AV.leS;rfl
 | .fn _ _ _=>by unfold AV.leS;rfl
 | .nili=>by unfold AV.leS;rfl
 | .nilm=>by unfold AV.leS;rfl
 | .mp _=>by unfold AV.leS;rfl
 | .raw _=>by unfold AV.leS;rfl
 | .top=>by unfold AV.leS;trivial
theorem AV.leSL_refl(S S':St):∀ xs,AV.leSL S S' xs xs
 | []=>by unfold AV.leSL;rfl
 | x::xs=>by unfold AV.leSL;exact⟨AV.leS_refl S S' x,AV.leSL_refl S S' xs⟩
end
section
variable {P:Program} {C:Cx}
theorem Adv.of_below{w w':World}{S:St}(hg:Inv w S)(h:Below w.heap.size w w'):Adv w S w' S:=by
 have hb:∀ b,b<w.heap.size→w'.heap[b]? = w.heap[b]?:=fun b hb=>h.block b hb
 exact⟨h.os,h.tape,h.output,h.size,fun b hlt hn=>⟨hn,hb b hlt⟩,fun b off hlt hr=>⟨hr,cell_of_block (hb b hlt) off⟩,fun b e n hs=>by rw[shape_of_block (hb b (shape_lt hs))];exact hs⟩
theorem Good.of_below{w w':World}{S:St}(hg:Good C w S)(h:Below w.heap.size w w'):Good C w' S:=by
 have hadv:=Adv.of_below hg.1 h
 exact hg.mk (fun b o ho=>OwnOk.mono hadv (h.block b (hg.1.lt ho)) (hg.1 b o ho)) hadv
theorem Triple.of_calls{f : FuncId}{fn : Func}{c : Code}(hf : P.funcs[f]? = some fn)(hb : fn.body = some c)(hname : (fn.name == "runtime.NumGoroutine") = false){args : List AV}{S : St}{x : AV}{Q : Out → St → Prop}
 (h:∀ (w:World) (vs:Array Value),Good C w S→RelL w (rdOf S) args vs.toList→Calls P f vs w fun e w'=>∃ v,e=.returned v∧Rel w' (rdOf S) x v∧Below w.heap.size w w') (hQ:Q (.ret x) S):Triple P C f args S Q:=by
 refine⟨fun w vs _ hg hr=>.inl ⟨?_,(h w vs hg hr).mono fun e w' he=>?_⟩⟩
 · have hno : ¬ fn.name = "runtime.NumGoroutine" := by simpa using hname
   simp[callFunc,hf,hno,hb]
 ·obtain⟨v,rfl,hv,hbel⟩:=he;exact⟨.ret x,S,hv,hg.of_below hbel,Adv.of_below hg.1 hbel,hQ⟩
theorem Triple.of_run{f:FuncId}{args:List AV}{S:St}{x:AV}{Q:Out→St→Prop}
 (h:∀ (w:World) (vs:Array Value),Good C w S→RelL w (rdOf S) args vs.toList→∃ v,(callFunc f vs).run P w=.ok (.value v) w∧Rel w (rdOf S) x v) (hQ:Q (.ret x) S):Triple P C f args S Q:=
 ⟨fun w vs _ hg hr=>by
  obtain⟨v,h1,h2⟩:=h w vs hg hr;exact .inr ⟨v,w,h1,.ret x,S,h2,hg,Adv.refl w S,hQ⟩⟩
theorem Triple.args{f:FuncId}{args args':List AV}{S:St}{Q:Out→St→Prop}(h:Triple P C f args' S Q)(hle:leL args args'):Triple P C f args S Q:=
 ⟨fun w vs hY hg hr=>h.out w vs hY hg (leL_sound hle hr)⟩
theorem Triple.use{f:FuncId}{args args':List AV}{S:St}{Q Q':Out→St→Prop}(h:Triple P C f args' S Q)(hle:leL args args')(hq:∀ o S',Q o S'→Q' o S'):Triple P C f args S Q':=(Triple.args h hle).mono hq
theorem Triple.weakS{f:FuncId}{args:List AV}{S₀ S:St}{Q:Out→St→Prop}(h:Triple P C f args S₀ Q)(hw:St.leW S₀ S):Triple P C f args S Q:=
 ⟨fun w vs hY hg hr=>(h.out w vs (hY.mono (Adv.weakS hw (Adv.refl w _))) (hg.weakS hw) (by rw[St.leW_rd hw];exact hr)).mono fun e w' ⟨o,S',h1,h2,h3,h4⟩=>⟨o,S',h1,h2,Adv.weakS hw h3,h4⟩⟩
def Out.leS(S S':St):Out→Out→Prop
 | .ret x,.ret y=>AV.leS S S' x y
 | .pan x,.pan y=>AV.leS S S' x y
 | _,_=>False
end
theorem St.up{S:St}{b b₂:Nat}{o p:Own}(h:S b₂=none)(k:S b=some o):(S.upd b₂ p) b=some o:=(St.upd_ne _ _ _ _ (St.ne_of h k)).trans k
theorem St.ov{S:St}{b b₂:Nat}{o p:Own}(h:b≠b₂)(k:S b=some o):(S.upd b₂ p) b=some o:=(St.upd_ne _ _ _ _ h).trans k
theorem St.no{S:St}{b b₂:Nat}{p:Own}(h:(S.upd b₂ p) b=none):S b=none:=by
 by_cases e:b=b₂
 ·subst e;rw[St.upd_same] at h;cases h
 ·rwa [St.upd_ne _ _ _ _ e] at h
theorem St.ne_upd{S:St}{b b₂:Nat}{p:Own}(h:(S.upd b₂ p) b=none):b≠b₂:=fun e=>by subst e;rw[St.upd_same] at h;cases h
theorem awp_seq2{P:Program}{C:Cx}{a b:Code}{env:Env}{S:St}{Q:AExit→Env→St→Prop}(h:∀ K:AExit→Env→St→Prop,(∀ env' S',awp P C b env' S' Q→K .normal env' S')→(∀ e env' S',e≠.normal→Q e env' S'→K e env' S')→awp P C a env S K):awp P C (.seq a b) env S Q:=by
 unfold awp;exact h _ (fun _ _ h=>h) (fun e _ _ he h=>by cases e<;>first | exact absurd rfl he | exact h)
theorem awp_cond{P:Program}{C:Cx}{t:Tmp}{x y:Code}{env:Env}{S:St}{Q:AExit→Env→St→Prop}{b:Bool}(h:look t env=.bool b)(ht:b=true→awp P C x ((t,.bool true)::env) S Q)(hf:b=false→awp P C y ((t,.bool false)::env) S Q):awp P C (.cond (.tmp t) x y) env S Q:=by
 unfold awp;rw[h];exact split_of ht hf
theorem Triple.arr{P:Program}{C:Cx}{f:FuncId}{args:List AV}{S:St}{Q:Out→St→Prop}(h:Triple P C.arr f args S Q):Triple P C f args S Q:=
 ⟨fun w vs hY hg hr=>h.out w vs hY hg hr⟩
def ov(S₀:St):List (Nat×Own)→St
 | []=>S₀
 | (b,o)::r=>(ov S₀ r).upd b o
structure FpOk (S₀:St) (fp:List (Nat×Own)):Prop where
 nd:(fp.map (·.1)).Nodup
 new:∀ p∈fp,S₀ p.1=none
theorem FpOk.nil(S₀:St):FpOk S₀ []:=⟨by simp,by simp⟩
theorem ov_out{S₀:St}:∀ {fp:List (Nat×Own)} {b:Nat},b ∉ fp.map (·.1)→ov S₀ fp b=S₀ b
 | [],b,h=>rfl
 | (c,o)::r,b,h=>by
  simp only[List.map_cons,List.mem_cons,not_or] at h;simp only[ov,St.upd_ne _ _ _ _ h.1];exact ov_out h.2
theorem ov_get{S₀:St}:∀ {fp:List (Nat×Own)},(fp.map (·.1)).Nodup→∀ {b o},(b,o)∈fp→ov S₀ fp b=some o
 | [],_,b,o,h=>by cases h
 | (c,p)::r,hn,b,o,h=>by
  simp only[List.map_cons,List.nodup_cons] at hn
  rcases List.mem_cons.1 h with h | h
  ·cases h;simp only[ov,St.upd_same]
  ·have:b≠c:=fun e=>hn.1 (by rw[← e];exact List.mem_map.2 ⟨_,h,rfl⟩)
   simp only[ov,St.upd_ne _ _ _ _ this];exact ov_get hn.2 h
theorem ov_none{S₀:St}{fp:List (Nat×Own)}(hn:(fp.map (·.1)).Nodup){b:Nat}(h:ov S₀ fp b=none):S₀ b=none∧b ∉ fp.map (·.1):=by
 by_cases hb:b∈fp.map (·.1)
 ·obtain⟨⟨c,o⟩,h1,rfl⟩:=List.mem_map.1 hb;rw[ov_get hn h1] at h;cases h
 ·exact⟨(ov_out (S₀:=S₀) hb).symm.trans h,hb⟩
theorem ov_upd_mid{S₀:St}{b:Nat}{o o':Own}:∀ {pre post:List (Nat×Own)},((pre++(b,o)::post).map (·.1)).Nodup→(ov S₀ (pre++(b,o)::post)).upd b o'=ov S₀ (pre++(b,o')::post)
 | [],post,h=>by simp only[List.nil_append,ov,St.upd_upd]
 | (c,p)::pre,post,h=>by
  simp only[List.cons_append,List.map_cons,List.nodup_cons] at h;have hbc:c≠b:=fun e=>h.1 (by rw[e];simp)
  simp only[List.cons_append,ov];rw[St.upd_comm hbc,ov_upd_mid h.2]
theorem ov_new_mid{S₀:St}{b:Nat}{o:Own}:∀ {pre post:List (Nat×Own)},b ∉ (pre++post).map (·.1)→(ov S₀ (pre++post)).upd b o=ov S₀ (pre++(b,o)::post)
 | [],post,h=>rfl
 | (c,p)::pre,post,h=>by
  simp only[List.cons_append,List.map_cons,List.mem_cons,not_or] at h;simp only[List.cons_append,ov];rw[St.upd_comm (Ne.symm h.1),ov_new_mid h.2]
theorem ov_del_mid{S₀:St}{b:Nat}{o:Own}(hb:S₀ b=none):∀ {pre post:List (Nat×Own)},((pre++(b,o)::post).map (·.1)).Nodup→(ov S₀ (pre++(b,o)::post)).del b=ov S₀ (pre++post)
 | [],post,h=>by
  simp only[List.nil_append,List.map_cons,List.nodup_cons] at h;simp only[List.nil_append,ov];exact St.del_upd (by rw[ov_out h.1];exact hb)
 | (c,p)::pre,post,h=>by
  simp only[List.cons_append,List.map_cons,List.nodup_cons] at h;have hbc:c≠b:=fun e=>h.1 (by rw[e];simp)
  simp only[List.cons_append,ov];rw[← ov_del_mid hb h.2]
  funext x
  by_cases hx:x=b
  ·subst hx;rw[St.del_same,St.upd_ne _ _ _ _ (Ne.symm hbc),St.del_same]
  ·rw[St.del_ne _ _ _ hx]
   by_cases hc:x=c
   ·subst hc;rw[St.upd_same,St.upd_same]
   ·rw[St.upd_ne _ _ _ _ hc,St.upd_ne _ _ _ _ hc,St.del_ne _ _ _ hx]
theorem FpOk.set{S₀:St}{b:Nat}{o:Own}{pre post:List (Nat×Own)}(h:FpOk S₀ (pre++(b,o)::post))(o':Own):FpOk S₀ (pre++(b,o')::post):=by
 refine⟨by simpa using h.nd,fun p hp=>?_⟩
 simp only[List.mem_append,List.mem_cons] at hp
 rcases hp with hp | rfl | hp
 ·exact h.new p (by simp[hp])
 ·exact h.new (b,o) (by simp)
 ·exact h.new p (by simp[hp])
theorem FpOk.add{S₀:St}{b:Nat}{pre post:List (Nat×Own)}(h:FpOk S₀ (pre++post))(hb:ov S₀ (pre++post) b=none)(o:Own):FpOk S₀ (pre++(b,o)::post):=by
 obtain⟨h1,h2⟩:=ov_none h.nd hb;refine⟨?_,fun p hp=>?_⟩
 ·have hn:=h.nd
  simp only[List.map_append,List.map_cons] at hn h2 ⊢;rw[List.nodup_append] at hn ⊢;obtain⟨n1,n2,n3⟩:=hn;simp only[List.mem_append,not_or] at h2;refine⟨n1,List.nodup_cons.2 ⟨h2.2,n2⟩,fun x hx y hy=>?_⟩
  rcases List.mem_cons.1 hy with rfl | hy
  ·exact fun e=>h2.1 (by rw[← e];exact hx)
  ·exact n3 x hx y hy
 ·simp only[List.mem_append,List.mem_cons] at hp
  rcases hp with hp | rfl | hp
  ·exact h.new p (by simp[hp])
  ·exact h1
  ·exact h.new p (by simp[hp])
theorem FpOk.sub{S₀:St}{fp fp':List (Nat×Own)}(h:FpOk S₀ fp)(hs:List.Sublist fp' fp):FpOk S₀ fp':=
 ⟨List.Nodup.sublist (hs.map _) h.nd,fun p hp=>h.new p (hs.subset hp)⟩
theorem FpOk.drop{S₀:St}{b:Nat}{o:Own}{pre post:List (Nat×Own)}(h:FpOk S₀ (pre++(b,o)::post)):FpOk S₀ (pre++post):=
 h.sub ((List.Sublist.refl pre).append (List.sublist_cons_self _ _))
theorem ov_le(S₀:St){fp:List (Nat×Own)}(h:FpOk S₀ fp):St.le S₀ (ov S₀ fp):=fun b o hb=>by
 have:b ∉ fp.map (·.1):=fun hh=>by
  obtain⟨p,h1,rfl⟩:=List.mem_map.1 hh;rw[h.new p h1] at hb;cases hb
 rw[ov_out this];exact hb
structure AccL where
 b:Nat
 es:List (List AV)
def AccL.av(a:AccL):AV:=.sl (.acc a.b) 1 a.es
def AccL.fp(a:AccL)(e:TypeId):List (Nat×Own):=match a.es with | []=>[] | r::rs=>[(a.b,.tip e 1 (r::rs).length)]
def AccL.empty:AccL:=⟨0,[]⟩
def AccL.push(a:AccL)(b:Nat)(x:AV):AccL:=⟨b,a.es++[[x]]⟩
theorem AccL.tip{S₀:St}{pre post:List (Nat×Own)}{a:AccL}{e:TypeId}(h:FpOk S₀ (pre++(a.fp e++post)))(hn:a.es≠[]):ov S₀ (pre++(a.fp e++post)) a.b=some (.tip e 1 a.es.length):=by
 refine ov_get h.nd ?_;obtain⟨b,es⟩:=a
 cases es with
 | nil=>exact absurd rfl hn
 | cons r rs=>simp[AccL.fp]
theorem AccL.pushed{S₀:St}{pre post:List (Nat×Own)}{a:AccL}{e:TypeId}(h:FpOk S₀ (pre++(a.fp e++post))){S₁:St}(h1:a.es=[]→S₁=ov S₀ (pre++(a.fp e++post)))(h2:a.es≠[]→S₁=(ov S₀ (pre++(a.fp e++post))).del a.b){b':Nat}(hb:S₁ b'=none)
 (x:AV) {n:Nat} (hn:n=a.es.length+1) :
 S₁.upd b' (.tip e 1 n)=ov S₀ (pre++((a.push b' x).fp e++post))∧FpOk S₀ (pre++((a.push b' x).fp e++post)):=by
 subst hn;obtain⟨b,es⟩:=a;have hfp:(AccL.push ⟨b,es⟩ b' x).fp e=[(b',.tip e 1 (es.length+1))]:=by
  unfold AccL.fp AccL.push
  cases es with
  | nil=>simp
  | cons x xs=>simp
 simp only[hfp,List.cons_append,List.nil_append]
 cases es with
 | nil=>
   have hS:=h1 rfl
   simp only[AccL.fp,List.nil_append] at hS h;subst hS;exact⟨ov_new_mid (ov_none h.nd hb).2,h.add hb _⟩
 | cons y ys=>
   have hS:=h2 (by simp)
   simp only[AccL.fp,List.cons_append,List.nil_append] at hS h;rw[ov_del_mid (h.new (b,.tip e 1 (y::ys).length) (by simp)) h.nd] at hS
   subst hS;exact⟨ov_new_mid (ov_none h.drop.nd hb).2,h.drop.add hb _⟩
theorem aPart_cell{C:Cx}{t:TypeId}{cells:List AV}{off:Nat}{K:AV→Prop}{x:AV}(ha:(C.T t).agg=false)(hx:cells[off]? = some x)(h:K x):aPart C t cells off K:=by
 unfold aPart;rw[ha];dsimp only;have hd:cells.drop off=x::cells.drop (off+1):=by
  have hlt:off<cells.length:=by
   rcases Nat.lt_or_ge off cells.length with h | h
   ·exact h
   ·rw[List.getElem?_eq_none h] at hx;cases hx
  rw[List.drop_eq_getElem_cons hlt];rw[List.getElem?_eq_getElem hlt] at hx
  cases hx;rfl
 rw[hd]
 simpa only[force_eq] using h
theorem AV.le_refl:∀ x,AV.le x x
 | .sl sh k es=>by cases sh<;>simp[AV.le,Sh.mayNil]
 | .int _ _=>rfl
 | .bool _=>rfl
 | .str _=>rfl
 | .nilp=>rfl
 | .ref _ _=>rfl
 | .imm _=>rfl
 | .nils=>rfl
 | .arr _ _ _ _=>rfl
 | .ag _=>rfl
 | .tu _=>rfl
 | .nilf=>rfl
 | .fn _ _ _=>rfl
 | .nili=>rfl
 | .ifc _ _=>rfl
 | .nilm=>rfl
 | .mp _=>rfl
 | .raw _=>rfl
 | .top=>by simp[AV.le]
theorem leL_refl:∀ xs,leL xs xs
 | []=>trivial
 | x::xs=>⟨AV.le_refl x,leL_refl xs⟩
theorem Triple.lessW{P:Program}{C:Cx}{f:FuncId}{args:List AV}{S:St}{Q Q':Out→St→Prop}(h:Triple P C f args S Q)(hq:∀ o S',Q o S'→∃ S'',Q' o S''∧St.leW S'' S'):Triple P C f args S Q':=
 ⟨fun w vs hY hg hr=>(h.out w vs hY hg hr).mono fun e w' ⟨o,S',h1,h2,h3,h4⟩=>by
  obtain⟨S'',k1,k2⟩:=hq o S' h4;refine⟨o,S'',?_,h2.weakS k2,h3.trans (Adv.weakS k2 (Adv.refl _ _)),k1⟩
  cases o<;>cases e<;>first | exact h1.elim | skip
  ·show Rel w' (rdOf S'') _ _
   rw[St.leW_rd k2];exact h1
  ·obtain⟨v,rfl,hv⟩:=h1;exact⟨v,rfl,by rw[St.leW_rd k2];exact hv⟩⟩
set_option maxRecDepth 100000
open Go
def leafT(n:Nat)(ti:TI)(t:Nat):TI:=bif Nat.beq t n then ti else TI.none
def OkT(P:Program)(t:Nat)(ti:TI):Prop:=TIok P t ti∨ti=TI.none
theorem leafT_ok{P:Program}{n:Nat}{ti:TI}(h:TIok P n ti)(t:Nat):OkT P t (leafT n ti t):=by
 unfold leafT
 cases e:Nat.beq t n with
 | true=>have:=Nat.eq_of_beq_eq_true e;subst this;exact .inl h
 | false=>exact .inr rfl
theorem nodeT_ok{P:Program}{t:Nat}{b:Bool}{x y:TI}(hx:OkT P t x)(hy:OkT P t y):OkT P t (bif b then x else y):=by cases b<;>assumption
def Tt(t:TypeId):TI:= bif Nat.blt t 160 then bif Nat.blt t 82 then bif Nat.blt t 38 then bif Nat.blt t 19 then bif Nat.blt t 10 then bif Nat.blt t 5 then bif Nat.blt t 3 then bif Nat.blt t 2 then leafT 1 ⟨1,8,.nilFunc,.fn⟩ t else leafT 2 ⟨1,8,.int .i64 0,.int .i64⟩ t else bif Nat.blt t 4 then leafT 3 ⟨1,8,.int .i64 0,.int .i64⟩ t else leafT 4 ⟨1,1,.bool false,.bool⟩ t else bif Nat.blt t 7 then bif Nat.blt t 6 then leafT 5 ⟨1,1,.int .u8 0,.int .u8⟩ t else leafT 6 ⟨1,1,.int .u8 0,.int .u8⟩ t else bif Nat.blt t 8 then leafT 7 ⟨4,24,.agg #[.int .i64 0,.int .i64 0,.bool false,.int .u8 0],.strct [(0,2),(1,3),(2,4),(3,6)]⟩ t else bif Nat.blt t 9 then leafT 8 ⟨4,24,.agg #[.int .i64 0,.int .i64 0,.bool false,.int .u8 0],.strct [(0,2),(1,3),(2,4),(3,6)]⟩ t else leafT 9 ⟨1,16,.string ByteArray.empty,.str⟩ t else bif Nat.blt t 14 then bif Nat.blt t 12 then bif Nat.blt t 11 then leafT 10 ⟨1,16,.string ByteArray.empty,.str⟩ t else leafT 11 ⟨1,16,.string ByteArray.empty,.str⟩ t else bif Nat.blt t 13 then leafT 12 ⟨1,8,.int .u64 0,.int .u64⟩ t else leafT 13 ⟨2,24,.agg #[.string ByteArray.empty,.int .u64 0],.strct [(0,9),(1,12)]⟩ t else bif Nat.blt t 16 then bif Nat.blt t 15 then leafT 14 ⟨2,24,.agg #[.string ByteArray.empty,.int .u64 0],.strct [(0,9),(1,12)]⟩ t else leafT 15 ⟨1,8,.pointer none,.ptr 297⟩ t else bif Nat.blt t 17 then leafT 16 ⟨1,8,.pointer none,.ptr 300⟩ t else bif Nat.blt t 18 then leafT 17 ⟨1,8,.pointer none,.ptr 307⟩ t else leafT 18 ⟨1,8,.agg #[.pointer none],.strct [(0,17)]⟩ t else bif Nat.blt t 28 then bif Nat.blt t 23 then bif Nat.blt t 21 then bif Nat.blt t 20 then leafT 19 ⟨1,8,.agg #[.pointer none],.strct [(0,17)]⟩ t else leafT 20 ⟨1,16,.nilIface,.iface true⟩ t else bif Nat.blt t 22 then leafT 21 ⟨1,4,.int .i32 0,.int .i32⟩ t else leafT 22 ⟨1,24,.slice none 0 0,.slice 54⟩ t else bif Nat.blt t 25 then bif Nat.blt t 24 then leafT 23 ⟨1,8,.pointer none,.ptr 73⟩ t else leafT 24 ⟨1,8,.nilFunc,.fn⟩ t else bif Nat.blt t 26 then leafT 25 ⟨1,8,.nilFunc,.fn⟩ t else bif Nat.blt t 27 then leafT 26 ⟨1,8,.nilFunc,.fn⟩ t else leafT 27 ⟨1,8,.pointer none,.ptr 44⟩ t else bif Nat.blt t 33 then bif Nat.blt t 30 then bif Nat.blt t 29 then leafT 28 ⟨1,24,.slice none 0 0,.slice 29⟩ t else leafT 29 ⟨1,24,.slice none 0 0,.slice 3⟩ t else bif Nat.blt t 31 then leafT 30 ⟨1,24,.slice none 0 0,.slice 52⟩ t else bif Nat.blt t 32 then leafT 31 ⟨1,24,.slice none 0 0,.slice 128⟩ t else leafT 32 ⟨1,24,.slice none 0 0,.slice 131⟩ t else bif Nat.blt t 35 then bif Nat.blt t 34 then leafT 33 ⟨1,24,.slice none 0 0,.slice 49⟩ t else leafT 34 ⟨1,24,.slice none 0 0,.slice 48⟩ t else bif Nat.blt t 36 then leafT 35 ⟨1,24,.slice none 0 0,.slice 134⟩ t else bif Nat.blt t 37 then leafT 36 ⟨1,24,.slice none 0 0,.slice 137⟩ t else leafT 37 ⟨1,24,.slice none 0 0,.slice 28⟩ t else bif Nat.blt t 58 then bif Nat.blt t 48 then bif Nat.blt t 42 then bif Nat.blt t 40 then bif Nat.blt t 39 then leafT 38 ⟨1,24,.slice none 0 0,.slice 140⟩ t else leafT 39 ⟨1,24,.slice none 0 0,.slice 143⟩ t else bif Nat.blt t 41 then leafT 40 ⟨1,24,.slice none 0 0,.slice 22⟩ t else leafT 41 ⟨1,24,.slice none 0 0,.slice 144⟩ t else bif Nat.blt t 44 then bif Nat.blt t 43 then leafT 42 ⟨1,24,.slice none 0 0,.slice 149⟩ t else leafT 43 ⟨28,672,.agg #[.slice none 0 0,.slice none 0 0,.slice none 0 0,.slice none 0 0,.slice none 0 0,.slice none 0 0,.slice none 0 0,.slice none 0 0,.slice none 0 0,.slice none 0 0,.slice none 0 0,.slice none 0 0,.slice none 0 0,.slice none 0 0,.slice none 0 0,.slice none 0 0,.slice none 0 0,.slice none 0 0,.slice none 0 0,.slice none 0 0,.slice none 0 0,.slice none 0 0,.slice none 0 0,.slice none 0 0,.slice none 0 0,.slice none 0 0,.slice none 0 0,.slice none 0 0],.strct [(0,28),(1,29),(2,30),(3,29),(4,31),(5,29),(6,32),(7,29),(8,33),(9,29),(10,34),(11,29),(12,35),(13,29),(14,36),(15,29),(16,37),(17,29),(18,38),(19,29),(20,39),(21,29),(22,40),(23,29),(24,41),(25,29),(26,42),(27,29)]⟩ t else bif Nat.blt t 45 then leafT 44 ⟨28,672,.agg #[.slice none 0 0,.slice none 0 0,.slice none 0 0,.slice none 0 0,.slice none 0 0,.slice none 0 0,.slice none 0 0,.slice none 0 0,.slice none 0 0,.slice none 0 0,.slice none 0 0,.slice none 0 0,.slice none 0 0,.slice none 0 0,.slice none 0 0,.slice none 0 0,.slice none 0 0,.slice none 0 0,.slice none 0 0,.slice none 0 0,.slice none 0 0,.slice none 0 0,.slice none 0 0,.slice none 0 0,.slice none 0 0,.slice none 0 0,.slice none 0 0,.slice none 0 0],.strct [(0,28),(1,29),(2,30),(3,29),(4,31),(5,29),(6,32),(7,29),(8,33),(9,29),(10,34),(11,29),(12,35),(13,29),(14,36),(15,29),(16,37),(17,29),(18,38),(19,29),(20,39),(21,29),(22,40),(23,29),(24,41),(25,29),(26,42),(27,29)]⟩ t else bif Nat.blt t 47 then leafT 45 ⟨1,8,.nilFunc,.fn⟩ t else leafT 47 ⟨1,8,.nilFunc,.fn⟩ t else bif Nat.blt t 52 then bif Nat.blt t 50 then bif Nat.blt t 49 then leafT 48 ⟨1,24,.slice none 0 0,.slice 85⟩ t else leafT 49 ⟨1,24,.slice none 0 0,.slice 126⟩ t else bif Nat.blt t 51 then leafT 50 ⟨2,40,.agg #[.slice none 0 0,.string ByteArray.empty],.strct [(0,49),(1,9)]⟩ t else leafT 51 ⟨2,40,.agg #[.slice none 0 0,.string ByteArray.empty],.strct [(0,49),(1,9)]⟩ t else bif Nat.blt t 54 then bif Nat.blt t 53 then leafT 52 ⟨1,24,.slice none 0 0,.slice 9⟩ t else leafT 53 ⟨10,176,.agg #[.int .i64 0,.string ByteArray.empty,.slice none 0 0,.slice none 0 0,.string ByteArray.empty,.slice none 0 0,.slice none 0 0,.int .i64 0,.string ByteArray.empty,.string ByteArray.empty],.strct [(0,3),(1,9),(2,48),(3,51),(5,29),(6,52),(7,3),(8,9),(9,9)]⟩ t else bif Nat.blt t 55 then leafT 54 ⟨10,176,.agg #[.int .i64 0,.string ByteArray.empty,.slice none 0 0,.slice none 0 0,.string ByteArray.empty,.slice none 0 0,.slice none 0 0,.int .i64 0,.string ByteArray.empty,.string ByteArray.empty],.strct [(0,3),(1,9),(2,48),(3,51),(5,29),(6,52),(7,3),(8,9),(9,9)]⟩ t else bif Nat.blt t 57 then leafT 55 ⟨1,8,.int .i64 0,.int .i64⟩ t else leafT 57 ⟨1,8,.nilFunc,.fn⟩ t else bif Nat.blt t 70 then bif Nat.blt t 62 then bif Nat.blt t 60 then bif Nat.blt t 59 then leafT 58 ⟨1,8,.nilFunc,.fn⟩ t else leafT 59 ⟨1,8,.nilFunc,.fn⟩ t else bif Nat.blt t 61 then leafT 60 ⟨1,8,.nilFunc,.fn⟩ t else leafT 61 ⟨2,16,.agg #[.int .i64 0,.int .i64 0],.strct [(0,3),(1,3)]⟩ t else bif Nat.blt t 65 then bif Nat.blt t 64 then leafT 62 ⟨2,16,.agg #[.int .i64 0,.int .i64 0],.strct [(0,3),(1,3)]⟩ t else leafT 64 ⟨1,8,.nilFunc,.fn⟩ t else bif Nat.blt t 66 then leafT 65 ⟨1,16,.nilIface,.iface false⟩ t else bif Nat.blt t 68 then leafT 66 ⟨1,16,.nilIface,.iface false⟩ t else leafT 68 ⟨1,8,.nilFunc,.fn⟩ t else bif Nat.blt t 75 then bif Nat.blt t 72 then bif Nat.blt t 71 then leafT 70 ⟨1,8,.nilFunc,.fn⟩ t else leafT 71 ⟨1,8,.nilFunc,.fn⟩ t else bif Nat.blt t 73 then leafT 72 ⟨1,8,.agg #[.int .i64 0],.strct [(0,3)]⟩ t else bif Nat.blt t 74 then leafT 73 ⟨1,8,.agg #[.int .i64 0],.strct [(0,3)]⟩ t else leafT 74 ⟨1,8,.nilFunc,.fn⟩ t else bif Nat.blt t 78 then bif Nat.blt t 76 then leafT 75 ⟨1,8,.nilFunc,.fn⟩ t else leafT 76 ⟨1,8,.nilFunc,.fn⟩ t else bif Nat.blt t 80 then leafT 78 ⟨1,8,.nilFunc,.fn⟩ t else bif Nat.blt t 81 then leafT 80 ⟨1,8,.nilFunc,.fn⟩ t else leafT 81 ⟨1,8,.nilFunc,.fn⟩ t else bif Nat.blt t 123 then bif Nat.blt t 102 then bif Nat.blt t 91 then bif Nat.blt t 86 then bif Nat.blt t 84 then bif Nat.blt t 83 then leafT 82 ⟨1,8,.nilFunc,.fn⟩ t else leafT 83 ⟨1,8,.nilFunc,.fn⟩ t else bif Nat.blt t 85 then leafT 84 ⟨3,32,.agg #[.int .i64 0,.string ByteArray.empty,.int .i64 0],.strct [(0,3),(1,9),(2,3)]⟩ t else leafT 85 ⟨3,32,.agg #[.int .i64 0,.string ByteArray.empty,.int .i64 0],.strct [(0,3),(1,9),(2,3)]⟩ t else bif Nat.blt t 88 then bif Nat.blt t 87 then leafT 86 ⟨1,24,.slice none 0 0,.slice 5⟩ t else leafT 87 ⟨1,8,.pointer none,.ptr 89⟩ t else bif Nat.blt t 89 then leafT 88 ⟨2,32,.agg #[.pointer none,.slice none 0 0],.strct [(0,87),(1,86)]⟩ t else bif Nat.blt t 90 then leafT 89 ⟨2,32,.agg #[.pointer none,.slice none 0 0],.strct [(0,87),(1,86)]⟩ t else leafT 90 ⟨1,8,.pointer none,.ptr 92⟩ t else bif Nat.blt t 97 then bif Nat.blt t 94 then bif Nat.blt t 92 then leafT 91 ⟨3,24,.agg #[.int .i64 0,.int .i64 0,.int .i64 0],.strct [(0,3),(1,3),(2,55)]⟩ t else leafT 92 ⟨3,24,.agg #[.int .i64 0,.int .i64 0,.int .i64 0],.strct [(0,3),(1,3),(2,55)]⟩ t else bif Nat.blt t 95 then leafT 94 ⟨1,8,.nilFunc,.fn⟩ t else leafT 95 ⟨1,8,.nilFunc,.fn⟩ t else bif Nat.blt t 99 then bif Nat.blt t 98 then leafT 97 ⟨1,8,.nilFunc,.fn⟩ t else leafT 98 ⟨1,8,.nilFunc,.fn⟩ t else bif Nat.blt t 100 then leafT 99 ⟨1,8,.nilFunc,.fn⟩ t else bif Nat.blt t 101 then leafT 100 ⟨1,8,.nilFunc,.fn⟩ t else leafT 101 ⟨1,8,.nilFunc,.fn⟩ t else bif Nat.blt t 111 then bif Nat.blt t 106 then bif Nat.blt t 104 then bif Nat.blt t 103 then leafT 102 ⟨1,8,.nilFunc,.fn⟩ t else leafT 103 ⟨1,8,.nilFunc,.fn⟩ t else bif Nat.blt t 105 then leafT 104 ⟨1,8,.nilFunc,.fn⟩ t else leafT 105 ⟨1,8,.nilFunc,.fn⟩ t else bif Nat.blt t 108 then bif Nat.blt t 107 then leafT 106 ⟨1,8,.nilFunc,.fn⟩ t else leafT 107 ⟨1,8,.nilFunc,.fn⟩ t else bif Nat.blt t 109 then leafT 108 ⟨1,8,.pointer none,.ptr 111⟩ t else bif Nat.blt t 110 then leafT 109 ⟨1,8,.nilFunc,.fn⟩ t else leafT 110 ⟨2,32,.agg #[.slice none 0 0,.int .i64 0],.strct [(0,52),(1,3)]⟩ t else bif Nat.blt t 117 then bif Nat.blt t 114 then bif Nat.blt t 113 then leafT 111 ⟨2,32,.agg #[.slice none 0 0,.int .i64 0],.strct [(0,52),(1,3)]⟩ t else leafT 113 ⟨1,8,.nilFunc,.fn⟩ t else bif Nat.blt t 115 then leafT 114 ⟨1,8,.nilFunc,.fn⟩ t else bif Nat.blt t 116 then leafT 115 ⟨1,8,.nilFunc,.fn⟩ t else leafT 116 ⟨1,8,.nilFunc,.fn⟩ t else bif Nat.blt t 120 then bif Nat.blt t 119 then leafT 117 ⟨1,8,.nilFunc,.fn⟩ t else leafT 119 ⟨1,8,.nilFunc,.fn⟩ t else bif Nat.blt t 121 then leafT 120 ⟨1,8,.nilFunc,.fn⟩ t else bif Nat.blt t 122 then leafT 121 ⟨1,8,.pointer none,.ptr 90⟩ t else leafT 122 ⟨1,8,.nilFunc,.fn⟩ t else bif Nat.blt t 141 then bif Nat.blt t 132 then bif Nat.blt t 127 then bif Nat.blt t 125 then bif Nat.blt t 124 then leafT 123 ⟨1,8,.nilFunc,.fn⟩ t else leafT 124 ⟨1,8,.nilFunc,.fn⟩ t else bif Nat.blt t 126 then leafT 125 ⟨2,24,.agg #[.string ByteArray.empty,.int .i64 0],.strct [(0,9),(1,3)]⟩ t else leafT 126 ⟨2,24,.agg #[.string ByteArray.empty,.int .i64 0],.strct [(0,9),(1,3)]⟩ t else bif Nat.blt t 129 then bif Nat.blt t 128 then leafT 127 ⟨1,8,.nilFunc,.fn⟩ t else leafT 128 ⟨1,24,.slice none 0 0,.slice 130⟩ t else bif Nat.blt t 130 then leafT 129 ⟨2,16,.agg #[.int .i64 0,.int .i64 0],.strct [(0,3),(1,3)]⟩ t else bif Nat.blt t 131 then leafT 130 ⟨2,16,.agg #[.int .i64 0,.int .i64 0],.strct [(0,3),(1,3)]⟩ t else leafT 131 ⟨1,24,.slice none 0 0,.slice 133⟩ t else bif Nat.blt t 136 then bif Nat.blt t 134 then bif Nat.blt t 133 then leafT 132 ⟨3,32,.agg #[.string ByteArray.empty,.int .i64 0,.int .i64 0],.strct [(0,9),(1,3),(2,3)]⟩ t else leafT 133 ⟨3,32,.agg #[.string ByteArray.empty,.int .i64 0,.int .i64 0],.strct [(0,9),(1,3),(2,3)]⟩ t else bif Nat.blt t 135 then leafT 134 ⟨1,24,.slice none 0 0,.slice 136⟩ t else leafT 135 ⟨3,24,.agg #[.int .i64 0,.int .i64 0,.int .i64 0],.strct [(0,3),(1,3),(2,3)]⟩ t else bif Nat.blt t 138 then bif Nat.blt t 137 then leafT 136 ⟨3,24,.agg #[.int .i64 0,.int .i64 0,.int .i64 0],.strct [(0,3),(1,3),(2,3)]⟩ t else leafT 137 ⟨1,24,.slice none 0 0,.slice 139⟩ t else bif Nat.blt t 139 then leafT 138 ⟨6,48,.agg #[.int .i64 0,.int .i64 0,.bool false,.int .i64 0,.int .i64 0,.bool false],.strct [(0,3),(1,3),(2,4),(3,3),(4,3),(5,4)]⟩ t else bif Nat.blt t 140 then leafT 139 ⟨6,48,.agg #[.int .i64 0,.int .i64 0,.bool false,.int .i64 0,.int .i64 0,.bool false],.strct [(0,3),(1,3),(2,4),(3,3),(4,3),(5,4)]⟩ t else leafT 140 ⟨1,24,.slice none 0 0,.slice 142⟩ t else bif Nat.blt t 150 then bif Nat.blt t 145 then bif Nat.blt t 143 then bif Nat.blt t 142 then leafT 141 ⟨10,144,.agg #[.int .i64 0,.int .i64 0,.slice none 0 0,.int .i64 0,.int .i64 0,.int .i64 0,.int .i64 0,.slice none 0 0,.slice none 0 0,.slice none 0 0],.strct [(0,3),(1,3),(2,128),(3,3),(4,3),(5,3),(6,3),(7,29),(8,29),(9,28)]⟩ t else leafT 142 ⟨10,144,.agg #[.int .i64 0,.int .i64 0,.slice none 0 0,.int .i64 0,.int .i64 0,.int .i64 0,.int .i64 0,.slice none 0 0,.slice none 0 0,.slice none 0 0],.strct [(0,3),(1,3),(2,128),(3,3),(4,3),(5,3),(6,3),(7,29),(8,29),(9,28)]⟩ t else bif Nat.blt t 144 then leafT 143 ⟨1,24,.slice none 0 0,.slice 51⟩ t else leafT 144 ⟨1,24,.slice none 0 0,.slice 148⟩ t else bif Nat.blt t 147 then bif Nat.blt t 146 then leafT 145 ⟨3,40,.agg #[.int .i64 0,.int .i64 0,.slice none 0 0],.strct [(0,3),(1,3),(2,29)]⟩ t else leafT 146 ⟨3,40,.agg #[.int .i64 0,.int .i64 0,.slice none 0 0],.strct [(0,3),(1,3),(2,29)]⟩ t else bif Nat.blt t 148 then leafT 147 ⟨7,72,.agg #[.int .i64 0,.int .i64 0,.int .i64 0,.int .i64 0,.int .i64 0,.int .i64 0,.slice none 0 0],.strct [(0,3),(1,136),(4,146)]⟩ t else bif Nat.blt t 149 then leafT 148 ⟨7,72,.agg #[.int .i64 0,.int .i64 0,.int .i64 0,.int .i64 0,.int .i64 0,.int .i64 0,.slice none 0 0],.strct [(0,3),(1,136),(4,146)]⟩ t else leafT 149 ⟨1,24,.slice none 0 0,.slice 151⟩ t else bif Nat.blt t 155 then bif Nat.blt t 152 then bif Nat.blt t 151 then leafT 150 ⟨4,56,.agg #[.int .i64 0,.int .i64 0,.string ByteArray.empty,.slice none 0 0],.strct [(0,3),(1,3),(2,9),(3,29)]⟩ t else leafT 151 ⟨4,56,.agg #[.int .i64 0,.int .i64 0,.string ByteArray.empty,.slice none 0 0],.strct [(0,3),(1,3),(2,9),(3,29)]⟩ t else bif Nat.blt t 153 then leafT 152 ⟨1,8,.pointer none,.ptr 5⟩ t else bif Nat.blt t 154 then leafT 153 ⟨1,8,.nilFunc,.fn⟩ t else leafT 154 ⟨1,8,.nilFunc,.fn⟩ t else bif Nat.blt t 157 then bif Nat.blt t 156 then leafT 155 ⟨1,8,.nilFunc,.fn⟩ t else leafT 156 ⟨1,8,.nilFunc,.fn⟩ t else bif Nat.blt t 158 then leafT 157 ⟨1,8,.nilFunc,.fn⟩ t else bif Nat.blt t 159 then leafT 158 ⟨1,8,.nilFunc,.fn⟩ t else leafT 159 ⟨1,8,.nilFunc,.fn⟩ t else bif Nat.blt t 242 then bif Nat.blt t 200 then bif Nat.blt t 180 then bif Nat.blt t 170 then bif Nat.blt t 164 then bif Nat.blt t 162 then bif Nat.blt t 161 then leafT 160 ⟨1,8,.nilFunc,.fn⟩ t else leafT 161 ⟨1,8,.nilFunc,.fn⟩ t else bif Nat.blt t 163 then leafT 162 ⟨1,8,.pointer none,.ptr 164⟩ t else leafT 163 ⟨11,200,.agg #[.slice none 0 0,.int .i64 0,.string ByteArray.empty,.slice none 0 0,.slice none 0 0,.string ByteArray.empty,.slice none 0 0,.slice none 0 0,.int .i64 0,.string ByteArray.empty,.string ByteArray.empty],.strct [(0,52),(1,54)]⟩ t else bif Nat.blt t 166 then bif Nat.blt t 165 then leafT 164 ⟨11,200,.agg #[.slice none 0 0,.int .i64 0,.string ByteArray.empty,.slice none 0 0,.slice none 0 0,.string ByteArray.empty,.slice none 0 0,.slice none 0 0,.int .i64 0,.string ByteArray.empty,.string ByteArray.empty],.strct [(0,52),(1,54)]⟩ t else leafT 165 ⟨1,8,.nilFunc,.fn⟩ t else bif Nat.blt t 168 then leafT 166 ⟨1,8,.nilFunc,.fn⟩ t else bif Nat.blt t 169 then leafT 168 ⟨1,8,.map none,.map 9 166⟩ t else leafT 169 ⟨1,8,.nilFunc,.fn⟩ t else bif Nat.blt t 175 then bif Nat.blt t 173 then bif Nat.blt t 171 then leafT 170 ⟨1,8,.nilFunc,.fn⟩ t else leafT 171 ⟨1,8,.nilFunc,.fn⟩ t else bif Nat.blt t 174 then leafT 173 ⟨1,8,.int .u64 0,.int .u64⟩ t else leafT 174 ⟨3,24,.agg #[.pointer none,.pointer none,.int .u64 0],.strct [(0,17),(1,172),(2,173)]⟩ t else bif Nat.blt t 177 then bif Nat.blt t 176 then leafT 175 ⟨3,24,.agg #[.pointer none,.pointer none,.int .u64 0],.strct [(0,17),(1,172),(2,173)]⟩ t else leafT 176 ⟨1,8,.nilFunc,.fn⟩ t else bif Nat.blt t 178 then leafT 177 ⟨1,16,.nilIface,.iface false⟩ t else bif Nat.blt t 179 then leafT 178 ⟨1,16,.nilIface,.iface false⟩ t else leafT 179 ⟨1,8,.nilFunc,.fn⟩ t else bif Nat.blt t 189 then bif Nat.blt t 184 then bif Nat.blt t 182 then bif Nat.blt t 181 then leafT 180 ⟨1,1,.int .u8 0,.int .u8⟩ t else leafT 181 ⟨1,8,.nilFunc,.fn⟩ t else bif Nat.blt t 183 then leafT 182 ⟨1,8,.nilFunc,.fn⟩ t else leafT 183 ⟨1,8,.nilFunc,.fn⟩ t else bif Nat.blt t 186 then bif Nat.blt t 185 then leafT 184 ⟨1,8,.nilFunc,.fn⟩ t else leafT 185 ⟨1,8,.nilFunc,.fn⟩ t else bif Nat.blt t 187 then leafT 186 ⟨1,8,.nilFunc,.fn⟩ t else bif Nat.blt t 188 then leafT 187 ⟨1,8,.nilFunc,.fn⟩ t else leafT 188 ⟨2,32,.agg #[.bool false,.slice none 0 0],.strct [(0,4),(1,29)]⟩ t else bif Nat.blt t 195 then bif Nat.blt t 192 then bif Nat.blt t 191 then leafT 189 ⟨2,32,.agg #[.bool false,.slice none 0 0],.strct [(0,4),(1,29)]⟩ t else leafT 191 ⟨1,8,.nilFunc,.fn⟩ t else bif Nat.blt t 193 then leafT 192 ⟨1,8,.nilFunc,.fn⟩ t else bif Nat.blt t 194 then leafT 193 ⟨1,8,.nilFunc,.fn⟩ t else leafT 194 ⟨1,8,.nilFunc,.fn⟩ t else bif Nat.blt t 197 then bif Nat.blt t 196 then leafT 195 ⟨1,8,.agg #[.pointer none],.strct [(0,17)]⟩ t else leafT 196 ⟨1,8,.agg #[.pointer none],.strct [(0,17)]⟩ t else bif Nat.blt t 198 then leafT 197 ⟨1,8,.pointer none,.ptr 311⟩ t else bif Nat.blt t 199 then leafT 198 ⟨1,8,.nilFunc,.fn⟩ t else leafT 199 ⟨1,8,.nilFunc,.fn⟩ t else bif Nat.blt t 220 then bif Nat.blt t 210 then bif Nat.blt t 205 then bif Nat.blt t 203 then bif Nat.blt t 201 then leafT 200 ⟨1,8,.nilFunc,.fn⟩ t else leafT 201 ⟨1,16,.nilIface,.iface false⟩ t else bif Nat.blt t 204 then leafT 203 ⟨1,8,.nilFunc,.fn⟩ t else leafT 204 ⟨1,16,.nilIface,.iface false⟩ t else bif Nat.blt t 207 then bif Nat.blt t 206 then leafT 205 ⟨1,16,.nilIface,.iface false⟩ t else leafT 206 ⟨1,24,.slice none 0 0,.slice 66⟩ t else bif Nat.blt t 208 then leafT 207 ⟨1,8,.nilFunc,.fn⟩ t else bif Nat.blt t 209 then leafT 208 ⟨1,8,.nilFunc,.fn⟩ t else leafT 209 ⟨1,8,.int .u64 0,.int .u64⟩ t else bif Nat.blt t 215 then bif Nat.blt t 212 then bif Nat.blt t 211 then leafT 210 ⟨1,8,.nilFunc,.fn⟩ t else leafT 211 ⟨1,8,.nilFunc,.fn⟩ t else bif Nat.blt t 214 then leafT 212 ⟨1,8,.nilFunc,.fn⟩ t else leafT 214 ⟨1,8,.nilFunc,.fn⟩ t else bif Nat.blt t 217 then bif Nat.blt t 216 then leafT 215 ⟨1,8,.nilFunc,.fn⟩ t else leafT 216 ⟨1,8,.nilFunc,.fn⟩ t else bif Nat.blt t 218 then leafT 217 ⟨1,24,.slice none 0 0,.slice 219⟩ t else bif Nat.blt t 219 then leafT 218 ⟨2,16,.agg #[.int .i64 0,.int .i64 0],.strct [(0,3),(1,3)]⟩ t else leafT 219 ⟨2,16,.agg #[.int .i64 0,.int .i64 0],.strct [(0,3),(1,3)]⟩ t else bif Nat.blt t 232 then bif Nat.blt t 226 then bif Nat.blt t 223 then bif Nat.blt t 221 then leafT 220 ⟨1,8,.nilFunc,.fn⟩ t else leafT 221 ⟨1,8,.nilFunc,.fn⟩ t else bif Nat.blt t 224 then leafT 223 ⟨1,8,.nilFunc,.fn⟩ t else leafT 224 ⟨1,4,.int .u32 0,.int .u32⟩ t else bif Nat.blt t 228 then bif Nat.blt t 227 then leafT 226 ⟨1,8,.nilFunc,.fn⟩ t else leafT 227 ⟨24,24,.agg #[.int .u8 0,.int .u8 0,.int .u8 0,.int .u8 0,.int .u8 0,.int .u8 0,.int .u8 0,.int .u8 0,.int .u8 0,.int .u8 0,.int .u8 0,.int .u8 0,.int .u8 0,.int .u8 0,.int .u8 0,.int .u8 0,.int .u8 0,.int .u8 0,.int .u8 0,.int .u8 0,.int .u8 0,.int .u8 0,.int .u8 0,.int .u8 0],.array 24 5⟩ t else bif Nat.blt t 229 then leafT 228 ⟨1,8,.int .u64 0,.int .u64⟩ t else bif Nat.blt t 230 then leafT 229 ⟨1,8,.nilFunc,.fn⟩ t else leafT 230 ⟨1,8,.nilFunc,.fn⟩ t else bif Nat.blt t 237 then bif Nat.blt t 234 then bif Nat.blt t 233 then leafT 232 ⟨1,8,.nilFunc,.fn⟩ t else leafT 233 ⟨1,8,.nilFunc,.fn⟩ t else bif Nat.blt t 235 then leafT 234 ⟨1,8,.nilFunc,.fn⟩ t else bif Nat.blt t 236 then leafT 235 ⟨1,8,.nilFunc,.fn⟩ t else leafT 236 ⟨1,8,.map none,.map 9 3⟩ t else bif Nat.blt t 239 then bif Nat.blt t 238 then leafT 237 ⟨1,8,.nilFunc,.fn⟩ t else leafT 238 ⟨1,8,.nilFunc,.fn⟩ t else bif Nat.blt t 240 then leafT 239 ⟨20,160,.agg #[.int .u64 0,.int .u64 0,.int .u64 0,.int .u64 0,.int .u64 0,.int .u64 0,.int .u64 0,.int .u64 0,.int .u64 0,.int .u64 0,.int .u64 0,.int .u64 0,.int .u64 0,.int .u64 0,.int .u64 0,.int .u64 0,.int .u64 0,.int .u64 0,.int .u64 0,.int .u64 0],.array 20 228⟩ t else bif Nat.blt t 241 then leafT 240 ⟨65,65,.agg #[.int .u8 0,.int .u8 0,.int .u8 0,.int .u8 0,.int .u8 0,.int .u8 0,.int .u8 0,.int .u8 0,.int .u8 0,.int .u8 0,.int .u8 0,.int .u8 0,.int .u8 0,.int .u8 0,.int .u8 0,.int .u8 0,.int .u8 0,.int .u8 0,.int .u8 0,.int .u8 0,.int .u8 0,.int .u8 0,.int .u8 0,.int .u8 0,.int .u8 0,.int .u8 0,.int .u8 0,.int .u8 0,.int .u8 0,.int .u8 0,.int .u8 0,.int .u8 0,.int .u8 0,.int .u8 0,.int .u8 0,.int .u8 0,.int .u8 0,.int .u8 0,.int .u8 0,.int .u8 0,.int .u8 0,.int .u8 0,.int .u8 0,.int .u8 0,.int .u8 0,.int .u8 0,.int .u8 0,.int .u8 0,.int .u8 0,.int .u8 0,.int .u8 0,.int .u8 0,.int .u8 0,.int .u8 0,.int .u8 0,.int .u8 0,.int .u8 0,.int .u8 0,.int .u8 0,.int .u8 0,.int .u8 0,.int .u8 0,.int .u8 0,.int .u8 0,.int .u8 0],.array 65 5⟩ t else leafT 241 ⟨1,8,.nilFunc,.fn⟩ t else bif Nat.blt t 283 then bif Nat.blt t 262 then bif Nat.blt t 252 then bif Nat.blt t 247 then bif Nat.blt t 244 then bif Nat.blt t 243 then leafT 242 ⟨1,24,.slice none 0 0,.slice 224⟩ t else leafT 243 ⟨3,40,.agg #[.int .i64 0,.bool false,.slice none 0 0],.strct [(0,3),(1,4),(2,242)]⟩ t else bif Nat.blt t 246 then leafT 244 ⟨3,40,.agg #[.int .i64 0,.bool false,.slice none 0 0],.strct [(0,3),(1,4),(2,242)]⟩ t else leafT 246 ⟨1,8,.nilFunc,.fn⟩ t else bif Nat.blt t 249 then bif Nat.blt t 248 then leafT 247 ⟨1,8,.nilFunc,.fn⟩ t else leafT 248 ⟨1,8,.nilFunc,.fn⟩ t else bif Nat.blt t 250 then leafT 249 ⟨1,8,.nilFunc,.fn⟩ t else bif Nat.blt t 251 then leafT 250 ⟨1,8,.nilFunc,.fn⟩ t else leafT 251 ⟨1,8,.nilFunc,.fn⟩ t else bif Nat.blt t 256 then bif Nat.blt t 254 then bif Nat.blt t 253 then leafT 252 ⟨1,8,.nilFunc,.fn⟩ t else leafT 253 ⟨1,8,.nilFunc,.fn⟩ t else bif Nat.blt t 255 then leafT 254 ⟨32,32,.agg #[.int .u8 0,.int .u8 0,.int .u8 0,.int .u8 0,.int .u8 0,.int .u8 0,.int .u8 0,.int .u8 0,.int .u8 0,.int .u8 0,.int .u8 0,.int .u8 0,.int .u8 0,.int .u8 0,.int .u8 0,.int .u8 0,.int .u8 0,.int .u8 0,.int .u8 0,.int .u8 0,.int .u8 0,.int .u8 0,.int .u8 0,.int .u8 0,.int .u8 0,.int .u8 0,.int .u8 0,.int .u8 0,.int .u8 0,.int .u8 0,.int .u8 0,.int .u8 0],.array 32 5⟩ t else leafT 255 ⟨64,64,.agg #[.int .u8 0,.int .u8 0,.int .u8 0,.int .u8 0,.int .u8 0,.int .u8 0,.int .u8 0,.int .u8 0,.int .u8 0,.int .u8 0,.int .u8 0,.int .u8 0,.int .u8 0,.int .u8 0,.int .u8 0,.int .u8 0,.int .u8 0,.int .u8 0,.int .u8 0,.int .u8 0,.int .u8 0,.int .u8 0,.int .u8 0,.int .u8 0,.int .u8 0,.int .u8 0,.int .u8 0,.int .u8 0,.int .u8 0,.int .u8 0,.int .u8 0,.int .u8 0,.int .u8 0,.int .u8 0,.int .u8 0,.int .u8 0,.int .u8 0,.int .u8 0,.int .u8 0,.int .u8 0,.int .u8 0,.int .u8 0,.int .u8 0,.int .u8 0,.int .u8 0,.int .u8 0,.int .u8 0,.int .u8 0,.int .u8 0,.int .u8 0,.int .u8 0,.int .u8 0,.int .u8 0,.int .u8 0,.int .u8 0,.int .u8 0,.int .u8 0,.int .u8 0,.int .u8 0,.int .u8 0,.int .u8 0,.int .u8 0,.int .u8 0,.int .u8 0],.array 64 5⟩ t else bif Nat.blt t 258 then bif Nat.blt t 257 then leafT 256 ⟨1,8,.nilFunc,.fn⟩ t else leafT 257 ⟨1,8,.nilFunc,.fn⟩ t else bif Nat.blt t 259 then leafT 258 ⟨1,8,.nilFunc,.fn⟩ t else bif Nat.blt t 261 then leafT 259 ⟨1,8,.nilFunc,.fn⟩ t else leafT 261 ⟨1,8,.nilFunc,.fn⟩ t else bif Nat.blt t 271 then bif Nat.blt t 266 then bif Nat.blt t 264 then bif Nat.blt t 263 then leafT 262 ⟨1,8,.nilFunc,.fn⟩ t else leafT 263 ⟨1,8,.nilFunc,.fn⟩ t else bif Nat.blt t 265 then leafT 264 ⟨1,8,.nilFunc,.fn⟩ t else leafT 265 ⟨1,8,.nilFunc,.fn⟩ t else bif Nat.blt t 268 then bif Nat.blt t 267 then leafT 266 ⟨1,8,.nilFunc,.fn⟩ t else leafT 267 ⟨1,8,.nilFunc,.fn⟩ t else bif Nat.blt t 269 then leafT 268 ⟨1,8,.nilFunc,.fn⟩ t else bif Nat.blt t 270 then leafT 269 ⟨1,8,.nilFunc,.fn⟩ t else leafT 270 ⟨1,8,.nilFunc,.fn⟩ t else bif Nat.blt t 277 then bif Nat.blt t 274 then bif Nat.blt t 272 then leafT 271 ⟨1,8,.nilFunc,.fn⟩ t else leafT 272 ⟨1,8,.int .i64 0,.int .i64⟩ t else bif Nat.blt t 275 then leafT 274 ⟨1,8,.nilFunc,.fn⟩ t else bif Nat.blt t 276 then leafT 275 ⟨1,8,.pointer none,.ptr 289⟩ t else leafT 276 ⟨1,8,.nilFunc,.fn⟩ t else bif Nat.blt t 280 then bif Nat.blt t 279 then leafT 277 ⟨1,8,.nilFunc,.fn⟩ t else leafT 279 ⟨1,8,.nilFunc,.fn⟩ t else bif Nat.blt t 281 then leafT 280 ⟨1,8,.pointer none,.ptr 282⟩ t else bif Nat.blt t 282 then leafT 281 ⟨2,32,.agg #[.slice none 0 0,.int .i64 0],.strct [(0,242),(1,2)]⟩ t else leafT 282 ⟨2,32,.agg #[.slice none 0 0,.int .i64 0],.strct [(0,242),(1,2)]⟩ t else bif Nat.blt t 303 then bif Nat.blt t 293 then bif Nat.blt t 288 then bif Nat.blt t 286 then bif Nat.blt t 284 then leafT 283 ⟨1,8,.nilFunc,.fn⟩ t else leafT 284 ⟨1,8,.nilFunc,.fn⟩ t else bif Nat.blt t 287 then leafT 286 ⟨1,8,.nilFunc,.fn⟩ t else leafT 287 ⟨1,8,.nilFunc,.fn⟩ t else bif Nat.blt t 290 then bif Nat.blt t 289 then leafT 288 ⟨3,48,.agg #[.string ByteArray.empty,.string ByteArray.empty,.nilIface],.strct [(0,9),(1,9),(2,66)]⟩ t else leafT 289 ⟨3,48,.agg #[.string ByteArray.empty,.string ByteArray.empty,.nilIface],.strct [(0,9),(1,9),(2,66)]⟩ t else bif Nat.blt t 291 then leafT 290 ⟨1,8,.nilFunc,.fn⟩ t else bif Nat.blt t 292 then leafT 291 ⟨1,8,.nilFunc,.fn⟩ t else leafT 292 ⟨1,8,.nilFunc,.fn⟩ t else bif Nat.blt t 298 then bif Nat.blt t 295 then bif Nat.blt t 294 then leafT 293 ⟨1,8,.pointer none,.ptr 295⟩ t else leafT 294 ⟨1,16,.agg #[.string ByteArray.empty],.strct [(0,9)]⟩ t else bif Nat.blt t 296 then leafT 295 ⟨1,16,.agg #[.string ByteArray.empty],.strct [(0,9)]⟩ t else bif Nat.blt t 297 then leafT 296 ⟨4,40,.agg #[.pointer none,.pointer none,.pointer none,.string ByteArray.empty],.strct [(0,17),(1,17),(2,17),(3,9)]⟩ t else leafT 297 ⟨4,40,.agg #[.pointer none,.pointer none,.pointer none,.string ByteArray.empty],.strct [(0,17),(1,17),(2,17),(3,9)]⟩ t else bif Nat.blt t 300 then bif Nat.blt t 299 then leafT 298 ⟨0,0,.agg #[],.array 0 16⟩ t else leafT 299 ⟨0,0,.agg #[],.strct [(0,298)]⟩ t else bif Nat.blt t 301 then leafT 300 ⟨0,0,.agg #[],.strct [(0,298)]⟩ t else bif Nat.blt t 302 then leafT 301 ⟨1,8,.nilFunc,.fn⟩ t else leafT 302 ⟨1,1,.int .u8 0,.int .u8⟩ t else bif Nat.blt t 312 then bif Nat.blt t 307 then bif Nat.blt t 305 then bif Nat.blt t 304 then leafT 303 ⟨1,8,.nilFunc,.fn⟩ t else leafT 304 ⟨1,4,.int .i32 0,.int .i32⟩ t else bif Nat.blt t 306 then leafT 305 ⟨1,4,.int .i32 0,.int .i32⟩ t else leafT 306 ⟨11,48,.agg #[.int .u64 0,.int .u64 0,.int .u32 0,.int .u8 0,.int .u8 0,.int .u8 0,.int .u8 0,.nilFunc,.pointer none,.int .i32 0,.int .i32 0],.strct [(0,12),(1,12),(2,224),(3,302),(4,5),(5,5),(6,180),(7,303),(8,152),(9,304),(10,305)]⟩ t else bif Nat.blt t 309 then bif Nat.blt t 308 then leafT 307 ⟨11,48,.agg #[.int .u64 0,.int .u64 0,.int .u32 0,.int .u8 0,.int .u8 0,.int .u8 0,.int .u8 0,.nilFunc,.pointer none,.int .i32 0,.int .i32 0],.strct [(0,12),(1,12),(2,224),(3,302),(4,5),(5,5),(6,180),(7,303),(8,152),(9,304),(10,305)]⟩ t else leafT 308 ⟨1,8,.nilFunc,.fn⟩ t else bif Nat.blt t 310 then leafT 309 ⟨1,8,.nilFunc,.fn⟩ t else bif Nat.blt t 311 then leafT 310 ⟨2,24,.agg #[.string ByteArray.empty,.int .u8 0],.strct [(0,9),(1,180)]⟩ t else leafT 311 ⟨2,24,.agg #[.string ByteArray.empty,.int .u8 0],.strct [(0,9),(1,180)]⟩ t else bif Nat.blt t 317 then bif Nat.blt t 314 then bif Nat.blt t 313 then leafT 312 ⟨1,8,.pointer none,.ptr 316⟩ t else leafT 313 ⟨1,8,.nilFunc,.fn⟩ t else bif Nat.blt t 315 then leafT 314 ⟨1,2,.int .u16 0,.int .u16⟩ t else bif Nat.blt t 316 then leafT 315 ⟨5,16,.agg #[.int .i32 0,.int .u16 0,.int .u16 0,.int .u32 0,.int .u32 0],.strct [(0,304),(1,314),(2,314),(3,224),(4,224)]⟩ t else leafT 316 ⟨5,16,.agg #[.int .i32 0,.int .u16 0,.int .u16 0,.int .u32 0,.int .u32 0],.strct [(0,304),(1,314),(2,314),(3,224),(4,224)]⟩ t else bif Nat.blt t 319 then bif Nat.blt t 318 then leafT 317 ⟨1,24,.slice none 0 0,.slice 320⟩ t else leafT 318 ⟨1,4,.int .i32 0,.int .i32⟩ t else bif Nat.blt t 320 then leafT 319 ⟨4,16,.agg #[.int .i32 0,.int .i32 0,.int .i32 0,.int .i32 0],.strct [(0,304),(1,305),(2,318),(3,318)]⟩ t else bif Nat.blt t 321 then leafT 320 ⟨4,16,.agg #[.int .i32 0,.int .i32 0,.int .i32 0,.int .i32 0],.strct [(0,304),(1,305),(2,318),(3,318)]⟩ t else leafT 321 ⟨1,8,.pointer none,.ptr 66⟩ t
theorem Tt_ok(t:TypeId):TIok Tryz.prog t (Tt t)∨Tt t=TI.none:=by
 show OkT Tryz.prog t (Tt t)
 unfold Tt
 repeat' (first | exact leafT_ok ⟨by kernel_rfl,by kernel_rfl,rfl,rfl⟩ t | apply nodeT_ok)
theorem eqOk62:EqOkB Tryz.prog 62=true:=by kernel_rfl
theorem eqOk73:EqOkB Tryz.prog 73=true:=by kernel_rfl
theorem eqOk85:EqOkB Tryz.prog 85=true:=by kernel_rfl
theorem eqOk92:EqOkB Tryz.prog 92=true:=by kernel_rfl
theorem eqOk126:EqOkB Tryz.prog 126=true:=by kernel_rfl
theorem eqOk130:EqOkB Tryz.prog 130=true:=by kernel_rfl
theorem eqOk133:EqOkB Tryz.prog 133=true:=by kernel_rfl
theorem eqOk136:EqOkB Tryz.prog 136=true:=by kernel_rfl
theorem eqOk139:EqOkB Tryz.prog 139=true:=by kernel_rfl
def Et(t:TypeId):Bool:=[62,73,85,92,126,130,133,136,139].any (Nat.beq t)
theorem Et_ok(t:TypeId)(h:Et t=true):EqOkB Tryz.prog t=true:=by
 obtain⟨x,hx,he⟩:=List.any_eq_true.1 h;have:=Nat.eq_of_beq_eq_true he;subst this;simp only[List.mem_cons,List.not_mem_nil,or_false] at hx
 rcases hx with rfl | rfl | rfl | rfl | rfl | rfl | rfl | rfl | rfl
 ·exact eqOk62
 ·exact eqOk73
 ·exact eqOk85
 ·exact eqOk92
 ·exact eqOk126
 ·exact eqOk130
 ·exact eqOk133
 ·exact eqOk136
 ·exact eqOk139
end Go.Proofs.YtogipknpafkfpaaGreatDoor.Aw
