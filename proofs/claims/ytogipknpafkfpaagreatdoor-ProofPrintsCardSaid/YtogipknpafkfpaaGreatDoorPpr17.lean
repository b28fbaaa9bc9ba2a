/- Package hallmarkref8: isNumber, Lit; hallmarkref2.IsLit. hallmarkref8.Lit, walked: it is litV. Plain: the reference's wo -/
import Derived.Test.YtogipknpafkfpaaGreatDoorPpr16
import Derived.Test.YtogipknpafkfpaaGreatDoorPpr10
import Derived.Test.YtogipknpafkfpaaGreatDoorPpr14
import Derived.Test.YtogipknpafkfpaaGreatDoorPpr11
set_option linter.all false
set_option maxRecDepth 100000
namespace Go.Proofs.YtogipknpafkfpaaGreatDoor.Aw
open Go Go.RowKit
variable {G:Nat→Option (List AV)}
def isLitV(v:Int):Bool:=decide ((1≤v∧v≤1073741824)∨(v≤-1∧-1073741824≤v))
theorem IsLit_ok(v:Int)(S:St):Triple P (C G) 135 [.int .i64 v] S fun o S'=>o=.ret (.bool (isLitV v))∧S'=S:=by
 unfold isLitV
 by_cases h1:v ≥ 1
 ·by_cases h2:v≤1073741824
  ·rw[decide_eq_true (.inl ⟨h1,h2⟩)];refine triple_of_awp (hT G) hm Tryz.func135 rfl (by decide +kernel) rfl (by decide +kernel) (by show 1≤_;decide +kernel) rfl ?_
   conv=>whnf
   rw[decide_eq_true h1];conv=>whnf
   rw[decide_eq_true h2];conv=>whnf
   exact⟨_,_,⟨rfl,rfl⟩,St.le_refl _,AV.leS_refl _ _ _⟩
  ·rw[decide_eq_false (by omega:¬ ((1≤v∧v≤1073741824)∨(v≤-1∧-1073741824≤v)))]
   refine triple_of_awp (hT G) hm Tryz.func135 rfl (by decide +kernel) rfl (by decide +kernel) (by show 1≤_;decide +kernel) rfl ?_
   conv=>whnf
   rw[decide_eq_true h1];conv=>whnf
   rw[decide_eq_false h2];conv=>whnf
   rw[decide_eq_false (by omega:¬ v≤-1)]
   conv=>whnf
   exact⟨_,_,⟨rfl,rfl⟩,St.le_refl _,AV.leS_refl _ _ _⟩
 ·by_cases h3:v≤-1
  ·by_cases h4:v ≥ -1073741824
   ·rw[decide_eq_true (.inr ⟨h3,h4⟩)];refine triple_of_awp (hT G) hm Tryz.func135 rfl (by decide +kernel) rfl (by decide +kernel) (by show 1≤_;decide +kernel) rfl ?_
    conv=>whnf
    rw[decide_eq_false h1];conv=>whnf
    rw[decide_eq_true h3];conv=>whnf
    rw[decide_eq_true h4];exact⟨_,_,⟨rfl,rfl⟩,St.le_refl _,AV.leS_refl _ _ _⟩
   ·rw[decide_eq_false (by omega:¬ ((1≤v∧v≤1073741824)∨(v≤-1∧-1073741824≤v)))]
    refine triple_of_awp (hT G) hm Tryz.func135 rfl (by decide +kernel) rfl (by decide +kernel) (by show 1≤_;decide +kernel) rfl ?_
    conv=>whnf
    rw[decide_eq_false h1];conv=>whnf
    rw[decide_eq_true h3];conv=>whnf
    rw[decide_eq_false h4];exact⟨_,_,⟨rfl,rfl⟩,St.le_refl _,AV.leS_refl _ _ _⟩
  ·rw[decide_eq_false (by omega:¬ ((1≤v∧v≤1073741824)∨(v≤-1∧-1073741824≤v)))]
   refine triple_of_awp (hT G) hm Tryz.func135 rfl (by decide +kernel) rfl (by decide +kernel) (by show 1≤_;decide +kernel) rfl ?_
   conv=>whnf
   rw[decide_eq_false h1];conv=>whnf
   rw[decide_eq_false h3];conv=>whnf
   exact⟨_,_,⟨rfl,rfl⟩,St.le_refl _,AV.leS_refl _ _ _⟩
theorem isNumber1_ok(w:ByteArray)(hw:w.size≤9000000)(low:Int)(h0:-9223372036854775808≤low)(h1:low≤9223372036854775807)(S:St) :
 Triple P (C G) 104 [.str w,.int .i64 low] S fun o S'=>o=.ret (.bool (isNumV w.data.toList low))∧S'=S:=by
 have hp:=fun S=>RParse_ok (G:=G) w hw S
 have hof:=fun S=>Of1_ok (G:=G) low h0 h1 S
 unfold isNumV
 cases hz:parseI w.data.toList with
 | none=>
   rw[hz] at hp;simp only[Option.getD_none,Option.isSome_none] at hp;refine triple_of_awp (hT G) hm Tryz.func104 rfl (by decide +kernel) rfl (by decide +kernel) (by show 2≤_;decide +kernel) rfl ?_
   refine awp_seq2 fun K hK hQ=>?_
   conv=>whnf
   refine hK _ _ ?_;clear hK hQ K;refine awp_seq2 fun K hK hQ=>?_
   conv=>whnf
   refine(hp _).mono ?_;rintro o T ⟨rfl,rfl⟩;conv=>whnf
   intro b5 hb5;conv=>whnf
   refine⟨_,_,St.upd_same _ _ _,?_⟩;conv=>whnf
   rw[St.upd_upd];refine hK _ _ ?_;clear hK hQ K;conv=>whnf
   refine⟨[7,8],(.free 0 (.free 1 (.free 2 (.free 3 (.free 4 (.free 5 (.free 6 (.free 7 (.free 8 (.free 9 (.free 10 (.free 11 (.free 12 .done))))))))))))),_,by decide +kernel,?_,fun _ _ h=>⟨_,.inl rfl,h⟩⟩
   conv=>whnf
   exact⟨_,_,⟨rfl,rfl⟩,St.le_upd' (St.le_refl _) hb5 _,AV.leS_refl _ _ _⟩
 | some z=>
   rw[hz] at hp;simp only[Option.getD_some,Option.isSome_some] at hp;have hc:=fun S=>Cmp1_ok (G:=G) z low S
   have hcl:cmpI z low ≥ 0↔low≤z:=by unfold cmpI;split<;>(try split)<;>omega
   obtain⟨n1,l1,e1⟩:∃ n l,refI z=.ag [.bool n,.sl .any 1 l]:=⟨_,_,rfl⟩;obtain⟨n2,l2,e2⟩:∃ n l,refI low=.ag [.bool n,.sl .any 1 l]:=⟨_,_,rfl⟩;rw[e1] at hp hc;rw[e2] at hof hc;generalize cmpI z low=cv at *;refine triple_of_awp (hT G) hm Tryz.func104 rfl (by decide +kernel) rfl (by decide +kernel) (by show 2≤_;decide +kernel) rfl ?_
   refine awp_seq2 fun K hK hQ=>?_
   conv=>whnf
   refine hK _ _ ?_;clear hK hQ K;refine awp_seq2 fun K hK hQ=>?_
   conv=>whnf
   refine(hp _).mono ?_;rintro o T ⟨rfl,rfl⟩;conv=>whnf
   intro b5 hb5;conv=>whnf
   refine⟨_,_,St.upd_same _ _ _,?_⟩;conv=>whnf
   rw[St.upd_upd];refine hK _ _ ?_;clear hK hQ K;conv=>whnf
   refine⟨[7,8],(.free 0 (.free 1 (.free 2 (.free 3 (.free 4 (.free 5 (.free 6 (.free 7 (.free 8 (.free 9 (.free 10 (.free 11 (.free 12 .done))))))))))))),_,by decide +kernel,?_,fun _ _ h=>⟨_,.inl rfl,h⟩⟩
   conv=>whnf
   by_cases hlow:low<0
   ·rw[decide_eq_true hlow];conv=>whnf
    refine⟨_,_,⟨rfl,rfl⟩,St.le_upd' (St.le_refl _) hb5 _,?_⟩;simp only[Option.isSome_some,Bool.true_and,Bool.true_or];exact AV.leS_refl _ _ _
   ·rw[decide_eq_false hlow];conv=>whnf
    refine⟨_,_,St.upd_same _ _ _,?_⟩;conv=>whnf
    refine⟨.ag [.bool n2,.sl .any 1 l2],(hof _).mono ?_,?_⟩
    ·rintro o S' ⟨rfl,rfl⟩;exact⟨rfl,rfl⟩
    conv=>whnf
    refine⟨.int .i64 cv,(hc _).mono ?_,?_⟩
    ·rintro o S' ⟨rfl,rfl⟩;exact⟨rfl,rfl⟩
    conv=>whnf
    refine⟨_,_,⟨rfl,rfl⟩,St.le_upd' (St.le_refl _) hb5 _,?_⟩;simp only[Option.isSome_some,Bool.true_and,Bool.false_or,Option.getD_some];rw[show decide (cv ≥ 0)=decide (low≤z) from decide_eq_decide.2 hcl];exact AV.leS_refl _ _ _
theorem litV_val(l:List UInt8):litV l=if Lib.hasPrefix (Lib.trimPrefix l [126]) [120]=true then (match parseI (Lib.trimPrefix (Lib.trimPrefix l [126]) [120]) with
 | some z=>if 1≤z∧z≤1073741824 then (if Lib.hasPrefix l [126]=true then -z else z) else 0
 | none=>0) else 0:=by
 unfold litV;dsimp only
 by_cases h1:Lib.hasPrefix (Lib.trimPrefix l [126]) [120]=true
 ·rw[if_pos h1]
  cases hp:parseI (Lib.trimPrefix (Lib.trimPrefix l [126]) [120]) with
  | none=>rw[if_pos (.inr (.inl rfl))]
  | some z=>
    simp only[Option.getD_some,Option.isSome_some]
    by_cases hn:near z
    ·have hs:smallV z=(z,true):=by unfold smallV;rw[if_pos hn]
     rw[hs]
     by_cases hz:1≤z∧z≤1073741824
     ·rw[if_neg (by rw[h1];simp;omega),if_pos hz]
     ·rw[if_pos (by simp;omega),if_neg hz]
    ·rw[if_neg (show ¬ (1≤z∧z≤1073741824) by unfold near at hn;omega)]
     refine if_pos ?_
     by_cases h2:(smallV z).2=true
     ·by_cases h3:1≤(smallV z).1
      ·exact .inr (.inr (.inr (.inr (small_far hn h2 h3))))
      ·exact .inr (.inr (.inr (.inl (by omega))))
     ·exact .inr (.inr (.inl (by simpa using h2)))
 ·rw[if_neg h1,if_pos (.inl (by simpa using h1))]
theorem parseI_minus{r:List UInt8}{z:Int}(h:parseI (45::r)=some z):z≤0:=by
 unfold parseI at h;have hp:Lib.hasPrefix ((45:UInt8)::r) [45]=true:=by simp[Lib.hasPrefix,List.isPrefixOf]
 rw[hp] at h;dsimp only at h
 split at h
 ·cases h
 ·simp only[if_true,Option.some.injEq] at h;omega
theorem hasPrefix_cons(c x:UInt8)(r:List UInt8):Lib.hasPrefix (c::r) [x]=true↔c=x:=by
 simp[Lib.hasPrefix,List.isPrefixOf]
 exact⟨fun h=>h.symm,fun h=>h.symm⟩
theorem byteAt_one(c e:UInt8)(r:List UInt8):byteAt ⟨(c::e::r).toArray⟩ 1=(e.toNat:Int):=by simp[byteAt]
theorem u8_ne{c x:UInt8}(h:c≠x):((c.toNat:Int) == (x.toNat:Int))=false:=beq_false_of_ne fun e=>h (UInt8.toNat_inj.1 (by omega))
theorem Lit_s(l0:List UInt8)(hl:l0.length≤9000000)(S:St):Triple P (C G) 105 [.str ⟨l0.toArray⟩] S fun o S'=>o=.ret (.int .i64 (litV l0))∧S'=S:=by
 have hL:=litV_val l0
 have hsz0:=size_arr l0
 obtain⟨X,hX⟩:∃ X,X=litV l0:=⟨_,rfl⟩;rw[← hX] at hL ⊢;refine triple_of_awp (hT G) hm Tryz.func105 rfl (by decide +kernel) rfl (by decide +kernel) (by show 1≤_;decide +kernel) rfl ?_
 refine awp_seq2 fun K hK hQ=>?_
 conv=>whnf
 refine hK _ _ ?_;clear hK hQ K
 by_cases h126:Lib.hasPrefix l0 [126]=true
 ·obtain⟨d,rfl,htr⟩:=hasPrefix_one h126;rw[htr,h126] at hL;have hdl:d.length≤9000000:=by simp at hl;omega
  have hby:byteAt ⟨((126:UInt8)::d).toArray⟩ (0:Int).toNat=126:=byteAt_cons 126 d
  have hex:(⟨((126:UInt8)::d).toArray⟩:ByteArray).extract (1:Int).toNat ((⟨((126:UInt8)::d).toArray⟩:ByteArray).size:Int).toNat=⟨d.toArray⟩:=by rw[extract_list,hsz0];simp
  refine awp_seq2 fun K hK hQ=>?_
  conv=>whnf
  rw[show decide (((⟨((126:UInt8)::d).toArray⟩:ByteArray).size:Int) > 0)=true from decide_eq_true (by rw[hsz0];simp<;>omega)]
  conv=>whnf
  refine⟨⟨by decide,by rw[hsz0];simp<;>omega⟩,?_⟩
  conv=>whnf
  rw[show(byteAt ⟨((126:UInt8)::d).toArray⟩ (0:Int).toNat == 126)=true from by rw[hby];rfl]
  refine hK _ _ ?_;clear hK hQ K;refine awp_seq2 fun K hK hQ=>?_
  conv=>whnf
  refine⟨⟨by decide,by rw[hsz0];simp<;>omega,by omega⟩,?_⟩
  conv=>whnf
  rw[hex];refine hK _ _ ?_;clear hK hQ K;generalize hl00:(126:UInt8)::d=l0 at *
  cases d with
  | nil=>
    rw[show X=0 from hL.trans (by rfl)]
    refine awp_seq2 fun K hK hQ=>?_
    conv=>whnf
    refine hQ _ _ _ (by simp) ?_
    conv=>whnf
    exact⟨_,_,⟨rfl,rfl⟩,St.le_refl _,AV.leS_refl _ _ _⟩
  | cons c r=>
    cases r with
    | nil=>
      rw[show X=0 from hL.trans (by
       by_cases h:Lib.hasPrefix [c] [120]=true
       ·rw[if_pos h];have:c=120:=(hasPrefix_cons _ _ _).1 h;subst this;rfl
       ·rw[if_neg h])]
      refine awp_seq2 fun K hK hQ=>?_
      conv=>whnf
      refine hQ _ _ _ (by simp) ?_
      conv=>whnf
      exact⟨_,_,⟨rfl,rfl⟩,St.le_refl _,AV.leS_refl _ _ _⟩
    | cons e r=>
      have hsz:=size_arr (c::e::r)
      have hb0:byteAt ⟨(c::e::r).toArray⟩ (0:Int).toNat=(c.toNat:Int):=byteAt_cons c _
      have hb1:byteAt ⟨(c::e::r).toArray⟩ (1:Int).toNat=(e.toNat:Int):=byteAt_one c e r
      have hex:(⟨(c::e::r).toArray⟩:ByteArray).extract (1:Int).toNat ((⟨(c::e::r).toArray⟩:ByteArray).size:Int).toNat=⟨(e::r).toArray⟩:=by
       rw[extract_list,hsz,Int.toNat_natCast,List.take_length];rfl
      by_cases hc:c=120
      ·subst hc;have hpx:Lib.hasPrefix ((120:UInt8)::e::r) [120]=true:=(hasPrefix_cons _ _ _).2 rfl;have htx:Lib.trimPrefix ((120:UInt8)::e::r) [120]=e::r:=by unfold Lib.trimPrefix;rw[if_pos hpx];rfl
       rw[if_pos hpx,htx] at hL
       by_cases he:e=45
       ·subst he;rw[show X=0 from hL.trans (by
         cases hp:parseI (45::r) with
         | none=>rfl
         | some z=>have:=parseI_minus hp;simp only;rw[if_neg (by omega)])]
        refine awp_seq2 fun K hK hQ=>?_
        conv=>whnf
        rw[show decide (((⟨((120:UInt8)::45::r).toArray⟩:ByteArray).size:Int)<2)=false from decide_eq_false (by rw[hsz];simp<;>omega)]
        conv=>whnf
        refine⟨⟨by decide,by rw[hsz];simp<;>omega⟩,?_⟩
        conv=>whnf
        rw[show(byteAt ⟨((120:UInt8)::45::r).toArray⟩ (0:Int).toNat != 120)=false from by rw[hb0];rfl]
        conv=>whnf
        refine⟨⟨by decide,by rw[hsz];simp<;>omega⟩,?_⟩
        conv=>whnf
        rw[show(byteAt ⟨((120:UInt8)::45::r).toArray⟩ (1:Int).toNat == 45)=true from by rw[hb1];rfl]
        conv=>whnf
        refine hQ _ _ _ (by simp) ?_
        conv=>whnf
        exact⟨_,_,⟨rfl,rfl⟩,St.le_refl _,AV.leS_refl _ _ _⟩
       ·refine awp_seq2 fun K hK hQ=>?_
        conv=>whnf
        rw[show decide (((⟨((120:UInt8)::e::r).toArray⟩:ByteArray).size:Int)<2)=false from decide_eq_false (by rw[hsz];simp<;>omega)]
        conv=>whnf
        refine⟨⟨by decide,by rw[hsz];simp<;>omega⟩,?_⟩
        conv=>whnf
        rw[show(byteAt ⟨((120:UInt8)::e::r).toArray⟩ (0:Int).toNat != 120)=false from by rw[hb0];rfl]
        conv=>whnf
        refine⟨⟨by decide,by rw[hsz];simp<;>omega⟩,?_⟩
        conv=>whnf
        rw[show(byteAt ⟨((120:UInt8)::e::r).toArray⟩ (1:Int).toNat == 45)=false from by rw[hb1];exact u8_ne he]
        conv=>whnf
        refine hK _ _ ?_;clear hK hQ K;have hrp:=fun S=>Parse1_s (G:=G) (e::r) (by simp at hdl ⊢;omega) S
        generalize hqq:e::r=q at *;have hq45:Lib.hasPrefix q [45]=false:=by
         rw[← hqq]
         cases hh:Lib.hasPrefix (e::r) [45] with
         | false=>rfl
         | true=>exact absurd ((hasPrefix_cons _ _ _).1 hh) he
        obtain⟨z,ok,hz,hok⟩:∃ z ok,(parseI q).getD 0=z∧(parseI q).isSome=ok:=⟨_,_,rfl,rfl⟩;rw[hz,hok] at hrp;obtain⟨n1,l1,e1⟩:∃ n l,refI z=.ag [.bool n,.sl .any 1 l]:=⟨_,_,rfl⟩;have hsm:=fun S=>Small1_ok (G:=G) z S
        rw[e1] at hrp hsm;obtain⟨v,sm,hv⟩:∃ v sm,small1 z=(v,sm):=⟨_,_,rfl⟩;rw[hv] at hsm;have hil:=fun S=>IsLit_ok (G:=G) v S
        have hval:X=if ok=true∧sm=true∧isLitV v=true then (if true=true then -v else v) else 0:=by
         rw[hL]
         cases hp:parseI q with
         | none=>
           rw[hp] at hok;subst hok;rw[if_neg (by simp)]
         | some z0=>
           rw[hp] at hok hz;simp only[Option.getD_some] at hz;simp only[Option.isSome_some] at hok;subst hok hz;have h0:0≤z0:=by
            unfold parseI at hp;rw[hq45] at hp;dsimp only at hp
            split at hp
            ·cases hp
            ·simp only[Bool.false_eq_true,if_false,Option.some.injEq] at hp;omega
           simp only;unfold small1 at hv
           by_cases h1:1≤z0∧z0≤1073741824
           ·rw[if_pos (by omega)] at hv
            obtain⟨rfl,rfl⟩:=Prod.mk.inj hv;have hT:isLitV z0=true:=by unfold isLitV;exact decide_eq_true (.inl h1)
            rw[if_pos h1]
            simp[hT]
           ·rw[if_neg h1];refine(if_neg ?_).symm;rintro⟨_,h2,h3⟩
            split at hv
            ·obtain⟨rfl,_⟩:=Prod.mk.inj hv;unfold isLitV at h3;have:=of_decide_eq_true h3;omega
            ·obtain⟨_,rfl⟩:=Prod.mk.inj hv
             cases h2
        have hwn:isLitV v=true→IntKind.i64.wrap (0-v)=-v:=fun h=>by
         unfold isLitV at h;have:=of_decide_eq_true h;rw[wrap_i64 (by omega) (by omega)];omega
        rw[hval];refine awp_seq2 fun K hK hQ=>?_
        conv=>whnf
        refine⟨⟨by decide,by rw[hsz];simp<;>omega,by omega⟩,?_⟩
        conv=>whnf
        rw[hex];refine(hrp _).mono ?_;rintro o T ⟨rfl,rfl⟩;conv=>whnf
        intro b4 hb4;conv=>whnf
        refine⟨_,_,St.upd_same _ _ _,?_⟩;conv=>whnf
        rw[St.upd_upd];refine hK _ _ ?_;clear hK hQ K;have q4:=St.upd_same T b4 (.obj 189 [.bool n1,.sl .any 1 l1]);have hle4:=St.le_upd' (St.le_refl T) hb4 (.obj 189 [.bool n1,.sl .any 1 l1]);generalize T.upd b4 (.obj 189 [.bool n1,.sl .any 1 l1])=T4 at *;refine awp_seq2 fun K hK hQ=>?_
        conv=>whnf
        refine⟨_,_,q4,?_⟩;conv=>whnf
        refine(hsm _).mono ?_;rintro o T ⟨rfl,rfl⟩;conv=>whnf
        refine hK _ _ ?_;clear hK hQ K
        cases ok with
        | false=>
          rw[if_neg (by simp)]
          refine awp_seq2 fun K hK hQ=>?_
          conv=>whnf
          refine hQ _ _ _ (by simp) ?_
          conv=>whnf
          exact⟨_,_,⟨rfl,rfl⟩,hle4,AV.leS_refl _ _ _⟩
        | true=>
          cases sm with
          | false=>
            rw[if_neg (by simp)]
            refine awp_seq2 fun K hK hQ=>?_
            conv=>whnf
            refine hQ _ _ _ (by simp) ?_
            conv=>whnf
            exact⟨_,_,⟨rfl,rfl⟩,hle4,AV.leS_refl _ _ _⟩
          | true=>
            cases hlit:isLitV v with
            | false=>
              rw[hlit] at hil;rw[if_neg (by simp)]
              refine awp_seq2 fun K hK hQ=>?_
              conv=>whnf
              refine(hil _).mono ?_;rintro o T ⟨rfl,rfl⟩;conv=>whnf
              refine hQ _ _ _ (by simp) ?_
              conv=>whnf
              exact⟨_,_,⟨rfl,rfl⟩,hle4,AV.leS_refl _ _ _⟩
            | true=>
              rw[hlit] at hil;rw[if_pos ⟨rfl,rfl,rfl⟩];have hwn:=hwn hlit;refine awp_seq2 fun K hK hQ=>?_
              conv=>whnf
              refine(hil _).mono ?_;rintro o T ⟨rfl,rfl⟩;conv=>whnf
              refine hK _ _ ?_;clear hK hQ K;conv=>whnf
              rw[hwn];exact⟨_,_,⟨rfl,rfl⟩,hle4,AV.leS_refl _ _ _⟩
      ·rw[show X=0 from hL.trans (if_neg (fun h=>hc ((hasPrefix_cons _ _ _).1 h)))]
       refine awp_seq2 fun K hK hQ=>?_
       conv=>whnf
       rw[show decide (((⟨(c::e::r).toArray⟩:ByteArray).size:Int)<2)=false from decide_eq_false (by rw[hsz];simp<;>omega)]
       conv=>whnf
       refine⟨⟨by decide,by rw[hsz];simp<;>omega⟩,?_⟩
       conv=>whnf
       rw[show(byteAt ⟨(c::e::r).toArray⟩ (0:Int).toNat != 120)=true from by rw[hb0];unfold bne;rw[show((c.toNat:Int) == 120)=false from u8_ne hc];rfl]
       conv=>whnf
       refine hQ _ _ _ (by simp) ?_
       conv=>whnf
       exact⟨_,_,⟨rfl,rfl⟩,St.le_refl _,AV.leS_refl _ _ _⟩
 ·have h126:Lib.hasPrefix l0 [126]=false:=by simpa using h126
  rw[trimPrefix_no h126,h126] at hL;have hfront:(l0=[]∨∃ c r,l0=c::r∧c≠126):=by
   cases l0 with
   | nil=>exact .inl rfl
   | cons c r=>exact .inr ⟨c,r,rfl,fun e=>by rw[(hasPrefix_cons _ _ _).2 e] at h126;cases h126⟩
  rcases hfront with rfl | ⟨c,r,rfl,hc⟩
  ·refine awp_seq2 fun K hK hQ=>?_
   conv=>whnf
   refine hK _ _ ?_;clear hK hQ K;refine awp_seq2 fun K hK hQ=>?_
   conv=>whnf
   refine hK _ _ ?_;clear hK hQ K;rw[show X=0 from hL.trans (by rfl)]
   refine awp_seq2 fun K hK hQ=>?_
   conv=>whnf
   refine hQ _ _ _ (by simp) ?_
   conv=>whnf
   exact⟨_,_,⟨rfl,rfl⟩,St.le_refl _,AV.leS_refl _ _ _⟩
  ·have hby:byteAt ⟨(c::r).toArray⟩ (0:Int).toNat=(c.toNat:Int):=byteAt_cons c r
   refine awp_seq2 fun K hK hQ=>?_
   conv=>whnf
   rw[show decide (((⟨(c::r).toArray⟩:ByteArray).size:Int) > 0)=true from decide_eq_true (by rw[hsz0];simp<;>omega)]
   conv=>whnf
   refine⟨⟨by decide,by rw[hsz0];simp<;>omega⟩,?_⟩
   conv=>whnf
   rw[show(byteAt ⟨(c::r).toArray⟩ (0:Int).toNat == 126)=false from by rw[hby];exact u8_ne hc]
   refine hK _ _ ?_;clear hK hQ K;refine awp_seq2 fun K hK hQ=>?_
   conv=>whnf
   refine hK _ _ ?_;clear hK hQ K;have hdl:(c::r).length≤9000000:=hl;generalize hl00:c::r=d at *
   cases d with
   | nil=>
     rw[show X=0 from hL.trans (by rfl)]
     refine awp_seq2 fun K hK hQ=>?_
     conv=>whnf
     refine hQ _ _ _ (by simp) ?_
     conv=>whnf
     exact⟨_,_,⟨rfl,rfl⟩,St.le_refl _,AV.leS_refl _ _ _⟩
   | cons c r=>
     cases r with
     | nil=>
       rw[show X=0 from hL.trans (by
        by_cases h:Lib.hasPrefix [c] [120]=true
        ·rw[if_pos h];have:c=120:=(hasPrefix_cons _ _ _).1 h;subst this;rfl
        ·rw[if_neg h])]
       refine awp_seq2 fun K hK hQ=>?_
       conv=>whnf
       refine hQ _ _ _ (by simp) ?_
       conv=>whnf
       exact⟨_,_,⟨rfl,rfl⟩,St.le_refl _,AV.leS_refl _ _ _⟩
     | cons e r=>
       have hsz:=size_arr (c::e::r)
       have hb0:byteAt ⟨(c::e::r).toArray⟩ (0:Int).toNat=(c.toNat:Int):=byteAt_cons c _
       have hb1:byteAt ⟨(c::e::r).toArray⟩ (1:Int).toNat=(e.toNat:Int):=byteAt_one c e r
       have hex:(⟨(c::e::r).toArray⟩:ByteArray).extract (1:Int).toNat ((⟨(c::e::r).toArray⟩:ByteArray).size:Int).toNat=⟨(e::r).toArray⟩:=by
        rw[extract_list,hsz,Int.toNat_natCast,List.take_length];rfl
       by_cases hc:c=120
       ·subst hc;have hpx:Lib.hasPrefix ((120:UInt8)::e::r) [120]=true:=(hasPrefix_cons _ _ _).2 rfl;have htx:Lib.trimPrefix ((120:UInt8)::e::r) [120]=e::r:=by unfold Lib.trimPrefix;rw[if_pos hpx];rfl
        rw[if_pos hpx,htx] at hL
        by_cases he:e=45
        ·subst he;rw[show X=0 from hL.trans (by
          cases hp:parseI (45::r) with
          | none=>rfl
          | some z=>have:=parseI_minus hp;simp only;rw[if_neg (by omega)])]
         refine awp_seq2 fun K hK hQ=>?_
         conv=>whnf
         rw[show decide (((⟨((120:UInt8)::45::r).toArray⟩:ByteArray).size:Int)<2)=false from decide_eq_false (by rw[hsz];simp<;>omega)]
         conv=>whnf
         refine⟨⟨by decide,by rw[hsz];simp<;>omega⟩,?_⟩
         conv=>whnf
         rw[show(byteAt ⟨((120:UInt8)::45::r).toArray⟩ (0:Int).toNat != 120)=false from by rw[hb0];rfl]
         conv=>whnf
         refine⟨⟨by decide,by rw[hsz];simp<;>omega⟩,?_⟩
         conv=>whnf
         rw[show(byteAt ⟨((120:UInt8)::45::r).toArray⟩ (1:Int).toNat == 45)=true from by rw[hb1];rfl]
         conv=>whnf
         refine hQ _ _ _ (by simp) ?_
         conv=>whnf
         exact⟨_,_,⟨rfl,rfl⟩,St.le_refl _,AV.leS_refl _ _ _⟩
        ·refine awp_seq2 fun K hK hQ=>?_
         conv=>whnf
         rw[show decide (((⟨((120:UInt8)::e::r).toArray⟩:ByteArray).size:Int)<2)=false from decide_eq_false (by rw[hsz];simp<;>omega)]
         conv=>whnf
         refine⟨⟨by decide,by rw[hsz];simp<;>omega⟩,?_⟩
         conv=>whnf
         rw[show(byteAt ⟨((120:UInt8)::e::r).toArray⟩ (0:Int).toNat != 120)=false from by rw[hb0];rfl]
         conv=>whnf
         refine⟨⟨by decide,by rw[hsz];simp<;>omega⟩,?_⟩
         conv=>whnf
         rw[show(byteAt ⟨((120:UInt8)::e::r).toArray⟩ (1:Int).toNat == 45)=false from by rw[hb1];exact u8_ne he]
         conv=>whnf
         refine hK _ _ ?_;clear hK hQ K;have hrp:=fun S=>Parse1_s (G:=G) (e::r) (by simp at hdl ⊢;omega) S
         generalize hqq:e::r=q at *;have hq45:Lib.hasPrefix q [45]=false:=by
          rw[← hqq]
          cases hh:Lib.hasPrefix (e::r) [45] with
          | false=>rfl
          | true=>exact absurd ((hasPrefix_cons _ _ _).1 hh) he
         obtain⟨z,ok,hz,hok⟩:∃ z ok,(parseI q).getD 0=z∧(parseI q).isSome=ok:=⟨_,_,rfl,rfl⟩;rw[hz,hok] at hrp;obtain⟨n1,l1,e1⟩:∃ n l,refI z=.ag [.bool n,.sl .any 1 l]:=⟨_,_,rfl⟩;have hsm:=fun S=>Small1_ok (G:=G) z S
         rw[e1] at hrp hsm;obtain⟨v,sm,hv⟩:∃ v sm,small1 z=(v,sm):=⟨_,_,rfl⟩;rw[hv] at hsm;have hil:=fun S=>IsLit_ok (G:=G) v S
         have hval:X=if ok=true∧sm=true∧isLitV v=true then (if false=true then -v else v) else 0:=by
          rw[hL]
          cases hp:parseI q with
          | none=>
            rw[hp] at hok;subst hok;rw[if_neg (by simp)]
          | some z0=>
            rw[hp] at hok hz;simp only[Option.getD_some] at hz;simp only[Option.isSome_some] at hok;subst hok hz;have h0:0≤z0:=by
             unfold parseI at hp;rw[hq45] at hp;dsimp only at hp
             split at hp
             ·cases hp
             ·simp only[Bool.false_eq_true,if_false,Option.some.injEq] at hp;omega
            simp only;unfold small1 at hv
            by_cases h1:1≤z0∧z0≤1073741824
            ·rw[if_pos (by omega)] at hv
             obtain⟨rfl,rfl⟩:=Prod.mk.inj hv;have hT:isLitV z0=true:=by unfold isLitV;exact decide_eq_true (.inl h1)
             rw[if_pos h1]
             simp[hT]
            ·rw[if_neg h1];refine(if_neg ?_).symm;rintro⟨_,h2,h3⟩
             split at hv
             ·obtain⟨rfl,_⟩:=Prod.mk.inj hv;unfold isLitV at h3;have:=of_decide_eq_true h3;omega
             ·obtain⟨_,rfl⟩:=Prod.mk.inj hv
              cases h2
         have hwn:isLitV v=true→IntKind.i64.wrap (0-v)=-v:=fun h=>by
          unfold isLitV at h;have:=of_decide_eq_true h;rw[wrap_i64 (by omega) (by omega)];omega
         rw[hval];refine awp_seq2 fun K hK hQ=>?_
         conv=>whnf
         refine⟨⟨by decide,by rw[hsz];simp<;>omega,by omega⟩,?_⟩
         conv=>whnf
         rw[hex];refine(hrp _).mono ?_;rintro o T ⟨rfl,rfl⟩;conv=>whnf
         intro b4 hb4;conv=>whnf
         refine⟨_,_,St.upd_same _ _ _,?_⟩;conv=>whnf
         rw[St.upd_upd];refine hK _ _ ?_;clear hK hQ K;have q4:=St.upd_same T b4 (.obj 189 [.bool n1,.sl .any 1 l1]);have hle4:=St.le_upd' (St.le_refl T) hb4 (.obj 189 [.bool n1,.sl .any 1 l1]);generalize T.upd b4 (.obj 189 [.bool n1,.sl .any 1 l1])=T4 at *;refine awp_seq2 fun K hK hQ=>?_
         conv=>whnf
         refine⟨_,_,q4,?_⟩;conv=>whnf
         refine(hsm _).mono ?_;rintro o T ⟨rfl,rfl⟩;conv=>whnf
         refine hK _ _ ?_;clear hK hQ K
         cases ok with
         | false=>
           rw[if_neg (by simp)]
           refine awp_seq2 fun K hK hQ=>?_
           conv=>whnf
           refine hQ _ _ _ (by simp) ?_
           conv=>whnf
           exact⟨_,_,⟨rfl,rfl⟩,hle4,AV.leS_refl _ _ _⟩
         | true=>
           cases sm with
           | false=>
             rw[if_neg (by simp)]
             refine awp_seq2 fun K hK hQ=>?_
             conv=>whnf
             refine hQ _ _ _ (by simp) ?_
             conv=>whnf
             exact⟨_,_,⟨rfl,rfl⟩,hle4,AV.leS_refl _ _ _⟩
           | true=>
             cases hlit:isLitV v with
             | false=>
               rw[hlit] at hil;rw[if_neg (by simp)]
               refine awp_seq2 fun K hK hQ=>?_
               conv=>whnf
               refine(hil _).mono ?_;rintro o T ⟨rfl,rfl⟩;conv=>whnf
               refine hQ _ _ _ (by simp) ?_
               conv=>whnf
               exact⟨_,_,⟨rfl,rfl⟩,hle4,AV.leS_refl _ _ _⟩
             | true=>
               rw[hlit] at hil;rw[if_pos ⟨rfl,rfl,rfl⟩];have hwn:=hwn hlit;refine awp_seq2 fun K hK hQ=>?_
               conv=>whnf
               refine(hil _).mono ?_;rintro o T ⟨rfl,rfl⟩;conv=>whnf
               refine hK _ _ ?_;clear hK hQ K;conv=>whnf
               exact⟨_,_,⟨rfl,rfl⟩,hle4,AV.leS_refl _ _ _⟩
       ·rw[show X=0 from hL.trans (if_neg (fun h=>hc ((hasPrefix_cons _ _ _).1 h)))]
        refine awp_seq2 fun K hK hQ=>?_
        conv=>whnf
        rw[show decide (((⟨(c::e::r).toArray⟩:ByteArray).size:Int)<2)=false from decide_eq_false (by rw[hsz];simp<;>omega)]
        conv=>whnf
        refine⟨⟨by decide,by rw[hsz];simp<;>omega⟩,?_⟩
        conv=>whnf
        rw[show(byteAt ⟨(c::e::r).toArray⟩ (0:Int).toNat != 120)=true from by rw[hb0];unfold bne;rw[show((c.toNat:Int) == 120)=false from u8_ne hc];rfl]
        conv=>whnf
        refine hQ _ _ _ (by simp) ?_
        conv=>whnf
        exact⟨_,_,⟨rfl,rfl⟩,St.le_refl _,AV.leS_refl _ _ _⟩
theorem Lit_ok(w:ByteArray)(hl:w.size≤9000000)(S:St):Triple P (C G) 105 [.str w] S fun o S'=>o=.ret (.int .i64 (litV w.data.toList))∧S'=S:=by
 have h:=Lit_s (G:=G) w.data.toList (by simpa using hl) S
 rwa [show(⟨w.data.toList.toArray⟩:ByteArray)=w from by obtain⟨⟨l⟩⟩:=w;rfl] at h
def byN(s:ByteArray)(i:Nat):Nat:=(s.data.toList.getD i 0).toNat
def blankAt(s:ByteArray)(i:Nat):Prop:=byN s i=32∨byN s i=9
instance (s:ByteArray) (i:Nat):Decidable (blankAt s i):=inferInstanceAs (Decidable (_∨_))
def refWordsGo(s:ByteArray)(i fr:Nat)(acc:List ByteArray):List ByteArray:=
 if h:i≤s.size then
  if i=s.size∨blankAt s i then refWordsGo s (i+1) (i+1) (if fr<i then acc++[s.extract fr i] else acc) else refWordsGo s (i+1) fr acc
 else acc
termination_by s.size+1-i
theorem getN(s:ByteArray)(i:Nat):(s.get! i).toNat=byN s i:=by
 obtain⟨⟨l⟩⟩:=s;simp only[byN,ByteArray.get!]
 show((⟨l⟩:Array UInt8)[i]!).toNat=_
 by_cases h:i<l.length
 ·simp[getElem!_pos,h]
 ·simp[h];rfl
theorem dec_cases(s:ByteArray)(pos:Nat)(h:pos<s.size):(byN s pos<128∧Utf8.decode s pos=(byN s pos,1))∨
 (128≤byN s pos∧128≤(Utf8.decode s pos).1∧1≤(Utf8.decode s pos).2∧∀ j,0<j→j<(Utf8.decode s pos).2→pos+j<s.size∧128≤byN s (pos+j)):=by
 unfold Utf8.decode;simp only[getN,Nat.add_zero];have hre:(128:Nat)≤Utf8.runeError:=by decide
 by_cases h0:byN s pos<128
 ·rw[if_pos h0];exact .inl ⟨h0,rfl⟩
 ·rw[if_neg h0];refine .inr ⟨by omega,?_⟩
  split
  ·rename_i hc
   simp only[Bool.and_eq_true,decide_eq_true_eq,beq_iff_eq] at hc
   split
   ·rename_i hv
    refine⟨hv,by simp,fun j j0 j1=>?_⟩
    simp only at j1;obtain rfl:j=1:=by omega
    exact⟨hc.2.1,by omega⟩
   ·exact⟨hre,by simp,fun j j0 j1=>by simp only at j1;omega⟩
  split
  ·rename_i hc
   simp only[Bool.and_eq_true,decide_eq_true_eq,beq_iff_eq] at hc
   split
   ·rename_i hv
    simp only[Bool.and_eq_true,decide_eq_true_eq] at hv;refine⟨by simp only;omega,by simp,fun j j0 j1=>?_⟩
    simp only at j1
    rcases (by omega:j=1∨j=2) with rfl | rfl
    ·exact⟨hc.1.2.1,by omega⟩
    ·exact⟨hc.2.1,by omega⟩
   ·exact⟨hre,by simp,fun j j0 j1=>by simp only at j1;omega⟩
  split
  ·rename_i hc
   simp only[Bool.and_eq_true,decide_eq_true_eq,beq_iff_eq] at hc
   split
   ·rename_i hv
    simp only[Bool.and_eq_true,decide_eq_true_eq] at hv;refine⟨by simp only;omega,by simp,fun j j0 j1=>?_⟩
    simp only at j1
    rcases (by omega:j=1∨j=2∨j=3) with rfl | rfl | rfl
    ·exact⟨hc.1.1.2.1,by omega⟩
    ·exact⟨hc.1.2.1,by omega⟩
    ·exact⟨hc.2.1,by omega⟩
   ·exact⟨hre,by simp,fun j j0 j1=>by simp only at j1;omega⟩
  ·exact⟨hre,by simp,fun j j0 j1=>by simp only at j1;omega⟩
theorem go_skip(s:ByteArray)(fr:Nat)(acc:List ByteArray):∀ (w i:Nat),(∀ j,j<w→i+j<s.size∧¬ blankAt s (i+j))→refWordsGo s i fr acc=refWordsGo s (i+w) fr acc
 | 0,i,_=>rfl
 | w+1,i,h=>by
   obtain⟨h1,h2⟩:=h 0 (by omega)
   rw[Nat.add_zero] at h1 h2;conv=>lhs;unfold refWordsGo
   rw[dif_pos (by omega),if_neg (by rintro(e | e);omega;exact h2 e)]
   rw[go_skip s fr acc w (i+1) fun j hj=>by have:=h (j+1) (by omega);rw[show i+1+j=i+(j+1) by omega];exact this]
   congr 1;omega
theorem go_spans(s:ByteArray):∀ (f pos:Nat) (st:Option Nat) (acc:List (Nat×Nat)),pos≤s.size→s.size≤pos+f→(∀ a,st=some a→a<pos)→
 refWordsGo s pos (st.getD pos) (acc.map fun x=>s.extract x.1 x.2)=(Lib.closeSpans s (Lib.spansFromP blankR s f pos st acc)).map fun x=>s.extract x.1 x.2
 | f,pos,st,acc,hp,hf,hst=>by
   by_cases hlt:pos<s.size
   ·obtain⟨f,rfl⟩:∃ g,f=g+1:=⟨f-1,by omega⟩
    conv=>rhs;unfold Lib.spansFromP
    rw[if_pos hlt]
    rcases dec_cases s pos hlt with ⟨h1,h2⟩ | ⟨h1,h2,h3,h4⟩
    ·rw[h2]
     by_cases hb:blankAt s pos
     ·have hbr:blankR (byN s pos)=true:=by
       unfold blankAt at hb
       simp[blankR]
       exact hb
      simp only[hbr,if_true];conv=>lhs;unfold refWordsGo
      rw[dif_pos hp,if_pos (.inr hb)]
      cases st with
      | none=>
        simp only[Option.getD_none];rw[if_neg (by omega)]
        exact go_spans s f (pos+1) none acc (by omega) (by omega) (fun a e=>by cases e)
      | some a=>
        have ha:=hst a rfl
        simp only[Option.getD_some];rw[if_pos ha];have:=go_spans s f (pos+1) none (acc++[(a,pos)]) (by omega) (by omega) (fun a e=>by cases e)
        simpa using this
     ·have hbr:blankR (byN s pos)=false:=by
       unfold blankAt at hb
       simp[blankR]
       omega
      simp only[hbr,Bool.false_eq_true,if_false];rw[go_skip s _ _ 1 pos fun j hj=>by
       obtain rfl:j=0:=by omega
       exact⟨hlt,hb⟩]
      cases st with
      | none=>exact go_spans s f (pos+1) (some pos) acc (by omega) (by omega) (fun a e=>by cases e;omega)
      | some a=>exact go_spans s f (pos+1) (some a) acc (by omega) (by omega) (fun b e=>by cases e;have:=hst a rfl;omega)
    ·have hbr:blankR (Utf8.decode s pos).1=false:=by
      simp[blankR]
      omega
     simp only[hbr,Bool.false_eq_true,if_false];generalize (Utf8.decode s pos).2=w at *;have hnb:∀ j,j<w→pos+j<s.size∧¬ blankAt s (pos+j):=fun j hj=>by
      by_cases h0:j=0
      ·subst h0;refine⟨hlt,fun hb=>?_⟩
       unfold blankAt at hb;rw[Nat.add_zero] at hb;omega
      ·obtain⟨a,b⟩:=h4 j (by omega) hj
       refine⟨a,fun hb=>?_⟩
       unfold blankAt at hb;omega
     have hlast:=(hnb (w-1) (by omega)).1
     rw[go_skip s _ _ w pos hnb]
     cases st with
     | none=>exact go_spans s f (pos+w) (some pos) acc (by omega) (by omega) (fun a e=>by cases e;omega)
     | some a=>exact go_spans s f (pos+w) (some a) acc (by omega) (by omega) (fun b e=>by cases e;have:=hst a rfl;omega)
   ·have he:pos=s.size:=by omega
    rw[Lib.spansFromP_end _ _ _ _ _ _ hlt];conv=>lhs;unfold refWordsGo
    rw[dif_pos hp,if_pos (.inl he)];unfold refWordsGo;rw[dif_neg (by omega)]
    cases st with
    | none=>simp[Lib.closeSpans]
    | some a=>
      have:=hst a rfl
      simp only[Option.getD_some,Lib.closeSpans];rw[if_pos this,he]
      simp
termination_by f=>f
theorem refWords_eq(s:ByteArray):refWordsGo s 0 0 []=wordsL s:=by
 have:=go_spans s s.size 0 none [] (by omega) (by omega) (fun a e=>by cases e)
 unfold wordsL Lib.goFieldsP Lib.spansOfP
 simpa using this
theorem Words_ok(s:ByteArray)(hs:s.size≤9000000)(S:St):Triple P (C G) 56 [.str s] S fun o S'=>o=.ret (.sl .any 1 (rowsS (wordsL s)))∧S'=S:=by
 rw[← refWords_eq];obtain⟨W,hW⟩:∃ W,W=refWordsGo s 0 0 []:=⟨_,rfl⟩;rw[← hW];refine triple_of_awp (hT G) hm Tryz.func56 rfl (by decide +kernel) rfl (by decide +kernel) (by show 1≤_;decide +kernel) rfl ?_
 refine awp_seq2 fun K hK hQ=>?_
 conv=>whnf
 refine hK _ _ ?_;clear hK hQ K;refine awp_seq2 fun K hK hQ=>?_
 conv=>whnf
 refine hK _ _ ?_;clear hK hQ K;refine awp_seq2 fun K hK hQ=>?_
 conv=>whnf
 refine hK _ _ ?_;clear hK hQ K;refine awp_seq2 fun K hK hQ=>?_
 conv=>whnf
 refine⟨⟨Nat×Nat×List ByteArray×Nat,fun x=>[(0,.str s),(3,.sl (.acc x.2.2.2) 1 (rowsS x.2.2.1)),(4,.int .i64 (x.2.1:Int)),(5,.int .i64 (x.1:Int))],
  fun x S1=>AccOk S S1 9 1 x.2.2.2 x.2.2.1.length∧x.1≤s.size+1∧x.2.1≤x.1∧x.2.2.1.length≤x.1∧refWordsGo s x.1 x.2.1 x.2.2.1=W,fun x=>s.size+1-x.1⟩,
  ⟨(0,0,[],0),⟨rfl,rfl,rfl,rfl,trivial⟩,_,St.leW_refl _,AccOk.init _ _ _ _,by dsimp only;omega,Nat.le_refl _,Nat.le_refl _,hW.symm⟩,?_⟩
 rintro⟨i,fr,acc,ba⟩ S1 ⟨g1,g2,g3,g4,g5⟩;dsimp only at g1 g2 g3 g4 g5;conv=>whnf
 refine split_of (fun hlt=>?_) (fun hlt=>?_)
 ·have hlt:i≤s.size:=by have:=of_decide_eq_true hlt;omega
  have w1:IntKind.i64.wrap ((i:Int)+1)=((i+1:Nat):Int):=wrap_nat (by omega)
  have hby:byteAt s (i:Int).toNat=((byN s i:Nat):Int):=rfl
  unfold refWordsGo at g5;rw[dif_pos hlt] at g5
  by_cases he:i=s.size
  ·rw[if_pos (.inl he)] at g5;conv=>whnf
   rw[show((i:Int) == (s.size:Int))=true from by rw[he];exact beq_self_eq_true _]
   conv=>whnf
   by_cases hf:fr<i
   ·rw[if_pos hf] at g5;rw[show decide ((i:Int) > (fr:Int))=true from decide_eq_true (by omega)]
    conv=>whnf
    refine⟨⟨by first | omega | (dsimp only;omega),by first | omega | (dsimp only;omega),by first | omega | (dsimp only;omega)⟩,?_⟩
    conv=>whnf
    intro bb hbb;have g1':=g1.other hbb (.tip 9 1 1);conv=>whnf
    refine⟨⟨fun hl=>?_,?_⟩,fun S4 c1 c2 b' c3=>?_⟩
    ·have:0<acc.length:=by cases acc with
      | nil=>exact absurd rfl hl
      | cons _ _=>simp
     rw[rowsS_len];exact g1'.tip this
    ·show((rowsS acc).length+1)*16≤_
     rw[rowsS_len];omega
    have g5':=g1'.push (m:=acc.length+1) (by rw[rowsS_len]) c1 c2 c3 rfl
    rw[rowsS_len];conv=>whnf
    exact⟨(i+1,i+1,acc++[s.extract fr i],b'),⟨rfl,congrArg (AV.sl (.acc b') 1) (by simp[rowsS]),congrArg _ w1,congrArg _ w1,trivial⟩,⟨_,St.leW_refl _,by rw[show(acc++[s.extract fr i]).length=acc.length+1 by simp];exact g5',by dsimp only;omega,Nat.le_refl _,by simp<;>omega,g5⟩,by show s.size+1-(i+1)<s.size+1-i;omega⟩
   ·rw[if_neg hf] at g5;rw[show decide ((i:Int) > (fr:Int))=false from decide_eq_false (by omega)]
    conv=>whnf
    exact⟨(i+1,i+1,acc,ba),⟨rfl,rfl,congrArg _ w1,congrArg _ w1,trivial⟩,⟨_,St.leW_refl _,g1,by dsimp only;omega,Nat.le_refl _,by dsimp only;omega,g5⟩,by show s.size+1-(i+1)<s.size+1-i;omega⟩
  ·conv=>whnf
   rw[show((i:Int) == (s.size:Int))=false from beq_false_of_ne (by omega)]
   conv=>whnf
   refine⟨⟨by omega,by dsimp only;omega⟩,?_⟩
   conv=>whnf
   rw[hby]
   by_cases h32:byN s i=32
   ·rw[if_pos (.inr (.inl h32))] at g5;rw[show(((byN s i:Nat):Int) == 32)=true from by rw[h32];rfl]
    conv=>whnf
    by_cases hf:fr<i
    ·rw[if_pos hf] at g5;rw[show decide ((i:Int) > (fr:Int))=true from decide_eq_true (by omega)]
     conv=>whnf
     refine⟨⟨by first | omega | (dsimp only;omega),by first | omega | (dsimp only;omega),by first | omega | (dsimp only;omega)⟩,?_⟩
     conv=>whnf
     intro bb hbb;have g1':=g1.other hbb (.tip 9 1 1);conv=>whnf
     refine⟨⟨fun hl=>?_,?_⟩,fun S4 c1 c2 b' c3=>?_⟩
     ·have:0<acc.length:=by cases acc with
       | nil=>exact absurd rfl hl
       | cons _ _=>simp
      rw[rowsS_len];exact g1'.tip this
     ·show((rowsS acc).length+1)*16≤_
      rw[rowsS_len];omega
     have g5':=g1'.push (m:=acc.length+1) (by rw[rowsS_len]) c1 c2 c3 rfl
     rw[rowsS_len];conv=>whnf
     exact⟨(i+1,i+1,acc++[s.extract fr i],b'),⟨rfl,congrArg (AV.sl (.acc b') 1) (by simp[rowsS]),congrArg _ w1,congrArg _ w1,trivial⟩,⟨_,St.leW_refl _,by rw[show(acc++[s.extract fr i]).length=acc.length+1 by simp];exact g5',by dsimp only;omega,Nat.le_refl _,by simp<;>omega,g5⟩,by show s.size+1-(i+1)<s.size+1-i;omega⟩
    ·rw[if_neg hf] at g5;rw[show decide ((i:Int) > (fr:Int))=false from decide_eq_false (by omega)]
     conv=>whnf
     exact⟨(i+1,i+1,acc,ba),⟨rfl,rfl,congrArg _ w1,congrArg _ w1,trivial⟩,⟨_,St.leW_refl _,g1,by dsimp only;omega,Nat.le_refl _,by dsimp only;omega,g5⟩,by show s.size+1-(i+1)<s.size+1-i;omega⟩
   ·rw[show(((byN s i:Nat):Int) == 32)=false from beq_false_of_ne (by omega)]
    conv=>whnf
    refine⟨⟨by omega,by dsimp only;omega⟩,?_⟩
    conv=>whnf
    rw[hby]
    by_cases h9:byN s i=9
    ·rw[if_pos (.inr (.inr h9))] at g5;rw[show(((byN s i:Nat):Int) == 9)=true from by rw[h9];rfl]
     conv=>whnf
     by_cases hf:fr<i
     ·rw[if_pos hf] at g5;rw[show decide ((i:Int) > (fr:Int))=true from decide_eq_true (by omega)]
      conv=>whnf
      refine⟨⟨by first | omega | (dsimp only;omega),by first | omega | (dsimp only;omega),by first | omega | (dsimp only;omega)⟩,?_⟩
      conv=>whnf
      intro bb hbb;have g1':=g1.other hbb (.tip 9 1 1);conv=>whnf
      refine⟨⟨fun hl=>?_,?_⟩,fun S4 c1 c2 b' c3=>?_⟩
      ·have:0<acc.length:=by cases acc with
        | nil=>exact absurd rfl hl
        | cons _ _=>simp
       rw[rowsS_len];exact g1'.tip this
      ·show((rowsS acc).length+1)*16≤_
       rw[rowsS_len];omega
      have g5':=g1'.push (m:=acc.length+1) (by rw[rowsS_len]) c1 c2 c3 rfl
      rw[rowsS_len];conv=>whnf
      exact⟨(i+1,i+1,acc++[s.extract fr i],b'),⟨rfl,congrArg (AV.sl (.acc b') 1) (by simp[rowsS]),congrArg _ w1,congrArg _ w1,trivial⟩,⟨_,St.leW_refl _,by rw[show(acc++[s.extract fr i]).length=acc.length+1 by simp];exact g5',by dsimp only;omega,Nat.le_refl _,by simp<;>omega,g5⟩,by show s.size+1-(i+1)<s.size+1-i;omega⟩
     ·rw[if_neg hf] at g5;rw[show decide ((i:Int) > (fr:Int))=false from decide_eq_false (by omega)]
      conv=>whnf
      exact⟨(i+1,i+1,acc,ba),⟨rfl,rfl,congrArg _ w1,congrArg _ w1,trivial⟩,⟨_,St.leW_refl _,g1,by dsimp only;omega,Nat.le_refl _,by dsimp only;omega,g5⟩,by show s.size+1-(i+1)<s.size+1-i;omega⟩
    ·rw[if_neg (by rintro(h | h | h);exact he h;exact h32 h;exact h9 h)] at g5
     rw[show(((byN s i:Nat):Int) == 9)=false from beq_false_of_ne (by omega)]
     conv=>whnf
     exact⟨(i+1,fr,acc,ba),⟨rfl,rfl,rfl,congrArg _ w1,trivial⟩,⟨_,St.leW_refl _,g1,by dsimp only;omega,by dsimp only;omega,by dsimp only;omega,g5⟩,by show s.size+1-(i+1)<s.size+1-i;omega⟩
 ·have hlt:¬ i≤s.size:=by have:=of_decide_eq_false hlt;omega
  unfold refWordsGo at g5;rw[dif_neg hlt] at g5;subst g5;conv=>whnf
  refine hK _ _ ?_;clear hK hQ K;conv=>whnf
  exact⟨_,_,⟨rfl,rfl⟩,g1.le,⟨rfl,rfl⟩⟩
def rdO(ws:List ByteArray)(e:Int):Own:=.obj 111 [.sl .any 1 (rowsS ws),.int .i64 e]
theorem rfail_ok{S:St}{rb:Nat}{ws:List ByteArray}{e:Int}(h:S rb=some (rdO ws e))(x:Int):Triple P (C G) 80 [.ref rb 0,.int .i64 x] S fun o S'=>o=.ret (.tu [])∧S'=S.upd rb (rdO ws (if e=0 then x else e)):=by
 unfold rdO at *
 by_cases he:e=0
 ·subst he;rw[if_pos rfl];refine triple_of_awp (hT G) hm Tryz.func80 rfl (by decide +kernel) rfl (by decide +kernel) (by show 2≤_;decide +kernel) rfl ?_
  conv=>whnf
  refine⟨_,_,h,?_⟩;conv=>whnf
  refine⟨_,_,h,?_⟩;conv=>whnf
  exact⟨_,_,⟨rfl,rfl⟩,St.le_refl _,AV.leS_refl _ _ _⟩
 ·rw[if_neg he];refine triple_of_awp (hT G) hm Tryz.func80 rfl (by decide +kernel) rfl (by decide +kernel) (by show 2≤_;decide +kernel) rfl ?_
  conv=>whnf
  refine⟨_,_,h,?_⟩;conv=>whnf
  rw[show(e == 0)=false from beq_false_of_ne he];conv=>whnf
  exact⟨_,_,⟨rfl,by rw[St.upd_id h]⟩,St.le_refl _,AV.leS_refl _ _ _⟩
def takeR(ws:List ByteArray)(e:Int):ByteArray×Bool×List ByteArray×Int:=
 if e=0 then (match ws with | []=>(⟨#[]⟩,false,[],82) | w::l=>(w,true,l,0)) else (⟨#[]⟩,false,ws,e)
theorem rtake_ok1{S:St}{rb:Nat}{ws:List ByteArray}{e:Int}(h:S rb=some (rdO ws e)):Triple P (C G) 57 [.ref rb 0] S fun o S'=>o=.ret (.tu [.str (takeR ws e).1,.bool (takeR ws e).2.1])∧S'=S.upd rb (rdO (takeR ws e).2.2.1 (takeR ws e).2.2.2):=by
 have hf:=rfail_ok (G:=G) h 82
 unfold takeR;unfold rdO at *
 by_cases he:e=0
 ·subst he;rw[if_pos rfl] at hf ⊢
  cases ws with
  | nil=>
    refine triple_of_awp (hT G) hm Tryz.func57 rfl (by decide +kernel) rfl (by decide +kernel) (by show 1≤_;decide +kernel) rfl ?_
    conv=>whnf
    refine⟨_,_,h,?_⟩;conv=>whnf
    refine⟨_,_,h,?_⟩;conv=>whnf
    intro _;conv=>whnf
    refine hf.mono ?_;rintro o T ⟨rfl,rfl⟩;conv=>whnf
    exact⟨_,_,⟨rfl,rfl⟩,St.le_refl _,AV.leS_refl _ _ _⟩
  | cons w l=>
    have e1:List.drop (1:Int).toNat (List.take (((rowsS (w::l)).length:Nat):Int).toNat (rowsS (w::l)))=rowsS l:=by rw[Int.toNat_natCast,List.take_length];rfl
    have ga:(rowsS (w::l))[(0:Int).toNat]? = some [.str w]:=rfl
    have hpos:((rowsS (w::l)).length:Int)≠0:=by rw[rowsS_len];simp<;>omega
    have hge:(1:Int)≤((rowsS (w::l)).length:Int):=by rw[rowsS_len];simp<;>omega
    generalize rowsS (w::l)=rr at *;refine triple_of_awp (hT G) hm Tryz.func57 rfl (by decide +kernel) rfl (by decide +kernel) (by show 1≤_;decide +kernel) rfl ?_
    conv=>whnf
    refine⟨_,_,h,?_⟩;conv=>whnf
    refine⟨_,_,h,?_⟩;conv=>whnf
    intro _;conv=>whnf
    rw[show((rr.length:Int) == 0)=false from beq_false_of_ne hpos];conv=>whnf
    refine⟨_,_,h,?_⟩;conv=>whnf
    refine⟨_,⟨by decide,ga⟩,?_⟩
    conv=>whnf
    refine⟨_,_,h,?_⟩;conv=>whnf
    refine⟨⟨by decide,hge,by omega⟩,?_⟩
    conv=>whnf
    refine⟨_,_,h,?_⟩;conv=>whnf
    rw[e1];exact⟨_,_,⟨rfl,rfl⟩,St.le_refl _,AV.leS_refl _ _ _⟩
 ·rw[if_neg he];refine triple_of_awp (hT G) hm Tryz.func57 rfl (by decide +kernel) rfl (by decide +kernel) (by show 1≤_;decide +kernel) rfl ?_
  conv=>whnf
  refine⟨_,_,h,?_⟩;conv=>whnf
  rw[show(e != 0)=true from by simpa using he]
  conv=>whnf
  exact⟨_,_,⟨rfl,by rw[St.upd_id h]⟩,St.le_refl _,AV.leS_refl _ _ _⟩
def moreR(ws:List ByteArray)(e:Int):Bool:=decide (e=0) && decide (ws≠[])
theorem more_ok{S:St}{rb:Nat}{ws:List ByteArray}{e:Int}(h:S rb=some (rdO ws e)):Triple P (C G) 85 [.ref rb 0] S fun o S'=>o=.ret (.bool (moreR ws e))∧S'=S:=by
 unfold moreR;unfold rdO at h
 by_cases he:e=0
 ·subst he;refine triple_of_awp (hT G) hm Tryz.func85 rfl (by decide +kernel) rfl (by decide +kernel) (by show 1≤_;decide +kernel) rfl ?_
  conv=>whnf
  refine⟨_,_,h,?_⟩;conv=>whnf
  refine⟨_,_,h,?_⟩;conv=>whnf
  intro _;conv=>whnf
  refine⟨_,_,⟨rfl,rfl⟩,St.le_refl _,?_⟩;rw[show decide (((rowsS ws).length:Int) > 0)=(decide ((0:Int)=0) && decide (ws≠[])) from by
   rw[rowsS_len,decide_eq_true (rfl:(0:Int)=0),Bool.true_and,decide_eq_decide]
   cases ws<;>simp<;>omega]
  exact AV.leS_refl _ _ _
 ·rw[decide_eq_false he];refine triple_of_awp (hT G) hm Tryz.func85 rfl (by decide +kernel) rfl (by decide +kernel) (by show 1≤_;decide +kernel) rfl ?_
  conv=>whnf
  refine⟨_,_,h,?_⟩;conv=>whnf
  rw[show(e == 0)=false from beq_false_of_ne he];conv=>whnf
  exact⟨_,_,⟨rfl,rfl⟩,St.le_refl _,AV.leS_refl _ _ _⟩
def isR(ws:List ByteArray)(e:Int)(w:ByteArray):Bool:=decide (e=0) && decide (ws.head? = some w)
theorem is_ok{S:St}{rb:Nat}{ws:List ByteArray}{e:Int}(h:S rb=some (rdO ws e))(w:ByteArray):Triple P (C G) 107 [.ref rb 0,.str w] S fun o S'=>o=.ret (.bool (isR ws e w))∧S'=S:=by
 unfold isR;unfold rdO at h
 by_cases he:e=0
 ·subst he
  cases ws with
  | nil=>
    refine triple_of_awp (hT G) hm Tryz.func107 rfl (by decide +kernel) rfl (by decide +kernel) (by show 2≤_;decide +kernel) rfl ?_
    refine awp_seq2 fun K hK hQ=>?_
    conv=>whnf
    refine hK _ _ ?_;clear hK hQ K;refine awp_seq2 fun K hK hQ=>?_
    refine awp_region ?_;refine aOps_cut 6 fun K' hK'=>?_
    conv=>whnf
    refine⟨_,_,h,?_⟩;conv=>whnf
    refine hK' _ _ ?_;clear hK' K';refine aOps_cut 8 fun K' hK'=>?_
    conv=>whnf
    refine⟨_,_,h,?_⟩;conv=>whnf
    intro _;conv=>whnf
    refine hK' _ _ ?_;clear hK' K';conv=>whnf
    refine hK _ _ ?_;clear hK hQ K;conv=>whnf
    exact⟨_,_,⟨rfl,rfl⟩,St.le_refl _,AV.leS_refl _ _ _⟩
  | cons x l=>
    have ga:(rowsS (x::l))[(0:Int).toNat]? = some [.str x]:=rfl
    have hpos:((rowsS (x::l)).length:Int) > 0:=by rw[rowsS_len];simp<;>omega
    generalize rowsS (x::l)=rr at *;refine triple_of_awp (hT G) hm Tryz.func107 rfl (by decide +kernel) rfl (by decide +kernel) (by show 2≤_;decide +kernel) rfl ?_
    refine awp_seq2 fun K hK hQ=>?_
    conv=>whnf
    refine hK _ _ ?_;clear hK hQ K;refine awp_seq2 fun K hK hQ=>?_
    refine awp_region ?_;refine aOps_cut 6 fun K' hK'=>?_
    conv=>whnf
    refine⟨_,_,h,?_⟩;conv=>whnf
    refine hK' _ _ ?_;clear hK' K';refine aOps_cut 8 fun K' hK'=>?_
    conv=>whnf
    refine⟨_,_,h,?_⟩;conv=>whnf
    intro _;conv=>whnf
    rw[show decide ((rr.length:Int) > 0)=true from decide_eq_true hpos];refine hK' _ _ ?_;clear hK' K';conv=>whnf
    refine⟨_,_,h,?_⟩;conv=>whnf
    refine⟨_,⟨by decide,ga⟩,?_⟩
    conv=>whnf
    refine hK _ _ ?_;clear hK hQ K;conv=>whnf
    refine⟨_,_,⟨rfl,rfl⟩,St.le_refl _,?_⟩;rw[show decide (x=w)=(decide ((0:Int)=0) && decide ((x::l).head? = some w)) from by simp]
    exact AV.leS_refl _ _ _
 ·rw[decide_eq_false he];refine triple_of_awp (hT G) hm Tryz.func107 rfl (by decide +kernel) rfl (by decide +kernel) (by show 2≤_;decide +kernel) rfl ?_
  refine awp_seq2 fun K hK hQ=>?_
  conv=>whnf
  refine hK _ _ ?_;clear hK hQ K;refine awp_seq2 fun K hK hQ=>?_
  refine awp_region ?_;refine aOps_cut 6 fun K' hK'=>?_
  conv=>whnf
  refine⟨_,_,h,?_⟩;conv=>whnf
  rw[show(e == 0)=false from beq_false_of_ne he];refine hK' _ _ ?_;clear hK' K';refine aOps_cut 8 fun K' hK'=>?_
  conv=>whnf
  refine hK' _ _ ?_;clear hK' K';conv=>whnf
  refine hK _ _ ?_;clear hK hQ K;conv=>whnf
  exact⟨_,_,⟨rfl,rfl⟩,St.le_refl _,AV.leS_refl _ _ _⟩
def oneR(w:ByteArray)(ws:List ByteArray)(e:Int):List ByteArray×Int:=
 if e=0 then (match ws with | []=>([],82) | x::l=>(l,if x=w then 0 else 80)) else (ws,e)
theorem one_ok{S:St}{rb:Nat}{ws:List ByteArray}{e:Int}(h:S rb=some (rdO ws e))(w:ByteArray):Triple P (C G) 87 [.ref rb 0,.str w] S fun o S'=>o=.ret (.tu [])∧S'=S.upd rb (rdO (oneR w ws e).1 (oneR w ws e).2):=by
 have ht:=rtake_ok1 (G:=G) h
 unfold oneR;unfold takeR at ht
 by_cases he:e=0
 ·subst he;rw[if_pos rfl] at ht ⊢
  cases ws with
  | nil=>
    dsimp only at ht ⊢;refine triple_of_awp (hT G) hm Tryz.func87 rfl (by decide +kernel) rfl (by decide +kernel) (by show 2≤_;decide +kernel) rfl ?_
    conv=>whnf
    refine ht.mono ?_;rintro o T ⟨rfl,rfl⟩;conv=>whnf
    exact⟨_,_,⟨rfl,rfl⟩,St.le_refl _,AV.leS_refl _ _ _⟩
  | cons x l=>
    dsimp only at ht ⊢;have hf:=rfail_ok (G:=G) (S:=S.upd rb (rdO l 0)) (rb:=rb) (ws:=l) (e:=0) (St.upd_same _ _ _) 80;rw[if_pos rfl,St.upd_upd] at hf
    by_cases hx:x=w
    ·rw[if_pos hx];refine triple_of_awp (hT G) hm Tryz.func87 rfl (by decide +kernel) rfl (by decide +kernel) (by show 2≤_;decide +kernel) rfl ?_
     conv=>whnf
     refine ht.mono ?_;rintro o T ⟨rfl,rfl⟩;conv=>whnf
     rw[show decide (x=w)=true from decide_eq_true hx];conv=>whnf
     exact⟨_,_,⟨rfl,rfl⟩,St.le_refl _,AV.leS_refl _ _ _⟩
    ·rw[if_neg hx];refine triple_of_awp (hT G) hm Tryz.func87 rfl (by decide +kernel) rfl (by decide +kernel) (by show 2≤_;decide +kernel) rfl ?_
     conv=>whnf
     refine ht.mono ?_;rintro o T ⟨rfl,rfl⟩;conv=>whnf
     rw[show decide (x=w)=false from decide_eq_false hx];conv=>whnf
     refine hf.mono ?_;rintro o T ⟨rfl,rfl⟩;conv=>whnf
     exact⟨_,_,⟨rfl,rfl⟩,St.le_refl _,AV.leS_refl _ _ _⟩
 ·rw[if_neg he] at ht ⊢;dsimp only at ht ⊢;refine triple_of_awp (hT G) hm Tryz.func87 rfl (by decide +kernel) rfl (by decide +kernel) (by show 2≤_;decide +kernel) rfl ?_
  conv=>whnf
  refine ht.mono ?_;rintro o T ⟨rfl,rfl⟩;conv=>whnf
  exact⟨_,_,⟨rfl,rfl⟩,St.le_refl _,AV.leS_refl _ _ _⟩
def numR(low:Int)(ws:List ByteArray)(e:Int):ByteArray×Int×List ByteArray:=if e=0 then numG low ws else (⟨#[]⟩,e,ws)
theorem number1_ok{S:St}{rb:Nat}{ws:List ByteArray}{e:Int}(h:S rb=some (rdO ws e))(hw:∀ w∈ws,w.size≤9000000)(low:Int)(h0:-9223372036854775808≤low)(h1:low≤9223372036854775807) :
 Triple P (C G) 82 [.ref rb 0,.int .i64 low] S fun o S'=>o=.ret (.str (numR low ws e).1)∧S'=S.upd rb (rdO (numR low ws e).2.2 (numR low ws e).2.1):=by
 have ht:=rtake_ok1 (G:=G) h
 unfold numR;unfold takeR at ht
 by_cases he:e=0
 ·subst he;rw[if_pos rfl] at ht ⊢
  cases ws with
  | nil=>
    dsimp only [numG] at ht ⊢;refine triple_of_awp (hT G) hm Tryz.func82 rfl (by decide +kernel) rfl (by decide +kernel) (by show 2≤_;decide +kernel) rfl ?_
    conv=>whnf
    refine ht.mono ?_;rintro o T ⟨rfl,rfl⟩;conv=>whnf
    exact⟨_,_,⟨rfl,rfl⟩,St.le_refl _,AV.leS_refl _ _ _⟩
  | cons x l=>
    dsimp only [numG] at ht ⊢;have hn:=fun S=>isNumber1_ok (G:=G) x (hw x (by simp)) low h0 h1 S
    have hf:=rfail_ok (G:=G) (S:=S.upd rb (rdO l 0)) (rb:=rb) (ws:=l) (e:=0) (St.upd_same _ _ _) 81
    rw[if_pos rfl,St.upd_upd] at hf
    cases hx:isNumV x.data.toList low with
    | true=>
      rw[hx] at hn;rw[if_pos rfl];refine triple_of_awp (hT G) hm Tryz.func82 rfl (by decide +kernel) rfl (by decide +kernel) (by show 2≤_;decide +kernel) rfl ?_
      conv=>whnf
      refine ht.mono ?_;rintro o T ⟨rfl,rfl⟩;conv=>whnf
      refine(hn _).mono ?_;rintro o T ⟨rfl,rfl⟩;conv=>whnf
      exact⟨_,_,⟨rfl,rfl⟩,St.le_refl _,AV.leS_refl _ _ _⟩
    | false=>
      rw[hx] at hn;rw[if_neg (by decide)]
      refine triple_of_awp (hT G) hm Tryz.func82 rfl (by decide +kernel) rfl (by decide +kernel) (by show 2≤_;decide +kernel) rfl ?_
      conv=>whnf
      refine ht.mono ?_;rintro o T ⟨rfl,rfl⟩;conv=>whnf
      refine(hn _).mono ?_;rintro o T ⟨rfl,rfl⟩;conv=>whnf
      refine hf.mono ?_;rintro o T ⟨rfl,rfl⟩;conv=>whnf
      exact⟨_,_,⟨rfl,rfl⟩,St.le_refl _,AV.leS_refl _ _ _⟩
 ·rw[if_neg he] at ht ⊢;dsimp only at ht ⊢;refine triple_of_awp (hT G) hm Tryz.func82 rfl (by decide +kernel) rfl (by decide +kernel) (by show 2≤_;decide +kernel) rfl ?_
  conv=>whnf
  refine ht.mono ?_;rintro o T ⟨rfl,rfl⟩;conv=>whnf
  exact⟨_,_,⟨rfl,rfl⟩,St.le_refl _,AV.leS_refl _ _ _⟩
def litR(ws:List ByteArray)(e:Int):Int×Int×List ByteArray:=if e=0 then rlitG ws else (0,e,ws)
theorem lit1_ok{S:St}{rb:Nat}{ws:List ByteArray}{e:Int}(h:S rb=some (rdO ws e))(hw:∀ w∈ws,w.size≤9000000) :
 Triple P (C G) 86 [.ref rb 0] S fun o S'=>o=.ret (.int .i64 (litR ws e).1)∧S'=S.upd rb (rdO (litR ws e).2.2 (litR ws e).2.1):=by
 have ht:=rtake_ok1 (G:=G) h
 unfold litR;unfold takeR at ht
 by_cases he:e=0
 ·subst he;rw[if_pos rfl] at ht ⊢
  cases ws with
  | nil=>
    dsimp only [rlitG] at ht ⊢;refine triple_of_awp (hT G) hm Tryz.func86 rfl (by decide +kernel) rfl (by decide +kernel) (by show 1≤_;decide +kernel) rfl ?_
    conv=>whnf
    refine ht.mono ?_;rintro o T ⟨rfl,rfl⟩;conv=>whnf
    exact⟨_,_,⟨rfl,rfl⟩,St.le_refl _,AV.leS_refl _ _ _⟩
  | cons x l=>
    dsimp only [rlitG] at ht ⊢;have hn:=fun S=>Lit_ok (G:=G) x (hw x (by simp)) S
    have hf:=rfail_ok (G:=G) (S:=S.upd rb (rdO l 0)) (rb:=rb) (ws:=l) (e:=0) (St.upd_same _ _ _) 81
    rw[if_pos rfl,St.upd_upd] at hf;generalize litV x.data.toList=z at *
    by_cases hz:z=0
    ·rw[if_pos hz];subst hz;refine triple_of_awp (hT G) hm Tryz.func86 rfl (by decide +kernel) rfl (by decide +kernel) (by show 1≤_;decide +kernel) rfl ?_
     conv=>whnf
     refine ht.mono ?_;rintro o T ⟨rfl,rfl⟩;conv=>whnf
     refine(hn _).mono ?_;rintro o T ⟨rfl,rfl⟩;conv=>whnf
     refine hf.mono ?_;rintro o T ⟨rfl,rfl⟩;conv=>whnf
     exact⟨_,_,⟨rfl,rfl⟩,St.le_refl _,AV.leS_refl _ _ _⟩
    ·rw[if_neg hz];refine triple_of_awp (hT G) hm Tryz.func86 rfl (by decide +kernel) rfl (by decide +kernel) (by show 1≤_;decide +kernel) rfl ?_
     conv=>whnf
     refine ht.mono ?_;rintro o T ⟨rfl,rfl⟩;conv=>whnf
     refine(hn _).mono ?_;rintro o T ⟨rfl,rfl⟩;conv=>whnf
     rw[show(z == 0)=false from beq_false_of_ne hz];conv=>whnf
     exact⟨_,_,⟨rfl,rfl⟩,St.le_refl _,AV.leS_refl _ _ _⟩
 ·rw[if_neg he] at ht ⊢;dsimp only at ht ⊢;refine triple_of_awp (hT G) hm Tryz.func86 rfl (by decide +kernel) rfl (by decide +kernel) (by show 1≤_;decide +kernel) rfl ?_
  conv=>whnf
  refine ht.mono ?_;rintro o T ⟨rfl,rfl⟩;conv=>whnf
  exact⟨_,_,⟨rfl,rfl⟩,St.le_refl _,AV.leS_refl _ _ _⟩
def restE(ws:List ByteArray)(e:Int):Int:=if e=0∧ws≠[] then 80 else e
theorem rest_ok{S:St}{rb:Nat}{ws:List ByteArray}{e:Int}(h:S rb=some (rdO ws e)):Triple P (C G) 59 [.ref rb 0] S fun o S'=>o=.ret (.tu [])∧S'=S.upd rb (rdO ws (restE ws e)):=by
 have hmo:=more_ok (G:=G) h
 have hf:=rfail_ok (G:=G) h 80
 unfold restE
 cases hx:moreR ws e with
 | true=>
   rw[hx] at hmo;unfold moreR at hx;simp only[Bool.and_eq_true,decide_eq_true_eq] at hx;rw[if_pos hx];rw[if_pos hx.1] at hf;refine triple_of_awp (hT G) hm Tryz.func59 rfl (by decide +kernel) rfl (by decide +kernel) (by show 1≤_;decide +kernel) rfl ?_
   conv=>whnf
   refine hmo.mono ?_;rintro o T ⟨rfl,rfl⟩;conv=>whnf
   refine hf.mono ?_;rintro o T ⟨rfl,rfl⟩;conv=>whnf
   exact⟨_,_,⟨rfl,rfl⟩,St.le_refl _,AV.leS_refl _ _ _⟩
 | false=>
   rw[hx] at hmo;unfold moreR at hx;simp only[Bool.and_eq_false_iff,decide_eq_false_iff_not] at hx;rw[if_neg (by rintro⟨h1,h2⟩;rcases hx with h | h;exact h h1;exact h h2)]
   refine triple_of_awp (hT G) hm Tryz.func59 rfl (by decide +kernel) rfl (by decide +kernel) (by show 1≤_;decide +kernel) rfl ?_
   conv=>whnf
   refine hmo.mono ?_;rintro o T ⟨rfl,rfl⟩;conv=>whnf
   exact⟨_,_,⟨rfl,by rw[St.upd_id h]⟩,St.le_refl _,AV.leS_refl _ _ _⟩
def wordsR:List ByteArray→List ByteArray→Int→List ByteArray×Int
 | [],ws,e=>(ws,e)
 | x::xs,ws,e=>wordsR xs (oneR x ws e).1 (oneR x ws e).2
theorem wordsR_err:∀ (xs ws:List ByteArray) {e:Int},e≠0→wordsR xs ws e=(ws,e)
 | [],ws,e,_=>rfl
 | x::xs,ws,e,he=>by
   have:oneR x ws e=(ws,e):=by unfold oneR;rw[if_neg he]
   unfold wordsR;rw[this];exact wordsR_err xs ws he
theorem wordsR_exact:∀ (xs ws:List ByteArray),wordsR xs ws 0=exactG ws xs
 | [],ws=>by cases ws<;>rfl
 | x::xs,[]=>by
   unfold wordsR oneR;rw[if_pos rfl];exact wordsR_err xs [] (e:=82) (by decide)
 | x::xs,w::l=>by
   unfold wordsR oneR exactG;rw[if_pos rfl]
   by_cases h:w=x
   ·simp only[if_pos h];exact wordsR_exact xs l
   ·simp only[if_neg h];exact wordsR_err xs l (by decide)
theorem words1_ok'{S:St}{rb:Nat}{ws:List ByteArray}{e:Int}(h:S rb=some (rdO ws e))(xs:List ByteArray)(hxs:xs.length≤1000)(sh:Sh):Triple P (C G) 81 [.ref rb 0,.sl .any 1 (rowsS xs)] S fun o S'=>o=.ret (.tu [])∧S'=S.upd rb (rdO (wordsR xs ws e).1 (wordsR xs ws e).2):=by
 obtain⟨W,hW⟩:∃ W,W=wordsR xs ws e:=⟨_,rfl⟩;rw[← hW];refine triple_of_awp (hT G) hm Tryz.func81 rfl (by decide +kernel) rfl (by decide +kernel) (by show 2≤_;decide +kernel) rfl ?_
 conv=>whnf
 refine⟨⟨Nat×List ByteArray×Int,fun x=>[(0,.ref rb 0),(1,.sl .any 1 (rowsS xs)),(4,.int .i64 (x.1:Int))],
  fun x S'=>S'=S.upd rb (rdO x.2.1 x.2.2)∧x.1≤xs.length∧wordsR (xs.drop x.1) x.2.1 x.2.2=W,fun x=>xs.length-x.1⟩,
  ⟨(0,ws,e),⟨rfl,⟨rfl,rfl⟩,rfl,trivial⟩,_,St.leW_refl _,(St.upd_id h).symm,by dsimp only;omega,hW.symm⟩,?_⟩
 rintro⟨i,ws',e'⟩ S' ⟨rfl,hi,hg⟩;dsimp only at hi hg;conv=>whnf
 intro _;conv=>whnf
 refine split_of (fun hlt=>?_) (fun hlt=>?_)
 ·have hlt:i<xs.length:=by have:=of_decide_eq_true hlt;rw[rowsS_len] at this;dsimp only at this;omega
  have hd:xs.drop i=xs[i]::xs.drop (i+1):=List.drop_eq_getElem_cons hlt
  rw[hd] at hg;unfold wordsR at hg;have ga:(rowsS xs)[(i:Int).toNat]? = some [.str xs[i]]:=by simp[rowsS,hlt]
  have ho:=one_ok (G:=G) (S:=S.upd rb (rdO ws' e')) (rb:=rb) (ws:=ws') (e:=e') (St.upd_same _ _ _) xs[i]
  rw[St.upd_upd] at ho;have w1:IntKind.i64.wrap ((i:Int)+1)=((i+1:Nat):Int):=wrap_nat (by omega)
  generalize xs[i]=x at *;conv=>whnf
  refine⟨_,⟨by dsimp only;omega,ga⟩,?_⟩
  conv=>whnf
  refine ho.mono ?_;rintro o T ⟨rfl,rfl⟩;conv=>whnf
  exact⟨(i+1,_,_),⟨rfl,⟨rfl,rfl⟩,congrArg _ w1,trivial⟩,⟨_,St.leW_refl _,rfl,hlt,hg⟩,by show xs.length-(i+1)<xs.length-i;omega⟩
 ·have hlt:¬ i<xs.length:=by have:=of_decide_eq_false hlt;rw[rowsS_len] at this;dsimp only at this;omega
  rw[List.drop_of_length_le (by omega)] at hg
  unfold wordsR at hg;subst hg;conv=>whnf
  exact⟨_,_,⟨rfl,rfl⟩,St.le_refl _,AV.leS_refl _ _ _⟩
theorem AccOk.over{S S₁:St}{e:TypeId}{k b n:Nat}(h:AccOk S S₁ e k b n){x:Nat}{o:Own}(hx:S x=some o)(p:Own):AccOk (S.upd x p) (S₁.upd x p) e k b n:=by
 have hne:0<n→b≠x:=fun hn e=>by have:=h.new hn;rw[e,hx] at this;cases this
 exact⟨St.le_upd2 h.le _ _,fun hn=>by rw[St.upd_ne _ _ _ _ (hne hn)];exact h.tip hn,fun hn=>by rw[St.upd_ne _ _ _ _ (hne hn)];exact h.new hn⟩
theorem lit_not_num{l:List UInt8}(h:litV l≠0):parseI l=none:=by
 rw[litV_val] at h
 cases l with
 | nil=>exact absurd (by rfl) h
 | cons c r=>
   have hc:c=126∨c=120:=by
    by_cases h1:c=126
    ·exact .inl h1
    ·have h2:Lib.hasPrefix (c::r) [126]=false:=by
      cases hh:Lib.hasPrefix (c::r) [126] with
      | false=>rfl
      | true=>exact absurd ((hasPrefix_cons _ _ _).1 hh) h1
     rw[trimPrefix_no h2] at h
     by_cases h3:Lib.hasPrefix (c::r) [120]=true
     ·exact .inr ((hasPrefix_cons _ _ _).1 h3)
     ·rw[if_neg h3] at h;exact absurd rfl h
   have h45:Lib.hasPrefix (c::r) [45]=false:=by
    cases hh:Lib.hasPrefix (c::r) [45] with
    | false=>rfl
    | true=>
      have:=(hasPrefix_cons _ _ _).1 hh
      rcases hc with rfl | rfl<;>cases this
   unfold parseI;rw[trimPrefix_no h45];refine if_pos (.inr (.inr ?_))
   rcases hc with rfl | rfl<;>simp[digitB]
theorem num_iff(l:List UInt8)(low:Int):isNumV l low=true↔∃ z,parseI l=some z∧(low<0∨low≤z):=by
 unfold isNumV
 cases parseI l with
 | none=>simp
 | some z=>simp
def starS':ByteArray:=⟨#[42]⟩
def dS':ByteArray:=⟨#[100]⟩
def wS':ByteArray:=⟨#[119]⟩
theorem opG_lit{w:ByteArray}{l:List ByteArray}(hp:w≠plusS)(hs:w≠sS)(hz:litV w.data.toList≠0) :
 opG (w::l)=if 0<litV w.data.toList∧l.head? = some wS' then ((7,ByteArray.empty,litV w.data.toList),0,l.tail) else ((2,ByteArray.empty,litV w.data.toList),0,l):=by
 have hn:=lit_not_num hz
 have h1:∀ low,¬ isNumV w.data.toList low=true:=fun low h=>by
  obtain⟨z,h,_⟩:=(num_iff _ _).1 h;rw[hn] at h;cases h
 unfold opG;dsimp only;rw[if_neg hp,if_neg hs,if_neg (h1 1),if_neg (h1 (-1))]
 by_cases hpos:0<litV w.data.toList
 ·rw[if_pos hpos]
  cases l with
  | nil=>rw[if_neg (by simp)];rfl
  | cons x l=>
    by_cases hx:x=wS'
    ·subst hx;rw[if_pos ⟨hpos,rfl⟩];rfl
    ·rw[if_neg (by simp[hx])]
     have:behindG tbL (x::l) 2=(2,x::l):=by
      unfold behindG tbL;have hne:¬ ((⟨#[119]⟩:ByteArray)=x):=fun e=>hx e.symm
      simp[hne]
     rw[this]
 ·rw[if_neg hpos,if_pos (by omega),if_neg (fun h=>hpos h.1)]
theorem opG_num{w:ByteArray}{l:List ByteArray}(hp:w≠plusS)(hs:w≠sS){z:Int}(hz:parseI w.data.toList=some z)(h1:1≤z) :
 opG (w::l)=if l.head? = some starS' then ((4,w,0),0,l.tail) else if l.head? = some dS' then ((5,w,0),0,l.tail) else ((1,w,0),0,l):=by
 unfold opG;dsimp only;rw[if_neg hp,if_neg hs,if_pos ((num_iff _ _).2 ⟨z,hz,.inr h1⟩)]
 cases l with
 | nil=>rw[if_neg (by simp),if_neg (by simp)];rfl
 | cons x l=>
   by_cases hx:x=starS'
   ·subst hx;rw[show behindG tbN (starS'::l) 1=(4,l) from rfl];simp
   ·rw[if_neg (by simpa using hx)]
    by_cases hy:x=dS'
    ·subst hy;rw[show behindG tbN (dS'::l) 1=(5,l) from rfl];simp
    ·rw[if_neg (by simpa using hy)]
     have:behindG tbN (x::l) 1=(1,x::l):=by
      unfold behindG tbN;have hne:¬ ((⟨#[42]⟩:ByteArray)=x):=fun e=>hx e.symm
      have hne2:¬ ((⟨#[100]⟩:ByteArray)=x):=fun e=>hy e.symm
      simp[hne,hne2]
     rw[this]
theorem opG_low{w:ByteArray}{l:List ByteArray}(hp:w≠plusS)(hs:w≠sS){z:Int}(hz:parseI w.data.toList=some z)(h1:¬ 1≤z):opG (w::l)=((0,ByteArray.empty,0),81,l):=by
 unfold opG;dsimp only;rw[if_neg hp,if_neg hs,if_neg (fun h=>by
  obtain⟨y,hy,h⟩:=(num_iff _ _).1 h;rw[hz] at hy;cases hy;omega),if_pos ((num_iff _ _).2 ⟨z,hz,.inl (by omega)⟩)]
theorem opG_bad{w:ByteArray}{l:List ByteArray}(hp:w≠plusS)(hs:w≠sS)(hz:parseI w.data.toList=none)(h1:litV w.data.toList=0):opG (w::l)=((0,ByteArray.empty,0),80,l):=by
 have hn:∀ low,¬ isNumV w.data.toList low=true:=fun low h=>by
  obtain⟨z,h,_⟩:=(num_iff _ _).1 h;rw[hz] at h;cases h
 unfold opG;dsimp only;rw[if_neg hp,if_neg hs,if_neg (hn 1),if_neg (hn (-1)),if_neg (by omega),if_neg (by omega)]
theorem ops_ok1{S:St}{rb:Nat}{ws0:List ByteArray}(h:S rb=some (rdO ws0 0))(hw0:∀ w∈ws0,w.size≤9000000)(hn0:ws0.length≤9000000) :
 Triple P (C G) 83 [.ref rb 0] S fun o S'=>o=.ret (.sl .any 3 (rowsO (polF (ws0.length+2) ws0 []).1))∧S'=S.upd rb (rdO (polF (ws0.length+2) ws0 []).2.2 (polF (ws0.length+2) ws0 []).2.1):=by
 obtain⟨W,hWW⟩:∃ W,polF (ws0.length+2) ws0 []=W:=⟨_,rfl⟩;rw[hWW]
 cases ws0 with
 | nil=>
   have hm0:=more_ok (G:=G) h
   rw[show moreR [] 0=false from by simp[moreR]] at hm0
   have hf82:=rfail_ok (G:=G) h 82
   rw[if_pos rfl] at hf82;have hW2:W=([],82,[]):=by rw[← hWW];rfl
   subst hW2;have hm1:=more_ok (G:=G) (S:=S.upd rb (rdO [] 82)) (rb:=rb) (ws:=[]) (e:=82) (St.upd_same _ _ _);rw[show moreR [] 82=false from by simp[moreR]] at hm1
   clear hWW;refine triple_of_awp (hT G) hm Tryz.func83 rfl (by decide +kernel) rfl (by decide +kernel) (by show 1≤_;decide +kernel) rfl ?_
   refine awp_seq2 fun K hK hQ=>?_
   conv=>whnf
   refine hK _ _ ?_;clear hK hQ K;refine awp_seq2 fun K hK hQ=>?_
   conv=>whnf
   refine hK _ _ ?_;clear hK hQ K;refine awp_seq2 fun K hK hQ=>?_
   conv=>whnf
   refine hm0.mono ?_;rintro o T ⟨rfl,rfl⟩;conv=>whnf
   refine hf82.mono ?_;rintro o T2 ⟨rfl,rfl⟩;conv=>whnf
   refine hK _ _ ?_;clear hK hQ K;refine awp_seq2 fun K hK hQ=>?_
   conv=>whnf
   refine⟨⟨Nat,fun i=>[(0,.ref rb 0),(3,.nils)],fun i S'=>S'=T.upd rb (rdO [] 82),fun i=>i⟩,⟨0,⟨rfl,rfl,trivial⟩,_,St.leW_refl _,rfl⟩,?_⟩
   rintro(i:Nat) S' rfl;conv=>whnf
   refine hm1.mono ?_;rintro o T2 ⟨rfl,rfl⟩;conv=>whnf
   refine hK _ _ ?_;clear hK hQ K;conv=>whnf
   exact⟨_,_,⟨rfl,rfl⟩,St.le_refl _,rfl⟩
 | cons w0 l0=>
   have hm0:=more_ok (G:=G) h
   rw[show moreR (w0::l0) 0=true from by simp[moreR]] at hm0
   refine triple_of_awp (hT G) hm Tryz.func83 rfl (by decide +kernel) rfl (by decide +kernel) (by show 1≤_;decide +kernel) rfl ?_
   refine awp_seq2 fun K hK hQ=>?_
   conv=>whnf
   refine hK _ _ ?_;clear hK hQ K;refine awp_seq2 fun K hK hQ=>?_
   conv=>whnf
   refine hK _ _ ?_;clear hK hQ K;refine awp_seq2 fun K hK hQ=>?_
   conv=>whnf
   refine hm0.mono ?_;rintro o T ⟨rfl,rfl⟩;conv=>whnf
   refine hK _ _ ?_;clear hK hQ K;refine awp_seq2 fun K hK hQ=>?_
   conv=>whnf
   refine⟨⟨Nat×List ByteArray×Int×List OpV×Nat,fun x=>[(0,.ref rb 0),(3,.sl (.acc x.2.2.2.2) 3 (rowsO x.2.2.2.1))],
    fun x S1=>AccOk (T.upd rb (rdO x.2.1 x.2.2.1)) S1 85 3 x.2.2.2.2 x.2.2.2.1.length∧x.2.2.2.1.length+x.2.1.length≤9000000∧(∀ w∈x.2.1,w.size≤9000000)∧
     (x.2.2.1=0→polF x.1 x.2.1 x.2.2.2.1=W∧x.2.1.length<x.1∧(x.2.2.2.1≠[]∨x.2.1≠[]))∧(x.2.2.1≠0→(x.2.2.2.1,x.2.2.1,x.2.1)=W),fun x=>x.2.1.length+(if x.2.2.1=0 then 1 else 0)⟩,
    ⟨((w0::l0).length+2,w0::l0,0,[],0),⟨rfl,rfl,trivial⟩,_,St.leW_refl _,by rw[St.upd_id h];exact AccOk.init _ _ _ _,by simpa using hn0,hw0,fun _=>⟨hWW,by dsimp only;omega,.inr (by simp)⟩,fun h=>absurd rfl h⟩,?_⟩
   rintro⟨f,ws,e,acc,ba⟩ S1 ⟨g1,g2,g3,g4,g5⟩;dsimp only at g1 g2 g3 g4 g5;have q1:S1 rb=some (rdO ws e):=g1.le _ _ (St.upd_same _ _ _);have hm1:=more_ok (G:=G) q1
   cases hmr:moreR ws e with
   | false=>
     rw[hmr] at hm1;have hfin:(acc,e,ws)=W:=by
      by_cases he:e=0
      ·subst he;obtain⟨a1,a2,a3⟩:=g4 rfl;have hws:ws=[]:=by simpa [moreR] using hmr
       subst hws;obtain⟨g,rfl⟩:∃ g,f=g+1:=⟨f-1,by omega⟩
       unfold polF at a1;rw[if_neg (by simpa using a3)] at a1
       exact a1
      ·exact g5 he
     subst hfin;conv=>whnf
     refine hm1.mono ?_;rintro o T2 ⟨rfl,rfl⟩;conv=>whnf
     refine hK _ _ ?_;clear hK hQ K;conv=>whnf
     exact⟨_,_,⟨rfl,rfl⟩,g1.le,⟨rfl,rfl⟩⟩
   | true=>
     rw[hmr] at hm1;have he:e=0∧ws≠[]:=by simpa [moreR] using hmr
     obtain⟨rfl,hne⟩:=he;obtain⟨w,l,rfl⟩:=List.exists_cons_of_ne_nil hne;obtain⟨hW,hf,_⟩:=g4 rfl;obtain⟨g,rfl⟩:∃ g,f=g+1:=⟨f-1,by omega⟩
     unfold polF at hW;rw[if_pos (.inr hne)] at hW;have ht:=rtake_ok1 (G:=G) q1;unfold takeR at ht;rw[if_pos rfl] at ht;dsimp only at ht;have hsz:w.size≤9000000:=g3 w (by simp)
     have hsl:∀ y∈l,y.size≤9000000:=fun y hy=>g3 y (by simp[hy])
     have hli:=fun S=>Lit_ok (G:=G) w hsz S
     have hpa:=fun S=>RParse_ok (G:=G) w hsz S
     simp only[List.length_cons] at g2 hf;have g1':=g1.over (x:=rb) (St.upd_same _ _ _) (rdO l 0);rw[St.upd_upd] at g1';have qT0:(S1.upd rb (rdO l 0)) rb=some (rdO l 0):=St.upd_same _ _ _;obtain⟨z,hz⟩:∃ z,litV w.data.toList=z:=⟨_,rfl⟩;obtain⟨pv,pk,hpv,hpk⟩:∃ pv pk,(parseI w.data.toList).getD 0=pv∧(parseI w.data.toList).isSome=pk:=⟨_,_,rfl,rfl⟩;obtain⟨n1,l1,e1⟩:∃ n l,refI pv=.ag [.bool n,.sl .any 1 l]:=⟨_,_,rfl⟩;have hsg:=fun S=>Sign1_ok (G:=G) pv S
     rw[hpv,hpk] at hpa;rw[e1] at hpa hsg;rw[hz] at hli;generalize S1.upd rb (rdO l 0)=T1 at *;conv=>whnf
     refine hm1.mono ?_;rintro o T2 ⟨rfl,rfl⟩;conv=>whnf
     refine ht.mono ?_;rintro o T2 ⟨rfl,rfl⟩;conv=>whnf
     refine(hli _).mono ?_;rintro o T2 ⟨rfl,rfl⟩;conv=>whnf
     refine(hpa _).mono ?_;rintro o T2 ⟨rfl,rfl⟩;conv=>whnf
     intro b7 hb7;conv=>whnf
     refine⟨_,_,St.upd_same _ _ _,?_⟩;conv=>whnf
     rw[St.upd_upd];have hTx:=g1'.other hb7 (.obj 189 [.bool n1,.sl .any 1 l1]);have qT:=St.up (p:=.obj 189 [.bool n1,.sl .any 1 l1]) hb7 qT0;have q7:=St.upd_same T2 b7 (.obj 189 [.bool n1,.sl .any 1 l1]);generalize T2.upd b7 (.obj 189 [.bool n1,.sl .any 1 l1])=TT at *;clear qT0 g1' hb7;have hisW:=is_ok (G:=G) qT wS';have hisS:=is_ok (G:=G) qT starS';have hisD:=is_ok (G:=G) qT dS';have hf80:=rfail_ok (G:=G) qT 80;have hf81:=rfail_ok (G:=G) qT 81;rw[if_pos rfl] at hf80 hf81;have hovr:∀ ws' e',AccOk (T.upd rb (rdO ws' e')) (TT.upd rb (rdO ws' e')) 85 3 ba acc.length:=fun ws' e'=>by
      have:=hTx.over (x:=rb) (St.upd_same _ _ _) (rdO ws' e')
      rw[St.upd_upd] at this;exact this
     by_cases hp:w=plusS
     ·have ho:opG (w::l)=((3,ByteArray.empty,0),0,l):=by unfold opG;dsimp only;rw[if_pos hp]
      have hW2:polF g l (acc++[(3,ByteArray.empty,0)])=W:=by rw[ho] at hW;dsimp only at hW;rw[if_pos rfl] at hW;exact hW
      rw[show decide (w=(⟨#[43]⟩:ByteArray))=true from decide_eq_true hp];conv=>whnf
      intro bb hbb;have hTb:=hTx.other hbb (.tip 85 3 1);conv=>whnf
      refine⟨⟨fun hl=>?_,?_⟩,fun S4 c1 c2 b' c3=>?_⟩
      ·have:0<acc.length:=by cases acc with
        | nil=>exact absurd rfl hl
        | cons _ _=>simp
       rw[rowsO_len];exact hTb.tip this
      ·show((rowsO acc).length+1)*32≤_
       rw[rowsO_len];omega
      have h5:=hTb.push (m:=acc.length+1) (by rw[rowsO_len]) c1 c2 c3 rfl
      rw[rowsO_len];conv=>whnf
      exact⟨(g,l,0,acc++[(3,ByteArray.empty,0)],b'),⟨rfl,congrArg (AV.sl (.acc b') 3) (by simp[rowsO];try rfl),trivial⟩,⟨_,St.leW_refl _,by dsimp only;rw[List.length_append];exact h5,by simp;omega,hsl,fun _=>⟨hW2,by simp;omega,.inl (by simp)⟩,fun h=>absurd rfl h⟩,by simp<;>omega⟩
     rw[show decide (w=(⟨#[43]⟩:ByteArray))=false from decide_eq_false hp];conv=>whnf
     by_cases hs:w=sS
     ·have ho:opG (w::l)=((6,ByteArray.empty,0),0,l):=by unfold opG;dsimp only;rw[if_neg hp,if_pos hs]
      have hW2:polF g l (acc++[(6,ByteArray.empty,0)])=W:=by rw[ho] at hW;dsimp only at hW;rw[if_pos rfl] at hW;exact hW
      rw[show decide (w=(⟨#[115]⟩:ByteArray))=true from decide_eq_true hs];conv=>whnf
      intro bb hbb;have hTb:=hTx.other hbb (.tip 85 3 1);conv=>whnf
      refine⟨⟨fun hl=>?_,?_⟩,fun S4 c1 c2 b' c3=>?_⟩
      ·have:0<acc.length:=by cases acc with
        | nil=>exact absurd rfl hl
        | cons _ _=>simp
       rw[rowsO_len];exact hTb.tip this
      ·show((rowsO acc).length+1)*32≤_
       rw[rowsO_len];omega
      have h5:=hTb.push (m:=acc.length+1) (by rw[rowsO_len]) c1 c2 c3 rfl
      rw[rowsO_len];conv=>whnf
      exact⟨(g,l,0,acc++[(6,ByteArray.empty,0)],b'),⟨rfl,congrArg (AV.sl (.acc b') 3) (by simp[rowsO];try rfl),trivial⟩,⟨_,St.leW_refl _,by dsimp only;rw[List.length_append];exact h5,by simp;omega,hsl,fun _=>⟨hW2,by simp;omega,.inl (by simp)⟩,fun h=>absurd rfl h⟩,by simp<;>omega⟩
     rw[show decide (w=(⟨#[115]⟩:ByteArray))=false from decide_eq_false hs];conv=>whnf
     have htl:∀ y∈l.tail,y.size≤9000000:=fun y hy=>hsl y (List.mem_of_mem_tail hy)
     by_cases hzz:z=0
     ·subst hzz;rw[show decide ((0:Int) > 0)=false from rfl];conv=>whnf
      cases hpz:parseI w.data.toList with
      | none=>
        rw[hpz] at hpk;subst hpk;have ho:=opG_bad (l:=l) hp hs hpz hz;have hW2:(acc,(80:Int),l)=W:=by rw[ho] at hW;dsimp only at hW;rw[if_neg (by decide)] at hW;exact hW
        conv=>whnf
        refine hf80.mono ?_;rintro o T3 ⟨rfl,rfl⟩;conv=>whnf
        exact⟨(g,l,80,acc,ba),⟨rfl,rfl,trivial⟩,⟨_,St.leW_refl _,hovr l 80,by dsimp only;omega,hsl,fun h=>absurd (show(80:Int)=0 from h) (by decide),fun _=>hW2⟩,by simp<;>omega⟩
      | some z0=>
        rw[hpz] at hpk hpv;simp only[Option.getD_some] at hpv;simp only[Option.isSome_some] at hpk;subst hpk hpv
        by_cases h1:1≤z0
        ·have ho:=opG_num (l:=l) hp hs hpz h1
         have hsv:(if z0=0 then (0:Int) else if z0<0 then -1 else 1)=1:=by rw[if_neg (by omega),if_neg (by omega)]
         rw[hsv] at hsg;conv=>whnf
         refine⟨_,_,q7,?_⟩;conv=>whnf
         refine(hsg _).mono ?_;rintro o T3 ⟨rfl,rfl⟩;conv=>whnf
         refine hisS.mono ?_;rintro o T3 ⟨rfl,rfl⟩
         by_cases hst:l.head? = some starS'
         ·rw[if_pos hst] at ho;have hW2:polF g l.tail (acc++[(4,w,0)])=W:=by rw[ho] at hW;dsimp only at hW;rw[if_pos rfl] at hW;exact hW
          have hone:=one_ok (G:=G) qT starS'
          have hov:=hovr l.tail 0
          rw[show oneR starS' l 0=(l.tail,0) from by
           cases l with
           | nil=>cases hst
           | cons x l=>simp at hst;simp[oneR,hst]] at hone
          dsimp only at hone;rw[show isR l 0 starS'=true from by simp[isR,hst]]
          conv=>whnf
          refine hone.mono ?_;rintro o T4 ⟨rfl,rfl⟩;conv=>whnf
          intro bb hbb;have hTb:=hov.other hbb (.tip 85 3 1);conv=>whnf
          refine⟨⟨fun hl=>?_,?_⟩,fun S4 c1 c2 b' c3=>?_⟩
          ·have:0<acc.length:=by cases acc with
            | nil=>exact absurd rfl hl
            | cons _ _=>simp
           rw[rowsO_len];exact hTb.tip this
          ·show((rowsO acc).length+1)*32≤_
           rw[rowsO_len];omega
          have h5:=hTb.push (m:=acc.length+1) (by rw[rowsO_len]) c1 c2 c3 rfl
          rw[rowsO_len];conv=>whnf
          exact⟨(g,l.tail,0,acc++[(4,w,0)],b'),⟨rfl,congrArg (AV.sl (.acc b') 3) (by simp[rowsO];try rfl),trivial⟩,⟨_,St.leW_refl _,by dsimp only;rw[List.length_append];exact h5,by simp;omega,htl,fun _=>⟨hW2,by simp;omega,.inl (by simp)⟩,fun h=>absurd rfl h⟩,by simp<;>omega⟩
         ·rw[if_neg hst] at ho;rw[show isR l 0 starS'=false from by simp[isR,hst]]
          conv=>whnf
          refine hisD.mono ?_;rintro o T3 ⟨rfl,rfl⟩
          by_cases hdd:l.head? = some dS'
          ·rw[if_pos hdd] at ho;have hW2:polF g l.tail (acc++[(5,w,0)])=W:=by rw[ho] at hW;dsimp only at hW;rw[if_pos rfl] at hW;exact hW
           have hone:=one_ok (G:=G) qT dS'
           have hov:=hovr l.tail 0
           rw[show oneR dS' l 0=(l.tail,0) from by
            cases l with
            | nil=>cases hdd
            | cons x l=>simp at hdd;simp[oneR,hdd]] at hone
           dsimp only at hone;rw[show isR l 0 dS'=true from by simp[isR,hdd]]
           conv=>whnf
           refine hone.mono ?_;rintro o T4 ⟨rfl,rfl⟩;conv=>whnf
           intro bb hbb;have hTb:=hov.other hbb (.tip 85 3 1);conv=>whnf
           refine⟨⟨fun hl=>?_,?_⟩,fun S4 c1 c2 b' c3=>?_⟩
           ·have:0<acc.length:=by cases acc with
             | nil=>exact absurd rfl hl
             | cons _ _=>simp
            rw[rowsO_len];exact hTb.tip this
           ·show((rowsO acc).length+1)*32≤_
            rw[rowsO_len];omega
           have h5:=hTb.push (m:=acc.length+1) (by rw[rowsO_len]) c1 c2 c3 rfl
           rw[rowsO_len];conv=>whnf
           exact⟨(g,l.tail,0,acc++[(5,w,0)],b'),⟨rfl,congrArg (AV.sl (.acc b') 3) (by simp[rowsO];try rfl),trivial⟩,⟨_,St.leW_refl _,by dsimp only;rw[List.length_append];exact h5,by simp;omega,htl,fun _=>⟨hW2,by simp;omega,.inl (by simp)⟩,fun h=>absurd rfl h⟩,by simp<;>omega⟩
          ·rw[if_neg hdd] at ho;have hW2:polF g l (acc++[(1,w,0)])=W:=by rw[ho] at hW;dsimp only at hW;rw[if_pos rfl] at hW;exact hW
           rw[show isR l 0 dS'=false from by simp[isR,hdd]]
           conv=>whnf
           intro bb hbb;have hTb:=hTx.other hbb (.tip 85 3 1);conv=>whnf
           refine⟨⟨fun hl=>?_,?_⟩,fun S4 c1 c2 b' c3=>?_⟩
           ·have:0<acc.length:=by cases acc with
             | nil=>exact absurd rfl hl
             | cons _ _=>simp
            rw[rowsO_len];exact hTb.tip this
           ·show((rowsO acc).length+1)*32≤_
            rw[rowsO_len];omega
           have h5:=hTb.push (m:=acc.length+1) (by rw[rowsO_len]) c1 c2 c3 rfl
           rw[rowsO_len];conv=>whnf
           exact⟨(g,l,0,acc++[(1,w,0)],b'),⟨rfl,congrArg (AV.sl (.acc b') 3) (by simp[rowsO];try rfl),trivial⟩,⟨_,St.leW_refl _,by dsimp only;rw[List.length_append];exact h5,by simp;omega,hsl,fun _=>⟨hW2,by simp;omega,.inl (by simp)⟩,fun h=>absurd rfl h⟩,by simp<;>omega⟩
        ·have ho:=opG_low (l:=l) hp hs hpz h1
         have hW2:(acc,(81:Int),l)=W:=by rw[ho] at hW;dsimp only at hW;rw[if_neg (by decide)] at hW;exact hW
         have hsv:decide ((if z0=0 then (0:Int) else if z0<0 then -1 else 1)<1)=true:=decide_eq_true (by split<;>(try split)<;>omega)
         generalize (if z0=0 then (0:Int) else if z0<0 then -1 else 1)=sg at *;conv=>whnf
         refine⟨_,_,q7,?_⟩;conv=>whnf
         refine(hsg _).mono ?_;rintro o T3 ⟨rfl,rfl⟩;conv=>whnf
         rw[hsv];conv=>whnf
         refine hf81.mono ?_;rintro o T3 ⟨rfl,rfl⟩;conv=>whnf
         exact⟨(g,l,81,acc,ba),⟨rfl,rfl,trivial⟩,⟨_,St.leW_refl _,hovr l 81,by dsimp only;omega,hsl,fun h=>absurd (show(81:Int)=0 from h) (by decide),fun _=>hW2⟩,by simp<;>omega⟩
     ·have ho:=opG_lit (l:=l) hp hs (by rw[hz];exact hzz)
      rw[hz] at ho
      by_cases hpos:z > 0
      ·rw[show decide (z > 0)=true from decide_eq_true hpos];conv=>whnf
       refine hisW.mono ?_;rintro o T3 ⟨rfl,rfl⟩
       by_cases hw:l.head? = some wS'
       ·rw[if_pos ⟨hpos,hw⟩] at ho;have hW2:polF g l.tail (acc++[(7,ByteArray.empty,z)])=W:=by rw[ho] at hW;dsimp only at hW;rw[if_pos rfl] at hW;exact hW
        have hone:=one_ok (G:=G) qT wS'
        have hov:=hovr l.tail 0
        rw[show oneR wS' l 0=(l.tail,0) from by
         cases l with
         | nil=>cases hw
         | cons x l=>simp at hw;simp[oneR,hw]] at hone
        dsimp only at hone;rw[show isR l 0 wS'=true from by simp[isR,hw]]
        conv=>whnf
        refine hone.mono ?_;rintro o T4 ⟨rfl,rfl⟩;conv=>whnf
        intro bb hbb;have hTb:=hov.other hbb (.tip 85 3 1);conv=>whnf
        refine⟨⟨fun hl=>?_,?_⟩,fun S4 c1 c2 b' c3=>?_⟩
        ·have:0<acc.length:=by cases acc with
          | nil=>exact absurd rfl hl
          | cons _ _=>simp
         rw[rowsO_len];exact hTb.tip this
        ·show((rowsO acc).length+1)*32≤_
         rw[rowsO_len];omega
        have h5:=hTb.push (m:=acc.length+1) (by rw[rowsO_len]) c1 c2 c3 rfl
        rw[rowsO_len];conv=>whnf
        exact⟨(g,l.tail,0,acc++[(7,ByteArray.empty,z)],b'),⟨rfl,congrArg (AV.sl (.acc b') 3) (by simp[rowsO];try rfl),trivial⟩,⟨_,St.leW_refl _,by dsimp only;rw[List.length_append];exact h5,by simp;omega,htl,fun _=>⟨hW2,by simp;omega,.inl (by simp)⟩,fun h=>absurd rfl h⟩,by simp<;>omega⟩
       ·rw[if_neg (fun h=>hw h.2)] at ho
        have hW2:polF g l (acc++[(2,ByteArray.empty,z)])=W:=by rw[ho] at hW;dsimp only at hW;rw[if_pos rfl] at hW;exact hW
        rw[show isR l 0 wS'=false from by simp[isR,hw]]
        conv=>whnf
        rw[show(z != 0)=true from by simpa using hzz]
        conv=>whnf
        intro bb hbb;have hTb:=hTx.other hbb (.tip 85 3 1);conv=>whnf
        refine⟨⟨fun hl=>?_,?_⟩,fun S4 c1 c2 b' c3=>?_⟩
        ·have:0<acc.length:=by cases acc with
          | nil=>exact absurd rfl hl
          | cons _ _=>simp
         rw[rowsO_len];exact hTb.tip this
        ·show((rowsO acc).length+1)*32≤_
         rw[rowsO_len];omega
        have h5:=hTb.push (m:=acc.length+1) (by rw[rowsO_len]) c1 c2 c3 rfl
        rw[rowsO_len];conv=>whnf
        exact⟨(g,l,0,acc++[(2,ByteArray.empty,z)],b'),⟨rfl,congrArg (AV.sl (.acc b') 3) (by simp[rowsO];try rfl),trivial⟩,⟨_,St.leW_refl _,by dsimp only;rw[List.length_append];exact h5,by simp;omega,hsl,fun _=>⟨hW2,by simp;omega,.inl (by simp)⟩,fun h=>absurd rfl h⟩,by simp<;>omega⟩
      ·rw[if_neg (fun h=>hpos h.1)] at ho
       have hW2:polF g l (acc++[(2,ByteArray.empty,z)])=W:=by rw[ho] at hW;dsimp only at hW;rw[if_pos rfl] at hW;exact hW
       rw[show decide (z > 0)=false from decide_eq_false hpos];conv=>whnf
       rw[show(z != 0)=true from by simpa using hzz]
       conv=>whnf
       intro bb hbb;have hTb:=hTx.other hbb (.tip 85 3 1);conv=>whnf
       refine⟨⟨fun hl=>?_,?_⟩,fun S4 c1 c2 b' c3=>?_⟩
       ·have:0<acc.length:=by cases acc with
         | nil=>exact absurd rfl hl
         | cons _ _=>simp
        rw[rowsO_len];exact hTb.tip this
       ·show((rowsO acc).length+1)*32≤_
        rw[rowsO_len];omega
       have h5:=hTb.push (m:=acc.length+1) (by rw[rowsO_len]) c1 c2 c3 rfl
       rw[rowsO_len];conv=>whnf
       exact⟨(g,l,0,acc++[(2,ByteArray.empty,z)],b'),⟨rfl,congrArg (AV.sl (.acc b') 3) (by simp[rowsO];try rfl),trivial⟩,⟨_,St.leW_refl _,by dsimp only;rw[List.length_append];exact h5,by simp;omega,hsl,fun _=>⟨hW2,by simp;omega,.inl (by simp)⟩,fun h=>absurd rfl h⟩,by simp<;>omega⟩
theorem row_err{S:St}{rb:Nat}{ws:List ByteArray}{e:Int}(h:S rb=some (rdO ws e))(he:e≠0)(hw:∀ w∈ws,w.size≤9000000) :
 Triple P (C G) 84 [.ref rb 0] S fun o S'=>(∃ ps b,o=.ret (.ag [.sl .any 2 (rowsP ps),.str b]))∧S'=S:=by
 have hne:(e == 0)=false:=beq_false_of_ne he
 refine triple_of_awp (hT G) hm Tryz.func84 rfl (by decide +kernel) rfl (by decide +kernel) (by show 1≤_;decide +kernel) rfl ?_
 refine awp_seq2 fun K hK hQ=>?_
 conv=>whnf
 intro b2 hb2;conv=>whnf
 refine hK _ _ ?_;clear hK hQ K;refine awp_seq2 fun K hK hQ=>?_
 conv=>whnf
 intro b3 hb3;conv=>whnf
 refine hK _ _ ?_;clear hK hQ K;have q0:((S.upd b2 (.obj 51 [.nils,.str ByteArray.empty])).upd b3 (.obj 51 [.nils,.str ByteArray.empty])) rb=some (rdO ws e):=St.up hb3 (St.up hb2 h);have q3:=St.upd_same (S.upd b2 (.obj 51 [.nils,.str ByteArray.empty])) b3 (.obj 51 [.nils,.str ByteArray.empty]);have q2:((S.upd b2 (.obj 51 [.nils,.str ByteArray.empty])).upd b3 (.obj 51 [.nils,.str ByteArray.empty])) b2=some (.obj 51 [.nils,.str ByteArray.empty]):=St.up hb3 (St.upd_same _ _ _);have hle:=St.le_upd' (St.le_upd' (St.le_refl S) hb2 (.obj 51 [.nils,.str ByteArray.empty])) hb3 (.obj 51 [.nils,.str ByteArray.empty]);change awp _ _ _ _ ((S.upd b2 (.obj 51 [.nils,.str ByteArray.empty])).upd b3 (.obj 51 [.nils,.str ByteArray.empty])) _;generalize (S.upd b2 (.obj 51 [.nils,.str ByteArray.empty])).upd b3 (.obj 51 [.nils,.str ByteArray.empty])=T at *;have hone1:=one_ok (G:=G) q0 geS;have hone2:=one_ok (G:=G) q0 semiS;have hnum:=number1_ok (G:=G) q0 hw (-1) (by omega) (by omega)
 rw[show oneR geS ws e=(ws,e) from by unfold oneR;rw[if_neg he]] at hone1
 rw[show oneR semiS ws e=(ws,e) from by unfold oneR;rw[if_neg he]] at hone2
 rw[show numR (-1) ws e=(⟨#[]⟩,e,ws) from by unfold numR;rw[if_neg he]] at hnum
 rw[St.upd_id q0] at hone1 hone2 hnum;dsimp only at hone1 hone2 hnum;refine awp_seq2 fun K hK hQ=>?_
 conv=>whnf
 refine⟨⟨Nat,fun i=>[(0,.ref rb 0),(2,.ref b2 0),(3,.ref b3 0)],fun i S'=>S'=T,fun i=>i⟩,⟨0,⟨rfl,rfl,rfl,trivial⟩,_,St.leW_refl _,rfl⟩,?_⟩
 rintro(i:Nat) S' rfl;conv=>whnf
 refine⟨_,_,q0,?_⟩;conv=>whnf
 rw[hne];conv=>whnf
 refine hK _ _ ?_;clear hK hQ K;refine awp_seq2 fun K hK hQ=>?_
 conv=>whnf
 refine hone1.mono ?_;rintro o T2 ⟨rfl,rfl⟩;conv=>whnf
 refine hK _ _ ?_;clear hK hQ K;refine awp_seq2 fun K hK hQ=>?_
 conv=>whnf
 refine hnum.mono ?_;rintro o T2 ⟨rfl,rfl⟩;conv=>whnf
 refine⟨_,_,q3,?_⟩;conv=>whnf
 rw[show(T2.upd b3 (.obj 51 [.nils,.str ⟨#[]⟩]))=T2 from St.upd_id q3];refine hK _ _ ?_;clear hK hQ K;refine awp_seq2 fun K hK hQ=>?_
 conv=>whnf
 refine hone2.mono ?_;rintro o T2 ⟨rfl,rfl⟩;conv=>whnf
 refine hK _ _ ?_;clear hK hQ K;conv=>whnf
 refine⟨_,_,q3,?_⟩;conv=>whnf
 refine⟨_,_,q2,?_⟩;conv=>whnf
 refine⟨_,_,St.upd_same _ _ _,?_⟩;conv=>whnf
 refine⟨_,_,⟨⟨[],⟨#[]⟩,rfl⟩,rfl⟩,?_,⟨rfl,rfl,rfl⟩⟩;rw[St.upd_id q2];exact hle
end Go.Proofs.YtogipknpafkfpaaGreatDoor.Aw
