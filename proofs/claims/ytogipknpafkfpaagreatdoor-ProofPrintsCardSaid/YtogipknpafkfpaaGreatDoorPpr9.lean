/- Package big, walked: Add, Sub, Cmp. strings.Builder, walked at the model's grain where the abstract walk has no operatio -/
import Derived.Test.YtogipknpafkfpaaGreatDoorPpr8
import Derived.Lib.FrozenHead
import Derived.Lib.ItoaMem
import Derived.Lib.AtoiErrMem
set_option linter.all false
set_option maxRecDepth 100000
namespace Go.Proofs.YtogipknpafkfpaaGreatDoor.Aw
open Go Go.RowKit
variable {G:Nat→Option (List AV)}
def okZ(z:Int)(k:Nat):Prop:=(limbs z.natAbs).length≤k
theorem joG_len(a b:List Nat){s:Int}(ha:∀ d∈a,d<1000000000)(hb:∀ d∈b,d<1000000000)(hs:s=1∨s=-1):(joG a b s).length≤max a.length b.length+1:=by
 have h1:=joL_bnd (joF_bnd ha hb hs) (max a.length b.length)
 have h2:(limbs (joL (joF a b s) (max a.length b.length)).2.toNat).length≤1:=limbs_len 1 _ (by omega)
 unfold joG;rw[List.length_append,joL_len];omega
theorem bSign_neg(z:Int):decide (bSign z<0)=decide (z<0):=by
 unfold bSign
 by_cases h:z<0
 ·simp[h]
 ·rw[if_neg h];by_cases h0:z=0<;>simp[h,h0]
theorem Add_near(x y:Int)(hx:near x)(hy:near y)(S:St):Triple P (C G) 182 [nearAV x,nearAV y] S fun o S'=>o=.ret (bigAV (x+y))∧S'=S:=by
 refine triple_of_awp (hT G) hm Tryz.func182 rfl (by decide +kernel) rfl (by decide +kernel) (by show 2≤_;decide +kernel) rfl ?_
 refine awp_seq2 fun K hK hQ=>?_
 conv=>whnf
 intro b2 hb2;conv=>whnf
 intro b3 hb3;conv=>whnf
 intro b4 hb4;conv=>whnf
 refine hK _ _ ?_;clear hK hQ K;have k2:(((S.upd b2 (.obj 244 [.int .i64 x,.bool false,.nils])).upd b3 (.obj 244 [.int .i64 y,.bool false,.nils])).upd b4 (.obj 244 [.int .i64 0,.bool false,.nils])) b2=some (.obj 244 [.int .i64 x,.bool false,.nils]):=St.up hb4 (St.up hb3 (St.upd_same _ _ _));have k3:(((S.upd b2 (.obj 244 [.int .i64 x,.bool false,.nils])).upd b3 (.obj 244 [.int .i64 y,.bool false,.nils])).upd b4 (.obj 244 [.int .i64 0,.bool false,.nils])) b3=some (.obj 244 [.int .i64 y,.bool false,.nils]):=St.up hb4 (St.upd_same _ _ _);conv=>whnf
 refine⟨_,_,k2,?_⟩;conv=>whnf
 refine⟨_,_,k3,?_⟩;conv=>whnf
 refine⟨_,_,k2,?_⟩;conv=>whnf
 refine⟨_,_,k3,?_⟩;conv=>whnf
 unfold near at hx hy;have hw:IntKind.i64.wrap (x+y)=x+y:=wrap_i64 (by omega) (by omega)
 rw[hw];refine(Of_ok (x+y) (by omega) (by omega) _).mono ?_
 rintro o S' ⟨rfl,rfl⟩
 by_cases hz:near (x+y)
 ·rw[bigAV_near hz];conv=>whnf
  refine⟨_,_,St.upd_same _ _ _,?_⟩;conv=>whnf
  refine⟨_,_,St.upd_same _ _ _,?_⟩;conv=>whnf
  refine⟨_,_,⟨rfl,rfl⟩,?_,AV.leS_refl _ _ _⟩;rw[St.upd_upd];exact St.le_upd' (St.le_upd' (St.le_upd' (St.le_refl _) hb2 _) hb3 _) hb4 _
 ·rw[bigAV_far hz];conv=>whnf
  refine⟨_,_,St.upd_same _ _ _,?_⟩;conv=>whnf
  refine⟨_,_,St.upd_same _ _ _,?_⟩;conv=>whnf
  refine⟨_,_,⟨rfl,rfl⟩,?_,AV.leS_refl _ _ _⟩;rw[St.upd_upd];exact St.le_upd' (St.le_upd' (St.le_upd' (St.le_refl _) hb2 _) hb3 _) hb4 _
theorem Add_ff(x y:Int)(hx:¬ near x)(kx:okZ x 9000000)(ky:okZ y 9000000)(hy:¬ near y)(S:St):Triple P (C G) 182 [bigAV x,bigAV y] S fun o S'=>o=.ret (bigAV (x+y))∧S'=S:=by
 have sx:=fun S=>size_ok (G:=G) x S
 have sy:=fun S=>size_ok (G:=G) y S
 have gx:=fun S=>Sign_ok (G:=G) x S
 have gy:=fun S=>Sign_ok (G:=G) y S
 rw[bigAV_far hx] at *;rw[bigAV_far hy] at *;have nx:=far_pos hx;have ny:=far_pos hy;have lx:=limbs_ne (n:=x.natAbs) (by omega)
 have ly:=limbs_ne (n:=y.natAbs) (by omega)
 refine triple_of_awp (hT G) hm Tryz.func182 rfl (by decide +kernel) rfl (by decide +kernel) (by show 2≤_;decide +kernel) rfl ?_
 refine awp_seq2 fun K hK hQ=>?_
 conv=>whnf
 intro b2 hb2;conv=>whnf
 intro b3 hb3;conv=>whnf
 intro b4 hb4;conv=>whnf
 refine hK _ _ ?_;clear hK hQ K;have k2:(((S.upd b2 (.obj 244 [.int .i64 0,.bool (decide (x<0)),.sl .any 1 (rowsU (limbs x.natAbs))])).upd b3 (.obj 244 [.int .i64 0,.bool (decide (y<0)),.sl .any 1 (rowsU (limbs y.natAbs))])).upd b4 (.obj 244 [.int .i64 0,.bool false,.nils])) b2=some (.obj 244 [.int .i64 0,.bool (decide (x<0)),.sl .any 1 (rowsU (limbs x.natAbs))]):=St.up hb4 (St.up hb3 (St.upd_same _ _ _));have k3:(((S.upd b2 (.obj 244 [.int .i64 0,.bool (decide (x<0)),.sl .any 1 (rowsU (limbs x.natAbs))])).upd b3 (.obj 244 [.int .i64 0,.bool (decide (y<0)),.sl .any 1 (rowsU (limbs y.natAbs))])).upd b4 (.obj 244 [.int .i64 0,.bool false,.nils])) b3=some (.obj 244 [.int .i64 0,.bool (decide (y<0)),.sl .any 1 (rowsU (limbs y.natAbs))]):=St.up hb4 (St.upd_same _ _ _);refine awp_seq2 fun K hK hQ=>?_
 conv=>whnf
 refine⟨_,_,k2,?_⟩;conv=>whnf
 intro c hc;have hc:=hc (rowsU_ne lx);subst hc;conv=>whnf
 -- ,the numbers' cells;sx sy gx gy hx hy in sight
 refine hK _ _ ?_;clear hK hQ K;refine awp_seq2 fun K hK hQ=>?_
 conv=>whnf
 refine⟨[1,3],(.free 0 (.free 1 (.free 2 (.free 3 (.free 4 (.free 5 .done)))))),_,by decide +kernel,?_,fun _ _ h=>⟨_,.inl rfl,h⟩⟩
 conv=>whnf
 refine⟨_,_,k2,?_⟩;conv=>whnf
 refine⟨.sl .any 1 (rowsU (limbs x.natAbs)),(sx _).mono ?_,?_⟩
 ·rintro o S' ⟨rfl,rfl⟩;exact⟨rfl,rfl⟩
 conv=>whnf
 refine⟨_,_,k3,?_⟩;conv=>whnf
 refine⟨.sl .any 1 (rowsU (limbs y.natAbs)),(sy _).mono ?_,?_⟩
 ·rintro o S' ⟨rfl,rfl⟩;exact⟨rfl,rfl⟩
 conv=>whnf
 refine hK _ _ ?_;clear hK hQ K;refine awp_seq2 fun K hK hQ=>?_
 conv=>whnf
 refine⟨[1,4],(.free 0 (.free 1 (.free 2 (.free 3 (.free 4 (.free 5 (.free 6 (.free 7 .done)))))))),_,by decide +kernel,?_,fun _ _ h=>⟨_,.inl rfl,h⟩⟩
 conv=>whnf
 refine⟨_,_,k2,?_⟩;conv=>whnf
 refine⟨.int .i64 (bSign x),(gx _).mono ?_,?_⟩
 ·rintro o S' ⟨rfl,rfl⟩;exact⟨rfl,rfl⟩
 conv=>whnf
 refine⟨_,_,k3,?_⟩;conv=>whnf
 refine⟨.int .i64 (bSign y),(gy _).mono ?_,?_⟩
 ·rintro o S' ⟨rfl,rfl⟩;exact⟨rfl,rfl⟩
 conv=>whnf
 refine hK _ _ ?_;clear hK hQ K;rw[bSign_neg,bSign_neg];generalize hnx:decide (x<0)=nx at *;generalize hny:decide (y<0)=ny at *;have kx':(limbs x.natAbs).length≤10000000:=Nat.le_trans kx (by decide)
 have ky':(limbs y.natAbs).length≤10000000:=Nat.le_trans ky (by decide)
 have vx:=valL_limbs x.natAbs
 have vy:=valL_limbs y.natAbs
 conv=>whnf
 refine split_of (fun hsg=>?_) (fun hsg=>?_)
 ·conv=>whnf
  -- nx sign,joG (limbs x.natAbs) (limbs y.natAbs) 1 list
  refine(joined_ok (limbs_lt _) (limbs_lt _) (.inl rfl) (by assumption) (by assumption) (by omega) _).mono ?_
  rintro o S' ⟨rfl,rfl⟩;conv=>whnf
  have hlen:(joG (limbs x.natAbs) (limbs y.natAbs) 1).length≤1000000000:=by
   have:=joG_len (s:=1) (limbs x.natAbs) (limbs y.natAbs) (limbs_lt _) (limbs_lt _) (.inl rfl)
   omega
  refine(made_ok nx (joG (limbs x.natAbs) (limbs y.natAbs) 1) (joG_dig _ _ _) hlen _).mono ?_;rintro o S' ⟨rfl,rfl⟩;have hval:=(joG_val (a:=(limbs x.natAbs)) (b:=(limbs y.natAbs)) (s:=1) (limbs_lt _) (by omega)).1
  rw[valL_limbs,valL_limbs] at hval;have hsum:(if nx then -(valL (joG (limbs x.natAbs) (limbs y.natAbs) 1):Int) else (valL (joG (limbs x.natAbs) (limbs y.natAbs) 1):Int))=x+y:=by
   rw[hval];clear hval hlen;have f1:nx=true→x<0:=fun h=>of_decide_eq_true (hnx.trans h)
   have f2:nx=false→¬ x<0:=fun h=>of_decide_eq_false (hnx.trans h)
   have g1:ny=true→y<0:=fun h=>of_decide_eq_true (hny.trans h)
   have g2:ny=false→¬ y<0:=fun h=>of_decide_eq_false (hny.trans h)
   clear hnx hny
   cases nx<;>cases ny<;>first | (exact absurd hsg (by decide)) | (simp only[if_true,Bool.false_eq_true,if_false,true_implies,false_implies,reduceCtorEq] at f1 f2 g1 g2 ⊢;omega)
  rw[hsum]
  by_cases hz:near (x+y)
  ·rw[bigAV_near hz];conv=>whnf
   refine⟨_,_,St.upd_same _ _ _,?_⟩;conv=>whnf
   refine⟨_,_,St.upd_same _ _ _,?_⟩;conv=>whnf
   refine⟨_,_,⟨rfl,rfl⟩,?_,AV.leS_refl _ _ _⟩;rw[St.upd_upd];exact St.le_upd' (St.le_upd' (St.le_upd' (St.le_refl _) hb2 _) hb3 _) hb4 _
  ·rw[bigAV_far hz];conv=>whnf
   refine⟨_,_,St.upd_same _ _ _,?_⟩;conv=>whnf
   refine⟨_,_,St.upd_same _ _ _,?_⟩;conv=>whnf
   refine⟨_,_,⟨rfl,rfl⟩,?_,AV.leS_refl _ _ _⟩;rw[St.upd_upd];exact St.le_upd' (St.le_upd' (St.le_upd' (St.le_refl _) hb2 _) hb3 _) hb4 _
 ·conv=>whnf
  refine(sizes_ok x.natAbs y.natAbs (by omega) (by omega) _).mono ?_
  rintro o S' ⟨v,rfl,hv,rfl⟩;conv=>whnf
  refine split_of (fun hge=>?_) (fun hge=>?_)
  ·have hle:=hv.1 (of_decide_eq_true hge)
   conv=>whnf
   -- nx sign,joG (limbs x.natAbs) (limbs y.natAbs) (-1) list
   refine(joined_ok (limbs_lt _) (limbs_lt _) (.inr rfl) (by assumption) (by assumption) (by omega) _).mono ?_
   rintro o S' ⟨rfl,rfl⟩;conv=>whnf
   have hlen:(joG (limbs x.natAbs) (limbs y.natAbs) (-1)).length≤1000000000:=by
    have:=joG_len (s:=(-1)) (limbs x.natAbs) (limbs y.natAbs) (limbs_lt _) (limbs_lt _) (.inr rfl)
    omega
   refine(made_ok nx (joG (limbs x.natAbs) (limbs y.natAbs) (-1)) (joG_dig _ _ _) hlen _).mono ?_;rintro o S' ⟨rfl,rfl⟩;have hval:=(joG_val (a:=(limbs x.natAbs)) (b:=(limbs y.natAbs)) (s:=(-1)) (limbs_lt _) (by omega)).1
   rw[valL_limbs,valL_limbs] at hval;have hsum:(if nx then -(valL (joG (limbs x.natAbs) (limbs y.natAbs) (-1)):Int) else (valL (joG (limbs x.natAbs) (limbs y.natAbs) (-1)):Int))=x+y:=by
    rw[hval];clear hval hlen;have f1:nx=true→x<0:=fun h=>of_decide_eq_true (hnx.trans h)
    have f2:nx=false→¬ x<0:=fun h=>of_decide_eq_false (hnx.trans h)
    have g1:ny=true→y<0:=fun h=>of_decide_eq_true (hny.trans h)
    have g2:ny=false→¬ y<0:=fun h=>of_decide_eq_false (hny.trans h)
    clear hnx hny
    cases nx<;>cases ny<;>first | (exact absurd hsg (by decide)) | (simp only[if_true,Bool.false_eq_true,if_false,true_implies,false_implies,reduceCtorEq] at f1 f2 g1 g2 ⊢;omega)
   rw[hsum]
   by_cases hz:near (x+y)
   ·rw[bigAV_near hz];conv=>whnf
    refine⟨_,_,St.upd_same _ _ _,?_⟩;conv=>whnf
    refine⟨_,_,St.upd_same _ _ _,?_⟩;conv=>whnf
    refine⟨_,_,⟨rfl,rfl⟩,?_,AV.leS_refl _ _ _⟩;rw[St.upd_upd];exact St.le_upd' (St.le_upd' (St.le_upd' (St.le_refl _) hb2 _) hb3 _) hb4 _
   ·rw[bigAV_far hz];conv=>whnf
    refine⟨_,_,St.upd_same _ _ _,?_⟩;conv=>whnf
    refine⟨_,_,St.upd_same _ _ _,?_⟩;conv=>whnf
    refine⟨_,_,⟨rfl,rfl⟩,?_,AV.leS_refl _ _ _⟩;rw[St.upd_upd];exact St.le_upd' (St.le_upd' (St.le_upd' (St.le_refl _) hb2 _) hb3 _) hb4 _
  ·have hle:¬ y.natAbs≤x.natAbs:=fun h=>of_decide_eq_false hge (hv.2 h)
   conv=>whnf
   -- ny sign,joG (limbs y.natAbs) (limbs x.natAbs) (-1) list
   refine(joined_ok (limbs_lt _) (limbs_lt _) (.inr rfl) (by assumption) (by assumption) (by omega) _).mono ?_
   rintro o S' ⟨rfl,rfl⟩;conv=>whnf
   have hlen:(joG (limbs y.natAbs) (limbs x.natAbs) (-1)).length≤1000000000:=by
    have:=joG_len (s:=(-1)) (limbs y.natAbs) (limbs x.natAbs) (limbs_lt _) (limbs_lt _) (.inr rfl)
    omega
   refine(made_ok ny (joG (limbs y.natAbs) (limbs x.natAbs) (-1)) (joG_dig _ _ _) hlen _).mono ?_;rintro o S' ⟨rfl,rfl⟩;have hval:=(joG_val (a:=(limbs y.natAbs)) (b:=(limbs x.natAbs)) (s:=(-1)) (limbs_lt _) (by omega)).1
   rw[valL_limbs,valL_limbs] at hval;have hsum:(if ny then -(valL (joG (limbs y.natAbs) (limbs x.natAbs) (-1)):Int) else (valL (joG (limbs y.natAbs) (limbs x.natAbs) (-1)):Int))=x+y:=by
    rw[hval];clear hval hlen;have f1:nx=true→x<0:=fun h=>of_decide_eq_true (hnx.trans h)
    have f2:nx=false→¬ x<0:=fun h=>of_decide_eq_false (hnx.trans h)
    have g1:ny=true→y<0:=fun h=>of_decide_eq_true (hny.trans h)
    have g2:ny=false→¬ y<0:=fun h=>of_decide_eq_false (hny.trans h)
    clear hnx hny
    cases nx<;>cases ny<;>first | (exact absurd hsg (by decide)) | (simp only[if_true,Bool.false_eq_true,if_false,true_implies,false_implies,reduceCtorEq] at f1 f2 g1 g2 ⊢;omega)
   rw[hsum]
   by_cases hz:near (x+y)
   ·rw[bigAV_near hz];conv=>whnf
    refine⟨_,_,St.upd_same _ _ _,?_⟩;conv=>whnf
    refine⟨_,_,St.upd_same _ _ _,?_⟩;conv=>whnf
    refine⟨_,_,⟨rfl,rfl⟩,?_,AV.leS_refl _ _ _⟩;rw[St.upd_upd];exact St.le_upd' (St.le_upd' (St.le_upd' (St.le_refl _) hb2 _) hb3 _) hb4 _
   ·rw[bigAV_far hz];conv=>whnf
    refine⟨_,_,St.upd_same _ _ _,?_⟩;conv=>whnf
    refine⟨_,_,St.upd_same _ _ _,?_⟩;conv=>whnf
    refine⟨_,_,⟨rfl,rfl⟩,?_,AV.leS_refl _ _ _⟩;rw[St.upd_upd];exact St.le_upd' (St.le_upd' (St.le_upd' (St.le_refl _) hb2 _) hb3 _) hb4 _
theorem Add_fn(x y:Int)(hx:¬ near x)(kx:okZ x 9000000)(ky:okZ y 9000000)(hy:near y)(S:St):Triple P (C G) 182 [bigAV x,bigAV y] S fun o S'=>o=.ret (bigAV (x+y))∧S'=S:=by
 have sx:=fun S=>size_ok (G:=G) x S
 have sy:=fun S=>size_ok (G:=G) y S
 have gx:=fun S=>Sign_ok (G:=G) x S
 have gy:=fun S=>Sign_ok (G:=G) y S
 rw[bigAV_far hx] at *;rw[bigAV_near hy] at *;have nx:=far_pos hx;have lx:=limbs_ne (n:=x.natAbs) (by omega)
 refine triple_of_awp (hT G) hm Tryz.func182 rfl (by decide +kernel) rfl (by decide +kernel) (by show 2≤_;decide +kernel) rfl ?_
 refine awp_seq2 fun K hK hQ=>?_
 conv=>whnf
 intro b2 hb2;conv=>whnf
 intro b3 hb3;conv=>whnf
 intro b4 hb4;conv=>whnf
 refine hK _ _ ?_;clear hK hQ K;have k2:(((S.upd b2 (.obj 244 [.int .i64 0,.bool (decide (x<0)),.sl .any 1 (rowsU (limbs x.natAbs))])).upd b3 (.obj 244 [.int .i64 y,.bool false,.nils])).upd b4 (.obj 244 [.int .i64 0,.bool false,.nils])) b2=some (.obj 244 [.int .i64 0,.bool (decide (x<0)),.sl .any 1 (rowsU (limbs x.natAbs))]):=St.up hb4 (St.up hb3 (St.upd_same _ _ _));have k3:(((S.upd b2 (.obj 244 [.int .i64 0,.bool (decide (x<0)),.sl .any 1 (rowsU (limbs x.natAbs))])).upd b3 (.obj 244 [.int .i64 y,.bool false,.nils])).upd b4 (.obj 244 [.int .i64 0,.bool false,.nils])) b3=some (.obj 244 [.int .i64 y,.bool false,.nils]):=St.up hb4 (St.upd_same _ _ _);refine awp_seq2 fun K hK hQ=>?_
 conv=>whnf
 refine⟨_,_,k2,?_⟩;conv=>whnf
 intro c hc;have hc:=hc (rowsU_ne lx);subst hc;conv=>whnf
 -- ,the numbers' cells;sx sy gx gy hx hy in sight
 refine hK _ _ ?_;clear hK hQ K;refine awp_seq2 fun K hK hQ=>?_
 conv=>whnf
 refine⟨[1,3],(.free 0 (.free 1 (.free 2 (.free 3 (.free 4 (.free 5 .done)))))),_,by decide +kernel,?_,fun _ _ h=>⟨_,.inl rfl,h⟩⟩
 conv=>whnf
 refine⟨_,_,k2,?_⟩;conv=>whnf
 refine⟨.sl .any 1 (rowsU (limbs x.natAbs)),(sx _).mono ?_,?_⟩
 ·rintro o S' ⟨rfl,rfl⟩;exact⟨rfl,rfl⟩
 conv=>whnf
 refine⟨_,_,k3,?_⟩;conv=>whnf
 refine⟨.sl .any 1 (rowsU (limbs y.natAbs)),(sy _).mono ?_,?_⟩
 ·rintro o S' ⟨rfl,rfl⟩;exact⟨rfl,rfl⟩
 conv=>whnf
 refine hK _ _ ?_;clear hK hQ K;refine awp_seq2 fun K hK hQ=>?_
 conv=>whnf
 refine⟨[1,4],(.free 0 (.free 1 (.free 2 (.free 3 (.free 4 (.free 5 (.free 6 (.free 7 .done)))))))),_,by decide +kernel,?_,fun _ _ h=>⟨_,.inl rfl,h⟩⟩
 conv=>whnf
 refine⟨_,_,k2,?_⟩;conv=>whnf
 refine⟨.int .i64 (bSign x),(gx _).mono ?_,?_⟩
 ·rintro o S' ⟨rfl,rfl⟩;exact⟨rfl,rfl⟩
 conv=>whnf
 refine⟨_,_,k3,?_⟩;conv=>whnf
 refine⟨.int .i64 (bSign y),(gy _).mono ?_,?_⟩
 ·rintro o S' ⟨rfl,rfl⟩;exact⟨rfl,rfl⟩
 conv=>whnf
 refine hK _ _ ?_;clear hK hQ K;rw[bSign_neg,bSign_neg];generalize hnx:decide (x<0)=nx at *;generalize hny:decide (y<0)=ny at *;have kx':(limbs x.natAbs).length≤10000000:=Nat.le_trans kx (by decide)
 have ky':(limbs y.natAbs).length≤10000000:=Nat.le_trans ky (by decide)
 have vx:=valL_limbs x.natAbs
 have vy:=valL_limbs y.natAbs
 conv=>whnf
 refine split_of (fun hsg=>?_) (fun hsg=>?_)
 ·conv=>whnf
  -- nx sign,joG (limbs x.natAbs) (limbs y.natAbs) 1 list
  refine(joined_ok (limbs_lt _) (limbs_lt _) (.inl rfl) (by assumption) (by assumption) (by omega) _).mono ?_
  rintro o S' ⟨rfl,rfl⟩;conv=>whnf
  have hlen:(joG (limbs x.natAbs) (limbs y.natAbs) 1).length≤1000000000:=by
   have:=joG_len (s:=1) (limbs x.natAbs) (limbs y.natAbs) (limbs_lt _) (limbs_lt _) (.inl rfl)
   omega
  refine(made_ok nx (joG (limbs x.natAbs) (limbs y.natAbs) 1) (joG_dig _ _ _) hlen _).mono ?_;rintro o S' ⟨rfl,rfl⟩;have hval:=(joG_val (a:=(limbs x.natAbs)) (b:=(limbs y.natAbs)) (s:=1) (limbs_lt _) (by omega)).1
  rw[valL_limbs,valL_limbs] at hval;have hsum:(if nx then -(valL (joG (limbs x.natAbs) (limbs y.natAbs) 1):Int) else (valL (joG (limbs x.natAbs) (limbs y.natAbs) 1):Int))=x+y:=by
   rw[hval];clear hval hlen;have f1:nx=true→x<0:=fun h=>of_decide_eq_true (hnx.trans h)
   have f2:nx=false→¬ x<0:=fun h=>of_decide_eq_false (hnx.trans h)
   have g1:ny=true→y<0:=fun h=>of_decide_eq_true (hny.trans h)
   have g2:ny=false→¬ y<0:=fun h=>of_decide_eq_false (hny.trans h)
   clear hnx hny
   cases nx<;>cases ny<;>first | (exact absurd hsg (by decide)) | (simp only[if_true,Bool.false_eq_true,if_false,true_implies,false_implies,reduceCtorEq] at f1 f2 g1 g2 ⊢;omega)
  rw[hsum]
  by_cases hz:near (x+y)
  ·rw[bigAV_near hz];conv=>whnf
   refine⟨_,_,St.upd_same _ _ _,?_⟩;conv=>whnf
   refine⟨_,_,St.upd_same _ _ _,?_⟩;conv=>whnf
   refine⟨_,_,⟨rfl,rfl⟩,?_,AV.leS_refl _ _ _⟩;rw[St.upd_upd];exact St.le_upd' (St.le_upd' (St.le_upd' (St.le_refl _) hb2 _) hb3 _) hb4 _
  ·rw[bigAV_far hz];conv=>whnf
   refine⟨_,_,St.upd_same _ _ _,?_⟩;conv=>whnf
   refine⟨_,_,St.upd_same _ _ _,?_⟩;conv=>whnf
   refine⟨_,_,⟨rfl,rfl⟩,?_,AV.leS_refl _ _ _⟩;rw[St.upd_upd];exact St.le_upd' (St.le_upd' (St.le_upd' (St.le_refl _) hb2 _) hb3 _) hb4 _
 ·conv=>whnf
  refine(sizes_ok x.natAbs y.natAbs (by omega) (by omega) _).mono ?_
  rintro o S' ⟨v,rfl,hv,rfl⟩;conv=>whnf
  refine split_of (fun hge=>?_) (fun hge=>?_)
  ·have hle:=hv.1 (of_decide_eq_true hge)
   conv=>whnf
   -- nx sign,joG (limbs x.natAbs) (limbs y.natAbs) (-1) list
   refine(joined_ok (limbs_lt _) (limbs_lt _) (.inr rfl) (by assumption) (by assumption) (by omega) _).mono ?_
   rintro o S' ⟨rfl,rfl⟩;conv=>whnf
   have hlen:(joG (limbs x.natAbs) (limbs y.natAbs) (-1)).length≤1000000000:=by
    have:=joG_len (s:=(-1)) (limbs x.natAbs) (limbs y.natAbs) (limbs_lt _) (limbs_lt _) (.inr rfl)
    omega
   refine(made_ok nx (joG (limbs x.natAbs) (limbs y.natAbs) (-1)) (joG_dig _ _ _) hlen _).mono ?_;rintro o S' ⟨rfl,rfl⟩;have hval:=(joG_val (a:=(limbs x.natAbs)) (b:=(limbs y.natAbs)) (s:=(-1)) (limbs_lt _) (by omega)).1
   rw[valL_limbs,valL_limbs] at hval;have hsum:(if nx then -(valL (joG (limbs x.natAbs) (limbs y.natAbs) (-1)):Int) else (valL (joG (limbs x.natAbs) (limbs y.natAbs) (-1)):Int))=x+y:=by
    rw[hval];clear hval hlen;have f1:nx=true→x<0:=fun h=>of_decide_eq_true (hnx.trans h)
    have f2:nx=false→¬ x<0:=fun h=>of_decide_eq_false (hnx.trans h)
    have g1:ny=true→y<0:=fun h=>of_decide_eq_true (hny.trans h)
    have g2:ny=false→¬ y<0:=fun h=>of_decide_eq_false (hny.trans h)
    clear hnx hny
    cases nx<;>cases ny<;>first | (exact absurd hsg (by decide)) | (simp only[if_true,Bool.false_eq_true,if_false,true_implies,false_implies,reduceCtorEq] at f1 f2 g1 g2 ⊢;omega)
   rw[hsum]
   by_cases hz:near (x+y)
   ·rw[bigAV_near hz];conv=>whnf
    refine⟨_,_,St.upd_same _ _ _,?_⟩;conv=>whnf
    refine⟨_,_,St.upd_same _ _ _,?_⟩;conv=>whnf
    refine⟨_,_,⟨rfl,rfl⟩,?_,AV.leS_refl _ _ _⟩;rw[St.upd_upd];exact St.le_upd' (St.le_upd' (St.le_upd' (St.le_refl _) hb2 _) hb3 _) hb4 _
   ·rw[bigAV_far hz];conv=>whnf
    refine⟨_,_,St.upd_same _ _ _,?_⟩;conv=>whnf
    refine⟨_,_,St.upd_same _ _ _,?_⟩;conv=>whnf
    refine⟨_,_,⟨rfl,rfl⟩,?_,AV.leS_refl _ _ _⟩;rw[St.upd_upd];exact St.le_upd' (St.le_upd' (St.le_upd' (St.le_refl _) hb2 _) hb3 _) hb4 _
  ·have hle:¬ y.natAbs≤x.natAbs:=fun h=>of_decide_eq_false hge (hv.2 h)
   conv=>whnf
   -- ny sign,joG (limbs y.natAbs) (limbs x.natAbs) (-1) list
   refine(joined_ok (limbs_lt _) (limbs_lt _) (.inr rfl) (by assumption) (by assumption) (by omega) _).mono ?_
   rintro o S' ⟨rfl,rfl⟩;conv=>whnf
   have hlen:(joG (limbs y.natAbs) (limbs x.natAbs) (-1)).length≤1000000000:=by
    have:=joG_len (s:=(-1)) (limbs y.natAbs) (limbs x.natAbs) (limbs_lt _) (limbs_lt _) (.inr rfl)
    omega
   refine(made_ok ny (joG (limbs y.natAbs) (limbs x.natAbs) (-1)) (joG_dig _ _ _) hlen _).mono ?_;rintro o S' ⟨rfl,rfl⟩;have hval:=(joG_val (a:=(limbs y.natAbs)) (b:=(limbs x.natAbs)) (s:=(-1)) (limbs_lt _) (by omega)).1
   rw[valL_limbs,valL_limbs] at hval;have hsum:(if ny then -(valL (joG (limbs y.natAbs) (limbs x.natAbs) (-1)):Int) else (valL (joG (limbs y.natAbs) (limbs x.natAbs) (-1)):Int))=x+y:=by
    rw[hval];clear hval hlen;have f1:nx=true→x<0:=fun h=>of_decide_eq_true (hnx.trans h)
    have f2:nx=false→¬ x<0:=fun h=>of_decide_eq_false (hnx.trans h)
    have g1:ny=true→y<0:=fun h=>of_decide_eq_true (hny.trans h)
    have g2:ny=false→¬ y<0:=fun h=>of_decide_eq_false (hny.trans h)
    clear hnx hny
    cases nx<;>cases ny<;>first | (exact absurd hsg (by decide)) | (simp only[if_true,Bool.false_eq_true,if_false,true_implies,false_implies,reduceCtorEq] at f1 f2 g1 g2 ⊢;omega)
   rw[hsum]
   by_cases hz:near (x+y)
   ·rw[bigAV_near hz];conv=>whnf
    refine⟨_,_,St.upd_same _ _ _,?_⟩;conv=>whnf
    refine⟨_,_,St.upd_same _ _ _,?_⟩;conv=>whnf
    refine⟨_,_,⟨rfl,rfl⟩,?_,AV.leS_refl _ _ _⟩;rw[St.upd_upd];exact St.le_upd' (St.le_upd' (St.le_upd' (St.le_refl _) hb2 _) hb3 _) hb4 _
   ·rw[bigAV_far hz];conv=>whnf
    refine⟨_,_,St.upd_same _ _ _,?_⟩;conv=>whnf
    refine⟨_,_,St.upd_same _ _ _,?_⟩;conv=>whnf
    refine⟨_,_,⟨rfl,rfl⟩,?_,AV.leS_refl _ _ _⟩;rw[St.upd_upd];exact St.le_upd' (St.le_upd' (St.le_upd' (St.le_refl _) hb2 _) hb3 _) hb4 _
theorem Add_nf(x y:Int)(hx:near x)(kx:okZ x 9000000)(ky:okZ y 9000000)(hy:¬ near y)(S:St):Triple P (C G) 182 [bigAV x,bigAV y] S fun o S'=>o=.ret (bigAV (x+y))∧S'=S:=by
 have sx:=fun S=>size_ok (G:=G) x S
 have sy:=fun S=>size_ok (G:=G) y S
 have gx:=fun S=>Sign_ok (G:=G) x S
 have gy:=fun S=>Sign_ok (G:=G) y S
 rw[bigAV_far hy] at *;rw[bigAV_near hx] at *;have ny:=far_pos hy;have ly:=limbs_ne (n:=y.natAbs) (by omega)
 refine triple_of_awp (hT G) hm Tryz.func182 rfl (by decide +kernel) rfl (by decide +kernel) (by show 2≤_;decide +kernel) rfl ?_
 refine awp_seq2 fun K hK hQ=>?_
 conv=>whnf
 intro b2 hb2;conv=>whnf
 intro b3 hb3;conv=>whnf
 intro b4 hb4;conv=>whnf
 refine hK _ _ ?_;clear hK hQ K;have k2:(((S.upd b2 (.obj 244 [.int .i64 x,.bool false,.nils])).upd b3 (.obj 244 [.int .i64 0,.bool (decide (y<0)),.sl .any 1 (rowsU (limbs y.natAbs))])).upd b4 (.obj 244 [.int .i64 0,.bool false,.nils])) b2=some (.obj 244 [.int .i64 x,.bool false,.nils]):=St.up hb4 (St.up hb3 (St.upd_same _ _ _));have k3:(((S.upd b2 (.obj 244 [.int .i64 x,.bool false,.nils])).upd b3 (.obj 244 [.int .i64 0,.bool (decide (y<0)),.sl .any 1 (rowsU (limbs y.natAbs))])).upd b4 (.obj 244 [.int .i64 0,.bool false,.nils])) b3=some (.obj 244 [.int .i64 0,.bool (decide (y<0)),.sl .any 1 (rowsU (limbs y.natAbs))]):=St.up hb4 (St.upd_same _ _ _);refine awp_seq2 fun K hK hQ=>?_
 conv=>whnf
 refine⟨_,_,k2,?_⟩;conv=>whnf
 refine⟨_,_,k3,?_⟩;conv=>whnf
 intro c hc;have hc:=hc (rowsU_ne ly);subst hc;conv=>whnf
 -- ,the numbers' cells;sx sy gx gy hx hy in sight
 refine hK _ _ ?_;clear hK hQ K;refine awp_seq2 fun K hK hQ=>?_
 conv=>whnf
 refine⟨[1,3],(.free 0 (.free 1 (.free 2 (.free 3 (.free 4 (.free 5 .done)))))),_,by decide +kernel,?_,fun _ _ h=>⟨_,.inl rfl,h⟩⟩
 conv=>whnf
 refine⟨_,_,k2,?_⟩;conv=>whnf
 refine⟨.sl .any 1 (rowsU (limbs x.natAbs)),(sx _).mono ?_,?_⟩
 ·rintro o S' ⟨rfl,rfl⟩;exact⟨rfl,rfl⟩
 conv=>whnf
 refine⟨_,_,k3,?_⟩;conv=>whnf
 refine⟨.sl .any 1 (rowsU (limbs y.natAbs)),(sy _).mono ?_,?_⟩
 ·rintro o S' ⟨rfl,rfl⟩;exact⟨rfl,rfl⟩
 conv=>whnf
 refine hK _ _ ?_;clear hK hQ K;refine awp_seq2 fun K hK hQ=>?_
 conv=>whnf
 refine⟨[1,4],(.free 0 (.free 1 (.free 2 (.free 3 (.free 4 (.free 5 (.free 6 (.free 7 .done)))))))),_,by decide +kernel,?_,fun _ _ h=>⟨_,.inl rfl,h⟩⟩
 conv=>whnf
 refine⟨_,_,k2,?_⟩;conv=>whnf
 refine⟨.int .i64 (bSign x),(gx _).mono ?_,?_⟩
 ·rintro o S' ⟨rfl,rfl⟩;exact⟨rfl,rfl⟩
 conv=>whnf
 refine⟨_,_,k3,?_⟩;conv=>whnf
 refine⟨.int .i64 (bSign y),(gy _).mono ?_,?_⟩
 ·rintro o S' ⟨rfl,rfl⟩;exact⟨rfl,rfl⟩
 conv=>whnf
 refine hK _ _ ?_;clear hK hQ K;rw[bSign_neg,bSign_neg];generalize hnx:decide (x<0)=nx at *;generalize hny:decide (y<0)=ny at *;have kx':(limbs x.natAbs).length≤10000000:=Nat.le_trans kx (by decide)
 have ky':(limbs y.natAbs).length≤10000000:=Nat.le_trans ky (by decide)
 have vx:=valL_limbs x.natAbs
 have vy:=valL_limbs y.natAbs
 conv=>whnf
 refine split_of (fun hsg=>?_) (fun hsg=>?_)
 ·conv=>whnf
  -- nx sign,joG (limbs x.natAbs) (limbs y.natAbs) 1 list
  refine(joined_ok (limbs_lt _) (limbs_lt _) (.inl rfl) (by assumption) (by assumption) (by omega) _).mono ?_
  rintro o S' ⟨rfl,rfl⟩;conv=>whnf
  have hlen:(joG (limbs x.natAbs) (limbs y.natAbs) 1).length≤1000000000:=by
   have:=joG_len (s:=1) (limbs x.natAbs) (limbs y.natAbs) (limbs_lt _) (limbs_lt _) (.inl rfl)
   omega
  refine(made_ok nx (joG (limbs x.natAbs) (limbs y.natAbs) 1) (joG_dig _ _ _) hlen _).mono ?_;rintro o S' ⟨rfl,rfl⟩;have hval:=(joG_val (a:=(limbs x.natAbs)) (b:=(limbs y.natAbs)) (s:=1) (limbs_lt _) (by omega)).1
  rw[valL_limbs,valL_limbs] at hval;have hsum:(if nx then -(valL (joG (limbs x.natAbs) (limbs y.natAbs) 1):Int) else (valL (joG (limbs x.natAbs) (limbs y.natAbs) 1):Int))=x+y:=by
   rw[hval];clear hval hlen;have f1:nx=true→x<0:=fun h=>of_decide_eq_true (hnx.trans h)
   have f2:nx=false→¬ x<0:=fun h=>of_decide_eq_false (hnx.trans h)
   have g1:ny=true→y<0:=fun h=>of_decide_eq_true (hny.trans h)
   have g2:ny=false→¬ y<0:=fun h=>of_decide_eq_false (hny.trans h)
   clear hnx hny
   cases nx<;>cases ny<;>first | (exact absurd hsg (by decide)) | (simp only[if_true,Bool.false_eq_true,if_false,true_implies,false_implies,reduceCtorEq] at f1 f2 g1 g2 ⊢;omega)
  rw[hsum]
  by_cases hz:near (x+y)
  ·rw[bigAV_near hz];conv=>whnf
   refine⟨_,_,St.upd_same _ _ _,?_⟩;conv=>whnf
   refine⟨_,_,St.upd_same _ _ _,?_⟩;conv=>whnf
   refine⟨_,_,⟨rfl,rfl⟩,?_,AV.leS_refl _ _ _⟩;rw[St.upd_upd];exact St.le_upd' (St.le_upd' (St.le_upd' (St.le_refl _) hb2 _) hb3 _) hb4 _
  ·rw[bigAV_far hz];conv=>whnf
   refine⟨_,_,St.upd_same _ _ _,?_⟩;conv=>whnf
   refine⟨_,_,St.upd_same _ _ _,?_⟩;conv=>whnf
   refine⟨_,_,⟨rfl,rfl⟩,?_,AV.leS_refl _ _ _⟩;rw[St.upd_upd];exact St.le_upd' (St.le_upd' (St.le_upd' (St.le_refl _) hb2 _) hb3 _) hb4 _
 ·conv=>whnf
  refine(sizes_ok x.natAbs y.natAbs (by omega) (by omega) _).mono ?_
  rintro o S' ⟨v,rfl,hv,rfl⟩;conv=>whnf
  refine split_of (fun hge=>?_) (fun hge=>?_)
  ·have hle:=hv.1 (of_decide_eq_true hge)
   conv=>whnf
   -- nx sign,joG (limbs x.natAbs) (limbs y.natAbs) (-1) list
   refine(joined_ok (limbs_lt _) (limbs_lt _) (.inr rfl) (by assumption) (by assumption) (by omega) _).mono ?_
   rintro o S' ⟨rfl,rfl⟩;conv=>whnf
   have hlen:(joG (limbs x.natAbs) (limbs y.natAbs) (-1)).length≤1000000000:=by
    have:=joG_len (s:=(-1)) (limbs x.natAbs) (limbs y.natAbs) (limbs_lt _) (limbs_lt _) (.inr rfl)
    omega
   refine(made_ok nx (joG (limbs x.natAbs) (limbs y.natAbs) (-1)) (joG_dig _ _ _) hlen _).mono ?_;rintro o S' ⟨rfl,rfl⟩;have hval:=(joG_val (a:=(limbs x.natAbs)) (b:=(limbs y.natAbs)) (s:=(-1)) (limbs_lt _) (by omega)).1
   rw[valL_limbs,valL_limbs] at hval;have hsum:(if nx then -(valL (joG (limbs x.natAbs) (limbs y.natAbs) (-1)):Int) else (valL (joG (limbs x.natAbs) (limbs y.natAbs) (-1)):Int))=x+y:=by
    rw[hval];clear hval hlen;have f1:nx=true→x<0:=fun h=>of_decide_eq_true (hnx.trans h)
    have f2:nx=false→¬ x<0:=fun h=>of_decide_eq_false (hnx.trans h)
    have g1:ny=true→y<0:=fun h=>of_decide_eq_true (hny.trans h)
    have g2:ny=false→¬ y<0:=fun h=>of_decide_eq_false (hny.trans h)
    clear hnx hny
    cases nx<;>cases ny<;>first | (exact absurd hsg (by decide)) | (simp only[if_true,Bool.false_eq_true,if_false,true_implies,false_implies,reduceCtorEq] at f1 f2 g1 g2 ⊢;omega)
   rw[hsum]
   by_cases hz:near (x+y)
   ·rw[bigAV_near hz];conv=>whnf
    refine⟨_,_,St.upd_same _ _ _,?_⟩;conv=>whnf
    refine⟨_,_,St.upd_same _ _ _,?_⟩;conv=>whnf
    refine⟨_,_,⟨rfl,rfl⟩,?_,AV.leS_refl _ _ _⟩;rw[St.upd_upd];exact St.le_upd' (St.le_upd' (St.le_upd' (St.le_refl _) hb2 _) hb3 _) hb4 _
   ·rw[bigAV_far hz];conv=>whnf
    refine⟨_,_,St.upd_same _ _ _,?_⟩;conv=>whnf
    refine⟨_,_,St.upd_same _ _ _,?_⟩;conv=>whnf
    refine⟨_,_,⟨rfl,rfl⟩,?_,AV.leS_refl _ _ _⟩;rw[St.upd_upd];exact St.le_upd' (St.le_upd' (St.le_upd' (St.le_refl _) hb2 _) hb3 _) hb4 _
  ·have hle:¬ y.natAbs≤x.natAbs:=fun h=>of_decide_eq_false hge (hv.2 h)
   conv=>whnf
   -- ny sign,joG (limbs y.natAbs) (limbs x.natAbs) (-1) list
   refine(joined_ok (limbs_lt _) (limbs_lt _) (.inr rfl) (by assumption) (by assumption) (by omega) _).mono ?_
   rintro o S' ⟨rfl,rfl⟩;conv=>whnf
   have hlen:(joG (limbs y.natAbs) (limbs x.natAbs) (-1)).length≤1000000000:=by
    have:=joG_len (s:=(-1)) (limbs y.natAbs) (limbs x.natAbs) (limbs_lt _) (limbs_lt _) (.inr rfl)
    omega
   refine(made_ok ny (joG (limbs y.natAbs) (limbs x.natAbs) (-1)) (joG_dig _ _ _) hlen _).mono ?_;rintro o S' ⟨rfl,rfl⟩;have hval:=(joG_val (a:=(limbs y.natAbs)) (b:=(limbs x.natAbs)) (s:=(-1)) (limbs_lt _) (by omega)).1
   rw[valL_limbs,valL_limbs] at hval;have hsum:(if ny then -(valL (joG (limbs y.natAbs) (limbs x.natAbs) (-1)):Int) else (valL (joG (limbs y.natAbs) (limbs x.natAbs) (-1)):Int))=x+y:=by
    rw[hval];clear hval hlen;have f1:nx=true→x<0:=fun h=>of_decide_eq_true (hnx.trans h)
    have f2:nx=false→¬ x<0:=fun h=>of_decide_eq_false (hnx.trans h)
    have g1:ny=true→y<0:=fun h=>of_decide_eq_true (hny.trans h)
    have g2:ny=false→¬ y<0:=fun h=>of_decide_eq_false (hny.trans h)
    clear hnx hny
    cases nx<;>cases ny<;>first | (exact absurd hsg (by decide)) | (simp only[if_true,Bool.false_eq_true,if_false,true_implies,false_implies,reduceCtorEq] at f1 f2 g1 g2 ⊢;omega)
   rw[hsum]
   by_cases hz:near (x+y)
   ·rw[bigAV_near hz];conv=>whnf
    refine⟨_,_,St.upd_same _ _ _,?_⟩;conv=>whnf
    refine⟨_,_,St.upd_same _ _ _,?_⟩;conv=>whnf
    refine⟨_,_,⟨rfl,rfl⟩,?_,AV.leS_refl _ _ _⟩;rw[St.upd_upd];exact St.le_upd' (St.le_upd' (St.le_upd' (St.le_refl _) hb2 _) hb3 _) hb4 _
   ·rw[bigAV_far hz];conv=>whnf
    refine⟨_,_,St.upd_same _ _ _,?_⟩;conv=>whnf
    refine⟨_,_,St.upd_same _ _ _,?_⟩;conv=>whnf
    refine⟨_,_,⟨rfl,rfl⟩,?_,AV.leS_refl _ _ _⟩;rw[St.upd_upd];exact St.le_upd' (St.le_upd' (St.le_upd' (St.le_refl _) hb2 _) hb3 _) hb4 _
theorem Add_ok(x y:Int)(kx:okZ x 9000000)(ky:okZ y 9000000)(S:St):Triple P (C G) 182 [bigAV x,bigAV y] S fun o S'=>o=.ret (bigAV (x+y))∧S'=S:=by
 by_cases hx:near x<;>by_cases hy:near y
 ·have:=Add_near (G:=G) x y hx hy S
  rw[bigAV_near hx,bigAV_near hy];exact this
 ·exact Add_nf x y hx kx ky hy S
 ·exact Add_fn x y hx kx ky hy S
 ·exact Add_ff x y hx kx ky hy S
theorem Sub_ok(x y:Int)(kx:okZ x 9000000)(ky:okZ y 9000000)(S:St):Triple P (C G) 173 [bigAV x,bigAV y] S fun o S'=>o=.ret (bigAV (x-y))∧S'=S:=by
 have nn:=fun S=>Neg_ok (G:=G) y S
 have aa:=fun S=>Add_ok (G:=G) x (-y) kx (by unfold okZ at *;rwa [Int.natAbs_neg]) S
 by_cases hx:near x<;>by_cases hy:near y
 ·rw[bigAV_near hx] at *;rw[bigAV_near hy] at *;rw[bigAV_near (near_neg.2 hy)] at *;refine triple_of_awp (hT G) hm Tryz.func173 rfl (by decide +kernel) rfl (by decide +kernel) (by show 2≤_;decide +kernel) rfl ?_
  conv=>whnf
  intro b2 hb2;conv=>whnf
  intro b3 hb3;conv=>whnf
  intro b4 hb4;conv=>whnf
  refine⟨[2,3],(.free 0 (.free 1 (.free 2 (.free 3 (.one 4 .done .none))))),_,by decide +kernel,?_,fun _ _ h=>⟨_,.inl rfl,h⟩⟩
  conv=>whnf
  refine⟨_,_,St.up hb4 (St.up hb3 (St.upd_same _ _ _)),?_⟩;conv=>whnf
  refine⟨_,_,St.up hb4 (St.upd_same _ _ _),?_⟩;conv=>whnf
  refine⟨nearAV (-y),(nn _).mono ?_,?_⟩
  ·rintro o S' ⟨rfl,rfl⟩;exact⟨rfl,rfl⟩
  conv=>whnf
  refine⟨bigAV (x+-y),(aa _).mono ?_,?_⟩
  ·rintro o S' ⟨rfl,rfl⟩;exact⟨rfl,rfl⟩
  rw[← Int.sub_eq_add_neg]
  by_cases hz:near (x-y)
  ·rw[bigAV_near hz];conv=>whnf
   refine⟨_,_,St.upd_same _ _ _,?_⟩;conv=>whnf
   refine⟨_,_,St.upd_same _ _ _,?_⟩;conv=>whnf
   refine⟨_,_,⟨rfl,rfl⟩,?_,AV.leS_refl _ _ _⟩;rw[St.upd_upd];exact St.le_upd' (St.le_upd' (St.le_upd' (St.le_refl _) hb2 _) hb3 _) hb4 _
  ·rw[bigAV_far hz];conv=>whnf
   refine⟨_,_,St.upd_same _ _ _,?_⟩;conv=>whnf
   refine⟨_,_,St.upd_same _ _ _,?_⟩;conv=>whnf
   refine⟨_,_,⟨rfl,rfl⟩,?_,AV.leS_refl _ _ _⟩;rw[St.upd_upd];exact St.le_upd' (St.le_upd' (St.le_upd' (St.le_refl _) hb2 _) hb3 _) hb4 _
 ·rw[bigAV_near hx] at *;rw[bigAV_far hy] at *;rw[bigAV_far (fun h=>hy (near_neg.1 h))] at *
  refine triple_of_awp (hT G) hm Tryz.func173 rfl (by decide +kernel) rfl (by decide +kernel) (by show 2≤_;decide +kernel) rfl ?_
  conv=>whnf
  intro b2 hb2;conv=>whnf
  intro b3 hb3;conv=>whnf
  intro b4 hb4;conv=>whnf
  refine⟨[2,3],(.free 0 (.free 1 (.free 2 (.free 3 (.one 4 .done .none))))),_,by decide +kernel,?_,fun _ _ h=>⟨_,.inl rfl,h⟩⟩
  conv=>whnf
  refine⟨_,_,St.up hb4 (St.up hb3 (St.upd_same _ _ _)),?_⟩;conv=>whnf
  refine⟨_,_,St.up hb4 (St.upd_same _ _ _),?_⟩;conv=>whnf
  refine⟨farAV (decide (-y<0)) (limbs (-y).natAbs),(nn _).mono ?_,?_⟩
  ·rintro o S' ⟨rfl,rfl⟩;exact⟨rfl,rfl⟩
  conv=>whnf
  refine⟨bigAV (x+-y),(aa _).mono ?_,?_⟩
  ·rintro o S' ⟨rfl,rfl⟩;exact⟨rfl,rfl⟩
  rw[← Int.sub_eq_add_neg]
  by_cases hz:near (x-y)
  ·rw[bigAV_near hz];conv=>whnf
   refine⟨_,_,St.upd_same _ _ _,?_⟩;conv=>whnf
   refine⟨_,_,St.upd_same _ _ _,?_⟩;conv=>whnf
   refine⟨_,_,⟨rfl,rfl⟩,?_,AV.leS_refl _ _ _⟩;rw[St.upd_upd];exact St.le_upd' (St.le_upd' (St.le_upd' (St.le_refl _) hb2 _) hb3 _) hb4 _
  ·rw[bigAV_far hz];conv=>whnf
   refine⟨_,_,St.upd_same _ _ _,?_⟩;conv=>whnf
   refine⟨_,_,St.upd_same _ _ _,?_⟩;conv=>whnf
   refine⟨_,_,⟨rfl,rfl⟩,?_,AV.leS_refl _ _ _⟩;rw[St.upd_upd];exact St.le_upd' (St.le_upd' (St.le_upd' (St.le_refl _) hb2 _) hb3 _) hb4 _
 ·rw[bigAV_far hx] at *;rw[bigAV_near hy] at *;rw[bigAV_near (near_neg.2 hy)] at *;refine triple_of_awp (hT G) hm Tryz.func173 rfl (by decide +kernel) rfl (by decide +kernel) (by show 2≤_;decide +kernel) rfl ?_
  conv=>whnf
  intro b2 hb2;conv=>whnf
  intro b3 hb3;conv=>whnf
  intro b4 hb4;conv=>whnf
  refine⟨[2,3],(.free 0 (.free 1 (.free 2 (.free 3 (.one 4 .done .none))))),_,by decide +kernel,?_,fun _ _ h=>⟨_,.inl rfl,h⟩⟩
  conv=>whnf
  refine⟨_,_,St.up hb4 (St.up hb3 (St.upd_same _ _ _)),?_⟩;conv=>whnf
  refine⟨_,_,St.up hb4 (St.upd_same _ _ _),?_⟩;conv=>whnf
  refine⟨nearAV (-y),(nn _).mono ?_,?_⟩
  ·rintro o S' ⟨rfl,rfl⟩;exact⟨rfl,rfl⟩
  conv=>whnf
  refine⟨bigAV (x+-y),(aa _).mono ?_,?_⟩
  ·rintro o S' ⟨rfl,rfl⟩;exact⟨rfl,rfl⟩
  rw[← Int.sub_eq_add_neg]
  by_cases hz:near (x-y)
  ·rw[bigAV_near hz];conv=>whnf
   refine⟨_,_,St.upd_same _ _ _,?_⟩;conv=>whnf
   refine⟨_,_,St.upd_same _ _ _,?_⟩;conv=>whnf
   refine⟨_,_,⟨rfl,rfl⟩,?_,AV.leS_refl _ _ _⟩;rw[St.upd_upd];exact St.le_upd' (St.le_upd' (St.le_upd' (St.le_refl _) hb2 _) hb3 _) hb4 _
  ·rw[bigAV_far hz];conv=>whnf
   refine⟨_,_,St.upd_same _ _ _,?_⟩;conv=>whnf
   refine⟨_,_,St.upd_same _ _ _,?_⟩;conv=>whnf
   refine⟨_,_,⟨rfl,rfl⟩,?_,AV.leS_refl _ _ _⟩;rw[St.upd_upd];exact St.le_upd' (St.le_upd' (St.le_upd' (St.le_refl _) hb2 _) hb3 _) hb4 _
 ·rw[bigAV_far hx] at *;rw[bigAV_far hy] at *;rw[bigAV_far (fun h=>hy (near_neg.1 h))] at *
  refine triple_of_awp (hT G) hm Tryz.func173 rfl (by decide +kernel) rfl (by decide +kernel) (by show 2≤_;decide +kernel) rfl ?_
  conv=>whnf
  intro b2 hb2;conv=>whnf
  intro b3 hb3;conv=>whnf
  intro b4 hb4;conv=>whnf
  refine⟨[2,3],(.free 0 (.free 1 (.free 2 (.free 3 (.one 4 .done .none))))),_,by decide +kernel,?_,fun _ _ h=>⟨_,.inl rfl,h⟩⟩
  conv=>whnf
  refine⟨_,_,St.up hb4 (St.up hb3 (St.upd_same _ _ _)),?_⟩;conv=>whnf
  refine⟨_,_,St.up hb4 (St.upd_same _ _ _),?_⟩;conv=>whnf
  refine⟨farAV (decide (-y<0)) (limbs (-y).natAbs),(nn _).mono ?_,?_⟩
  ·rintro o S' ⟨rfl,rfl⟩;exact⟨rfl,rfl⟩
  conv=>whnf
  refine⟨bigAV (x+-y),(aa _).mono ?_,?_⟩
  ·rintro o S' ⟨rfl,rfl⟩;exact⟨rfl,rfl⟩
  rw[← Int.sub_eq_add_neg]
  by_cases hz:near (x-y)
  ·rw[bigAV_near hz];conv=>whnf
   refine⟨_,_,St.upd_same _ _ _,?_⟩;conv=>whnf
   refine⟨_,_,St.upd_same _ _ _,?_⟩;conv=>whnf
   refine⟨_,_,⟨rfl,rfl⟩,?_,AV.leS_refl _ _ _⟩;rw[St.upd_upd];exact St.le_upd' (St.le_upd' (St.le_upd' (St.le_refl _) hb2 _) hb3 _) hb4 _
  ·rw[bigAV_far hz];conv=>whnf
   refine⟨_,_,St.upd_same _ _ _,?_⟩;conv=>whnf
   refine⟨_,_,St.upd_same _ _ _,?_⟩;conv=>whnf
   refine⟨_,_,⟨rfl,rfl⟩,?_,AV.leS_refl _ _ _⟩;rw[St.upd_upd];exact St.le_upd' (St.le_upd' (St.le_upd' (St.le_refl _) hb2 _) hb3 _) hb4 _
theorem Cmp_ok(x y:Int)(kx:okZ x 9000000)(ky:okZ y 9000000)(S:St):Triple P (C G) 164 [bigAV x,bigAV y] S fun o S'=>o=.ret (.int .i64 (bSign (x-y)))∧S'=S:=by
 have aa:=fun S=>Sub_ok (G:=G) x y kx ky S
 have gg:=fun S=>Sign_ok (G:=G) (x-y) S
 by_cases hx:near x<;>by_cases hy:near y<;>by_cases hz:near (x-y)
 all_goals first | rw[bigAV_near hx] at*| rw[bigAV_far hx] at *
 all_goals first | rw[bigAV_near hy] at*| rw[bigAV_far hy] at *
 all_goals first | rw[bigAV_near hz] at*| rw[bigAV_far hz] at *
 all_goals refine triple_of_awp (hT G) hm Tryz.func164 rfl (by decide +kernel) rfl (by decide +kernel) (by show 2≤_;decide +kernel) rfl ?_
 all_goals conv=>whnf
 all_goals intro b2 hb2
 all_goals conv=>whnf
 all_goals intro b3 hb3
 all_goals conv=>whnf
 all_goals refine⟨_,_,St.up hb3 (St.upd_same _ _ _),?_⟩
 all_goals conv=>whnf
 all_goals refine⟨_,_,St.upd_same _ _ _,?_⟩
 all_goals conv=>whnf
 all_goals refine(aa _).mono ?_
 all_goals rintro o S' ⟨rfl,rfl⟩
 all_goals conv=>whnf
 all_goals refine(gg _).mono ?_
 all_goals rintro o S' ⟨rfl,rfl⟩
 all_goals conv=>whnf
 all_goals exact⟨_,_,⟨rfl,rfl⟩,St.le_upd' (St.le_upd' (St.le_refl _) hb2 _) hb3 _,AV.leS_refl _ _ _⟩
theorem good_row{w w':World}{S:St}{b:Nat}{e:TypeId}{cells cells':List AV}{old cs:Array Value}(hg:Good (C G) w S)(hS:S b=some (.obj e cells))(hb:w.heap[b]? = some (.cells old e (0,0)))
 (h1:w'.os=w.os) (h2:w'.tape=w.tape) (h3:w'.output=w.output) (h4:w'.heap.size=w.heap.size) (ho:∀ x,x≠b→w'.heap[x]? = w.heap[x]?) (hb':w'.heap[b]? = some (.cells cs e (0,0))) (hsz:cs.size=old.size)
 (hr:RelL w (rdOf S) cells' cs.toList) (hone:∀ v∈cs.toList,v.oneCell'=true):Good (C G) w' (S.upd b (.obj e cells'))∧Adv w S w' (S.upd b (.obj e cells')):=by
 have hadv:Adv w S w' (S.upd b (.obj e cells')):=by
  refine⟨h1,h2,h3,by omega,fun x hx hn=>?_,fun x off hx hr=>?_,fun x e' n hx=>?_⟩
  ·have hne:x≠b:=St.ne_of' hn hS
   exact⟨by rw[St.upd_ne _ _ _ _ hne];exact hn,ho x hne⟩
  ·have hne:x≠b:=by rintro rfl;simp only[rdOf,hS] at hr
   refine⟨by simp only[rdOf,St.upd_ne _ _ _ _ hne];exact hr,cell_of_block (ho x hne) off⟩
  ·by_cases hne:x=b
   ·subst hne;simp only[World.shape?,hb] at hx;simp only[World.shape?,hb']
    simpa [hsz] using hx
   ·rw[shape_of_block (ho x hne)];exact hx
 refine⟨hg.mk (fun x o hx=>?_) hadv,hadv⟩
 by_cases hxb:x=b
 ·subst hxb;rw[St.upd_same] at hx
  cases hx
  exact⟨cs,hb',RelL.mono hadv _ _ hr,hone⟩
 ·rw[St.upd_ne _ _ _ _ hxb] at hx;exact OwnOk.mono hadv (ho x hxb) (hg.1 x o hx)
theorem setCell_row{w:World}{b:Nat}{e:TypeId}{old:Array Value}(hb:w.heap[b]? = some (.cells old e (0,0)))(v:Value) :
 (w.setCell ⟨b,0,none⟩ v).heap[b]? = some (.cells (old.setIfInBounds 0 v) e (0,0))∧∀ x,x≠b→(w.setCell ⟨b,0,none⟩ v).heap[x]? = w.heap[x]?:=by
 refine⟨?_,fun x hx=>?_⟩
 ·simp[World.setCell,Array.getElem?_modify,hb]
 ·simp[World.setCell,Array.getElem?_modify,Ne.symm hx]
theorem copyCheck_used(b:Nat)(w:World)(h0:w.cell? ⟨b,0,none⟩=some (.pointer (some ⟨b,0,none⟩))) :
 Calls P 74 #[.pointer (some ⟨b,0,none⟩)] w fun e w'=>e=.returned (.tuple #[])∧w'=w:=by
 obtain⟨j,hj,_⟩:=Option.map_eq_some_iff.1 (show(P.info? 89).map (·.size)=some 2 by kernel_rfl)
 have mixed:P.follows .mixedOrders=true:=hm
 have hnp:=Lib.run_neq_ptr_same w ⟨b,0,none⟩ (Tryz.underlying87) hj
 go_enter Tryz.func74,Tryz.ntmps74
 go_wp2
 go_end0
 exact⟨rfl,rfl⟩
theorem copyCheck_fresh(b:Nat)(w:World)(h0:w.cell? ⟨b,0,none⟩=some (.pointer none))(hsh:w.shape? b=some (89,2))(hfz:w.frozen? ⟨b,0,none⟩=false) :
 Calls P 74 #[.pointer (some ⟨b,0,none⟩)] w fun e w'=>e=.returned (.tuple #[])∧w'=w.setCell ⟨b,0,none⟩ (.pointer (some ⟨b,0,none⟩)):=by
 obtain⟨j,hj,hjs⟩:=Option.map_eq_some_iff.1 (show(P.info? 89).map (·.size)=some 2 by kernel_rfl)
 have mixed:P.follows .mixedOrders=true:=hm
 have hto:=Lib.run_to_unsafe w ⟨b,0,none⟩ (Tryz.underlying87) (Tryz.underlying172) hj (by rw[hjs];decide) hsh (Nat.zero_lt_succ 1)
 have hfrom:=Lib.run_from_unsafe w ⟨b,0,none⟩ (Tryz.underlying172) (Tryz.underlying87) hj hsh (by kernel_rfl)
 have hne:=run_callFunc_extern (P:=P) (args:=#[.pointer (some ⟨b,0,none⟩)]) (w:=w) Tryz.func101 (by kernel_rfl) (by kernel_rfl) (by kernel_rfl) (e:=Extern.AbiNoEscape.same) (by kernel_rfl)
 rw[Lib.run_noEscape] at hne
 go_enter Tryz.func74,Tryz.ntmps74
 go_wp2
 go_end0
 exact⟨rfl,rfl⟩
theorem String_raw(b g cap:Nat)(p:Value)(cur:Array Value)(l:List UInt8)(h0:l≠[])(w:World)(hb:w.heap[b]? = some (.cells #[p,.slice (some ⟨g,0,none⟩) l.length cap] 89 (0,0)))
 (hg:w.heap[g]? = some (.cells cur 5 (0,0))) (hn:l.length≤cap) (hc:cap≤maxLen) (hcs:cur.size=cap) (hcell:∀ j x,l[j]? = some x→w.cell? ((⟨g,0,none⟩:Addr).add j)=some (.int .u8 x.toNat)) :
 Calls P 43 #[.pointer (some ⟨b,0,none⟩)] w fun e w'=>e=.returned (.string ⟨l.toArray⟩)∧w'=w.drew.freeze ⟨g,0,none⟩ l.length:=by
 have hl0:l.length≠0:=by simpa using h0
 have c1:w.drew.cell? ⟨b,1,none⟩=some (.slice (some ⟨g,0,none⟩) l.length cap):=by
  rw[Lib.cell_of_heap (show w.drew.heap[b]? = _ from hb)];rfl
 have hSD:(Builtin.unsafeSliceData_ #[86] 152 #[.slice (some ⟨g,0,none⟩) l.length cap]).run P w.drew=.ok (.pointer (some ⟨g,0,none⟩)) w.drew:=
  Lib.run_unsafeSliceData_row _ _ _ _ _ _ (by omega)
 have hUS:(Builtin.unsafeString_ #[152,3] 9 #[.pointer (some ⟨g,0,none⟩),.int .i64 l.length]).run P w.drew=.ok (.string ⟨l.toArray⟩) (w.drew.freeze ⟨g,0,none⟩ l.length):=
  Lib.run_unsafeString_row w.drew _ _ _ 5 (Tryz.underlying152) (by kernel_rfl) g cur.size (by simp only[World.shape?,show w.drew.heap[g]? = _ from hg]) l h0 (by omega) (by unfold maxLen at hc;omega) hcell
 have mixed:P.follows .mixedOrders=true:=hm
 go_enter Tryz.func43,Tryz.ntmps43
 go_wp2
 go_region_o
 all_goals (go_wp2;go_ret;exact⟨rfl,rfl⟩)
theorem String_none(b:Nat)(p:Value)(w:World)(hb:w.heap[b]? = some (.cells #[p,.slice none 0 0] 89 (0,0))) :
 Calls P 43 #[.pointer (some ⟨b,0,none⟩)] w fun e w'=>e=.returned (.string ⟨#[]⟩)∧w'=w.drew:=by
 have c1:w.drew.cell? ⟨b,1,none⟩=some (.slice none 0 0):=by
  rw[Lib.cell_of_heap (show w.drew.heap[b]? = _ from hb)];rfl
 have hUS:(Builtin.unsafeString_ #[152,3] 9 #[.pointer none,.int .i64 0]).run P w.drew=.ok (.string .empty) w.drew:=Lib.run_unsafeString_none w.drew _ _ _ none
 have hSD:(Builtin.unsafeSliceData_ #[86] 152 #[.slice none 0 0]).run P w.drew=.ok (.pointer none) w.drew:=rfl
 have mixed:P.follows .mixedOrders=true:=hm
 go_enter Tryz.func43,Tryz.ntmps43
 go_wp2
 go_region_o
 all_goals (go_wp2;go_ret;exact⟨rfl,rfl⟩)
theorem Triple.of_callsW{C : Cx}{f : FuncId}{fn : Func}{c : Code}(hf : P.funcs[f]? = some fn)(hb : fn.body = some c)(hname : (fn.name == "runtime.NumGoroutine") = false){args : List AV}{S : St}{Q : Out → St → Prop}
 (h:∀ (w:World) (vs:Array Value),Good C w S→RelL w (rdOf S) args vs.toList→Calls P f vs w fun e w'=>∃ v x S',e=.returned v∧Rel w' (rdOf S') x v∧Good C w' S'∧Adv w S w' S'∧Q (.ret x) S'):Triple P C f args S Q:=by
 refine⟨fun w vs _ hg hr=>.inl ⟨?_,(h w vs hg hr).mono fun e w' he=>?_⟩⟩
 · have hno : ¬ fn.name = "runtime.NumGoroutine" := by simpa using hname
   simp[callFunc,hf,hno,hb]
 ·obtain⟨v,x,S',rfl,hv,h1,h2,h3⟩:=he;exact⟨.ret x,S',hv,h1,h2,h3⟩
theorem RelL.pair{w:World}{rd}{x y:AV}{cs:Array Value}(h:RelL w rd [x,y] cs.toList):∃ u v,cs=#[u,v]∧Rel w rd x u∧Rel w rd y v:=by
 obtain⟨u,v,hv,h1,h2⟩:=RelL.two h;exact⟨u,v,arr_of_list hv,h1,h2⟩
theorem copyCheck_ok{S:St}{b:Nat}{p s:AV}(hS:S b=some (.obj 89 [p,s]))(hp:p=.nilp∨p=.ref b 0) :
 Triple P (C G) 74 [.ref b 0] S fun o S'=>o=.ret (.tu [])∧S'=S.upd b (.obj 89 [.ref b 0,s]):=by
 refine Triple.of_callsW Tryz.func74 rfl (by decide +kernel) (fun w vs hg hr=>?_)
 obtain⟨v,hv,r1⟩:=RelL.one hr;simp only[Rel] at r1;subst r1;rw[show vs=#[.pointer (some ⟨b,0,none⟩)] from arr_of_list hv];obtain⟨cs,k1,k2,k3⟩:=hg.1 b _ hS;obtain⟨u,z,rfl,hu,hz⟩:=RelL.pair k2
 rcases hp with rfl | rfl
 ·simp only[Rel] at hu;subst hu;refine(copyCheck_fresh b w (by rw[Lib.cell_of_heap k1];rfl) (by simp[World.shape?,k1]) (by simp[World.frozen?,k1])).mono fun e w' he=>?_
  obtain⟨rfl,rfl⟩:=he;obtain⟨r1,r2⟩:=setCell_row k1 (.pointer (some ⟨b,0,none⟩));obtain⟨g1,g2⟩:=good_row (w':=w.setCell ⟨b,0,none⟩ (.pointer (some ⟨b,0,none⟩))) (cells':=[.ref b 0,s]) hg hS k1 rfl rfl rfl (by simp[World.setCell]) r2 r1 (by simp) (by simp only[RelL,Rel];exact⟨_,_,rfl,rfl,_,_,rfl,hz,rfl⟩) (by
   intro v hv;simp only[Array.toList_setIfInBounds,List.set_cons_zero,List.mem_cons,List.not_mem_nil,or_false] at hv
   rcases hv with rfl | rfl
   ·rfl
   ·exact k3 v (by simp))
  exact⟨_,.tu [],_,rfl,by simp only[Rel];exact⟨_,rfl,rfl⟩,g1,g2,rfl,rfl⟩
 ·simp only[Rel] at hu;subst hu;refine(copyCheck_used b w (by rw[Lib.cell_of_heap k1];rfl)).mono fun e w' he=>?_
  obtain⟨rfl,rfl⟩:=he;have hs:S.upd b (.obj 89 [.ref b 0,s])=S:=by
   funext x
   by_cases hx:x=b
   ·subst hx;rw[St.upd_same,hS]
   ·rw[St.upd_ne _ _ _ _ hx]
  refine⟨_,.tu [],S,rfl,by simp only[Rel];exact⟨_,rfl,rfl⟩,hg,Adv.refl _ _,rfl,hs.symm⟩
def rowsL(l:List UInt8):List (List AV):=l.map fun b=>[.int .u8 (b.toNat:Int)]
@[simp] theorem rowsL_len (l:List UInt8):(rowsL l).length=l.length:=by simp[rowsL]
theorem rowsB_L(s:ByteArray):rowsB s=rowsL s.data.toList:=rfl
theorem adv_freeze{w:World}{S:St}{t:Nat}{o:Own}(hS:S t=some o)(k:Nat):Adv w S (w.freeze ⟨t,0,none⟩ k) (S.del t):=by
 have ho:∀ x,x≠t→(w.freeze ⟨t,0,none⟩ k).heap[x]? = w.heap[x]?:=fun x hx=>by
  unfold World.freeze;split
  ·rfl
  ·simp[Array.getElem?_modify,Ne.symm hx]
 have hc:∀ x off,(w.freeze ⟨t,0,none⟩ k).cell? ⟨x,off,none⟩=w.cell? ⟨x,off,none⟩:=fun x off=>by
  by_cases hx:x=t
  ·subst hx;unfold World.freeze;split
   ·rfl
   ·simp only[World.cell?,Array.getElem?_modify,if_true]
    cases w.heap[x]? with
    | none=>rfl
    | some z=>cases z<;>rfl
  ·exact cell_of_block (ho x hx) off
 refine⟨?_,?_,?_,?_,fun x hx hn=>?_,fun x off hx hr=>⟨?_,hc x off⟩,fun x e' n hx=>?_⟩
 ·unfold World.freeze;split<;>rfl
 ·unfold World.freeze;split<;>rfl
 ·unfold World.freeze;split<;>rfl
 ·unfold World.freeze;split<;>simp
 ·have hne:x≠t:=St.ne_of' hn hS
  exact⟨by rw[St.del_ne _ _ _ hne];exact hn,ho x hne⟩
 ·by_cases hx':x=t
  ·subst hx';simp only[rdOf,St.del_same]
  ·simp only[rdOf,St.del_ne _ _ _ hx'];exact hr
 ·by_cases hx':x=t
  ·subst hx';unfold World.freeze;split
   ·exact hx
   ·simp only[World.shape?,Array.getElem?_modify,if_true] at hx ⊢
    cases hz:w.heap[x]? with
    | none=>rw[hz] at hx;exact hx
    | some z=>rw[hz] at hx;cases z<;>exact hx
  ·rw[shape_of_block (ho x hx')];exact hx
theorem good_freeze{w:World}{S:St}{t:Nat}{o:Own}(hg:Good (C G) w S)(hS:S t=some o)(k:Nat):Good (C G) (w.freeze ⟨t,0,none⟩ k) (S.del t):=by
 have hadv:=adv_freeze (w:=w) hS k
 refine hg.mk (fun x p hx=>?_) hadv
 have hne:x≠t:=fun e=>by subst e;rw[St.del_same] at hx;cases hx
 rw[St.del_ne _ _ _ hne] at hx;refine OwnOk.mono hadv ?_ (hg.1 x p hx);unfold World.freeze;split
 ·rfl
 ·simp[Array.getElem?_modify,Ne.symm hne]
theorem St.del_le(S:St)(b:Nat):St.le (S.del b) S:=fun x o h=>by
 by_cases hx:x=b
 ·subst hx;rw[St.del_same] at h;cases h
 ·rwa [St.del_ne _ _ _ hx] at h
structure BldOk (S₀ S:St) (b:Nat) (s:List UInt8):Prop where
 le:St.le S₀ S
 new:S₀ b=none
 at_:∃ p t,(p=.nilp∨p=.ref b 0)∧S b=some (.obj 89 [p,.sl (.acc t) 1 (rowsL s)])∧(s≠[]→S t=some (.tip 5 1 s.length)∧S₀ t=none∧t≠b)
theorem St.le_del'{S₀ S:St}{b:Nat}(h:St.le S₀ S)(hb:S₀ b=none):St.le S₀ (S.del b):=fun x o hx=>by
 rw[St.del_ne _ _ _ (St.ne_of hb hx)];exact h x o hx
theorem String_ok{S₀ S:St}{b:Nat}{s:List UInt8}(h:BldOk S₀ S b s):Triple P (C G) 43 [.ref b 0] S fun o S'=>o=.ret (.str ⟨s.toArray⟩)∧St.le S₀ S':=by
 obtain⟨p,t,hp,hS,ht⟩:=h.at_;refine Triple.of_callsW Tryz.func43 rfl (by decide +kernel) (fun w vs hg hr=>?_)
 obtain⟨v,hv,r1⟩:=RelL.one hr;simp only[Rel] at r1;subst r1;rw[show vs=#[.pointer (some ⟨b,0,none⟩)] from arr_of_list hv];obtain⟨cs,k1,k2,k3⟩:=hg.1 b _ hS;obtain⟨u,z,rfl,hu,hz⟩:=RelL.pair k2
 by_cases hs:s=[]
 ·subst hs;simp only[Rel] at hz;have hz:z=.slice none 0 0:=by
   rcases hz with ⟨_,_,h⟩ | ⟨b',off,cap,_,_,_,h,_⟩
   ·exact h.acc
   ·exact absurd h.1 (by simp)
  subst hz;refine(String_none b u w k1).mono fun e w' he=>?_
  obtain⟨rfl,rfl⟩:=he;exact⟨_,.str ⟨#[]⟩,S,rfl,by simp only[Rel],hg.drew,(Adv.refl w S).drew,rfl,h.le⟩
 ·obtain⟨h1,h2,h3⟩:=ht hs;have hl0:s.length≠0:=by simpa using hs
  simp only[Rel] at hz;obtain⟨b',off,cap,rfl,q1,q2,⟨q3,rfl,rfl,q4⟩,q5⟩:∃ b' off cap,z=.slice (some ⟨b',off,none⟩) (rowsL s).length cap∧(rowsL s).length≤cap∧cap≤maxLen∧ShOk w (.acc t) 1 b' off (rowsL s).length cap∧RelRows w (rdOf S) 1 b' off (rowsL s):=by
   rcases hz with ⟨_,h,_⟩ | h
   ·exact absurd (by simpa [rowsL] using h) hs
   ·exact h
  rw[rowsL_len] at *;obtain⟨cur,cap',m1,m2,m3,m4,m5⟩:=hg.1 t _ h1;have hcap:cap'=cap:=by
   obtain⟨e',q4⟩:=q4;simp only[World.shape?,m1,Option.some.injEq,Prod.mk.injEq] at q4;omega
  subst hcap;refine(String_raw b t cap' u cur s hs w k1 m1 q1 q2 (by omega) (fun j x hx=>?_)).mono fun e w' he=>?_
  ·obtain⟨g1,g2⟩:=RelRows.get q5 j [.int .u8 (x.toNat:Int)] (by simp[rowsL,hx])
   obtain⟨v,⟨g3,g4,g5⟩,g6⟩:=RelAt.get g2 0 _ rfl;simp only[Rel] at g6;subst g6
   by_cases hj:j=0
   ·subst hj;simpa [Addr.add] using g4
   ·simpa [Addr.add,hj] using g4
  ·obtain⟨rfl,rfl⟩:=he;have e1:Good (C G) w.drew (S.del b):=hg.drew.shrink (St.del_le S b);have hS':(S.del b) t=some (.tip 5 1 s.length):=by rw[St.del_ne _ _ _ h3];exact h1
   refine⟨_,.str ⟨s.toArray⟩,(S.del b).del t,rfl,by simp only[Rel],good_freeze e1 hS' _,((Adv.refl w S).drew.trans (Adv.shrink (St.del_le S b))).trans (adv_freeze hS' _),rfl,St.le_del' (St.le_del' h.le h.new) h2⟩
theorem rowsL_ne{l:List UInt8}(h:l≠[]):rowsL l≠[]:=by cases l<;>simp_all [rowsL]
theorem rowsL_append(a b:List UInt8):rowsL a++rowsL b=rowsL (a++b):=by simp[rowsL]
theorem BldOk.step{S₀ S S' S'':St}{b t t':Nat}{s x:List UInt8}(h1:St.le S₀ S)(h2:S₀ b=none)(ht:s≠[]→S t=some (.tip 5 1 s.length)∧S₀ t=none∧t≠b){q:AV}(hS:S b=some (.obj 89 [.ref b 0,q]))
 (ha:AccStep S t 5 1 s.length x.length t' S') (hS'':S''=S'.upd b (.obj 89 [.ref b 0,.sl (.acc t') 1 (rowsL (s++x))])):BldOk S₀ S'' b (s++x):=by
 subst hS''
 rcases ha with ⟨e1,rfl,rfl⟩ | ⟨e1,S₁,c1,c2,c3,rfl⟩
 ·have hx:x=[]:=List.eq_nil_of_length_eq_zero e1
  subst hx;rw[List.append_nil];refine⟨St.le_upd h1 h2 _,h2,.ref b 0,t',.inr rfl,St.upd_same _ _ _,fun hs=>?_⟩
  obtain⟨k1,k2,k3⟩:=ht hs;exact⟨by rw[St.upd_ne _ _ _ _ k3];exact k1,k2,k3⟩
 ·have hle:St.le S₀ S₁∧S₁ b=S b:=by
   by_cases hs:s=[]
   ·subst hs;rw[c1 rfl];exact⟨h1,rfl⟩
   ·obtain⟨k1,k2,k3⟩:=ht hs;have hl:0<s.length:=by cases s<;>simp_all
    rw[c2 hl];exact⟨St.le_del' h1 k2,St.del_ne _ _ _ (Ne.symm k3)⟩
  have hb':b≠t':=fun e=>by subst e;rw[hle.2,hS] at c3;cases c3
  have h0:S₀ t'=none:=by
   cases e:S₀ t' with
   | none=>rfl
   | some o=>rw[hle.1 _ _ e] at c3;cases c3
  refine⟨St.le_upd (St.le_upd hle.1 h0 _) h2 _,h2,.ref b 0,t',.inr rfl,St.upd_same _ _ _,fun hs=>⟨?_,h0,Ne.symm hb'⟩⟩
  rw[St.upd_ne _ _ _ _ (Ne.symm hb'),St.upd_same,List.length_append]
theorem AccStep.keep{S S':St}{b t t' n m k:Nat}{e:TypeId}{o:Own}(hS:S b=some o)(ht:0<n→t≠b)(ha:AccStep S t e k n m t' S'):S' b=some o:=by
 rcases ha with ⟨e1,rfl,rfl⟩ | ⟨e1,S₁,c1,c2,c3,rfl⟩
 ·exact hS
 ·have:S₁ b=some o:=by
   by_cases hn:n=0
   ·rw[c1 hn];exact hS
   ·rw[c2 (by omega),St.del_ne _ _ _ (Ne.symm (ht (by omega)))];exact hS
  rw[St.upd_ne _ _ _ _ (fun e=>by rw[e,c3] at this;cases this)];exact this
theorem BldOk.used{S₀ S:St}{b t:Nat}{s:List UInt8}(h1:St.le S₀ S)(h2:S₀ b=none)(ht:s≠[]→S t=some (.tip 5 1 s.length)∧S₀ t=none∧t≠b)(o:Own) :
 St.le S₀ (S.upd b o)∧(s≠[]→(S.upd b o) t=some (.tip 5 1 s.length)∧S₀ t=none∧t≠b):=
 ⟨St.le_upd h1 h2 _,fun hs=>by obtain⟨k1,k2,k3⟩:=ht hs;exact⟨by rw[St.upd_ne _ _ _ _ k3];exact k1,k2,k3⟩⟩
theorem WriteString_ok{S₀ S:St}{b:Nat}{s:List UInt8}(h:BldOk S₀ S b s)(x:ByteArray)(hx:s.length+x.size≤140737488355328):Triple P (C G) 42 [.ref b 0,.str x] S fun o S'=>o=.ret (.tu [.int .i64 (x.size:Int),.nili])∧BldOk S₀ S' b (s++x.data.toList):=by
 obtain⟨p,t,hp,hS,ht⟩:=h.at_;have hcc:=copyCheck_ok (G:=G) hS hp;obtain⟨h1,ht1⟩:=BldOk.used h.le h.new ht (.obj 89 [.ref b 0,.sl (.acc t) 1 (rowsL s)]);have hxl:x.data.toList.length=x.size:=by rw[Array.length_toList];rfl
 refine triple_of_awp (hT G) hm Tryz.func42 rfl (by decide +kernel) rfl (by decide +kernel) (by show 2≤_;decide +kernel) rfl ?_
 conv=>whnf
 refine hcc.mono ?_;rintro o S' ⟨rfl,rfl⟩;have hS1:=St.upd_same S b (.obj 89 [.ref b 0,.sl (.acc t) 1 (rowsL s)]);generalize S.upd b (.obj 89 [.ref b 0,.sl (.acc t) 1 (rowsL s)])=S1 at *;conv=>whnf
 refine⟨_,_,hS1,?_⟩;conv=>whnf
 refine⟨⟨fun hl=>?_,?_⟩,fun t' S2 ha=>?_⟩
 ·have:s≠[]:=by intro e;subst e;simp at hl
  rw[rowsL_len];exact(ht1 this).1
 ·show((rowsL s).length+(rowsB x).length)*1≤_
  rw[rowsL_len,rowsB_L,rowsL_len,hxl];omega
 rw[rowsL_len,rowsB_L,rowsL_len] at ha;have hk:=AccStep.keep hS1 (fun hn=>(ht1 (by intro e;subst e;simp at hn)).2.2) ha
 have hst:=BldOk.step (S'':=S2.upd b (.obj 89 [.ref b 0,.sl (.acc t') 1 (rowsL (s++x.data.toList))])) h1 h.new ht1 hS1 ha rfl
 rw[rowsB_L,rowsL_append];conv=>whnf
 refine⟨_,_,hk,?_⟩;conv=>whnf
 exact⟨_,_,⟨rfl,hst⟩,St.le_refl _,AV.leS_refl _ _ _⟩
theorem WriteByte_ok{S₀ S:St}{b:Nat}{s:List UInt8}(h:BldOk S₀ S b s)(c:UInt8)(hx:s.length+1≤140737488355328):Triple P (C G) 187 [.ref b 0,.int .u8 (c.toNat:Int)] S fun o S'=>o=.ret .nili∧BldOk S₀ S' b (s++[c]):=by
 obtain⟨p,t,hp,hS,ht⟩:=h.at_;have hcc:=copyCheck_ok (G:=G) hS hp;obtain⟨h1,ht1⟩:=BldOk.used h.le h.new ht (.obj 89 [.ref b 0,.sl (.acc t) 1 (rowsL s)]);generalize hcv:(c.toNat:Int)=cv;refine triple_of_awp (hT G) hm Tryz.func187 rfl (by decide +kernel) rfl (by decide +kernel) (by show 2≤_;decide +kernel) rfl ?_
 conv=>whnf
 refine hcc.mono ?_;rintro o S' ⟨rfl,rfl⟩;have hS1:=St.upd_same S b (.obj 89 [.ref b 0,.sl (.acc t) 1 (rowsL s)]);generalize S.upd b (.obj 89 [.ref b 0,.sl (.acc t) 1 (rowsL s)])=S1 at *;conv=>whnf
 refine⟨_,_,hS1,?_⟩;conv=>whnf
 intro bb hbb;have hle2:St.le S1 (S1.upd bb (.tip 5 1 1)):=St.le_upd' (St.le_refl _) hbb _;have h2:St.le S₀ (S1.upd bb (.tip 5 1 1)):=St.le_trans h1 hle2;have ht2:s≠[]→(S1.upd bb (.tip 5 1 1)) t=some (.tip 5 1 s.length)∧S₀ t=none∧t≠b:=fun hs=>by obtain⟨k1,k2,k3⟩:=ht1 hs;exact⟨hle2 _ _ k1,k2,k3⟩
 have hS2:=hle2 _ _ hS1
 conv=>whnf
 refine⟨⟨fun hl=>?_,?_⟩,fun S3 c1 c2 t' c3=>?_⟩
 ·have:s≠[]:=by intro e;subst e;exact hl rfl
  rw[rowsL_len];exact(ht2 this).1
 ·show((rowsL s).length+1)*1≤_
  rw[rowsL_len];omega
 have ha:AccStep (S1.upd bb (.tip 5 1 1)) t 5 1 s.length [c].length t' (S3.upd t' (.tip 5 1 (s.length+[c].length))):=.inr ⟨by simp,S3,fun e=>c1 (by rw[List.eq_nil_of_length_eq_zero e];rfl),fun e=>c2 (rowsL_ne (by intro e';subst e';simp at e)),c3,rfl⟩
 have hk:=AccStep.keep hS2 (fun hn=>(ht2 (by intro e;subst e;simp at hn)).2.2) ha
 have hst:=BldOk.step (S'':=(S3.upd t' (.tip 5 1 (s.length+[c].length))).upd b (.obj 89 [.ref b 0,.sl (.acc t') 1 (rowsL (s++[c]))])) h2 h.new ht2 hS2 ha rfl
 have er:rowsL s++[[.int .u8 cv]]=rowsL (s++[c]):=by rw[← hcv];simp[rowsL]
 rw[er,rowsL_len];conv=>whnf
 refine⟨_,_,hk,?_⟩;conv=>whnf
 exact⟨_,_,⟨rfl,hst⟩,St.le_refl _,AV.leS_refl _ _ _⟩
theorem nDigits_le:∀ (k u:Nat),u<10 ^ (k+1)→Lib.nDigits u≤k+1
 | 0,u,h=>by rw[Lib.nDigits_small (by simpa using h)];exact Nat.le_refl _
 | k+1,u,h=>by
   by_cases hu:u<10
   ·rw[Lib.nDigits_small hu];omega
   ·rw[Lib.nDigits_big hu];have:=nDigits_le k (u / 10) (by rw[Nat.pow_succ] at h;omega)
    omega
theorem itoaS_list(n:Int):(itoaS n).data.toList=Lib.itoa n:=by simp[itoaS]
theorem itoaS_size(n:Int):(itoaS n).size=(Lib.itoa n).length:=by rw[← itoaS_list];rfl
theorem itoa_len9{d:Nat}(h:d<1000000000):(Lib.itoa (d:Int)).length≤9:=by
 rw[Lib.itoa_nonneg,Lib.decDigits_length];exact nDigits_le 8 d h
def repS(s:ByteArray)(c:Nat):ByteArray:=⟨(Lib.repeatL s.data.toList c).toArray⟩
theorem repeat_ok(s:ByteArray)(c:Nat)(hc:c≤1000000000)(hl:s.size*c≤140737488355328)(S:St):Triple P (C G) 188 [.str s,.int .i64 (c:Int)] S fun o S'=>o=.ret (.str (repS s c))∧S'=S:=by
 refine Triple.of_calls (x:=.str (repS s c)) Tryz.func188 rfl (by decide +kernel) (fun w vs hg hr=>?_) ⟨rfl,rfl⟩
 obtain⟨u,v,hv,r1,r2⟩:=RelL.two hr;simp only[Rel] at r1 r2;subst r1 r2;rw[show vs=#[.string s,.int .i64 (c:Int)] from arr_of_list hv];refine(Tryz.strings_Repeat s c w (by omega) hl).mono fun e w' he=>?_
 obtain⟨rfl,hb⟩:=he;exact⟨_,rfl,by simp only[Rel];rfl,hb⟩
def BldW(S₀ S:St)(b:Nat)(s:List UInt8):Prop:=St.le S₀ S∧∃ S1,St.leW S1 S∧BldOk S₀ S1 b s
theorem BldOk.w{S₀ S:St}{b:Nat}{s:List UInt8}(h:BldOk S₀ S b s):BldW S₀ S b s:=⟨h.le,S,St.leW_refl _,h⟩
theorem BldW.string{S₀ S:St}{b:Nat}{s:List UInt8}(h:BldW S₀ S b s):Triple P (C G) 43 [.ref b 0] S fun o S'=>o=.ret (.str ⟨s.toArray⟩)∧St.le S₀ S':=by
 obtain⟨_,S1,h1,h2⟩:=h;exact Triple.weakS (String_ok h2) h1
theorem BldW.write{S₀ S:St}{b:Nat}{s:List UInt8}(h:BldW S₀ S b s)(x:ByteArray)(hx:s.length+x.size≤140737488355328):Triple P (C G) 42 [.ref b 0,.str x] S fun o S'=>o=.ret (.tu [.int .i64 (x.size:Int),.nili])∧BldW S₀ S' b (s++x.data.toList):=by
 obtain⟨_,S1,h1,h2⟩:=h;refine(Triple.weakS (WriteString_ok h2 x hx) h1).mono ?_;rintro o S' ⟨rfl,h3⟩;exact⟨rfl,h3.w⟩
theorem BldW.byte{S₀ S:St}{b:Nat}{s:List UInt8}(h:BldW S₀ S b s)(c:UInt8)(hx:s.length+1≤140737488355328):Triple P (C G) 187 [.ref b 0,.int .u8 (c.toNat:Int)] S fun o S'=>o=.ret .nili∧BldW S₀ S' b (s++[c]):=by
 obtain⟨_,S1,h1,h2⟩:=h;refine(Triple.weakS (WriteByte_ok h2 c hx) h1).mono ?_;rintro o S' ⟨rfl,h3⟩;exact⟨rfl,h3.w⟩
theorem BldW.new{S:St}{b:Nat}(hb:S b=none):BldW S (S.upd b (.obj 89 [.nilp,.nils])) b []:=by
 have h1:=St.leW_upd (cs':=[.nilp,.sl (.acc 0) 1 (rowsL [])]) (St.upd_same S b (.obj 89 [.nilp,.nils])) ⟨rfl,rfl,trivial⟩
 rw[St.upd_upd] at h1;exact⟨St.le_upd' (St.le_refl _) hb _,_,h1,St.le_upd' (St.le_refl _) hb _,hb,.nilp,0,.inl rfl,St.upd_same _ _ _,fun h=>absurd rfl h⟩
theorem St.leW_over{S1 S:St}(h:St.leW S1 S)(x:Nat)(o:Own):St.leW (S1.upd x o) (S.upd x o):=fun b=>by
 by_cases hb:b=x
 ·subst hb;rw[St.upd_same,St.upd_same];exact .inl rfl
 ·rw[St.upd_ne _ _ _ _ hb,St.upd_ne _ _ _ _ hb];exact h b
theorem St.leW_del{S1 S:St}(h:St.leW S1 S)(x:Nat):St.leW (S1.del x) (S.del x):=fun b=>by
 by_cases hb:b=x
 ·subst hb;rw[St.del_same,St.del_same];exact .inl rfl
 ·rw[St.del_ne _ _ _ hb,St.del_ne _ _ _ hb];exact h b
theorem St.le_over{S₀ S:St}(h:St.le S₀ S)(x:Nat)(o:Own):St.le (S₀.upd x o) (S.upd x o):=fun b p hp=>by
 by_cases hb:b=x
 ·subst hb;rw[St.upd_same] at hp ⊢;exact hp
 ·rw[St.upd_ne _ _ _ _ hb] at hp ⊢;exact h b p hp
theorem St.le_dels{S₀ S:St}(h:St.le S₀ S)(x:Nat):St.le (S₀.del x) (S.del x):=fun b p hp=>by
 by_cases hb:b=x
 ·subst hb;rw[St.del_same] at hp;cases hp
 ·rw[St.del_ne _ _ _ hb] at hp ⊢;exact h b p hp
theorem BldW.over{S₀ S:St}{b x:Nat}{s:List UInt8}(h:BldW S₀ S b s)(hx:S x=none∨∃ o,S₀ x=some o)(o:Own):BldW (S₀.upd x o) (S.upd x o) b s:=by
 obtain⟨h0,S1,h1,h2⟩:=h;obtain⟨p,t,hp,hS,ht⟩:=h2.at_;have hbx:b≠x:=by
  rintro rfl
  rcases hx with hx | ⟨o,hx⟩
  ·rw[St.leW_none h1 hx] at hS;cases hS
  ·rw[h2.new] at hx;cases hx
 have htx:s≠[]→t≠x:=by
  rintro hs rfl;obtain⟨k1,k2,k3⟩:=ht hs
  rcases hx with hx | ⟨o,hx⟩
  ·rw[St.leW_none h1 hx] at k1;cases k1
  ·rw[k2] at hx;cases hx
 refine⟨St.le_over h0 x o,_,St.leW_over h1 x o,St.le_over h2.le x o,by rw[St.upd_ne _ _ _ _ hbx];exact h2.new,p,t,hp,by rw[St.upd_ne _ _ _ _ hbx];exact hS,fun hs=>?_⟩
 obtain⟨k1,k2,k3⟩:=ht hs;rw[St.upd_ne _ _ _ _ (htx hs),St.upd_ne _ _ _ _ (htx hs)];exact⟨k1,k2,k3⟩
theorem BldW.del{S₀ S:St}{b x:Nat}{s:List UInt8}(h:BldW S₀ S b s)(hx:∃ o,S₀ x=some o):BldW (S₀.del x) (S.del x) b s:=by
 obtain⟨h0,S1,h1,h2⟩:=h;obtain⟨p,t,hp,hS,ht⟩:=h2.at_;obtain⟨o,hx⟩:=hx;have hbx:b≠x:=by
  rintro rfl;rw[h2.new] at hx;cases hx
 have htx:s≠[]→t≠x:=by
  rintro hs rfl;obtain⟨k1,k2,k3⟩:=ht hs;rw[k2] at hx;cases hx
 refine⟨St.le_dels h0 x,_,St.leW_del h1 x,St.le_dels h2.le x,by rw[St.del_ne _ _ _ hbx];exact h2.new,p,t,hp,by rw[St.del_ne _ _ _ hbx];exact hS,fun hs=>?_⟩
 obtain⟨k1,k2,k3⟩:=ht hs;rw[St.del_ne _ _ _ (htx hs),St.del_ne _ _ _ (htx hs)];exact⟨k1,k2,k3⟩
def textK(l:List Nat)(pre:List UInt8):Nat→List UInt8
 | 0=>pre
 | k+1=>textK l pre k++((if k=0 then [] else Lib.repeatL [48] (9-(Lib.itoa ((l.getD (l.length-1-k) 0:Nat):Int)).length))++Lib.itoa ((l.getD (l.length-1-k) 0:Nat):Int))
def textF(neg:Bool)(l:List Nat):List UInt8:=textK l (if neg then [45] else []) l.length
theorem textK_len(l:List Nat)(pre:List UInt8)(hd:∀ d∈l,d<1000000000)(hp:pre.length≤1):∀ k,(textK l pre k).length≤1+18*k
 | 0=>by simpa [textK] using hp
 | k+1=>by
   have:=textK_len l pre hd hp k
   have h9:(Lib.itoa ((l.getD (l.length-1-k) 0:Nat):Int)).length≤9:=by
    refine itoa_len9 ?_;simp only[List.getD]
    cases h:l[l.length-1-k]? with
    | none=>simp
    | some d=>exact hd d (List.mem_of_getElem? h)
   simp only[textK,List.length_append]
   split
   ·simp only[List.length_nil];omega
   ·rw[Lib.repeatL_length];simp only[List.length_cons,List.length_nil];omega
theorem St.upd_id{S:St}{x:Nat}{o:Own}(h:S x=some o):S.upd x o=S:=by
 funext y
 by_cases hy:y=x
 ·subst hy;rw[St.upd_same,h]
 ·rw[St.upd_ne _ _ _ _ hy]
theorem Text_far(hG:G10 G)(neg:Bool)(l:List Nat)(hl0:l≠[])(hd:∀ d∈l,d<1000000000)(hl:l.length≤1000000)(S:St) :
 Triple P (C G) 177 [farAV neg l] S fun o S'=>o=.ret (.str ⟨(textF neg l).toArray⟩)∧S'=S:=by
 refine triple_of_awp (hT G) hm Tryz.func177 rfl (by decide +kernel) rfl (by decide +kernel) (by show 1≤_;decide +kernel) rfl ?_
 refine awp_seq2 fun K hK hQ=>?_
 conv=>whnf
 intro b1 hb1;conv=>whnf
 refine hK _ _ ?_;clear hK hQ K;refine awp_seq2 fun K hK hQ=>?_
 conv=>whnf
 refine⟨_,_,St.upd_same _ _ _,?_⟩;conv=>whnf
 intro c hc;have hc:=hc (rowsU_ne hl0);subst hc;conv=>whnf
 refine hK _ _ ?_;clear hK hQ K;refine awp_seq2 fun K hK hQ=>?_
 conv=>whnf
 intro b3 hb3;conv=>whnf
 refine hK _ _ ?_;clear hK hQ K;have k1:=St.upd_same S b1 (.obj 244 [.int .i64 0,.bool neg,.sl .any 1 (rowsU l)]);have hnew:=BldW.new hb3;have hle01:St.le S (S.upd b1 (.obj 244 [.int .i64 0,.bool neg,.sl .any 1 (rowsU l)])):=St.le_upd' (St.le_refl _) hb1 _;generalize S.upd b1 (.obj 244 [.int .i64 0,.bool neg,.sl .any 1 (rowsU l)])=S1 at *;generalize S1.upd b3 (.obj 89 [.nilp,.nils])=S2 at *;refine awp_seq2 fun K hK hQ=>?_
 conv=>whnf
 refine⟨_,_,hnew.1 _ _ k1,?_⟩;conv=>whnf
 refine split_of (fun hneg=>?_) (fun hneg=>?_)
 ·subst hneg;conv=>whnf
  refine(hnew.byte 45 (by simp)).mono ?_
  rintro o S3 ⟨rfl,h3⟩;conv=>whnf
  refine hK _ _ ?_;clear hK hQ K
  -- S3,h3:BldW S1 S3 b3 pre;k1:S1 b1=..
  have hk1:=h3.1 _ _ k1
  refine awp_seq2 fun K hK hQ=>?_
  conv=>whnf
  refine⟨_,_,hk1,?_⟩;conv=>whnf
  refine(Backward_ok l _).mono ?_;rintro o S' ⟨bs,hbs,rfl,rfl⟩;have h4:=h3.over (.inl hbs) (.obj 242 [.sl .any 1 (rowsU l)]);conv=>whnf
  intro l0 R hl0;have h5:=h4.over (.inl hl0) (.lp R .ready);have nl:bs≠l0:=(St.ne_upd hl0).symm;have n1:b1≠bs:=St.ne_of hbs hk1;have n2:b1≠l0:=St.ne_of hl0 (St.ov n1 hk1);have f1:((S1.upd bs (.obj 242 [.sl .any 1 (rowsU l)])).upd l0 (.lp R .ready)) b1=some (.obj 244 [.int .i64 0,.bool true,.sl .any 1 (rowsU l)]):=St.ov n2 (St.ov n1 k1);have fb:((S1.upd bs (.obj 242 [.sl .any 1 (rowsU l)])).upd l0 (.lp R .ready)) bs=some (.obj 242 [.sl .any 1 (rowsU l)]):=St.ov nl (St.upd_same _ _ _);have fl:((S1.upd bs (.obj 242 [.sl .any 1 (rowsU l)])).upd l0 (.lp R .ready)) l0=some (.lp R .ready):=St.upd_same _ _ _;have le1:St.le S1 (((S1.upd bs (.obj 242 [.sl .any 1 (rowsU l)])).upd l0 (.lp R .ready)).del l0):=by
   have nb:S1 bs=none:=by
    cases e:S1 bs with
    | none=>rfl
    | some o=>rw[h3.1 _ _ e] at hbs;cases hbs
   have n0:S1 l0=none:=by
    cases e:S1 l0 with
    | none=>rfl
    | some o=>rw[St.ov (St.ne_of nb e) (h3.1 _ _ e)] at hl0;cases hl0
   exact St.le_del' (St.le_upd (St.le_upd (St.le_refl _) nb _) n0 _) n0
  generalize ((S1.upd bs (.obj 242 [.sl .any 1 (rowsU l)])).upd l0 (.lp R .ready))=S0 at *;refine(Backward1_ok l (by omega) bs l0 _ (fun k S'=>BldW S0 S' b3 (textK l [45] k)) _ h5 (fun k S' _ h=>h.1 _ _ fb) (fun k S' hk2 hI K hK=>?_)).mono ?_
  ·refine⟨⟨hI.1 _ _ fl,rfl⟩,?_⟩;conv=>whnf
   refine⟨hI.1 _ _ fl,?_⟩;have hI1:=hI.over (.inr ⟨_,fl⟩) (.lp R .busy);have f1':(S0.upd l0 (.lp R .busy)) b1=some (.obj 244 [.int .i64 0,.bool true,.sl .any 1 (rowsU l)]):=St.ov n2 f1;have fl':=St.upd_same S0 l0 (.lp R .busy);have hS0:(S0.upd l0 (.lp R .busy)).upd l0 (.lp R .ready)=S0:=by rw[St.upd_upd];exact St.upd_id fl
   have edd:l.getD (l.length-1-k) 0=l[l.length-1-k]:=by simp only[List.getD];rw[List.getElem?_eq_getElem (by omega)];rfl
   have hdd:=hd _ (List.getElem_mem (show l.length-1-k<l.length by omega))
   have htl:=textK_len l [45] hd (by simp) k
   have hnx:textK l [45] (k+1)=textK l [45] k++((if k=0 then [] else Lib.repeatL [48] (9-(Lib.itoa ((l[l.length-1-k]:Nat):Int)).length))++Lib.itoa ((l[l.length-1-k]:Nat):Int)):=by rw[← edd];rfl
   generalize l[l.length-1-k]=d at *;generalize textK l [45] k=tk at *;rw[hnx] at hK;have h9:=itoa_len9 hdd;have wd:IntKind.i64.wrap (d:Int)=(d:Int):=wrap_i64 (by omega) (by omega)
   conv=>whnf
   rw[wd];refine(itoa_ok hG (d:Int) (by omega) (by omega) _).mono ?_
   rintro o S4 ⟨rfl,rfl⟩;conv=>whnf
   refine⟨_,_,hI1.1 _ _ f1',?_⟩;conv=>whnf
   intro _;conv=>whnf
   have wl:IntKind.i64.wrap (((rowsU l).length:Int)-1)=(l.length:Int)-1:=by rw[rowsU_len,wrap_i64 (by omega) (by omega)]
   rw[wl];refine split_of (fun hlt=>?_) (fun hlt=>?_)
   ·have hk0:k≠0:=by have:=of_decide_eq_true hlt;omega
    rw[if_neg hk0] at hK;conv=>whnf
    have e9:IntKind.i64.wrap (9-((itoaS (d:Int)).size:Int))=((9-(Lib.itoa (d:Int)).length:Nat):Int):=by rw[itoaS_size,wrap_i64 (by omega) (by omega)];omega
    rw[e9];refine(repeat_ok _ (9-(Lib.itoa (d:Int)).length) (by omega) (by show 1*_≤_;omega) _).mono ?_
    rintro o S4 ⟨rfl,rfl⟩;conv=>whnf
    have er:(repS ⟨#[48]⟩ (9-(Lib.itoa (d:Int)).length)).data.toList=Lib.repeatL [48] (9-(Lib.itoa (d:Int)).length):=by simp[repS]
    have erl:(repS ⟨#[48]⟩ (9-(Lib.itoa (d:Int)).length)).size=9-(Lib.itoa (d:Int)).length:=by
     show(repS ⟨#[48]⟩ (9-(Lib.itoa (d:Int)).length)).data.toList.length=_
     rw[er,Lib.repeatL_length];simp
    refine(hI1.write (repS ⟨#[48]⟩ (9-(Lib.itoa (d:Int)).length)) (by rw[erl];omega)).mono ?_
    rintro o S4 ⟨rfl,hI2⟩;rw[er] at hI2;conv=>whnf
    refine(hI2.write (itoaS (d:Int)) (by rw[List.length_append,Lib.repeatL_length,itoaS_size];simp;omega)).mono ?_
    rintro o S5 ⟨rfl,hI3⟩;rw[itoaS_list,List.append_assoc] at hI3;conv=>whnf
    refine⟨hI3.1 _ _ fl',?_⟩;conv=>whnf
    have hI4:=hI3.over (.inr ⟨_,fl'⟩) (.lp R .ready)
    rw[hS0] at hI4;exact hK _ hI4
   ·have hk0:k=0:=by have:=of_decide_eq_false hlt;omega
    rw[if_pos hk0,List.nil_append] at hK;conv=>whnf
    refine(hI1.write (itoaS (d:Int)) (by rw[itoaS_size];omega)).mono ?_
    rintro o S5 ⟨rfl,hI3⟩;rw[itoaS_list] at hI3;conv=>whnf
    refine⟨hI3.1 _ _ fl',?_⟩;conv=>whnf
    have hI4:=hI3.over (.inr ⟨_,fl'⟩) (.lp R .ready)
    rw[hS0] at hI4;exact hK _ hI4
  ·rintro o S' ⟨⟨x,rfl⟩,h6⟩;refine⟨⟨_,rfl⟩,.ready,h6.1 _ _ fl,?_⟩;have h7:=h6.del ⟨_,fl⟩;conv=>whnf
   refine hK _ _ ?_;clear hK hQ K;conv=>whnf
   refine h7.string.mono ?_;rintro o S'' ⟨rfl,h8⟩;conv=>whnf
   exact⟨_,_,⟨rfl,rfl⟩,St.le_trans hle01 (St.le_trans le1 h8),AV.leS_refl _ _ _⟩
 ·subst hneg;conv=>whnf
  refine hK _ _ ?_;clear hK hQ K;have h3:=hnew
  -- S3,h3:BldW S1 S3 b3 pre;k1:S1 b1=..
  have hk1:=h3.1 _ _ k1
  refine awp_seq2 fun K hK hQ=>?_
  conv=>whnf
  refine⟨_,_,hk1,?_⟩;conv=>whnf
  refine(Backward_ok l _).mono ?_;rintro o S' ⟨bs,hbs,rfl,rfl⟩;have h4:=h3.over (.inl hbs) (.obj 242 [.sl .any 1 (rowsU l)]);conv=>whnf
  intro l0 R hl0;have h5:=h4.over (.inl hl0) (.lp R .ready);have nl:bs≠l0:=(St.ne_upd hl0).symm;have n1:b1≠bs:=St.ne_of hbs hk1;have n2:b1≠l0:=St.ne_of hl0 (St.ov n1 hk1);have f1:((S1.upd bs (.obj 242 [.sl .any 1 (rowsU l)])).upd l0 (.lp R .ready)) b1=some (.obj 244 [.int .i64 0,.bool false,.sl .any 1 (rowsU l)]):=St.ov n2 (St.ov n1 k1);have fb:((S1.upd bs (.obj 242 [.sl .any 1 (rowsU l)])).upd l0 (.lp R .ready)) bs=some (.obj 242 [.sl .any 1 (rowsU l)]):=St.ov nl (St.upd_same _ _ _);have fl:((S1.upd bs (.obj 242 [.sl .any 1 (rowsU l)])).upd l0 (.lp R .ready)) l0=some (.lp R .ready):=St.upd_same _ _ _;have le1:St.le S1 (((S1.upd bs (.obj 242 [.sl .any 1 (rowsU l)])).upd l0 (.lp R .ready)).del l0):=by
   have nb:S1 bs=none:=by
    cases e:S1 bs with
    | none=>rfl
    | some o=>rw[h3.1 _ _ e] at hbs;cases hbs
   have n0:S1 l0=none:=by
    cases e:S1 l0 with
    | none=>rfl
    | some o=>rw[St.ov (St.ne_of nb e) (h3.1 _ _ e)] at hl0;cases hl0
   exact St.le_del' (St.le_upd (St.le_upd (St.le_refl _) nb _) n0 _) n0
  generalize ((S1.upd bs (.obj 242 [.sl .any 1 (rowsU l)])).upd l0 (.lp R .ready))=S0 at *;refine(Backward1_ok l (by omega) bs l0 _ (fun k S'=>BldW S0 S' b3 (textK l [] k)) _ h5 (fun k S' _ h=>h.1 _ _ fb) (fun k S' hk2 hI K hK=>?_)).mono ?_
  ·refine⟨⟨hI.1 _ _ fl,rfl⟩,?_⟩;conv=>whnf
   refine⟨hI.1 _ _ fl,?_⟩;have hI1:=hI.over (.inr ⟨_,fl⟩) (.lp R .busy);have f1':(S0.upd l0 (.lp R .busy)) b1=some (.obj 244 [.int .i64 0,.bool false,.sl .any 1 (rowsU l)]):=St.ov n2 f1;have fl':=St.upd_same S0 l0 (.lp R .busy);have hS0:(S0.upd l0 (.lp R .busy)).upd l0 (.lp R .ready)=S0:=by rw[St.upd_upd];exact St.upd_id fl
   have edd:l.getD (l.length-1-k) 0=l[l.length-1-k]:=by simp only[List.getD];rw[List.getElem?_eq_getElem (by omega)];rfl
   have hdd:=hd _ (List.getElem_mem (show l.length-1-k<l.length by omega))
   have htl:=textK_len l [] hd (by simp) k
   have hnx:textK l [] (k+1)=textK l [] k++((if k=0 then [] else Lib.repeatL [48] (9-(Lib.itoa ((l[l.length-1-k]:Nat):Int)).length))++Lib.itoa ((l[l.length-1-k]:Nat):Int)):=by rw[← edd];rfl
   generalize l[l.length-1-k]=d at *;generalize textK l [] k=tk at *;rw[hnx] at hK;have h9:=itoa_len9 hdd;have wd:IntKind.i64.wrap (d:Int)=(d:Int):=wrap_i64 (by omega) (by omega)
   conv=>whnf
   rw[wd];refine(itoa_ok hG (d:Int) (by omega) (by omega) _).mono ?_
   rintro o S4 ⟨rfl,rfl⟩;conv=>whnf
   refine⟨_,_,hI1.1 _ _ f1',?_⟩;conv=>whnf
   intro _;conv=>whnf
   have wl:IntKind.i64.wrap (((rowsU l).length:Int)-1)=(l.length:Int)-1:=by rw[rowsU_len,wrap_i64 (by omega) (by omega)]
   rw[wl];refine split_of (fun hlt=>?_) (fun hlt=>?_)
   ·have hk0:k≠0:=by have:=of_decide_eq_true hlt;omega
    rw[if_neg hk0] at hK;conv=>whnf
    have e9:IntKind.i64.wrap (9-((itoaS (d:Int)).size:Int))=((9-(Lib.itoa (d:Int)).length:Nat):Int):=by rw[itoaS_size,wrap_i64 (by omega) (by omega)];omega
    rw[e9];refine(repeat_ok _ (9-(Lib.itoa (d:Int)).length) (by omega) (by show 1*_≤_;omega) _).mono ?_
    rintro o S4 ⟨rfl,rfl⟩;conv=>whnf
    have er:(repS ⟨#[48]⟩ (9-(Lib.itoa (d:Int)).length)).data.toList=Lib.repeatL [48] (9-(Lib.itoa (d:Int)).length):=by simp[repS]
    have erl:(repS ⟨#[48]⟩ (9-(Lib.itoa (d:Int)).length)).size=9-(Lib.itoa (d:Int)).length:=by
     show(repS ⟨#[48]⟩ (9-(Lib.itoa (d:Int)).length)).data.toList.length=_
     rw[er,Lib.repeatL_length];simp
    refine(hI1.write (repS ⟨#[48]⟩ (9-(Lib.itoa (d:Int)).length)) (by rw[erl];omega)).mono ?_
    rintro o S4 ⟨rfl,hI2⟩;rw[er] at hI2;conv=>whnf
    refine(hI2.write (itoaS (d:Int)) (by rw[List.length_append,Lib.repeatL_length,itoaS_size];simp;omega)).mono ?_
    rintro o S5 ⟨rfl,hI3⟩;rw[itoaS_list,List.append_assoc] at hI3;conv=>whnf
    refine⟨hI3.1 _ _ fl',?_⟩;conv=>whnf
    have hI4:=hI3.over (.inr ⟨_,fl'⟩) (.lp R .ready)
    rw[hS0] at hI4;exact hK _ hI4
   ·have hk0:k=0:=by have:=of_decide_eq_false hlt;omega
    rw[if_pos hk0,List.nil_append] at hK;conv=>whnf
    refine(hI1.write (itoaS (d:Int)) (by rw[itoaS_size];omega)).mono ?_
    rintro o S5 ⟨rfl,hI3⟩;rw[itoaS_list] at hI3;conv=>whnf
    refine⟨hI3.1 _ _ fl',?_⟩;conv=>whnf
    have hI4:=hI3.over (.inr ⟨_,fl'⟩) (.lp R .ready)
    rw[hS0] at hI4;exact hK _ hI4
  ·rintro o S' ⟨⟨x,rfl⟩,h6⟩;refine⟨⟨_,rfl⟩,.ready,h6.1 _ _ fl,?_⟩;have h7:=h6.del ⟨_,fl⟩;conv=>whnf
   refine hK _ _ ?_;clear hK hQ K;conv=>whnf
   refine h7.string.mono ?_;rintro o S'' ⟨rfl,h8⟩;conv=>whnf
   exact⟨_,_,⟨rfl,rfl⟩,St.le_trans hle01 (St.le_trans le1 h8),AV.leS_refl _ _ _⟩
def GErr(G:Nat→Option (List AV))(g:Nat):Prop:=G g=some [.nili]∨∃ te,G g=some [.ifc te .top]
theorem glob_err{w:World}{S:St}(hg:Good (C G) w S){g:Nat}(h:GErr G g):∃ ev,w.cell? ⟨g,0,none⟩=some ev∧(ev=.nilIface∨∃ te pe,ev=.iface te pe):=by
 rcases h with h | ⟨te,h⟩
 ·obtain⟨_,_,h3,_⟩:=hg.2 g _ h;simp only[RelAt] at h3;obtain⟨⟨v,⟨_,h4,_⟩,h5⟩,_⟩:=h3;simp only[Rel] at h5;exact⟨v,h4,.inl h5⟩
 ·obtain⟨_,_,h3,_⟩:=hg.2 g _ h;simp only[RelAt] at h3;obtain⟨⟨v,⟨_,h4,_⟩,h5⟩,_⟩:=h3;simp only[Rel] at h5;obtain⟨y,h5,_⟩:=h5;exact⟨v,h4,.inr ⟨te,y,h5⟩⟩
structure GS (G:Nat→Option (List AV)):Prop where
 tab:G10 G
 esyn:GErr G 5
 eran:GErr G 6
def atoiAV(s:ByteArray):AV:=match Lib.atoiAll s.data.toList with
 | .ok v=>.tu [.int .i64 v,.nili]
 | .range=>.tu [.int .i64 (Lib.atoiSat s.data.toList),.ifc 275 .top]
 | _=>.tu [.int .i64 0,.ifc 275 .top]
theorem atoi_ok(hG:GS G)(s:ByteArray)(hl:s.size≤281474976710656)(S:St):Triple P (C G) 176 [.str s] S fun o S'=>o=.ret (atoiAV s)∧S'=S:=by
 refine Triple.of_calls (x:=atoiAV s) Tryz.func176 rfl (by decide +kernel) (fun w vs hg hr=>?_) ⟨rfl,rfl⟩
 obtain⟨v,hv,r1⟩:=RelL.one hr;simp only[Rel] at r1;subst r1;rw[show vs=#[.string s] from arr_of_list hv];unfold atoiAV
 cases h:Lib.atoiAll s.data.toList with
 | ok u=>
   refine(Tryz.strconv_Atoi_ok s (by omega) u h w).mono fun e w' he=>?_
   obtain⟨rfl,hw⟩:=he;refine⟨_,rfl,by simp only[Rel,RelL];exact⟨_,rfl,_,_,rfl,rfl,_,_,rfl,rfl,rfl⟩,?_⟩
   rcases hw with rfl | ⟨t,rfl⟩
   ·exact Below.refl _ _
   ·exact Lib.bytesWorld_below w 5 t
 | range=>
   obtain⟨ev,h1,h2⟩:=glob_err hg hG.eran;refine(Tryz.strconv_Atoi_range s hl h ev w h1 h2).mono fun e w' he=>?_
   obtain⟨N,rfl,_,_,hb⟩:=he;exact⟨_,rfl,by simp only[Rel,RelL];exact⟨_,rfl,_,_,rfl,rfl,_,_,rfl,⟨_,rfl,trivial⟩,rfl⟩,hb⟩
 | _=>
   obtain⟨ev,h1,h2⟩:=glob_err hg hG.esyn;refine(Tryz.strconv_Atoi_bad s hl (fun v hv=>by rw[h] at hv;cases hv) (fun hv=>by rw[h] at hv;cases hv) ev w h1 h2).mono fun e w' he=>?_
   obtain⟨N,rfl,_,_,hb⟩:=he;exact⟨_,rfl,by simp only[Rel,RelL];exact⟨_,rfl,_,_,rfl,rfl,_,_,rfl,⟨_,rfl,trivial⟩,rfl⟩,hb⟩
def smallV(z:Int):Int×Bool:=
 if near z then (z,true) else if 3<(limbs z.natAbs).length then (0,false) else
 match Lib.atoiAll (textF (decide (z<0)) (limbs z.natAbs)) with
 | .ok v=>(v,true)
 | _=>(0,false)
theorem Small_ok(hG:GS G)(z:Int)(S:St):Triple P (C G) 167 [bigAV z] S fun o S'=>o=.ret (.tu [.int .i64 (smallV z).1,.bool (smallV z).2])∧S'=S:=by
 unfold smallV
 by_cases h:near z
 ·rw[bigAV_near h,if_pos h];refine triple_of_awp (hT G) hm Tryz.func167 rfl (by decide +kernel) rfl (by decide +kernel) (by show 1≤_;decide +kernel) rfl ?_
  conv=>whnf
  intro b hb;conv=>whnf
  refine⟨_,_,St.upd_same _ _ _,?_⟩;conv=>whnf
  refine⟨_,_,St.upd_same _ _ _,?_⟩;conv=>whnf
  exact⟨_,_,⟨rfl,rfl⟩,St.le_upd' (St.le_refl _) hb _,AV.leS_refl _ _ _⟩
 ·have hp:=far_pos h
  have hl0:=limbs_ne (n:=z.natAbs) (by omega)
  have ht:=fun hl S=>Text_far (G:=G) hG.tab (decide (z<0)) (limbs z.natAbs) hl0 (limbs_lt _) hl S
  have hlen:∀ k,(limbs z.natAbs).length=k→(textF (decide (z<0)) (limbs z.natAbs)).length≤1+18*k:=fun k hk=>by
   subst hk;exact textK_len _ _ (limbs_lt _) (by split<;>simp) _
  rw[bigAV_far h,if_neg h];generalize limbs z.natAbs=l at *;generalize decide (z<0)=neg at *;refine triple_of_awp (hT G) hm Tryz.func167 rfl (by decide +kernel) rfl (by decide +kernel) (by show 1≤_;decide +kernel) rfl ?_
  conv=>whnf
  intro b hb;conv=>whnf
  refine⟨_,_,St.upd_same _ _ _,?_⟩;conv=>whnf
  intro c hc;have hc:=hc (rowsU_ne hl0);subst hc;conv=>whnf
  refine⟨_,_,St.upd_same _ _ _,?_⟩;conv=>whnf
  intro _;conv=>whnf
  refine split_of (fun h3=>?_) (fun h3=>?_)
  ·have h3:3<l.length:=by have:=of_decide_eq_true h3;rw[rowsU_len] at this;omega
   rw[if_pos h3];conv=>whnf
   exact⟨_,_,⟨rfl,rfl⟩,St.le_upd' (St.le_refl _) hb _,AV.leS_refl _ _ _⟩
  ·have h3:¬ 3<l.length:=by have:=of_decide_eq_false h3;rw[rowsU_len] at this;omega
   rw[if_neg h3];have ht:=ht (by omega)
   have hlen:=hlen _ rfl
   generalize textF neg l=tx at *;conv=>whnf
   refine⟨_,_,St.upd_same _ _ _,?_⟩;conv=>whnf
   refine(ht _).mono ?_;rintro o S' ⟨rfl,rfl⟩;conv=>whnf
   have ha:=atoi_ok hG ⟨tx.toArray⟩ (by show tx.toArray.size≤_;simp;omega) (S.upd b (.obj 244 [.int .i64 0,.bool neg,.sl .any 1 (rowsU l)]))
   unfold atoiAV at ha;have el:(⟨tx.toArray⟩:ByteArray).data.toList=tx:=by simp
   rw[el] at ha;generalize Lib.atoiSat tx=sat at *
   cases hat:Lib.atoiAll tx with
   | ok v=>
     rw[hat] at ha;refine ha.mono ?_;rintro o S' ⟨rfl,rfl⟩;conv=>whnf
     exact⟨_,_,⟨rfl,rfl⟩,St.le_upd' (St.le_refl _) hb _,AV.leS_refl _ _ _⟩
   | range=>
     rw[hat] at ha;refine ha.mono ?_;rintro o S' ⟨rfl,rfl⟩;conv=>whnf
     exact⟨_,_,⟨rfl,rfl⟩,St.le_upd' (St.le_refl _) hb _,AV.leS_refl _ _ _⟩
   | _=>
     rw[hat] at ha;refine ha.mono ?_;rintro o S' ⟨rfl,rfl⟩;conv=>whnf
     exact⟨_,_,⟨rfl,rfl⟩,St.le_upd' (St.le_refl _) hb _,AV.leS_refl _ _ _⟩
end Go.Proofs.YtogipknpafkfpaaGreatDoor.Aw
