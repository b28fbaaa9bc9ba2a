/- A constraint's fields against its kind, walked, kind by kind. A constraint's columns; the table of kinds, read; walked. -/
import Derived.Test.YtjpboanohpaibaaGreatDoorPat10
import Derived.Test.YtjpboanohpaibaaGreatDoorPat11
set_option linter.all false
set_option maxRecDepth 100000
set_option maxHeartbeats 4000000
namespace Go.Proofs.YtjpboanohpaibaaGreatDoor.Aw
open Go Go.RowKit
variable {G:Nat→Option (List AV)}
structure NeedsV where
 terms:Bool:=false
 xs:Bool:=false
 table:Bool:=false
 rows:Bool:=false
 x:Bool:=false
 y:Bool:=false
 k:Bool:=false
 op:Bool:=false
 v:Bool:=false
def needAV(n:NeedsV)(h:FuncId):List AV:=[.bool n.terms,.bool n.xs,.bool n.table,.bool n.rows,.bool n.x,.bool n.y,.bool n.k,.bool n.op,.bool n.v,.fn (.func h) [] []]
def nd1:NeedsV:={ terms:=true,k:=true,op:=true }
def nd2:NeedsV:={ x:=true,y:=true,k:=true }
def nd3:NeedsV:={ xs:=true }
def nd4:NeedsV:={ x:=true,y:=true,table:=true }
def nd5:NeedsV:={ y:=true,xs:=true }
def nd7:NeedsV:={ x:=true,terms:=true,k:=true }
def nd8:NeedsV:={ xs:=true,rows:=true }
def nd9:NeedsV:={ xs:=true,k:=true,op:=true,v:=true }
def nz(b:Bool)(n:Int):Int:=match b with | true=>0 | false=>n
def plainV(n:NeedsV)(c:ConV):Bool:=!(nz n.op c.op == 0 && (nz n.k c.k == 0 && (nz n.v c.v == 0 && (nz n.x c.x == 0 && (nz n.y c.y == 0 && true)))))
def fieldV(n:NeedsV)(c:ConV):Bool:=
 plainV n c || (!n.terms && decide ((c.terms.length:Int) > 0)) || (!n.xs && decide ((c.xs.length:Int) > 0)) || (!n.table && decide ((c.table.length:Int) > 0)) || (!n.rows && decide ((c.rows.length:Int) > 0))
theorem field1_ok(c:ConV)(S:St):Triple P (C G) 66 [.ag (rowC c),.ag (needAV nd1 72)] S fun o S'=>o=.ret (.bool (fieldV nd1 c))∧S'=S:=by
 have l1:=rowsTm_len c.terms
 have l2:=rowsI_len c.xs
 have l3:=rowsI_len c.table
 have l4:=rowsLL_len c.rows
 have hsp:fieldV nd1 c=fieldV nd1 c:=rfl
 conv at hsp=>rhs;unfold fieldV
 generalize fieldV nd1 c=res at *;refine triple_of_awp (hT G) hm Tryz.func66 rfl (by decide +kernel) rfl (by decide +kernel) (by show 2≤_;decide +kernel) rfl ?_
 refine awp_seq2 fun K hK hQ=>?_
 conv=>whnf
 intro b2 hb2;conv=>whnf
 intro b3 hb3;conv=>whnf
 refine hK _ _ ?_;clear hK hQ K;have q3:=St.upd_same (S.upd b2 (.obj 51 (rowC c))) b3 (.obj 111 (needAV nd1 72));have q2:((S.upd b2 (.obj 51 (rowC c))).upd b3 (.obj 111 (needAV nd1 72))) b2=some (.obj 51 (rowC c)):=St.up hb3 (St.upd_same S b2 _);have hle:St.le S ((S.upd b2 (.obj 51 (rowC c))).upd b3 (.obj 111 (needAV nd1 72))):=St.le_upd' (St.le_upd' (St.le_refl S) hb2 _) hb3 _;change awp _ _ _ _ ((S.upd b2 (.obj 51 (rowC c))).upd b3 (.obj 111 (needAV nd1 72))) _;generalize ((S.upd b2 (.obj 51 (rowC c))).upd b3 (.obj 111 (needAV nd1 72)))=T at *;refine awp_seq2 fun K hK hQ=>?_
 conv=>whnf
 refine⟨_,_,q2,?_⟩;conv=>whnf
 refine⟨_,_,q2,?_⟩;conv=>whnf
 refine⟨_,_,q2,?_⟩;conv=>whnf
 refine⟨_,_,q2,?_⟩;conv=>whnf
 refine⟨_,_,q2,?_⟩;conv=>whnf
 intro b5 hb5;conv=>whnf
 refine⟨_,_,St.upd_same _ _ _,?_⟩;conv=>whnf
 rw[St.upd_upd];refine hK _ _ ?_;clear hK hQ K;refine awp_seq2 fun K hK hQ=>?_
 conv=>whnf
 refine⟨_,_,St.up hb5 q3,?_⟩;conv=>whnf
 refine⟨_,_,St.upd_same _ _ _,?_⟩;conv=>whnf
 rw[St.upd_upd];refine hK _ _ ?_;clear hK hQ K;refine awp_seq2 fun K hK hQ=>?_
 conv=>whnf
 refine⟨_,_,St.up hb5 q3,?_⟩;conv=>whnf
 refine hK _ _ ?_;clear hK hQ K;refine awp_seq2 fun K hK hQ=>?_
 conv=>whnf
 refine⟨_,_,St.up hb5 q3,?_⟩;conv=>whnf
 refine⟨_,_,St.upd_same _ _ _,?_⟩;conv=>whnf
 rw[St.upd_upd];refine hK _ _ ?_;clear hK hQ K;refine awp_seq2 fun K hK hQ=>?_
 conv=>whnf
 refine⟨_,_,St.up hb5 q3,?_⟩;conv=>whnf
 refine hK _ _ ?_;clear hK hQ K;refine awp_seq2 fun K hK hQ=>?_
 conv=>whnf
 refine⟨_,_,St.up hb5 q3,?_⟩;conv=>whnf
 refine hK _ _ ?_;clear hK hQ K;refine awp_seq2 fun K hK hQ=>?_
 refine awp_region ?_;refine aOps_cut 3 fun K' hK'=>?_
 conv=>whnf
 refine⟨_,_,St.upd_same _ _ _,?_⟩;conv=>whnf
 refine hK' _ _ ?_;clear hK' K';refine aOps_cut 11 fun K' hK'=>?_
 conv=>whnf
 refine split_of (fun h1=>?_) (fun h1=>?_)
 ·have e1:plainV nd1 c=true:=h1
  conv=>whnf
  refine hK' _ _ ?_;clear hK' K';refine aOps_cut 11 fun K' hK'=>?_
  conv=>whnf
  refine hK' _ _ ?_;clear hK' K';refine aOps_cut 11 fun K' hK'=>?_
  conv=>whnf
  refine hK' _ _ ?_;clear hK' K';refine aOps_cut 11 fun K' hK'=>?_
  conv=>whnf
  refine hK' _ _ ?_;clear hK' K'
  -- hsp,e1 the answer
  conv=>whnf
  refine hK _ _ ?_;clear hK hQ K;conv=>whnf
  exact⟨_,_,⟨congrArg (fun z=>Out.ret (AV.bool z)) (show _=res from Eq.symm (by rw[hsp,e1];rfl)),rfl⟩,St.le_upd' hle hb5 _,AV.leS_refl _ _ _⟩
 have e1:plainV nd1 c=false:=h1
 conv=>whnf
 refine⟨_,_,St.up hb5 q3,?_⟩;conv=>whnf
 refine hK' _ _ ?_;clear hK' K';refine aOps_cut 11 fun K' hK'=>?_
 conv=>whnf
 refine⟨_,_,St.up hb5 q3,?_⟩;conv=>whnf
 refine⟨_,_,St.up hb5 q2,?_⟩;conv=>whnf
 intro _;rw[l2];conv=>whnf
 refine hK' _ _ ?_;clear hK' K';refine aOps_cut 11 fun K' hK'=>?_
 conv=>whnf
 refine split_of (fun h2=>?_) (fun h2=>?_)
 ·have e2:decide ((c.xs.length:Int) > 0)=true:=h2
  conv=>whnf
  refine hK' _ _ ?_;clear hK' K';refine aOps_cut 11 fun K' hK'=>?_
  conv=>whnf
  refine hK' _ _ ?_;clear hK' K'
  -- hsp,e1,e2 the answer
  conv=>whnf
  refine hK _ _ ?_;clear hK hQ K;conv=>whnf
  exact⟨_,_,⟨congrArg (fun z=>Out.ret (AV.bool z)) (show _=res from Eq.symm (by rw[hsp,e1,e2];rfl)),rfl⟩,St.le_upd' hle hb5 _,AV.leS_refl _ _ _⟩
 have e2:decide ((c.xs.length:Int) > 0)=false:=h2
 conv=>whnf
 refine⟨_,_,St.up hb5 q3,?_⟩;conv=>whnf
 refine⟨_,_,St.up hb5 q2,?_⟩;conv=>whnf
 intro _;rw[l3];conv=>whnf
 refine hK' _ _ ?_;clear hK' K';refine aOps_cut 11 fun K' hK'=>?_
 conv=>whnf
 refine split_of (fun h3=>?_) (fun h3=>?_)
 ·have e3:decide ((c.table.length:Int) > 0)=true:=h3
  conv=>whnf
  refine hK' _ _ ?_;clear hK' K'
  -- hsp,e1,e2,e3 the answer
  conv=>whnf
  refine hK _ _ ?_;clear hK hQ K;conv=>whnf
  exact⟨_,_,⟨congrArg (fun z=>Out.ret (AV.bool z)) (show _=res from Eq.symm (by rw[hsp,e1,e2,e3];rfl)),rfl⟩,St.le_upd' hle hb5 _,AV.leS_refl _ _ _⟩
 have e3:decide ((c.table.length:Int) > 0)=false:=h3
 conv=>whnf
 refine⟨_,_,St.up hb5 q3,?_⟩;conv=>whnf
 refine⟨_,_,St.up hb5 q2,?_⟩;conv=>whnf
 intro _;rw[l4];conv=>whnf
 refine hK' _ _ ?_;clear hK' K'
 -- hsp,e1,e2,e3 the answer
 conv=>whnf
 refine hK _ _ ?_;clear hK hQ K;conv=>whnf
 exact⟨_,_,⟨congrArg (fun z=>Out.ret (AV.bool z)) (show _=res from Eq.symm (by rw[hsp,e1,e2,e3];rfl)),rfl⟩,St.le_upd' hle hb5 _,AV.leS_refl _ _ _⟩
theorem field2_ok(c:ConV)(S:St):Triple P (C G) 66 [.ag (rowC c),.ag (needAV nd2 73)] S fun o S'=>o=.ret (.bool (fieldV nd2 c))∧S'=S:=by
 have l1:=rowsTm_len c.terms
 have l2:=rowsI_len c.xs
 have l3:=rowsI_len c.table
 have l4:=rowsLL_len c.rows
 have hsp:fieldV nd2 c=fieldV nd2 c:=rfl
 conv at hsp=>rhs;unfold fieldV
 generalize fieldV nd2 c=res at *;refine triple_of_awp (hT G) hm Tryz.func66 rfl (by decide +kernel) rfl (by decide +kernel) (by show 2≤_;decide +kernel) rfl ?_
 refine awp_seq2 fun K hK hQ=>?_
 conv=>whnf
 intro b2 hb2;conv=>whnf
 intro b3 hb3;conv=>whnf
 refine hK _ _ ?_;clear hK hQ K;have q3:=St.upd_same (S.upd b2 (.obj 51 (rowC c))) b3 (.obj 111 (needAV nd2 73));have q2:((S.upd b2 (.obj 51 (rowC c))).upd b3 (.obj 111 (needAV nd2 73))) b2=some (.obj 51 (rowC c)):=St.up hb3 (St.upd_same S b2 _);have hle:St.le S ((S.upd b2 (.obj 51 (rowC c))).upd b3 (.obj 111 (needAV nd2 73))):=St.le_upd' (St.le_upd' (St.le_refl S) hb2 _) hb3 _;change awp _ _ _ _ ((S.upd b2 (.obj 51 (rowC c))).upd b3 (.obj 111 (needAV nd2 73))) _;generalize ((S.upd b2 (.obj 51 (rowC c))).upd b3 (.obj 111 (needAV nd2 73)))=T at *;refine awp_seq2 fun K hK hQ=>?_
 conv=>whnf
 refine⟨_,_,q2,?_⟩;conv=>whnf
 refine⟨_,_,q2,?_⟩;conv=>whnf
 refine⟨_,_,q2,?_⟩;conv=>whnf
 refine⟨_,_,q2,?_⟩;conv=>whnf
 refine⟨_,_,q2,?_⟩;conv=>whnf
 intro b5 hb5;conv=>whnf
 refine⟨_,_,St.upd_same _ _ _,?_⟩;conv=>whnf
 rw[St.upd_upd];refine hK _ _ ?_;clear hK hQ K;refine awp_seq2 fun K hK hQ=>?_
 conv=>whnf
 refine⟨_,_,St.up hb5 q3,?_⟩;conv=>whnf
 refine hK _ _ ?_;clear hK hQ K;refine awp_seq2 fun K hK hQ=>?_
 conv=>whnf
 refine⟨_,_,St.up hb5 q3,?_⟩;conv=>whnf
 refine hK _ _ ?_;clear hK hQ K;refine awp_seq2 fun K hK hQ=>?_
 conv=>whnf
 refine⟨_,_,St.up hb5 q3,?_⟩;conv=>whnf
 refine⟨_,_,St.upd_same _ _ _,?_⟩;conv=>whnf
 rw[St.upd_upd];refine hK _ _ ?_;clear hK hQ K;refine awp_seq2 fun K hK hQ=>?_
 conv=>whnf
 refine⟨_,_,St.up hb5 q3,?_⟩;conv=>whnf
 refine⟨_,_,St.upd_same _ _ _,?_⟩;conv=>whnf
 rw[St.upd_upd];refine hK _ _ ?_;clear hK hQ K;refine awp_seq2 fun K hK hQ=>?_
 conv=>whnf
 refine⟨_,_,St.up hb5 q3,?_⟩;conv=>whnf
 refine⟨_,_,St.upd_same _ _ _,?_⟩;conv=>whnf
 rw[St.upd_upd];refine hK _ _ ?_;clear hK hQ K;refine awp_seq2 fun K hK hQ=>?_
 refine awp_region ?_;refine aOps_cut 3 fun K' hK'=>?_
 conv=>whnf
 refine⟨_,_,St.upd_same _ _ _,?_⟩;conv=>whnf
 refine hK' _ _ ?_;clear hK' K';refine aOps_cut 11 fun K' hK'=>?_
 conv=>whnf
 refine split_of (fun h1=>?_) (fun h1=>?_)
 ·have e1:plainV nd2 c=true:=h1
  conv=>whnf
  refine hK' _ _ ?_;clear hK' K';refine aOps_cut 11 fun K' hK'=>?_
  conv=>whnf
  refine hK' _ _ ?_;clear hK' K';refine aOps_cut 11 fun K' hK'=>?_
  conv=>whnf
  refine hK' _ _ ?_;clear hK' K';refine aOps_cut 11 fun K' hK'=>?_
  conv=>whnf
  refine hK' _ _ ?_;clear hK' K'
  -- hsp,e1 the answer
  conv=>whnf
  refine hK _ _ ?_;clear hK hQ K;conv=>whnf
  exact⟨_,_,⟨congrArg (fun z=>Out.ret (AV.bool z)) (show _=res from Eq.symm (by rw[hsp,e1];rfl)),rfl⟩,St.le_upd' hle hb5 _,AV.leS_refl _ _ _⟩
 have e1:plainV nd2 c=false:=h1
 conv=>whnf
 refine⟨_,_,St.up hb5 q3,?_⟩;conv=>whnf
 refine⟨_,_,St.up hb5 q2,?_⟩;conv=>whnf
 intro _;rw[l1];conv=>whnf
 refine hK' _ _ ?_;clear hK' K';refine aOps_cut 11 fun K' hK'=>?_
 conv=>whnf
 refine split_of (fun h2=>?_) (fun h2=>?_)
 ·have e2:decide ((c.terms.length:Int) > 0)=true:=h2
  conv=>whnf
  refine hK' _ _ ?_;clear hK' K';refine aOps_cut 11 fun K' hK'=>?_
  conv=>whnf
  refine hK' _ _ ?_;clear hK' K';refine aOps_cut 11 fun K' hK'=>?_
  conv=>whnf
  refine hK' _ _ ?_;clear hK' K'
  -- hsp,e1,e2 the answer
  conv=>whnf
  refine hK _ _ ?_;clear hK hQ K;conv=>whnf
  exact⟨_,_,⟨congrArg (fun z=>Out.ret (AV.bool z)) (show _=res from Eq.symm (by rw[hsp,e1,e2];rfl)),rfl⟩,St.le_upd' hle hb5 _,AV.leS_refl _ _ _⟩
 have e2:decide ((c.terms.length:Int) > 0)=false:=h2
 conv=>whnf
 refine⟨_,_,St.up hb5 q3,?_⟩;conv=>whnf
 refine⟨_,_,St.up hb5 q2,?_⟩;conv=>whnf
 intro _;rw[l2];conv=>whnf
 refine hK' _ _ ?_;clear hK' K';refine aOps_cut 11 fun K' hK'=>?_
 conv=>whnf
 refine split_of (fun h3=>?_) (fun h3=>?_)
 ·have e3:decide ((c.xs.length:Int) > 0)=true:=h3
  conv=>whnf
  refine hK' _ _ ?_;clear hK' K';refine aOps_cut 11 fun K' hK'=>?_
  conv=>whnf
  refine hK' _ _ ?_;clear hK' K'
  -- hsp,e1,e2,e3 the answer
  conv=>whnf
  refine hK _ _ ?_;clear hK hQ K;conv=>whnf
  exact⟨_,_,⟨congrArg (fun z=>Out.ret (AV.bool z)) (show _=res from Eq.symm (by rw[hsp,e1,e2,e3];rfl)),rfl⟩,St.le_upd' hle hb5 _,AV.leS_refl _ _ _⟩
 have e3:decide ((c.xs.length:Int) > 0)=false:=h3
 conv=>whnf
 refine⟨_,_,St.up hb5 q3,?_⟩;conv=>whnf
 refine⟨_,_,St.up hb5 q2,?_⟩;conv=>whnf
 intro _;rw[l3];conv=>whnf
 refine hK' _ _ ?_;clear hK' K';refine aOps_cut 11 fun K' hK'=>?_
 conv=>whnf
 refine split_of (fun h4=>?_) (fun h4=>?_)
 ·have e4:decide ((c.table.length:Int) > 0)=true:=h4
  conv=>whnf
  refine hK' _ _ ?_;clear hK' K'
  -- hsp,e1,e2,e3,e4 the answer
  conv=>whnf
  refine hK _ _ ?_;clear hK hQ K;conv=>whnf
  exact⟨_,_,⟨congrArg (fun z=>Out.ret (AV.bool z)) (show _=res from Eq.symm (by rw[hsp,e1,e2,e3,e4];rfl)),rfl⟩,St.le_upd' hle hb5 _,AV.leS_refl _ _ _⟩
 have e4:decide ((c.table.length:Int) > 0)=false:=h4
 conv=>whnf
 refine⟨_,_,St.up hb5 q3,?_⟩;conv=>whnf
 refine⟨_,_,St.up hb5 q2,?_⟩;conv=>whnf
 intro _;rw[l4];conv=>whnf
 refine hK' _ _ ?_;clear hK' K'
 -- hsp,e1,e2,e3,e4 the answer
 conv=>whnf
 refine hK _ _ ?_;clear hK hQ K;conv=>whnf
 exact⟨_,_,⟨congrArg (fun z=>Out.ret (AV.bool z)) (show _=res from Eq.symm (by rw[hsp,e1,e2,e3,e4];rfl)),rfl⟩,St.le_upd' hle hb5 _,AV.leS_refl _ _ _⟩
theorem field3_ok(c:ConV)(S:St):Triple P (C G) 66 [.ag (rowC c),.ag (needAV nd3 74)] S fun o S'=>o=.ret (.bool (fieldV nd3 c))∧S'=S:=by
 have l1:=rowsTm_len c.terms
 have l2:=rowsI_len c.xs
 have l3:=rowsI_len c.table
 have l4:=rowsLL_len c.rows
 have hsp:fieldV nd3 c=fieldV nd3 c:=rfl
 conv at hsp=>rhs;unfold fieldV
 generalize fieldV nd3 c=res at *;refine triple_of_awp (hT G) hm Tryz.func66 rfl (by decide +kernel) rfl (by decide +kernel) (by show 2≤_;decide +kernel) rfl ?_
 refine awp_seq2 fun K hK hQ=>?_
 conv=>whnf
 intro b2 hb2;conv=>whnf
 intro b3 hb3;conv=>whnf
 refine hK _ _ ?_;clear hK hQ K;have q3:=St.upd_same (S.upd b2 (.obj 51 (rowC c))) b3 (.obj 111 (needAV nd3 74));have q2:((S.upd b2 (.obj 51 (rowC c))).upd b3 (.obj 111 (needAV nd3 74))) b2=some (.obj 51 (rowC c)):=St.up hb3 (St.upd_same S b2 _);have hle:St.le S ((S.upd b2 (.obj 51 (rowC c))).upd b3 (.obj 111 (needAV nd3 74))):=St.le_upd' (St.le_upd' (St.le_refl S) hb2 _) hb3 _;change awp _ _ _ _ ((S.upd b2 (.obj 51 (rowC c))).upd b3 (.obj 111 (needAV nd3 74))) _;generalize ((S.upd b2 (.obj 51 (rowC c))).upd b3 (.obj 111 (needAV nd3 74)))=T at *;refine awp_seq2 fun K hK hQ=>?_
 conv=>whnf
 refine⟨_,_,q2,?_⟩;conv=>whnf
 refine⟨_,_,q2,?_⟩;conv=>whnf
 refine⟨_,_,q2,?_⟩;conv=>whnf
 refine⟨_,_,q2,?_⟩;conv=>whnf
 refine⟨_,_,q2,?_⟩;conv=>whnf
 intro b5 hb5;conv=>whnf
 refine⟨_,_,St.upd_same _ _ _,?_⟩;conv=>whnf
 rw[St.upd_upd];refine hK _ _ ?_;clear hK hQ K;refine awp_seq2 fun K hK hQ=>?_
 conv=>whnf
 refine⟨_,_,St.up hb5 q3,?_⟩;conv=>whnf
 refine hK _ _ ?_;clear hK hQ K;refine awp_seq2 fun K hK hQ=>?_
 conv=>whnf
 refine⟨_,_,St.up hb5 q3,?_⟩;conv=>whnf
 refine hK _ _ ?_;clear hK hQ K;refine awp_seq2 fun K hK hQ=>?_
 conv=>whnf
 refine⟨_,_,St.up hb5 q3,?_⟩;conv=>whnf
 refine hK _ _ ?_;clear hK hQ K;refine awp_seq2 fun K hK hQ=>?_
 conv=>whnf
 refine⟨_,_,St.up hb5 q3,?_⟩;conv=>whnf
 refine hK _ _ ?_;clear hK hQ K;refine awp_seq2 fun K hK hQ=>?_
 conv=>whnf
 refine⟨_,_,St.up hb5 q3,?_⟩;conv=>whnf
 refine hK _ _ ?_;clear hK hQ K;refine awp_seq2 fun K hK hQ=>?_
 refine awp_region ?_;refine aOps_cut 3 fun K' hK'=>?_
 conv=>whnf
 refine⟨_,_,St.upd_same _ _ _,?_⟩;conv=>whnf
 refine hK' _ _ ?_;clear hK' K';refine aOps_cut 11 fun K' hK'=>?_
 conv=>whnf
 refine split_of (fun h1=>?_) (fun h1=>?_)
 ·have e1:plainV nd3 c=true:=h1
  conv=>whnf
  refine hK' _ _ ?_;clear hK' K';refine aOps_cut 11 fun K' hK'=>?_
  conv=>whnf
  refine hK' _ _ ?_;clear hK' K';refine aOps_cut 11 fun K' hK'=>?_
  conv=>whnf
  refine hK' _ _ ?_;clear hK' K';refine aOps_cut 11 fun K' hK'=>?_
  conv=>whnf
  refine hK' _ _ ?_;clear hK' K'
  -- hsp,e1 the answer
  conv=>whnf
  refine hK _ _ ?_;clear hK hQ K;conv=>whnf
  exact⟨_,_,⟨congrArg (fun z=>Out.ret (AV.bool z)) (show _=res from Eq.symm (by rw[hsp,e1];rfl)),rfl⟩,St.le_upd' hle hb5 _,AV.leS_refl _ _ _⟩
 have e1:plainV nd3 c=false:=h1
 conv=>whnf
 refine⟨_,_,St.up hb5 q3,?_⟩;conv=>whnf
 refine⟨_,_,St.up hb5 q2,?_⟩;conv=>whnf
 intro _;rw[l1];conv=>whnf
 refine hK' _ _ ?_;clear hK' K';refine aOps_cut 11 fun K' hK'=>?_
 conv=>whnf
 refine split_of (fun h2=>?_) (fun h2=>?_)
 ·have e2:decide ((c.terms.length:Int) > 0)=true:=h2
  conv=>whnf
  refine hK' _ _ ?_;clear hK' K';refine aOps_cut 11 fun K' hK'=>?_
  conv=>whnf
  refine hK' _ _ ?_;clear hK' K';refine aOps_cut 11 fun K' hK'=>?_
  conv=>whnf
  refine hK' _ _ ?_;clear hK' K'
  -- hsp,e1,e2 the answer
  conv=>whnf
  refine hK _ _ ?_;clear hK hQ K;conv=>whnf
  exact⟨_,_,⟨congrArg (fun z=>Out.ret (AV.bool z)) (show _=res from Eq.symm (by rw[hsp,e1,e2];rfl)),rfl⟩,St.le_upd' hle hb5 _,AV.leS_refl _ _ _⟩
 have e2:decide ((c.terms.length:Int) > 0)=false:=h2
 conv=>whnf
 refine⟨_,_,St.up hb5 q3,?_⟩;conv=>whnf
 refine hK' _ _ ?_;clear hK' K';refine aOps_cut 11 fun K' hK'=>?_
 conv=>whnf
 refine⟨_,_,St.up hb5 q3,?_⟩;conv=>whnf
 refine⟨_,_,St.up hb5 q2,?_⟩;conv=>whnf
 intro _;rw[l3];conv=>whnf
 refine hK' _ _ ?_;clear hK' K';refine aOps_cut 11 fun K' hK'=>?_
 conv=>whnf
 refine split_of (fun h3=>?_) (fun h3=>?_)
 ·have e3:decide ((c.table.length:Int) > 0)=true:=h3
  conv=>whnf
  refine hK' _ _ ?_;clear hK' K'
  -- hsp,e1,e2,e3 the answer
  conv=>whnf
  refine hK _ _ ?_;clear hK hQ K;conv=>whnf
  exact⟨_,_,⟨congrArg (fun z=>Out.ret (AV.bool z)) (show _=res from Eq.symm (by rw[hsp,e1,e2,e3];rfl)),rfl⟩,St.le_upd' hle hb5 _,AV.leS_refl _ _ _⟩
 have e3:decide ((c.table.length:Int) > 0)=false:=h3
 conv=>whnf
 refine⟨_,_,St.up hb5 q3,?_⟩;conv=>whnf
 refine⟨_,_,St.up hb5 q2,?_⟩;conv=>whnf
 intro _;rw[l4];conv=>whnf
 refine hK' _ _ ?_;clear hK' K'
 -- hsp,e1,e2,e3 the answer
 conv=>whnf
 refine hK _ _ ?_;clear hK hQ K;conv=>whnf
 exact⟨_,_,⟨congrArg (fun z=>Out.ret (AV.bool z)) (show _=res from Eq.symm (by rw[hsp,e1,e2,e3];rfl)),rfl⟩,St.le_upd' hle hb5 _,AV.leS_refl _ _ _⟩
theorem field4_ok(c:ConV)(S:St):Triple P (C G) 66 [.ag (rowC c),.ag (needAV nd4 75)] S fun o S'=>o=.ret (.bool (fieldV nd4 c))∧S'=S:=by
 have l1:=rowsTm_len c.terms
 have l2:=rowsI_len c.xs
 have l3:=rowsI_len c.table
 have l4:=rowsLL_len c.rows
 have hsp:fieldV nd4 c=fieldV nd4 c:=rfl
 conv at hsp=>rhs;unfold fieldV
 generalize fieldV nd4 c=res at *;refine triple_of_awp (hT G) hm Tryz.func66 rfl (by decide +kernel) rfl (by decide +kernel) (by show 2≤_;decide +kernel) rfl ?_
 refine awp_seq2 fun K hK hQ=>?_
 conv=>whnf
 intro b2 hb2;conv=>whnf
 intro b3 hb3;conv=>whnf
 refine hK _ _ ?_;clear hK hQ K;have q3:=St.upd_same (S.upd b2 (.obj 51 (rowC c))) b3 (.obj 111 (needAV nd4 75));have q2:((S.upd b2 (.obj 51 (rowC c))).upd b3 (.obj 111 (needAV nd4 75))) b2=some (.obj 51 (rowC c)):=St.up hb3 (St.upd_same S b2 _);have hle:St.le S ((S.upd b2 (.obj 51 (rowC c))).upd b3 (.obj 111 (needAV nd4 75))):=St.le_upd' (St.le_upd' (St.le_refl S) hb2 _) hb3 _;change awp _ _ _ _ ((S.upd b2 (.obj 51 (rowC c))).upd b3 (.obj 111 (needAV nd4 75))) _;generalize ((S.upd b2 (.obj 51 (rowC c))).upd b3 (.obj 111 (needAV nd4 75)))=T at *;refine awp_seq2 fun K hK hQ=>?_
 conv=>whnf
 refine⟨_,_,q2,?_⟩;conv=>whnf
 refine⟨_,_,q2,?_⟩;conv=>whnf
 refine⟨_,_,q2,?_⟩;conv=>whnf
 refine⟨_,_,q2,?_⟩;conv=>whnf
 refine⟨_,_,q2,?_⟩;conv=>whnf
 intro b5 hb5;conv=>whnf
 refine⟨_,_,St.upd_same _ _ _,?_⟩;conv=>whnf
 rw[St.upd_upd];refine hK _ _ ?_;clear hK hQ K;refine awp_seq2 fun K hK hQ=>?_
 conv=>whnf
 refine⟨_,_,St.up hb5 q3,?_⟩;conv=>whnf
 refine hK _ _ ?_;clear hK hQ K;refine awp_seq2 fun K hK hQ=>?_
 conv=>whnf
 refine⟨_,_,St.up hb5 q3,?_⟩;conv=>whnf
 refine hK _ _ ?_;clear hK hQ K;refine awp_seq2 fun K hK hQ=>?_
 conv=>whnf
 refine⟨_,_,St.up hb5 q3,?_⟩;conv=>whnf
 refine hK _ _ ?_;clear hK hQ K;refine awp_seq2 fun K hK hQ=>?_
 conv=>whnf
 refine⟨_,_,St.up hb5 q3,?_⟩;conv=>whnf
 refine⟨_,_,St.upd_same _ _ _,?_⟩;conv=>whnf
 rw[St.upd_upd];refine hK _ _ ?_;clear hK hQ K;refine awp_seq2 fun K hK hQ=>?_
 conv=>whnf
 refine⟨_,_,St.up hb5 q3,?_⟩;conv=>whnf
 refine⟨_,_,St.upd_same _ _ _,?_⟩;conv=>whnf
 rw[St.upd_upd];refine hK _ _ ?_;clear hK hQ K;refine awp_seq2 fun K hK hQ=>?_
 refine awp_region ?_;refine aOps_cut 3 fun K' hK'=>?_
 conv=>whnf
 refine⟨_,_,St.upd_same _ _ _,?_⟩;conv=>whnf
 refine hK' _ _ ?_;clear hK' K';refine aOps_cut 11 fun K' hK'=>?_
 conv=>whnf
 refine split_of (fun h1=>?_) (fun h1=>?_)
 ·have e1:plainV nd4 c=true:=h1
  conv=>whnf
  refine hK' _ _ ?_;clear hK' K';refine aOps_cut 11 fun K' hK'=>?_
  conv=>whnf
  refine hK' _ _ ?_;clear hK' K';refine aOps_cut 11 fun K' hK'=>?_
  conv=>whnf
  refine hK' _ _ ?_;clear hK' K';refine aOps_cut 11 fun K' hK'=>?_
  conv=>whnf
  refine hK' _ _ ?_;clear hK' K'
  -- hsp,e1 the answer
  conv=>whnf
  refine hK _ _ ?_;clear hK hQ K;conv=>whnf
  exact⟨_,_,⟨congrArg (fun z=>Out.ret (AV.bool z)) (show _=res from Eq.symm (by rw[hsp,e1];rfl)),rfl⟩,St.le_upd' hle hb5 _,AV.leS_refl _ _ _⟩
 have e1:plainV nd4 c=false:=h1
 conv=>whnf
 refine⟨_,_,St.up hb5 q3,?_⟩;conv=>whnf
 refine⟨_,_,St.up hb5 q2,?_⟩;conv=>whnf
 intro _;rw[l1];conv=>whnf
 refine hK' _ _ ?_;clear hK' K';refine aOps_cut 11 fun K' hK'=>?_
 conv=>whnf
 refine split_of (fun h2=>?_) (fun h2=>?_)
 ·have e2:decide ((c.terms.length:Int) > 0)=true:=h2
  conv=>whnf
  refine hK' _ _ ?_;clear hK' K';refine aOps_cut 11 fun K' hK'=>?_
  conv=>whnf
  refine hK' _ _ ?_;clear hK' K';refine aOps_cut 11 fun K' hK'=>?_
  conv=>whnf
  refine hK' _ _ ?_;clear hK' K'
  -- hsp,e1,e2 the answer
  conv=>whnf
  refine hK _ _ ?_;clear hK hQ K;conv=>whnf
  exact⟨_,_,⟨congrArg (fun z=>Out.ret (AV.bool z)) (show _=res from Eq.symm (by rw[hsp,e1,e2];rfl)),rfl⟩,St.le_upd' hle hb5 _,AV.leS_refl _ _ _⟩
 have e2:decide ((c.terms.length:Int) > 0)=false:=h2
 conv=>whnf
 refine⟨_,_,St.up hb5 q3,?_⟩;conv=>whnf
 refine⟨_,_,St.up hb5 q2,?_⟩;conv=>whnf
 intro _;rw[l2];conv=>whnf
 refine hK' _ _ ?_;clear hK' K';refine aOps_cut 11 fun K' hK'=>?_
 conv=>whnf
 refine split_of (fun h3=>?_) (fun h3=>?_)
 ·have e3:decide ((c.xs.length:Int) > 0)=true:=h3
  conv=>whnf
  refine hK' _ _ ?_;clear hK' K';refine aOps_cut 11 fun K' hK'=>?_
  conv=>whnf
  refine hK' _ _ ?_;clear hK' K'
  -- hsp,e1,e2,e3 the answer
  conv=>whnf
  refine hK _ _ ?_;clear hK hQ K;conv=>whnf
  exact⟨_,_,⟨congrArg (fun z=>Out.ret (AV.bool z)) (show _=res from Eq.symm (by rw[hsp,e1,e2,e3];rfl)),rfl⟩,St.le_upd' hle hb5 _,AV.leS_refl _ _ _⟩
 have e3:decide ((c.xs.length:Int) > 0)=false:=h3
 conv=>whnf
 refine⟨_,_,St.up hb5 q3,?_⟩;conv=>whnf
 refine hK' _ _ ?_;clear hK' K';refine aOps_cut 11 fun K' hK'=>?_
 conv=>whnf
 refine⟨_,_,St.up hb5 q3,?_⟩;conv=>whnf
 refine⟨_,_,St.up hb5 q2,?_⟩;conv=>whnf
 intro _;rw[l4];conv=>whnf
 refine hK' _ _ ?_;clear hK' K'
 -- hsp,e1,e2,e3 the answer
 conv=>whnf
 refine hK _ _ ?_;clear hK hQ K;conv=>whnf
 exact⟨_,_,⟨congrArg (fun z=>Out.ret (AV.bool z)) (show _=res from Eq.symm (by rw[hsp,e1,e2,e3];rfl)),rfl⟩,St.le_upd' hle hb5 _,AV.leS_refl _ _ _⟩
theorem field5_ok(c:ConV)(S:St):Triple P (C G) 66 [.ag (rowC c),.ag (needAV nd5 76)] S fun o S'=>o=.ret (.bool (fieldV nd5 c))∧S'=S:=by
 have l1:=rowsTm_len c.terms
 have l2:=rowsI_len c.xs
 have l3:=rowsI_len c.table
 have l4:=rowsLL_len c.rows
 have hsp:fieldV nd5 c=fieldV nd5 c:=rfl
 conv at hsp=>rhs;unfold fieldV
 generalize fieldV nd5 c=res at *;refine triple_of_awp (hT G) hm Tryz.func66 rfl (by decide +kernel) rfl (by decide +kernel) (by show 2≤_;decide +kernel) rfl ?_
 refine awp_seq2 fun K hK hQ=>?_
 conv=>whnf
 intro b2 hb2;conv=>whnf
 intro b3 hb3;conv=>whnf
 refine hK _ _ ?_;clear hK hQ K;have q3:=St.upd_same (S.upd b2 (.obj 51 (rowC c))) b3 (.obj 111 (needAV nd5 76));have q2:((S.upd b2 (.obj 51 (rowC c))).upd b3 (.obj 111 (needAV nd5 76))) b2=some (.obj 51 (rowC c)):=St.up hb3 (St.upd_same S b2 _);have hle:St.le S ((S.upd b2 (.obj 51 (rowC c))).upd b3 (.obj 111 (needAV nd5 76))):=St.le_upd' (St.le_upd' (St.le_refl S) hb2 _) hb3 _;change awp _ _ _ _ ((S.upd b2 (.obj 51 (rowC c))).upd b3 (.obj 111 (needAV nd5 76))) _;generalize ((S.upd b2 (.obj 51 (rowC c))).upd b3 (.obj 111 (needAV nd5 76)))=T at *;refine awp_seq2 fun K hK hQ=>?_
 conv=>whnf
 refine⟨_,_,q2,?_⟩;conv=>whnf
 refine⟨_,_,q2,?_⟩;conv=>whnf
 refine⟨_,_,q2,?_⟩;conv=>whnf
 refine⟨_,_,q2,?_⟩;conv=>whnf
 refine⟨_,_,q2,?_⟩;conv=>whnf
 intro b5 hb5;conv=>whnf
 refine⟨_,_,St.upd_same _ _ _,?_⟩;conv=>whnf
 rw[St.upd_upd];refine hK _ _ ?_;clear hK hQ K;refine awp_seq2 fun K hK hQ=>?_
 conv=>whnf
 refine⟨_,_,St.up hb5 q3,?_⟩;conv=>whnf
 refine hK _ _ ?_;clear hK hQ K;refine awp_seq2 fun K hK hQ=>?_
 conv=>whnf
 refine⟨_,_,St.up hb5 q3,?_⟩;conv=>whnf
 refine hK _ _ ?_;clear hK hQ K;refine awp_seq2 fun K hK hQ=>?_
 conv=>whnf
 refine⟨_,_,St.up hb5 q3,?_⟩;conv=>whnf
 refine hK _ _ ?_;clear hK hQ K;refine awp_seq2 fun K hK hQ=>?_
 conv=>whnf
 refine⟨_,_,St.up hb5 q3,?_⟩;conv=>whnf
 refine hK _ _ ?_;clear hK hQ K;refine awp_seq2 fun K hK hQ=>?_
 conv=>whnf
 refine⟨_,_,St.up hb5 q3,?_⟩;conv=>whnf
 refine⟨_,_,St.upd_same _ _ _,?_⟩;conv=>whnf
 rw[St.upd_upd];refine hK _ _ ?_;clear hK hQ K;refine awp_seq2 fun K hK hQ=>?_
 refine awp_region ?_;refine aOps_cut 3 fun K' hK'=>?_
 conv=>whnf
 refine⟨_,_,St.upd_same _ _ _,?_⟩;conv=>whnf
 refine hK' _ _ ?_;clear hK' K';refine aOps_cut 11 fun K' hK'=>?_
 conv=>whnf
 refine split_of (fun h1=>?_) (fun h1=>?_)
 ·have e1:plainV nd5 c=true:=h1
  conv=>whnf
  refine hK' _ _ ?_;clear hK' K';refine aOps_cut 11 fun K' hK'=>?_
  conv=>whnf
  refine hK' _ _ ?_;clear hK' K';refine aOps_cut 11 fun K' hK'=>?_
  conv=>whnf
  refine hK' _ _ ?_;clear hK' K';refine aOps_cut 11 fun K' hK'=>?_
  conv=>whnf
  refine hK' _ _ ?_;clear hK' K'
  -- hsp,e1 the answer
  conv=>whnf
  refine hK _ _ ?_;clear hK hQ K;conv=>whnf
  exact⟨_,_,⟨congrArg (fun z=>Out.ret (AV.bool z)) (show _=res from Eq.symm (by rw[hsp,e1];rfl)),rfl⟩,St.le_upd' hle hb5 _,AV.leS_refl _ _ _⟩
 have e1:plainV nd5 c=false:=h1
 conv=>whnf
 refine⟨_,_,St.up hb5 q3,?_⟩;conv=>whnf
 refine⟨_,_,St.up hb5 q2,?_⟩;conv=>whnf
 intro _;rw[l1];conv=>whnf
 refine hK' _ _ ?_;clear hK' K';refine aOps_cut 11 fun K' hK'=>?_
 conv=>whnf
 refine split_of (fun h2=>?_) (fun h2=>?_)
 ·have e2:decide ((c.terms.length:Int) > 0)=true:=h2
  conv=>whnf
  refine hK' _ _ ?_;clear hK' K';refine aOps_cut 11 fun K' hK'=>?_
  conv=>whnf
  refine hK' _ _ ?_;clear hK' K';refine aOps_cut 11 fun K' hK'=>?_
  conv=>whnf
  refine hK' _ _ ?_;clear hK' K'
  -- hsp,e1,e2 the answer
  conv=>whnf
  refine hK _ _ ?_;clear hK hQ K;conv=>whnf
  exact⟨_,_,⟨congrArg (fun z=>Out.ret (AV.bool z)) (show _=res from Eq.symm (by rw[hsp,e1,e2];rfl)),rfl⟩,St.le_upd' hle hb5 _,AV.leS_refl _ _ _⟩
 have e2:decide ((c.terms.length:Int) > 0)=false:=h2
 conv=>whnf
 refine⟨_,_,St.up hb5 q3,?_⟩;conv=>whnf
 refine hK' _ _ ?_;clear hK' K';refine aOps_cut 11 fun K' hK'=>?_
 conv=>whnf
 refine⟨_,_,St.up hb5 q3,?_⟩;conv=>whnf
 refine⟨_,_,St.up hb5 q2,?_⟩;conv=>whnf
 intro _;rw[l3];conv=>whnf
 refine hK' _ _ ?_;clear hK' K';refine aOps_cut 11 fun K' hK'=>?_
 conv=>whnf
 refine split_of (fun h3=>?_) (fun h3=>?_)
 ·have e3:decide ((c.table.length:Int) > 0)=true:=h3
  conv=>whnf
  refine hK' _ _ ?_;clear hK' K'
  -- hsp,e1,e2,e3 the answer
  conv=>whnf
  refine hK _ _ ?_;clear hK hQ K;conv=>whnf
  exact⟨_,_,⟨congrArg (fun z=>Out.ret (AV.bool z)) (show _=res from Eq.symm (by rw[hsp,e1,e2,e3];rfl)),rfl⟩,St.le_upd' hle hb5 _,AV.leS_refl _ _ _⟩
 have e3:decide ((c.table.length:Int) > 0)=false:=h3
 conv=>whnf
 refine⟨_,_,St.up hb5 q3,?_⟩;conv=>whnf
 refine⟨_,_,St.up hb5 q2,?_⟩;conv=>whnf
 intro _;rw[l4];conv=>whnf
 refine hK' _ _ ?_;clear hK' K'
 -- hsp,e1,e2,e3 the answer
 conv=>whnf
 refine hK _ _ ?_;clear hK hQ K;conv=>whnf
 exact⟨_,_,⟨congrArg (fun z=>Out.ret (AV.bool z)) (show _=res from Eq.symm (by rw[hsp,e1,e2,e3];rfl)),rfl⟩,St.le_upd' hle hb5 _,AV.leS_refl _ _ _⟩
theorem field6_ok(c:ConV)(S:St):Triple P (C G) 66 [.ag (rowC c),.ag (needAV nd5 79)] S fun o S'=>o=.ret (.bool (fieldV nd5 c))∧S'=S:=by
 have l1:=rowsTm_len c.terms
 have l2:=rowsI_len c.xs
 have l3:=rowsI_len c.table
 have l4:=rowsLL_len c.rows
 have hsp:fieldV nd5 c=fieldV nd5 c:=rfl
 conv at hsp=>rhs;unfold fieldV
 generalize fieldV nd5 c=res at *;refine triple_of_awp (hT G) hm Tryz.func66 rfl (by decide +kernel) rfl (by decide +kernel) (by show 2≤_;decide +kernel) rfl ?_
 refine awp_seq2 fun K hK hQ=>?_
 conv=>whnf
 intro b2 hb2;conv=>whnf
 intro b3 hb3;conv=>whnf
 refine hK _ _ ?_;clear hK hQ K;have q3:=St.upd_same (S.upd b2 (.obj 51 (rowC c))) b3 (.obj 111 (needAV nd5 79));have q2:((S.upd b2 (.obj 51 (rowC c))).upd b3 (.obj 111 (needAV nd5 79))) b2=some (.obj 51 (rowC c)):=St.up hb3 (St.upd_same S b2 _);have hle:St.le S ((S.upd b2 (.obj 51 (rowC c))).upd b3 (.obj 111 (needAV nd5 79))):=St.le_upd' (St.le_upd' (St.le_refl S) hb2 _) hb3 _;change awp _ _ _ _ ((S.upd b2 (.obj 51 (rowC c))).upd b3 (.obj 111 (needAV nd5 79))) _;generalize ((S.upd b2 (.obj 51 (rowC c))).upd b3 (.obj 111 (needAV nd5 79)))=T at *;refine awp_seq2 fun K hK hQ=>?_
 conv=>whnf
 refine⟨_,_,q2,?_⟩;conv=>whnf
 refine⟨_,_,q2,?_⟩;conv=>whnf
 refine⟨_,_,q2,?_⟩;conv=>whnf
 refine⟨_,_,q2,?_⟩;conv=>whnf
 refine⟨_,_,q2,?_⟩;conv=>whnf
 intro b5 hb5;conv=>whnf
 refine⟨_,_,St.upd_same _ _ _,?_⟩;conv=>whnf
 rw[St.upd_upd];refine hK _ _ ?_;clear hK hQ K;refine awp_seq2 fun K hK hQ=>?_
 conv=>whnf
 refine⟨_,_,St.up hb5 q3,?_⟩;conv=>whnf
 refine hK _ _ ?_;clear hK hQ K;refine awp_seq2 fun K hK hQ=>?_
 conv=>whnf
 refine⟨_,_,St.up hb5 q3,?_⟩;conv=>whnf
 refine hK _ _ ?_;clear hK hQ K;refine awp_seq2 fun K hK hQ=>?_
 conv=>whnf
 refine⟨_,_,St.up hb5 q3,?_⟩;conv=>whnf
 refine hK _ _ ?_;clear hK hQ K;refine awp_seq2 fun K hK hQ=>?_
 conv=>whnf
 refine⟨_,_,St.up hb5 q3,?_⟩;conv=>whnf
 refine hK _ _ ?_;clear hK hQ K;refine awp_seq2 fun K hK hQ=>?_
 conv=>whnf
 refine⟨_,_,St.up hb5 q3,?_⟩;conv=>whnf
 refine⟨_,_,St.upd_same _ _ _,?_⟩;conv=>whnf
 rw[St.upd_upd];refine hK _ _ ?_;clear hK hQ K;refine awp_seq2 fun K hK hQ=>?_
 refine awp_region ?_;refine aOps_cut 3 fun K' hK'=>?_
 conv=>whnf
 refine⟨_,_,St.upd_same _ _ _,?_⟩;conv=>whnf
 refine hK' _ _ ?_;clear hK' K';refine aOps_cut 11 fun K' hK'=>?_
 conv=>whnf
 refine split_of (fun h1=>?_) (fun h1=>?_)
 ·have e1:plainV nd5 c=true:=h1
  conv=>whnf
  refine hK' _ _ ?_;clear hK' K';refine aOps_cut 11 fun K' hK'=>?_
  conv=>whnf
  refine hK' _ _ ?_;clear hK' K';refine aOps_cut 11 fun K' hK'=>?_
  conv=>whnf
  refine hK' _ _ ?_;clear hK' K';refine aOps_cut 11 fun K' hK'=>?_
  conv=>whnf
  refine hK' _ _ ?_;clear hK' K'
  -- hsp,e1 the answer
  conv=>whnf
  refine hK _ _ ?_;clear hK hQ K;conv=>whnf
  exact⟨_,_,⟨congrArg (fun z=>Out.ret (AV.bool z)) (show _=res from Eq.symm (by rw[hsp,e1];rfl)),rfl⟩,St.le_upd' hle hb5 _,AV.leS_refl _ _ _⟩
 have e1:plainV nd5 c=false:=h1
 conv=>whnf
 refine⟨_,_,St.up hb5 q3,?_⟩;conv=>whnf
 refine⟨_,_,St.up hb5 q2,?_⟩;conv=>whnf
 intro _;rw[l1];conv=>whnf
 refine hK' _ _ ?_;clear hK' K';refine aOps_cut 11 fun K' hK'=>?_
 conv=>whnf
 refine split_of (fun h2=>?_) (fun h2=>?_)
 ·have e2:decide ((c.terms.length:Int) > 0)=true:=h2
  conv=>whnf
  refine hK' _ _ ?_;clear hK' K';refine aOps_cut 11 fun K' hK'=>?_
  conv=>whnf
  refine hK' _ _ ?_;clear hK' K';refine aOps_cut 11 fun K' hK'=>?_
  conv=>whnf
  refine hK' _ _ ?_;clear hK' K'
  -- hsp,e1,e2 the answer
  conv=>whnf
  refine hK _ _ ?_;clear hK hQ K;conv=>whnf
  exact⟨_,_,⟨congrArg (fun z=>Out.ret (AV.bool z)) (show _=res from Eq.symm (by rw[hsp,e1,e2];rfl)),rfl⟩,St.le_upd' hle hb5 _,AV.leS_refl _ _ _⟩
 have e2:decide ((c.terms.length:Int) > 0)=false:=h2
 conv=>whnf
 refine⟨_,_,St.up hb5 q3,?_⟩;conv=>whnf
 refine hK' _ _ ?_;clear hK' K';refine aOps_cut 11 fun K' hK'=>?_
 conv=>whnf
 refine⟨_,_,St.up hb5 q3,?_⟩;conv=>whnf
 refine⟨_,_,St.up hb5 q2,?_⟩;conv=>whnf
 intro _;rw[l3];conv=>whnf
 refine hK' _ _ ?_;clear hK' K';refine aOps_cut 11 fun K' hK'=>?_
 conv=>whnf
 refine split_of (fun h3=>?_) (fun h3=>?_)
 ·have e3:decide ((c.table.length:Int) > 0)=true:=h3
  conv=>whnf
  refine hK' _ _ ?_;clear hK' K'
  -- hsp,e1,e2,e3 the answer
  conv=>whnf
  refine hK _ _ ?_;clear hK hQ K;conv=>whnf
  exact⟨_,_,⟨congrArg (fun z=>Out.ret (AV.bool z)) (show _=res from Eq.symm (by rw[hsp,e1,e2,e3];rfl)),rfl⟩,St.le_upd' hle hb5 _,AV.leS_refl _ _ _⟩
 have e3:decide ((c.table.length:Int) > 0)=false:=h3
 conv=>whnf
 refine⟨_,_,St.up hb5 q3,?_⟩;conv=>whnf
 refine⟨_,_,St.up hb5 q2,?_⟩;conv=>whnf
 intro _;rw[l4];conv=>whnf
 refine hK' _ _ ?_;clear hK' K'
 -- hsp,e1,e2,e3 the answer
 conv=>whnf
 refine hK _ _ ?_;clear hK hQ K;conv=>whnf
 exact⟨_,_,⟨congrArg (fun z=>Out.ret (AV.bool z)) (show _=res from Eq.symm (by rw[hsp,e1,e2,e3];rfl)),rfl⟩,St.le_upd' hle hb5 _,AV.leS_refl _ _ _⟩
theorem field7_ok(c:ConV)(S:St):Triple P (C G) 66 [.ag (rowC c),.ag (needAV nd7 81)] S fun o S'=>o=.ret (.bool (fieldV nd7 c))∧S'=S:=by
 have l1:=rowsTm_len c.terms
 have l2:=rowsI_len c.xs
 have l3:=rowsI_len c.table
 have l4:=rowsLL_len c.rows
 have hsp:fieldV nd7 c=fieldV nd7 c:=rfl
 conv at hsp=>rhs;unfold fieldV
 generalize fieldV nd7 c=res at *;refine triple_of_awp (hT G) hm Tryz.func66 rfl (by decide +kernel) rfl (by decide +kernel) (by show 2≤_;decide +kernel) rfl ?_
 refine awp_seq2 fun K hK hQ=>?_
 conv=>whnf
 intro b2 hb2;conv=>whnf
 intro b3 hb3;conv=>whnf
 refine hK _ _ ?_;clear hK hQ K;have q3:=St.upd_same (S.upd b2 (.obj 51 (rowC c))) b3 (.obj 111 (needAV nd7 81));have q2:((S.upd b2 (.obj 51 (rowC c))).upd b3 (.obj 111 (needAV nd7 81))) b2=some (.obj 51 (rowC c)):=St.up hb3 (St.upd_same S b2 _);have hle:St.le S ((S.upd b2 (.obj 51 (rowC c))).upd b3 (.obj 111 (needAV nd7 81))):=St.le_upd' (St.le_upd' (St.le_refl S) hb2 _) hb3 _;change awp _ _ _ _ ((S.upd b2 (.obj 51 (rowC c))).upd b3 (.obj 111 (needAV nd7 81))) _;generalize ((S.upd b2 (.obj 51 (rowC c))).upd b3 (.obj 111 (needAV nd7 81)))=T at *;refine awp_seq2 fun K hK hQ=>?_
 conv=>whnf
 refine⟨_,_,q2,?_⟩;conv=>whnf
 refine⟨_,_,q2,?_⟩;conv=>whnf
 refine⟨_,_,q2,?_⟩;conv=>whnf
 refine⟨_,_,q2,?_⟩;conv=>whnf
 refine⟨_,_,q2,?_⟩;conv=>whnf
 intro b5 hb5;conv=>whnf
 refine⟨_,_,St.upd_same _ _ _,?_⟩;conv=>whnf
 rw[St.upd_upd];refine hK _ _ ?_;clear hK hQ K;refine awp_seq2 fun K hK hQ=>?_
 conv=>whnf
 refine⟨_,_,St.up hb5 q3,?_⟩;conv=>whnf
 refine hK _ _ ?_;clear hK hQ K;refine awp_seq2 fun K hK hQ=>?_
 conv=>whnf
 refine⟨_,_,St.up hb5 q3,?_⟩;conv=>whnf
 refine hK _ _ ?_;clear hK hQ K;refine awp_seq2 fun K hK hQ=>?_
 conv=>whnf
 refine⟨_,_,St.up hb5 q3,?_⟩;conv=>whnf
 refine⟨_,_,St.upd_same _ _ _,?_⟩;conv=>whnf
 rw[St.upd_upd];refine hK _ _ ?_;clear hK hQ K;refine awp_seq2 fun K hK hQ=>?_
 conv=>whnf
 refine⟨_,_,St.up hb5 q3,?_⟩;conv=>whnf
 refine⟨_,_,St.upd_same _ _ _,?_⟩;conv=>whnf
 rw[St.upd_upd];refine hK _ _ ?_;clear hK hQ K;refine awp_seq2 fun K hK hQ=>?_
 conv=>whnf
 refine⟨_,_,St.up hb5 q3,?_⟩;conv=>whnf
 refine hK _ _ ?_;clear hK hQ K;refine awp_seq2 fun K hK hQ=>?_
 refine awp_region ?_;refine aOps_cut 3 fun K' hK'=>?_
 conv=>whnf
 refine⟨_,_,St.upd_same _ _ _,?_⟩;conv=>whnf
 refine hK' _ _ ?_;clear hK' K';refine aOps_cut 11 fun K' hK'=>?_
 conv=>whnf
 refine split_of (fun h1=>?_) (fun h1=>?_)
 ·have e1:plainV nd7 c=true:=h1
  conv=>whnf
  refine hK' _ _ ?_;clear hK' K';refine aOps_cut 11 fun K' hK'=>?_
  conv=>whnf
  refine hK' _ _ ?_;clear hK' K';refine aOps_cut 11 fun K' hK'=>?_
  conv=>whnf
  refine hK' _ _ ?_;clear hK' K';refine aOps_cut 11 fun K' hK'=>?_
  conv=>whnf
  refine hK' _ _ ?_;clear hK' K'
  -- hsp,e1 the answer
  conv=>whnf
  refine hK _ _ ?_;clear hK hQ K;conv=>whnf
  exact⟨_,_,⟨congrArg (fun z=>Out.ret (AV.bool z)) (show _=res from Eq.symm (by rw[hsp,e1];rfl)),rfl⟩,St.le_upd' hle hb5 _,AV.leS_refl _ _ _⟩
 have e1:plainV nd7 c=false:=h1
 conv=>whnf
 refine⟨_,_,St.up hb5 q3,?_⟩;conv=>whnf
 refine hK' _ _ ?_;clear hK' K';refine aOps_cut 11 fun K' hK'=>?_
 conv=>whnf
 refine⟨_,_,St.up hb5 q3,?_⟩;conv=>whnf
 refine⟨_,_,St.up hb5 q2,?_⟩;conv=>whnf
 intro _;rw[l2];conv=>whnf
 refine hK' _ _ ?_;clear hK' K';refine aOps_cut 11 fun K' hK'=>?_
 conv=>whnf
 refine split_of (fun h2=>?_) (fun h2=>?_)
 ·have e2:decide ((c.xs.length:Int) > 0)=true:=h2
  conv=>whnf
  refine hK' _ _ ?_;clear hK' K';refine aOps_cut 11 fun K' hK'=>?_
  conv=>whnf
  refine hK' _ _ ?_;clear hK' K'
  -- hsp,e1,e2 the answer
  conv=>whnf
  refine hK _ _ ?_;clear hK hQ K;conv=>whnf
  exact⟨_,_,⟨congrArg (fun z=>Out.ret (AV.bool z)) (show _=res from Eq.symm (by rw[hsp,e1,e2];rfl)),rfl⟩,St.le_upd' hle hb5 _,AV.leS_refl _ _ _⟩
 have e2:decide ((c.xs.length:Int) > 0)=false:=h2
 conv=>whnf
 refine⟨_,_,St.up hb5 q3,?_⟩;conv=>whnf
 refine⟨_,_,St.up hb5 q2,?_⟩;conv=>whnf
 intro _;rw[l3];conv=>whnf
 refine hK' _ _ ?_;clear hK' K';refine aOps_cut 11 fun K' hK'=>?_
 conv=>whnf
 refine split_of (fun h3=>?_) (fun h3=>?_)
 ·have e3:decide ((c.table.length:Int) > 0)=true:=h3
  conv=>whnf
  refine hK' _ _ ?_;clear hK' K'
  -- hsp,e1,e2,e3 the answer
  conv=>whnf
  refine hK _ _ ?_;clear hK hQ K;conv=>whnf
  exact⟨_,_,⟨congrArg (fun z=>Out.ret (AV.bool z)) (show _=res from Eq.symm (by rw[hsp,e1,e2,e3];rfl)),rfl⟩,St.le_upd' hle hb5 _,AV.leS_refl _ _ _⟩
 have e3:decide ((c.table.length:Int) > 0)=false:=h3
 conv=>whnf
 refine⟨_,_,St.up hb5 q3,?_⟩;conv=>whnf
 refine⟨_,_,St.up hb5 q2,?_⟩;conv=>whnf
 intro _;rw[l4];conv=>whnf
 refine hK' _ _ ?_;clear hK' K'
 -- hsp,e1,e2,e3 the answer
 conv=>whnf
 refine hK _ _ ?_;clear hK hQ K;conv=>whnf
 exact⟨_,_,⟨congrArg (fun z=>Out.ret (AV.bool z)) (show _=res from Eq.symm (by rw[hsp,e1,e2,e3];rfl)),rfl⟩,St.le_upd' hle hb5 _,AV.leS_refl _ _ _⟩
theorem field8_ok(c:ConV)(S:St):Triple P (C G) 66 [.ag (rowC c),.ag (needAV nd8 82)] S fun o S'=>o=.ret (.bool (fieldV nd8 c))∧S'=S:=by
 have l1:=rowsTm_len c.terms
 have l2:=rowsI_len c.xs
 have l3:=rowsI_len c.table
 have l4:=rowsLL_len c.rows
 have hsp:fieldV nd8 c=fieldV nd8 c:=rfl
 conv at hsp=>rhs;unfold fieldV
 generalize fieldV nd8 c=res at *;refine triple_of_awp (hT G) hm Tryz.func66 rfl (by decide +kernel) rfl (by decide +kernel) (by show 2≤_;decide +kernel) rfl ?_
 refine awp_seq2 fun K hK hQ=>?_
 conv=>whnf
 intro b2 hb2;conv=>whnf
 intro b3 hb3;conv=>whnf
 refine hK _ _ ?_;clear hK hQ K;have q3:=St.upd_same (S.upd b2 (.obj 51 (rowC c))) b3 (.obj 111 (needAV nd8 82));have q2:((S.upd b2 (.obj 51 (rowC c))).upd b3 (.obj 111 (needAV nd8 82))) b2=some (.obj 51 (rowC c)):=St.up hb3 (St.upd_same S b2 _);have hle:St.le S ((S.upd b2 (.obj 51 (rowC c))).upd b3 (.obj 111 (needAV nd8 82))):=St.le_upd' (St.le_upd' (St.le_refl S) hb2 _) hb3 _;change awp _ _ _ _ ((S.upd b2 (.obj 51 (rowC c))).upd b3 (.obj 111 (needAV nd8 82))) _;generalize ((S.upd b2 (.obj 51 (rowC c))).upd b3 (.obj 111 (needAV nd8 82)))=T at *;refine awp_seq2 fun K hK hQ=>?_
 conv=>whnf
 refine⟨_,_,q2,?_⟩;conv=>whnf
 refine⟨_,_,q2,?_⟩;conv=>whnf
 refine⟨_,_,q2,?_⟩;conv=>whnf
 refine⟨_,_,q2,?_⟩;conv=>whnf
 refine⟨_,_,q2,?_⟩;conv=>whnf
 intro b5 hb5;conv=>whnf
 refine⟨_,_,St.upd_same _ _ _,?_⟩;conv=>whnf
 rw[St.upd_upd];refine hK _ _ ?_;clear hK hQ K;refine awp_seq2 fun K hK hQ=>?_
 conv=>whnf
 refine⟨_,_,St.up hb5 q3,?_⟩;conv=>whnf
 refine hK _ _ ?_;clear hK hQ K;refine awp_seq2 fun K hK hQ=>?_
 conv=>whnf
 refine⟨_,_,St.up hb5 q3,?_⟩;conv=>whnf
 refine hK _ _ ?_;clear hK hQ K;refine awp_seq2 fun K hK hQ=>?_
 conv=>whnf
 refine⟨_,_,St.up hb5 q3,?_⟩;conv=>whnf
 refine hK _ _ ?_;clear hK hQ K;refine awp_seq2 fun K hK hQ=>?_
 conv=>whnf
 refine⟨_,_,St.up hb5 q3,?_⟩;conv=>whnf
 refine hK _ _ ?_;clear hK hQ K;refine awp_seq2 fun K hK hQ=>?_
 conv=>whnf
 refine⟨_,_,St.up hb5 q3,?_⟩;conv=>whnf
 refine hK _ _ ?_;clear hK hQ K;refine awp_seq2 fun K hK hQ=>?_
 refine awp_region ?_;refine aOps_cut 3 fun K' hK'=>?_
 conv=>whnf
 refine⟨_,_,St.upd_same _ _ _,?_⟩;conv=>whnf
 refine hK' _ _ ?_;clear hK' K';refine aOps_cut 11 fun K' hK'=>?_
 conv=>whnf
 refine split_of (fun h1=>?_) (fun h1=>?_)
 ·have e1:plainV nd8 c=true:=h1
  conv=>whnf
  refine hK' _ _ ?_;clear hK' K';refine aOps_cut 11 fun K' hK'=>?_
  conv=>whnf
  refine hK' _ _ ?_;clear hK' K';refine aOps_cut 11 fun K' hK'=>?_
  conv=>whnf
  refine hK' _ _ ?_;clear hK' K';refine aOps_cut 11 fun K' hK'=>?_
  conv=>whnf
  refine hK' _ _ ?_;clear hK' K'
  -- hsp,e1 the answer
  conv=>whnf
  refine hK _ _ ?_;clear hK hQ K;conv=>whnf
  exact⟨_,_,⟨congrArg (fun z=>Out.ret (AV.bool z)) (show _=res from Eq.symm (by rw[hsp,e1];rfl)),rfl⟩,St.le_upd' hle hb5 _,AV.leS_refl _ _ _⟩
 have e1:plainV nd8 c=false:=h1
 conv=>whnf
 refine⟨_,_,St.up hb5 q3,?_⟩;conv=>whnf
 refine⟨_,_,St.up hb5 q2,?_⟩;conv=>whnf
 intro _;rw[l1];conv=>whnf
 refine hK' _ _ ?_;clear hK' K';refine aOps_cut 11 fun K' hK'=>?_
 conv=>whnf
 refine split_of (fun h2=>?_) (fun h2=>?_)
 ·have e2:decide ((c.terms.length:Int) > 0)=true:=h2
  conv=>whnf
  refine hK' _ _ ?_;clear hK' K';refine aOps_cut 11 fun K' hK'=>?_
  conv=>whnf
  refine hK' _ _ ?_;clear hK' K';refine aOps_cut 11 fun K' hK'=>?_
  conv=>whnf
  refine hK' _ _ ?_;clear hK' K'
  -- hsp,e1,e2 the answer
  conv=>whnf
  refine hK _ _ ?_;clear hK hQ K;conv=>whnf
  exact⟨_,_,⟨congrArg (fun z=>Out.ret (AV.bool z)) (show _=res from Eq.symm (by rw[hsp,e1,e2];rfl)),rfl⟩,St.le_upd' hle hb5 _,AV.leS_refl _ _ _⟩
 have e2:decide ((c.terms.length:Int) > 0)=false:=h2
 conv=>whnf
 refine⟨_,_,St.up hb5 q3,?_⟩;conv=>whnf
 refine hK' _ _ ?_;clear hK' K';refine aOps_cut 11 fun K' hK'=>?_
 conv=>whnf
 refine⟨_,_,St.up hb5 q3,?_⟩;conv=>whnf
 refine⟨_,_,St.up hb5 q2,?_⟩;conv=>whnf
 intro _;rw[l3];conv=>whnf
 refine hK' _ _ ?_;clear hK' K';refine aOps_cut 11 fun K' hK'=>?_
 conv=>whnf
 refine split_of (fun h3=>?_) (fun h3=>?_)
 ·have e3:decide ((c.table.length:Int) > 0)=true:=h3
  conv=>whnf
  refine hK' _ _ ?_;clear hK' K'
  -- hsp,e1,e2,e3 the answer
  conv=>whnf
  refine hK _ _ ?_;clear hK hQ K;conv=>whnf
  exact⟨_,_,⟨congrArg (fun z=>Out.ret (AV.bool z)) (show _=res from Eq.symm (by rw[hsp,e1,e2,e3];rfl)),rfl⟩,St.le_upd' hle hb5 _,AV.leS_refl _ _ _⟩
 have e3:decide ((c.table.length:Int) > 0)=false:=h3
 conv=>whnf
 refine⟨_,_,St.up hb5 q3,?_⟩;conv=>whnf
 refine hK' _ _ ?_;clear hK' K'
 -- hsp,e1,e2,e3 the answer
 conv=>whnf
 refine hK _ _ ?_;clear hK hQ K;conv=>whnf
 exact⟨_,_,⟨congrArg (fun z=>Out.ret (AV.bool z)) (show _=res from Eq.symm (by rw[hsp,e1,e2,e3];rfl)),rfl⟩,St.le_upd' hle hb5 _,AV.leS_refl _ _ _⟩
theorem field9_ok(c:ConV)(S:St):Triple P (C G) 66 [.ag (rowC c),.ag (needAV nd9 83)] S fun o S'=>o=.ret (.bool (fieldV nd9 c))∧S'=S:=by
 have l1:=rowsTm_len c.terms
 have l2:=rowsI_len c.xs
 have l3:=rowsI_len c.table
 have l4:=rowsLL_len c.rows
 have hsp:fieldV nd9 c=fieldV nd9 c:=rfl
 conv at hsp=>rhs;unfold fieldV
 generalize fieldV nd9 c=res at *;refine triple_of_awp (hT G) hm Tryz.func66 rfl (by decide +kernel) rfl (by decide +kernel) (by show 2≤_;decide +kernel) rfl ?_
 refine awp_seq2 fun K hK hQ=>?_
 conv=>whnf
 intro b2 hb2;conv=>whnf
 intro b3 hb3;conv=>whnf
 refine hK _ _ ?_;clear hK hQ K;have q3:=St.upd_same (S.upd b2 (.obj 51 (rowC c))) b3 (.obj 111 (needAV nd9 83));have q2:((S.upd b2 (.obj 51 (rowC c))).upd b3 (.obj 111 (needAV nd9 83))) b2=some (.obj 51 (rowC c)):=St.up hb3 (St.upd_same S b2 _);have hle:St.le S ((S.upd b2 (.obj 51 (rowC c))).upd b3 (.obj 111 (needAV nd9 83))):=St.le_upd' (St.le_upd' (St.le_refl S) hb2 _) hb3 _;change awp _ _ _ _ ((S.upd b2 (.obj 51 (rowC c))).upd b3 (.obj 111 (needAV nd9 83))) _;generalize ((S.upd b2 (.obj 51 (rowC c))).upd b3 (.obj 111 (needAV nd9 83)))=T at *;refine awp_seq2 fun K hK hQ=>?_
 conv=>whnf
 refine⟨_,_,q2,?_⟩;conv=>whnf
 refine⟨_,_,q2,?_⟩;conv=>whnf
 refine⟨_,_,q2,?_⟩;conv=>whnf
 refine⟨_,_,q2,?_⟩;conv=>whnf
 refine⟨_,_,q2,?_⟩;conv=>whnf
 intro b5 hb5;conv=>whnf
 refine⟨_,_,St.upd_same _ _ _,?_⟩;conv=>whnf
 rw[St.upd_upd];refine hK _ _ ?_;clear hK hQ K;refine awp_seq2 fun K hK hQ=>?_
 conv=>whnf
 refine⟨_,_,St.up hb5 q3,?_⟩;conv=>whnf
 refine⟨_,_,St.upd_same _ _ _,?_⟩;conv=>whnf
 rw[St.upd_upd];refine hK _ _ ?_;clear hK hQ K;refine awp_seq2 fun K hK hQ=>?_
 conv=>whnf
 refine⟨_,_,St.up hb5 q3,?_⟩;conv=>whnf
 refine⟨_,_,St.upd_same _ _ _,?_⟩;conv=>whnf
 rw[St.upd_upd];refine hK _ _ ?_;clear hK hQ K;refine awp_seq2 fun K hK hQ=>?_
 conv=>whnf
 refine⟨_,_,St.up hb5 q3,?_⟩;conv=>whnf
 refine⟨_,_,St.upd_same _ _ _,?_⟩;conv=>whnf
 rw[St.upd_upd];refine hK _ _ ?_;clear hK hQ K;refine awp_seq2 fun K hK hQ=>?_
 conv=>whnf
 refine⟨_,_,St.up hb5 q3,?_⟩;conv=>whnf
 refine hK _ _ ?_;clear hK hQ K;refine awp_seq2 fun K hK hQ=>?_
 conv=>whnf
 refine⟨_,_,St.up hb5 q3,?_⟩;conv=>whnf
 refine hK _ _ ?_;clear hK hQ K;refine awp_seq2 fun K hK hQ=>?_
 refine awp_region ?_;refine aOps_cut 3 fun K' hK'=>?_
 conv=>whnf
 refine⟨_,_,St.upd_same _ _ _,?_⟩;conv=>whnf
 refine hK' _ _ ?_;clear hK' K';refine aOps_cut 11 fun K' hK'=>?_
 conv=>whnf
 refine split_of (fun h1=>?_) (fun h1=>?_)
 ·have e1:plainV nd9 c=true:=h1
  conv=>whnf
  refine hK' _ _ ?_;clear hK' K';refine aOps_cut 11 fun K' hK'=>?_
  conv=>whnf
  refine hK' _ _ ?_;clear hK' K';refine aOps_cut 11 fun K' hK'=>?_
  conv=>whnf
  refine hK' _ _ ?_;clear hK' K';refine aOps_cut 11 fun K' hK'=>?_
  conv=>whnf
  refine hK' _ _ ?_;clear hK' K'
  -- hsp,e1 the answer
  conv=>whnf
  refine hK _ _ ?_;clear hK hQ K;conv=>whnf
  exact⟨_,_,⟨congrArg (fun z=>Out.ret (AV.bool z)) (show _=res from Eq.symm (by rw[hsp,e1];rfl)),rfl⟩,St.le_upd' hle hb5 _,AV.leS_refl _ _ _⟩
 have e1:plainV nd9 c=false:=h1
 conv=>whnf
 refine⟨_,_,St.up hb5 q3,?_⟩;conv=>whnf
 refine⟨_,_,St.up hb5 q2,?_⟩;conv=>whnf
 intro _;rw[l1];conv=>whnf
 refine hK' _ _ ?_;clear hK' K';refine aOps_cut 11 fun K' hK'=>?_
 conv=>whnf
 refine split_of (fun h2=>?_) (fun h2=>?_)
 ·have e2:decide ((c.terms.length:Int) > 0)=true:=h2
  conv=>whnf
  refine hK' _ _ ?_;clear hK' K';refine aOps_cut 11 fun K' hK'=>?_
  conv=>whnf
  refine hK' _ _ ?_;clear hK' K';refine aOps_cut 11 fun K' hK'=>?_
  conv=>whnf
  refine hK' _ _ ?_;clear hK' K'
  -- hsp,e1,e2 the answer
  conv=>whnf
  refine hK _ _ ?_;clear hK hQ K;conv=>whnf
  exact⟨_,_,⟨congrArg (fun z=>Out.ret (AV.bool z)) (show _=res from Eq.symm (by rw[hsp,e1,e2];rfl)),rfl⟩,St.le_upd' hle hb5 _,AV.leS_refl _ _ _⟩
 have e2:decide ((c.terms.length:Int) > 0)=false:=h2
 conv=>whnf
 refine⟨_,_,St.up hb5 q3,?_⟩;conv=>whnf
 refine hK' _ _ ?_;clear hK' K';refine aOps_cut 11 fun K' hK'=>?_
 conv=>whnf
 refine⟨_,_,St.up hb5 q3,?_⟩;conv=>whnf
 refine⟨_,_,St.up hb5 q2,?_⟩;conv=>whnf
 intro _;rw[l3];conv=>whnf
 refine hK' _ _ ?_;clear hK' K';refine aOps_cut 11 fun K' hK'=>?_
 conv=>whnf
 refine split_of (fun h3=>?_) (fun h3=>?_)
 ·have e3:decide ((c.table.length:Int) > 0)=true:=h3
  conv=>whnf
  refine hK' _ _ ?_;clear hK' K'
  -- hsp,e1,e2,e3 the answer
  conv=>whnf
  refine hK _ _ ?_;clear hK hQ K;conv=>whnf
  exact⟨_,_,⟨congrArg (fun z=>Out.ret (AV.bool z)) (show _=res from Eq.symm (by rw[hsp,e1,e2,e3];rfl)),rfl⟩,St.le_upd' hle hb5 _,AV.leS_refl _ _ _⟩
 have e3:decide ((c.table.length:Int) > 0)=false:=h3
 conv=>whnf
 refine⟨_,_,St.up hb5 q3,?_⟩;conv=>whnf
 refine⟨_,_,St.up hb5 q2,?_⟩;conv=>whnf
 intro _;rw[l4];conv=>whnf
 refine hK' _ _ ?_;clear hK' K'
 -- hsp,e1,e2,e3 the answer
 conv=>whnf
 refine hK _ _ ?_;clear hK hQ K;conv=>whnf
 exact⟨_,_,⟨congrArg (fun z=>Out.ret (AV.bool z)) (show _=res from Eq.symm (by rw[hsp,e1,e2,e3];rfl)),rfl⟩,St.le_upd' hle hb5 _,AV.leS_refl _ _ _⟩
theorem wide1_ok(r:List Int)(c:ConV){S:St}{b:Nat}(h:S b=some (.obj 51 (rowC c))):Triple P (C G) 104 [.sl .any 1 (rowsI r),.ref b 0] S fun o S'=>o=.ret (.bool ((r.length:Int) != (c.xs.length:Int)))∧S'=S:=by
 have l1:=rowsI_len r
 have l2:=rowsI_len c.xs
 refine triple_of_awp (hT G) hm Tryz.func104 rfl (by decide +kernel) rfl (by decide +kernel) (by show 2≤_;decide +kernel) rfl ?_
 conv=>whnf
 intro _;rw[l1];conv=>whnf
 refine⟨_,_,h,?_⟩;conv=>whnf
 intro _;rw[l2];conv=>whnf
 exact⟨_,_,⟨rfl,rfl⟩,St.le_refl _,AV.leS_refl _ _ _⟩
def wideV(n:NeedsV)(c:ConV):Bool:=n.rows && (decide ((c.xs.length:Int) > 8) || (!countsV true c.rows.length || c.rows.any fun r=>(r.length:Int) != (c.xs.length:Int)))
theorem wide_ok(n:NeedsV)(h:FuncId)(c:ConV)(hz:c.rows.length+1≤9223372036854775807)(S:St):Triple P (C G) 68 [.ag (rowC c),.ag (needAV n h)] S fun o S'=>o=.ret (.bool (wideV n c))∧S'=S:=by
 have l2:=rowsI_len c.xs
 have l4:=rowsLL_len c.rows
 have hco:=fun b n S=>counts_ok (G:=G) b n S
 obtain⟨n1,n2,n3,n4,n5,n6,n7,n8,n9⟩:=n;have hsp:wideV ⟨n1,n2,n3,n4,n5,n6,n7,n8,n9⟩ c=(n4 && (decide ((c.xs.length:Int) > 8) || (!countsV true c.rows.length || c.rows.any fun r=>(r.length:Int) != (c.xs.length:Int)))):=rfl
 generalize wideV ⟨n1,n2,n3,n4,n5,n6,n7,n8,n9⟩ c=res at *;unfold needAV;dsimp only;refine triple_of_awp (hT G) hm Tryz.func68 rfl (by decide +kernel) rfl (by decide +kernel) (by show 2≤_;decide +kernel) rfl ?_
 refine awp_seq2 fun K hK hQ=>?_
 conv=>whnf
 intro b2 hb2;conv=>whnf
 intro b3 hb3;conv=>whnf
 refine hK _ _ ?_;clear hK hQ K;have q3:=St.upd_same (S.upd b2 (.obj 51 (rowC c))) b3 (.obj 111 [.bool n1,.bool n2,.bool n3,.bool n4,.bool n5,.bool n6,.bool n7,.bool n8,.bool n9,.fn (.func h) [] []]);have q2:((S.upd b2 (.obj 51 (rowC c))).upd b3 (.obj 111 [.bool n1,.bool n2,.bool n3,.bool n4,.bool n5,.bool n6,.bool n7,.bool n8,.bool n9,.fn (.func h) [] []])) b2=some (.obj 51 (rowC c)):=St.up hb3 (St.upd_same S b2 _);have hle:St.le S ((S.upd b2 (.obj 51 (rowC c))).upd b3 (.obj 111 [.bool n1,.bool n2,.bool n3,.bool n4,.bool n5,.bool n6,.bool n7,.bool n8,.bool n9,.fn (.func h) [] []])):=St.le_upd' (St.le_upd' (St.le_refl S) hb2 _) hb3 _;change awp _ _ _ _ ((S.upd b2 (.obj 51 (rowC c))).upd b3 (.obj 111 [.bool n1,.bool n2,.bool n3,.bool n4,.bool n5,.bool n6,.bool n7,.bool n8,.bool n9,.fn (.func h) [] []])) _;generalize (S.upd b2 (.obj 51 (rowC c))).upd b3 (.obj 111 [.bool n1,.bool n2,.bool n3,.bool n4,.bool n5,.bool n6,.bool n7,.bool n8,.bool n9,.fn (.func h) [] []])=T at *
 cases n4 with
 | false=>
   refine awp_seq2 fun K hK hQ=>?_
   refine awp_region ?_;refine aOps_cut 3 fun K' hK'=>?_
   conv=>whnf
   refine⟨_,_,q3,?_⟩;conv=>whnf
   refine hK' _ _ ?_;clear hK' K';refine aOps_cut 6 fun K' hK'=>?_
   conv=>whnf
   refine hK' _ _ ?_;clear hK' K';refine aOps_cut 6 fun K' hK'=>?_
   conv=>whnf
   refine hK' _ _ ?_;clear hK' K';conv=>whnf
   refine hK _ _ ?_;clear hK hQ K;conv=>whnf
   exact⟨_,_,⟨by rw[hsp];rfl,rfl⟩,hle,AV.leS_refl _ _ _⟩
 | true=>
   refine awp_seq2 fun K hK hQ=>?_
   refine awp_region ?_;refine aOps_cut 7 fun K' hK'=>?_
   conv=>whnf
   refine⟨_,_,q3,?_⟩;conv=>whnf
   refine⟨_,_,q2,?_⟩;conv=>whnf
   intro _;rw[l2];conv=>whnf
   refine hK' _ _ ?_;clear hK' K';refine aOps_cut 7 fun K' hK'=>?_
   conv=>whnf
   refine split_of (fun h1=>?_) (fun h1=>?_)
   ·rw[h1] at hsp;conv=>whnf
    refine hK' _ _ ?_;clear hK' K';conv=>whnf
    refine hK _ _ ?_;clear hK hQ K;conv=>whnf
    exact⟨_,_,⟨by rw[hsp];rfl,rfl⟩,hle,AV.leS_refl _ _ _⟩
   rw[h1] at hsp;conv=>whnf
   refine⟨_,_,q2,?_⟩;conv=>whnf
   intro _;rw[l4];conv=>whnf
   refine(hco _ _ _).mono ?_;rintro o T' ⟨rfl,rfl⟩;conv=>whnf
   refine hK' _ _ ?_;clear hK' K';conv=>whnf
   refine split_of (fun h2=>?_) (fun h2=>?_)
   ·rw[h2] at hsp;conv=>whnf
    refine hK _ _ ?_;clear hK hQ K;conv=>whnf
    exact⟨_,_,⟨by rw[hsp];rfl,rfl⟩,hle,AV.leS_refl _ _ _⟩
   rw[h2] at hsp;conv=>whnf
   refine⟨_,_,q2,?_⟩;conv=>whnf
   refine(ContainsL_ok (G:=G) (xs:=c.rows) hz fun r _=>wide1_ok r c q2).mono ?_
   rintro o T'' ⟨rfl,rfl⟩;conv=>whnf
   refine hK _ _ ?_;clear hK hQ K;conv=>whnf
   exact⟨_,_,⟨by rw[hsp];rfl,rfl⟩,hle,AV.leS_refl _ _ _⟩
def noV(vars x:Int):Bool:=decide (x<0) || decide (x ≥ vars)
def needTab:List (Int×NeedsV×FuncId):=[(1,nd1,72),(2,nd2,73),(3,nd3,74),(4,nd4,75),(5,nd5,76),(6,nd5,79),(7,nd7,81),(8,nd8,82),(9,nd9,83)]
theorem aFindK_tab{k:Int}{K:AV→Prop}{Kn:Prop}:∀ (l:List (Int×NeedsV×FuncId)),(∀ e∈l,k=e.1→K (.ag (needAV e.2.1 e.2.2)))→((∀ e∈l,k≠e.1)→Kn)→aFindK (.int .i64 k) (l.map fun e=>(AV.int .i64 e.1,AV.ag (needAV e.2.1 e.2.2))) K Kn
 | [],h,hn=>hn fun e he=>by cases he
 | e::l,h,hn=>by
   show split (decide (k=e.1)) _ _
   refine split_of (fun h1=>h e (List.mem_cons_self ..) (of_decide_eq_true h1)) (fun h1=>aFindK_tab l (fun x hx=>h x (List.mem_cons_of_mem _ hx)) fun hx=>hn fun x hm=>?_)
   rcases List.mem_cons.1 hm with rfl | hm
   ·exact of_decide_eq_false h1
   ·exact hx x hm
theorem kinds_find{k:Int}{K:AV→Prop}{Kn:Prop}(h:∀ e∈needTab,k=e.1→K (.ag (needAV e.2.1 e.2.2)))(hn:(∀ e∈needTab,k≠e.1)→Kn):aFindK (.int .i64 k) kindsL K Kn:=aFindK_tab needTab h hn
end Go.Proofs.YtjpboanohpaibaaGreatDoor.Aw
