/- The statement AuditTrue: for every argument hallmark's hallmarklaw21.AuditTrue returns true, and its arguments read as t -/
import Derived.Test.YtjpboanohpaibaaGreatDoorPat21
import Derived.Test.YtjpboanohpaibaaGreatDoorPat20
import Derived.Test.YtjpboanohpaibaaGreatDoorCards
import Derived.Test.YtjpboanohpaibaaGreatDoorTie
import Derived.ProofKit
import Derived.OpenShut
import Derived.Lay
import Derived.SevenTiedAt
set_option linter.all false
set_option maxRecDepth 100000
namespace Go.Proofs.YtjpboanohpaibaaGreatDoor
namespace Aw
open Go
theorem GL_ml(m:Int)(e1 e2:AV):GL m e1 e2 1=some [.int .i64 m]:=rfl
theorem GL_gs(m:Int){e1 e2:AV}(h1:ErrAV e1)(h2:ErrAV e2):GS (GL m e1 e2):=⟨rfl,by
 rcases h1 with rfl | ⟨te,rfl⟩
 ·exact .inl rfl
 ·exact .inr ⟨te,rfl⟩,by
 rcases h2 with rfl | ⟨te,rfl⟩
 ·exact .inl rfl
 ·exact .inr ⟨te,rfl⟩⟩
theorem Goes.calls{P : Program}{f : FuncId}{fn : Func}{c : Go.Code}{vs : Array Value}{w : World}{R : Ending → World → Prop}(h : Goes P f vs w R)(hf : P.funcs[f]? = some fn)(hb : fn.body = some c)(hname : (fn.name == "runtime.NumGoroutine") = false) : Calls P f vs w R := by
 rcases h with ⟨_,h⟩ | ⟨v,w',h,_⟩
 ·exact h
 · have hno : ¬ fn.name = "runtime.NumGoroutine" := by simpa using hname
   have:(callFunc f vs).run P w=.ok (.enter f vs) w:=by simp[callFunc,hf,hno,hb]
   rw[this] at h
   cases h
theorem GL_as(m:Int)(e1 e2:AV):GAs (GL m e1 e2):=rfl
end Aw
open Go Go.ChangeShapes Go.WideShapes Go.ChangeAt Go.RowKit Go.ChangeMaps
theorem laidOut:laidOutB Tryz.prog=true:=by kernel_rfl
theorem own:ownKnob Tryz.prog.godebug=none:=by kernel_rfl
theorem lifted(os:Os)(started:os.Started)(H:Type)(enc:TypeId×Value→H) :
 ReturnsInHanded {} Tryz.checked os 3 .any (fun w args=>(Rows.auditTrueSpec.pre enc Tryz.prog Tryz.f3 Rows.auditTrueRow.domain false w args∧laidMetH Tryz.prog Rows.auditTrueRow.laid w)∧sizedMet enc Tryz.prog Tryz.f3 (OpenSpec.ofChange Rows.auditTrueSpec) false w args)
  (Rows.auditTrueSpec.post enc Tryz.prog Tryz.f3 false true false false):=by
 refine Aw.returns_and_shaped (C:=Tryz.checked) (X:=fun w _=>laidMetH Tryz.prog Rows.auditTrueRow.laid w) (fun _ _ _ hh h=>h.of_heap hh) own started (by kernel_rfl) Tryz.func3
  (ChangeSpec.witness_shaped (enc:=enc) (C:=Tryz.checked) (os:=os) (X:=fun w _=>laidMetH Tryz.prog Rows.auditTrueRow.laid w) false (Aw.wit os Rows.auditTrueRow.laid) #[.agg #[.slice none 0 0,.slice none 0 0,.bool false,.slice none 0 0],.slice none 0 0] 8 (Aw.wit_os _ _)
    (World.shaped_of_ZipB (by kernel_rfl) (by kernel_rfl)) (by kernel_rfl) (by kernel_rfl) (by kernel_rfl)
    (Aw.wit_met _ (by kernel_rfl) (by kernel_rfl) (by kernel_rfl))) ?_
 intro W base args ds gs before hval0 hW hc hwt0 hL hsh;have hval:∀ (j:Nat) t v,Tryz.f3.params[j]? = some t→args[j]? = some v→Value.okWide Tryz.prog W .any base t v:=hval0;have hW':=hW;obtain⟨p,q,hA0,hV,rfl,_,_⟩:=hW;have hA:DataW.TrodAll enc Tryz.prog W 0 (fun _=>true) true Tryz.f3.params.toList args.toList ds p:=hA0
 have hwt:∀ n∈DataW.weightsEach Tryz.prog (Tryz.f3.params.toList++Rows.auditTrueSpec.plain.varTypes Tryz.prog) (ds++gs),n≤reachBytes:=fun n hn=>by simpa using List.all_eq_true.1 hwt0 n hn
 rw[Tryz.params3] at hA hval hwt;obtain⟨v0,v1,d0,d1,p0,p1,hargs,rfl,rfl,h0,h1⟩:=trodAll_two hA;obtain⟨rfl,rfl⟩:=trodVars_none hV;subst hargs;have hlt:=hA.lt;obtain⟨x0,hrel0,hq0⟩:=Aw.open_model (hval 0 26 v0 rfl rfl) h0 (fun n hn=>hwt n (DataW.weights_mem_each (j:=0) (t:=26) rfl rfl n hn))
 obtain⟨x1,hrel1,hq1⟩:=Aw.open_ints (hval 1 27 v1 rfl rfl) h1 (fun n hn=>hwt n (DataW.weights_mem_each (j:=1) (t:=27) rfl rfl n hn))
 obtain⟨m,e1,e2,he1,he2,hgood⟩:=Aw.good_enter (laid:=Rows.auditTrueRow.laid) hsh hL (.tail _ (.tail _ (.head _)))
  ⟨_,_,(.tail _ (.tail _ (.tail _ (.tail _ (.tail _ (.tail _ (.head _))))))),rfl⟩ ⟨_,_,(.tail _ (.tail _ (.tail _ (.tail _ (.tail _ (.head _)))))),rfl⟩ (.tail _ (.tail _ (.tail _ (.tail _ (.head _)))))
 simp only[List.append_nil] at hW';refine(((Aw.lawTrue21_ok (Aw.GL_ml m e1 e2) (Aw.GL_gs m he1 he2) (Aw.GL_as m e1 e2) x0 x1 hq0 hq1 Aw.St.emp).out W #[v0,v1] (Aw.YOk.none rfl _ _) hgood (by simp only[Aw.RelL];exact⟨_,_,rfl,hrel0,_,_,rfl,hrel1,rfl⟩)).calls Tryz.func3 rfl (by decide +kernel)).mono fun e W' ⟨o,S',ho,hg',hadv,e1,e2⟩=>?_
 subst e1;subst e2
 cases e with
 | returned v=>
   simp only[Aw.OutRel,Aw.Rel] at ho;subst ho;have hb:=Aw.Adv.below hadv;exact⟨_,rfl,_,_,_,[],_,[],hW',trodAll_mk1 (shut_bool Tryz.underlying4 _),trodAll_mk2 (Below.trod laidOut (by kernel_rfl) (of_decide_eq_true (by kernel_rfl)) h0 hb (fun x hx=>hlt x (by first | (simpa using hx) | (simp[hx])))) (Below.trod laidOut (by kernel_rfl) (of_decide_eq_true (by kernel_rfl)) h1 hb (fun x hx=>hlt x (by first | (simpa using hx) | (simp[hx])))),rfl,hb.frame _,fun h=>by cases h⟩
 | _=>exact ho.elim
theorem holds:Rows.AuditTrueSaid:=
 OpenClaim.holds_of_wide 3 Tryz.f3 rfl rfl rfl rfl rfl rfl rfl ⟨rfl,rfl,rfl,rfl,rfl⟩ rfl rfl rfl rfl rfl (by kernel_rfl) Tryz.func3 (by kernel_rfl)
  (of_decide_eq_true (by kernel_rfl)) (by unfold Func.isWrapper;first | (rw[if_pos (by decide +kernel)];kernel_rfl) | (rw[if_neg (by decide +kernel)];exact⟨rfl,rfl⟩))
  (fun os started H enc _=>lifted os started H enc)
theorem card_holds:Rows.AuditTrueCardSaid:=
 Claim7.holds_tied_plain_at .later [] [.data, .data, .data, .data, .handle, .sentinel, .sentinel, .pinned] true (true, "eac9fa2e6e5b199a72ccaa570ea30da224e6ed0c19a09a72faa970ac3cd8fada") true holds (fun _ h => by cases h) (by kernel_rfl) (fun _ h => by cases h) auditTrue_row_tie rfl ⟨rfl, rfl⟩ (by kernel_rfl) rfl
  (fun f fn hf hfn=>by
    obtain rfl : f = 3 := Option.some.inj ((show Tryz.prog.funcNamed "hallmark/hallmarklaw21.AuditTrue" = some 3 by kernel_rfl).symm.trans hf) |>.symm
    obtain rfl:fn=Tryz.f3:=(Option.some.inj (Tryz.func3.symm.trans hfn)).symm;exact⟨by kernel_rfl,fun j t ht=>by
     rw[Tryz.params3] at ht;have hm:t∈[26,27]:=by simpa using Array.mem_of_getElem? ht
     have hall:([26,27].all fun u=>!Tryz.prog.wantsStandIn u)=true:=by kernel_rfl
     exact(show Tryz.prog.wantsStandIn t=false by simpa using List.all_eq_true.1 hall t hm)⟩)
  (by kernel_rfl)
#print axioms card_holds
end Go.Proofs.YtjpboanohpaibaaGreatDoor
