/- StoreAlone, part Pbe: Alone. -/
import Derived.Test.YteeefedoffplmaaGreatPbb
import Derived.Test.YteeefedoffplmaaGreatPbd
import Derived.Test.YteeefedoffplmaaGreatChecked
import Derived.JoinedCond
set_option linter.unusedSimpArgs false
set_option linter.unusedVariables false
set_option maxRecDepth 100000
set_option maxHeartbeats 51200000
namespace Go.Proofs.YteeefedoffplmaaGreat
open Go.RowKit Lib Go.Proofs.Tryz
section
open Go.RowKit Go.ChangeShapes Go.WideShapes Go.ChangeAt
theorem alone_any (w:World)(n pm ps le f:Int)(sA:Option Addr)(src:List (Int × Int))(sc:Nat)(A:Option Addr)(ops:List OpS)(oc:Nat)
  (hsr:Row w sA (Qd src)) (hsn:sA=none→src.length=0) (hsv:∀p∈src,Ql p.2) (hr:Row w A (ops.flatMap OpS.cells)) (hops:∀o∈ops,OpIn w o):
  Calls prog 4 #[.agg #[.int .i64 n,.int .i64 pm,.int .i64 ps,.int .i64 le,.slice sA src.length sc,.int .i64 f],.slice A ops.length oc] w fun e w'=>e=.returned (.bool true)∧Only [] w w':=by
 by_cases h:(60:Int)<ops.length∨¬(60:Int)<ops.length∧((40:Int)<src.length∨¬(40:Int)<src.length∧(n<1∨¬n<1∧(64<n∨¬64<n∧(le<1∨¬le<1∧(64<le∨¬64<le∧0<f)))))
 ·exact alone_bad knownS w n pm ps le f sA A src.length sc ops.length oc h
 ·obtain⟨n',rfl⟩:∃n':Nat,n=(n':Int):=⟨n.toNat,by omega⟩
  obtain⟨l',rfl⟩:∃l':Nat,le=(l':Int):=⟨le.toNat,by omega⟩
  exact alone_main knownS w n' l' (by omega) (by omega) pm ps f (by omega) sA src sc A ops oc (by omega) (by omega) hsr hsn hsv hr hops
theorem aloneOwn:ownKnob prog.godebug=none:=by kernel_rfl
theorem aloneLaidOut:laidOutB prog=true:=by kernel_rfl
theorem alone_contract (H:Type)(enc:TypeId × Value→H)(W:World)(base:Nat)(args:Array Value)(ds gs:List (DataW H))(before:List MemPlace)
  (hval:∀(j:Nat) t v,Tryz.f4.params[j]?=some t→args[j]?=some v→Value.okWide prog W .any base t v)
  (hW:DataW.Whole enc prog Tryz.f4.params.toList Rows.storeAloneSpec.vars false W args.toList ds gs before) (hk:Rows.uptoSmall H (ds ++ gs)=true):
  Calls prog 4 args W fun e W'=>∃v,e=.returned v∧Rows.storeAloneSpec.post enc prog Tryz.f4 false true false false W args v W':=by
 have hW':=hW
 obtain⟨p,q,hA0,hV,rfl,hfz,hnd⟩:=hW
 have hA:DataW.TrodAll enc prog W 0 (fun _=>true) true Tryz.f4.params.toList args.toList ds p:=hA0
 rw[Tryz.params4] at hA hval
 obtain⟨v0,vs0,d0,ds0,p0,q0,hargs,rfl,rfl,h0,r0⟩:=trodAll_cons hA
 obtain⟨v1,vs1,d1,ds1,p1,q1,rfl,rfl,rfl,h1,r1⟩:=trodAll_cons r0
 obtain⟨rfl,rfl,rfl⟩:=trodAll_nil r1
 obtain rfl:args=#[v0,v1]:=by
  apply Array.toList_inj.1
  rw[hargs]
 obtain⟨rfl,rfl⟩:=trodVars_none hV
 have h0k:=h0
 have h1k:=h1
 obtain⟨fu0,hf0⟩:=h0
 obtain⟨fu1,hf1⟩:=h1
 obtain⟨cs,rfl,hcs⟩:=okWide_struct Tryz.underlying31 (hval 0 31 v0 (by simp) (by simp))
 obtain⟨a1,l1,c1,rfl⟩:=okWide_slice Tryz.underlying32 (hval 1 32 v1 (by simp) (by simp))
 simp only[List.append_nil] at hW' hk
 have hb:=bulks.bound hk
 have b1:=Nat.le_trans (bulks.part_le (by simp:d1∈[d0,d1])) hb
 obtain⟨n,m,s,l,f,sA,src,sc,e0,g1,g2,g3,g4⟩:=openSetup hf0
 obtain⟨A,ops,c,e1,k1,k2,k3⟩:=openOps hf1 b1
 cases e1
 have e0:cs=#[.int .i64 n,.int .i64 m,.int .i64 s,.int .i64 l,.slice sA src.length sc,.int .i64 f]:=by
  apply Array.toList_inj.1
  exact e0
 subst e0
 clear hA0
 have hlt:∀x∈p0 ++ p1,x.block<W.heap.size:=fun x hx=>by simpa using hW'.lt x hx
 refine (alone_any W n m s l f sA src sc _ ops _ g1 g2 (fun p hp=>(g3 p hp).2) k1 k3).mono fun e W' ⟨he,ho⟩=>?_
 have hbl:=ho.below
 subst he
 exact⟨_,rfl,⟨_,_,_,[],_,[],hW',trodAll_cons_mk (shut_bool Tryz.underlying4 _) trodAll_mk0,
  trodAll_cons_mk (Below.trod aloneLaidOut (by kernel_rfl) (of_decide_eq_true (by kernel_rfl)) h0k hbl (fun x hx=>hlt x (List.mem_append_left _ hx))) (trodAll_cons_mk (Below.trod aloneLaidOut (by kernel_rfl) (of_decide_eq_true (by kernel_rfl)) h1k hbl (fun x hx=>hlt x (List.mem_append_right _ hx))) trodAll_mk0),rfl,hbl.frame _,fun h=>by cases h⟩⟩
theorem alone_lifted (os:Os)(started:os.Started)(H:Type)(enc:TypeId × Value→H)(F:Stop.Interp):
  ReturnsInHanded {} Tryz.checked os 4 .any ((Rows.OpenSpec.upto Rows.storeAloneSpec).pre6 enc prog Tryz.f4 Rows.storeAloneUptoRow.domain false) (((Rows.OpenSpec.upto Rows.storeAloneSpec).at F).post enc prog Tryz.f4 false true false false):=by
 refine returnsInHanded_of_cond (C:=Tryz.checked) (s:=Rows.OpenSpec.upto Rows.storeAloneSpec) (k:=Rows.uptoSmall) rfl aloneOwn started (by kernel_rfl) func4
  (OpenSpec.witness (enc:=enc) (C:=Tryz.checked) (s:=Rows.OpenSpec.upto Rows.storeAloneSpec) (k:=Rows.uptoSmall) rfl false ⟨#[],#[.agg #[.int .i64 0,.int .i64 0,.int .i64 0,.int .i64 0,.slice none 0 0,.int .i64 0],.slice none 0 0],[]⟩ 8 (by kernel_rfl) (by kernel_rfl) (by kernel_rfl)
   (x:=([.agg [.lit (.int .i64 0),.lit (.int .i64 0),.lit (.int .i64 0),.lit (.int .i64 0),.nil,.lit (.int .i64 0)],.nil],[],[])) (by kernel_rfl) rfl (by kernel_rfl)) ?_
 intro W base args ds gs before hval hW _ hk _
 exact alone_contract H enc W base args ds gs before hval hW hk
theorem storeAlone_upto:Rows.StoreAloneUptoSaid:=
 OpenClaim.holds_of_cond 4 Tryz.f4 rfl rfl rfl rfl rfl rfl rfl ⟨rfl,rfl,rfl,rfl,rfl⟩ rfl rfl rfl rfl rfl (by kernel_rfl) func4 (by kernel_rfl)
  (of_decide_eq_true (by kernel_rfl)) (by unfold Func.isWrapper;first|(rw[if_pos (by decide +kernel)];kernel_rfl)|(rw[if_neg (by decide +kernel)];exact⟨rfl,rfl⟩))
  (fun os started H enc _ F=>alone_lifted os started H enc F)
end
end Go.Proofs.YteeefedoffplmaaGreat
