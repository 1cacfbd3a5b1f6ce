/- StoreAlone, part Pbd: KnownS, OpenS. -/
import Derived.Test.YteeefedoffplmaaGreatPba
import Derived.Test.YteeefedoffplmaaGreatPbc
import Derived.Test.YteeefedoffplmaaGreatPbb
import Derived.Test.YteeefedoffplmaaGreatPap
import Derived.Test.YteeefedoffplmaaGreatPar
import Derived.Test.YteeefedoffplmaaGreatPas
import Derived.Test.YteeefedoffplmaaGreatPaw
import Derived.Deep.CutRange
import Derived.Test.YteeefedoffplmaaGreatBulk
import Derived.Deep.Slices
import Derived.Deep.Fields
import Derived.ChangeSame
import Derived.ProofKit
import Derived.OpenShut
set_option linter.unusedSimpArgs false
set_option linter.unusedVariables false
set_option maxRecDepth 100000
set_option maxHeartbeats 51200000
namespace Go.Proofs.YteeefedoffplmaaGreat
open Go.RowKit Lib Go.Proofs.Tryz
theorem setup_any (w:World):Calls prog 27 #[] w fun e w'=>∃r,e=.returned (.agg #[.int .i64 2,.int .i64 1,.int .i64 40,.int .i64 2,.slice (some ⟨r,0,none⟩) 2 2,.int .i64 0])∧Row w' (some ⟨r,0,none⟩) (Qd [(1,10),(4000000000,20)])∧Only [] w w':=by
 go_enter func27,ntmps27
 go_wp2_with fail
 obtain⟨w1,hw1⟩:∃w1,w.alloc (.cells #[.int .i64 2,.int .i64 1,.int .i64 40,.int .i64 2,.slice (some ⟨w.heap.size+1,0,none⟩) 2 2,.int .i64 0] 31)=w1:=⟨_,rfl⟩
 have hs1:w1.heap.size=w.heap.size+1:=by rw[←hw1,World.size_alloc]
 have ho1:Only [] w w1:=by rw[←hw1];exact (Only.refl _ _).alloc _
 have hb:Blk w1 w.heap.size [.int .i64 2,.int .i64 1,.int .i64 40,.int .i64 2,.slice (some ⟨w.heap.size+1,0,none⟩) 2 2,.int .i64 0] 31:=by rw[←hw1];exact Blk.new w _ 31
 have hr:=Zg w1 (Qd [(1,10),(4000000000,20)]) 36
 rw[hs1] at hr
 have hb2:=hb.alloc (.cells #[.int .i64 1,.int .i64 10,.int .i64 4000000000,.int .i64 20] 36)
 rw[hw1]
 have d0:=hb2.cell (i:=0) rfl
 have d1:=hb2.cell (i:=1) rfl
 have d2:=hb2.cell (i:=2) rfl
 have d3:=hb2.cell (i:=3) rfl
 have d4:=hb2.cell (i:=4) rfl
 have d5:=hb2.cell (i:=5) rfl
 have hl:=hb2.lt
 refine bodyPost_ret (v:=.agg #[.int .i64 2,.int .i64 1,.int .i64 40,.int .i64 2,.slice (some ⟨w.heap.size+1,0,none⟩) 2 2,.int .i64 0]) ?_ rfl ⟨_,rfl,hr,ho1.alloc _⟩
 simp[results,Tryz.results27,go_sem,d0,d1,d2,d3,d4,d5,hl]
def KB (w0 W:World)(Y:StoreL)(X:StoreS)(t:Option Nat)(o:Option (Int × Int))(vs:List (Nat × Option Obj)):Prop:=
 ∃D:Nat→List Nat,StoreIn W Y none D X∧(∀t',t=some t'→BoardIn W Y none D t' o)∧(Only [] w0 W∧Y.nm<W.heap.size)∧(w0.heap.size≤Y.base∧w0.heap.size≤Y.nm)∧(∀k,k<w0.heap.size→Y.col k=0)∧Y.n=2∧∀v∈vs,(BSafe W Y none D v.1∧v.1≠Y.nm)∧W.heap[v.1]?=v.2
section
variable {w0 W W':World}{Y:StoreL}{X X':StoreS}{t:Option Nat}{o:Option (Int × Int)}{vs:List (Nat × Option Obj)}
theorem KB.moves {D D':Nat→List Nat}(hb:∀t',t=some t'→BoardIn W Y none D t' o)(ho:Only [] w0 W∧Y.nm<W.heap.size)(h1:w0.heap.size≤Y.base∧w0.heap.size≤Y.nm)(h2:∀k,k<w0.heap.size→Y.col k=0)(h3:Y.n=2)(h4:∀v∈vs,(BSafe W Y none D v.1∧v.1≠Y.nm)∧W.heap[v.1]?=v.2)(hs:StoreIn W Y none D X)(hs':StoreIn W' Y none D' X')(hm:Moves Y (Qw Y none D) (Qw Y none D') W W'):KB w0 W' Y X' t o vs:=
 ⟨D',hs',fun t' e=>(hb t' e).moves hm,⟨⟨hm.os.trans ho.1.os,hm.tape.trans ho.1.tape,hm.output.trans ho.1.output,Nat.le_trans ho.1.size hm.size,fun k hk hn=>(hm.block k (Nat.lt_of_lt_of_le hk ho.1.size) (fun e=>e.2 (h2 k hk)) (fun e=>by have:=(hs.dyn_lt e).1;omega)).trans (ho.1.block k hk hn)⟩,Nat.lt_of_lt_of_le ho.2 hm.size⟩,h1,h2,h3,fun v hv=>⟨⟨(BSafe.moves hm (h4 v hv).1.1).1,(h4 v hv).1.2⟩,(BSafe.moves hm (h4 v hv).1.1).2.trans (h4 v hv).2⟩⟩
theorem KB.wrote (h:KB w0 W Y X t o vs){f:Nat}{args:Array Value}{told:ToldS}{err:Int}(hc:∀D,StoreIn W Y none D X→Y.n=2→Calls prog f args W (Qh Y none D told err X' W)):Calls prog f args W fun e W'=>e=.returned (.tuple #[told.val,.int .i64 err])∧KB w0 W' Y X' t o vs:=by
 obtain⟨D,h1,h2,h3,h4,h5,h6,h7⟩:=h
 exact (hc D h1 h6).mono fun e W' ⟨D',he,hs',hm⟩=>⟨he,KB.moves h2 h3 h4 h5 h6 h7 h1 hs' hm⟩
theorem KB.turns (h:KB w0 W Y X t o vs){f:Nat}{args:Array Value}{v:Value}(hc:∀D,StoreIn W Y none D X→(∀t',t=some t'→BoardIn W Y none D t' o)→Y.n=2→Calls prog f args W (Turns Y none D X' v W)):Calls prog f args W fun e W'=>e=.returned v∧KB w0 W' Y X' t o vs:=by
 obtain⟨D,h1,h2,h3,h4,h5,h6,h7⟩:=h
 exact (hc D h1 h2 h6).mono fun e W' ⟨he,hs',hm⟩=>⟨he,KB.moves h2 h3 h4 h5 h6 h7 h1 hs' hm⟩
theorem KB.same (h:KB w0 W Y X t o vs)(ho:Only [] W W'):KB w0 W' Y X t o vs:=by
 obtain⟨D,h1,h2,h3,h4,h5,h6,h7⟩:=h
 exact KB.moves h2 h3 h4 h5 h6 h7 h1 (h1.new ho) (Moves.of_new ho)
theorem KB.var (h:KB w0 W Y X t o vs)(cs:List Value)(ty:TypeId):KB w0 (W.alloc (.cells cs.toArray ty)) Y X t o ((W.heap.size,some (.cells cs.toArray ty)) :: vs):=by
 have hb:=Blk.new W cs ty
 have ho:Only [] W (W.alloc (.cells cs.toArray ty)):=(Only.refl [] W).alloc _
 obtain⟨D,h1,h2,h3,h4,h5,h6,h7⟩:=h
 refine⟨D,h1.new ho,fun t' e=>(h2 t' e).new ho,⟨h3.1.trans ho,Nat.lt_of_lt_of_le h3.2 ho.size⟩,h4,h5,h6,fun v hv=>?_⟩
 have hnm:=h3.2
 rcases List.mem_cons.1 hv with rfl|hv
 ·refine⟨⟨⟨hb.lt,fun e=>?_,fun e=>?_⟩,?_⟩,hb⟩
  ·have:=h1.room;have:=e.1;dsimp only at this;omega
  ·have:=(h1.dyn_lt e).2;dsimp only at this;omega
  ·dsimp only;omega
 ·have q:=BSafe.moves (Moves.of_new ho) (h7 v hv).1.1
  exact⟨⟨q.1,(h7 v hv).1.2⟩,q.2.trans (h7 v hv).2⟩
theorem KB.blk (h:KB w0 W Y X t o vs){b:Nat}{cs:List Value}{ty:TypeId}(hv:(b,some (.cells cs.toArray ty))∈vs):Blk W b cs ty:=by
 obtain⟨D,h1,h2,h3,h4,h5,h6,h7⟩:=h
 exact (h7 _ hv).2
theorem KB.drop (h:KB w0 W Y X t o vs){vs':List (Nat × Option Obj)}(hv:∀v∈vs',v∈vs):KB w0 W Y X t o vs':=by
 obtain⟨D,h1,h2,h3,h4,h5,h6,h7⟩:=h
 exact⟨D,h1,h2,h3,h4,h5,h6,fun v hm=>h7 v (hv v hm)⟩
theorem KB.get {told:ToldS}(hr:getR X 0 1=some (told,X'))(h:KB w0 W Y X t o vs):Calls prog 28 #[ptr Y.sb,.pointer none,.int .i64 1] W fun e W'=>e=.returned (.tuple #[told.val,.int .i64 0])∧KB w0 W' Y X' t o vs:=
 h.wrote fun D hs hn=>storeGetOp_any W Y none D X X' hs 0 (by omega) told 0 1 rfl (by rw[hn];decide) fun W' _ h'=>partGetOp_any W' Y none D X X' h' 0 1 told rfl (by rw[hn];decide) (getR_is Y hr)
theorem KB.put {told:ToldS}{v:Int}(hr:writeR X 0 (putE 1 v) (putOkB 1 v)=some (told,X'))(h:KB w0 W Y X t o vs):Calls prog 18 #[ptr Y.sb,.pointer none,.int .i64 1,.int .i64 v] W fun e W'=>e=.returned (.tuple #[told.val,.int .i64 0])∧KB w0 W' Y X' t o vs:=
 h.wrote fun D hs hn=>storePutOp_any W Y none D X X' hs 0 (by omega) told 0 1 v rfl (by rw[hn];decide) fun W' _ h'=>partPutOp_any W' Y none D X X' h' 0 1 v told 0 rfl (by rw[hn];decide) (writeR_is Y (fun r S=>putOkB_yes) hr)
theorem KB.many {told:ToldS}{l:List (Int × Int)}{b c:Nat}{v:Int}{m:List (Int × Int)}(hl:l=(1,v) :: m)(hk:((l.map (·.1)).any fun k=>!hasB k 2 0)=false)(hr:writeR X 0 (manyE l) (manyOkB l)=some (told,X'))(h:KB w0 W Y X t o vs)(hrow:Row W (some ⟨b,0,none⟩) (Qd l)):Calls prog 36 #[ptr Y.sb,.pointer none,.slice (some ⟨b,0,none⟩) l.length c] W fun e W'=>e=.returned (.tuple #[told.val,.int .i64 0])∧KB w0 W' Y X' t o vs:=
 h.wrote fun D hs hn=>storeManyOp_any W Y none D X X' hs 0 (by omega) told 0 _ l.length c 1 (.inr ⟨by rw[hl];simp,b,0,rfl,by
  obtain⟨b',off',e',hc⟩:=hrow 0 (.int .i64 1) (by rw[hl];simp[Qd])
  injection e' with e'
  injection e' with e1 e2
  subst e1 e2
  exact hc⟩) rfl (by rw[hn];decide) fun W' ho h'=>partManyOp_any W' Y none D X X' h' 0 told 0 l _ c (hrow.below ho.below) ⟨(fun e=>by cases e),(fun e=>by rw[hl] at e;cases e)⟩ (fun e=>by cases e) (by rw[hn];exact hk) (writeR_is Y (fun r S=>manyOkB_yes) hr)
theorem KB.snap (h:KB w0 W Y X t o vs){i:Nat}(hn:X.clock.leases.findIdx? (fun x=>decide (x=0))=some i)(hs:X.clock.now+1≤1099511627776):Calls prog 29 #[ptr Y.sb,.pointer none] W fun e W'=>e=.returned (.tuple #[snapV i X.clock.now,.int .i64 0])∧KB w0 W' Y {X with clock:=⟨X.clock.now+1,X.clock.leases.set i (X.clock.now+1)⟩} t o vs:=
 h.turns fun D h' _ _=>snapSome_any W Y none D X h' i hn hs
theorem KB.free (h:KB w0 W Y X t o vs){i:Nat}{x t':Int}(hi:X.clock.leases[i]?=some x)(hx:x≠0):Calls prog 37 #[ptr Y.sb,.pointer none,snapV i t'] W fun e W'=>e=.returned (.int .i64 0)∧KB w0 W' Y {X with clock:={X.clock with leases:=X.clock.leases.set i 0}} t o vs:=
 h.turns fun D h' _ _=>freeOp_any W Y none D X h' i x t' hi hx
theorem KB.peek (h:KB w0 W Y X t o vs){l st v:Int}{had:Bool}{n:NodeS}(hh:holdsB X.clock l st=true)(hr:seeR X 0 st=some (n,X'))(hf:X'.pool.find n.a 1=some (v,had)):Calls prog 30 #[ptr Y.sb,.pointer none,snapV l st,.int .i64 1] W fun e W'=>e=.returned (.tuple #[.agg #[.int .i64 v,.bool had,.int .i64 n.b,.bool false,.int .i64 0],.int .i64 0])∧KB w0 W' Y X' t o vs:=
 h.turns fun D h' _ hn=>peekYes_any W Y none D X X' h' 0 (by omega) l st 1 v had rfl (by rw[hn];decide) hh n (seeR_is Y hr) hf
theorem KB.peekNo (h:KB w0 W Y X t o vs){l st:Int}(hh:holdsB X.clock l st=false):Calls prog 30 #[ptr Y.sb,.pointer none,snapV l st,.int .i64 1] W fun e W'=>e=.returned (.tuple #[ToldS.zero.val,.int .i64 182])∧Only [] w0 W':=by
 obtain⟨D,h1,h2,h3,h4,h5,h6,h7⟩:=h
 exact (peekNo_any W Y none D X h1 0 (by omega) l st 1 rfl (by rw[h6];decide) hh).mono fun e W' ⟨he,ho⟩=>⟨he,h3.1.trans ho⟩
theorem KB.name {t:Nat}(h:KB w0 W Y X (some t) none vs)(x:Int)(hx:0≤x∧x≤4294967295)(l:Nat)(hl:l≤1000)(st:Int)(hst:0≤st∧st≤1099511627775):Calls prog 31 #[ptr Y.sb,.pointer none,.int .i64 x,snapV l st] W fun e W'=>e=.returned (.int .i64 0)∧∃t2:Nat,KB w0 W' Y X (some t2) (some (x,Za ((l:Int)+1) st)) vs:=by
 obtain⟨D,h1,h2,h3,h4,h5,h6,h7⟩:=h
 refine (name_new W Y none D X h1 t (h2 t rfl) x hx l hl st hst).mono ?_
 rintro e W' ⟨t2,rfl,q1,q2,q3⟩
 refine⟨rfl,t2,D,q1,fun t' e=>(by injection e with e;subst e;exact q2),⟨⟨q3.os.trans h3.1.os,q3.tape.trans h3.1.tape,q3.output.trans h3.1.output,Nat.le_trans h3.1.size q3.size,fun k hk hn=>(q3.block k (Nat.lt_of_lt_of_le hk h3.1.size) ?_).trans (h3.1.block k hk hn)⟩,Nat.lt_of_lt_of_le h3.2 q3.size⟩,h4,h5,h6,fun v hv=>?_⟩
 ·intro e
  have:=List.mem_singleton.1 e
  have:=h4.2
  omega
 ·obtain⟨a1,a2⟩:=h7 v hv
  exact⟨⟨⟨Nat.lt_of_lt_of_le a1.1.1 q3.size,a1.1.2⟩,a1.2⟩,(q3.block _ a1.1.1 (by simpa using a1.2)).trans a2⟩
theorem KB.nameOld {x v:Int}{t:Nat}(h:KB w0 W Y X (some t) (some (x,v)) vs)(hx:0≤x∧x≤4294967295)(l:Nat)(hl:l≤1000)(st:Int)(hst:0≤st∧st≤1099511627775):Calls prog 31 #[ptr Y.sb,.pointer none,.int .i64 x,snapV l st] W fun e W'=>e=.returned (.int .i64 183)∧KB w0 W' Y X (some t) (some (x,v)) vs:=by
 obtain⟨D,h1,h2,_⟩:=id h
 exact (name_old W Y none D X h1 t x v (h2 t rfl) hx l hl st hst).mono fun e W' ⟨he,ho⟩=>⟨he,h.same ho⟩
theorem KB.names {x v:Int}{t:Nat}(h:KB w0 W Y X (some t) (some (x,v)) vs):Calls prog 32 #[ptr Y.sb,.pointer none] W fun e W'=>∃g c,e=.returned (.slice (some ⟨g,0,none⟩) 1 c)∧∃ob,KB w0 W' Y X (some t) (some (x,v)) ((g,ob) :: vs)∧∀W2:World,W2.heap[g]?=ob→W2.cell? ⟨g,0,none⟩=some (.int .i64 x)∧W2.cell? ⟨g,1,none⟩=some (.int .i64 (tagW v)):=by
 obtain⟨D,h1,h2,h3,h4,h5,h6,h7⟩:=h
 refine (names_any W Y none D X h1 t x v (h2 t rfl)).mono ?_
 rintro e W' ⟨g,c,rfl,c0,c1,ho,hg⟩
 have hlt:g<W'.heap.size:=block_lt_of_cell c0
 refine⟨g,c,rfl,W'.heap[g]?,⟨D,h1.new ho,fun t' e=>(h2 t' e).new ho,⟨h3.1.trans ho,Nat.lt_of_lt_of_le h3.2 ho.size⟩,h4,h5,h6,fun u hu=>?_⟩,fun W2 he=>⟨Qp c0 he,Qp c1 he⟩⟩
 rcases List.mem_cons.1 hu with rfl|hu
 ·have hnm:=h3.2
  refine⟨⟨⟨hlt,fun e=>?_,fun e=>?_⟩,?_⟩,rfl⟩
  ·have:=h1.room;have:=e.1;dsimp only at this;omega
  ·have:=(h1.dyn_lt e).2;dsimp only at this;omega
  ·dsimp only;omega
 ·have q:=BSafe.moves (Moves.of_new ho) (h7 u hu).1.1
  exact⟨⟨q.1,(h7 u hu).1.2⟩,q.2.trans (h7 u hu).2⟩
theorem KB.peekNamed {x pv st v:Int}{had:Bool}{n:NodeS}{t:Nat}(h:KB w0 W Y X (some t) (some (x,pv)) vs)(hx:0≤x∧x≤4294967295)(h0:X.epoch.deep=0)(hst:tagW pv=st)(hr:seeR {X with epoch:=X.epoch.enter} 0 st=some (n,X'))(he:X'.epoch=X.epoch.enter)(hf:X'.pool.find n.a 1=some (v,had)):
  Calls prog 33 #[ptr Y.sb,.pointer none,.int .i64 x,.int .i64 1] W fun e W'=>e=.returned (.tuple #[.agg #[.int .i64 v,.bool had,.int .i64 n.b,.bool false,.int .i64 0],.int .i64 0])∧KB w0 W' Y {X' with epoch:=X'.epoch.leave} (some t) (some (x,pv)) vs:=
 h.turns fun D h' hb hn=>peekNamed_any W Y none D X h' t x pv 1 hx (hb t rfl) h0 0 (by omega) rfl (by rw[hn];decide) st hst n X' (seeR_is Y hr) he v had hf
theorem KB.made (h:KB w0 W Y kS5 t o vs):Calls prog 34 #[ptr Y.sb] W fun e W'=>e=.returned (.bool true)∧KB w0 W' Y kS5 t o vs:=by
 obtain⟨D,h1,_,_,_,_,h6,_⟩:=id h
 exact (made_any W Y none D h1 h6).mono fun e W' ⟨he,ho⟩=>⟨he,h.same ho⟩
theorem KB.unname {x:Int}(hx:0≤x∧x≤4294967295)(l:Nat)(hl:l≤1000)(st:Int)(hst:0≤st∧st<1099511627776){t:Nat}(h:KB w0 W Y X (some t) (some (x,Za ((l:Int)+1) st)) vs)(y:Int)(hy:X.clock.leases[l]?=some y)(hy0:y≠0):Calls prog 35 #[ptr Y.sb,.pointer none,.int .i64 x] W fun e W'=>e=.returned (.int .i64 0)∧KB w0 W' Y {X with clock:={X.clock with leases:=X.clock.leases.set l 0}} none none []:=by
 obtain⟨D,h1,h2,h3,h4,h5,h6,h7⟩:=h
 refine (unname_any W Y none D X h1 t x hx l hl st hst (h2 t rfl) y hy hy0).mono ?_
 rintro e W' ⟨rfl,q1,q3⟩
 have k1:=h1.ok.cb
 have k2:=h1.ok.lb
 refine⟨rfl,D,q1,(fun t' e=>by cases e),⟨⟨q3.os.trans h3.1.os,q3.tape.trans h3.1.tape,q3.output.trans h3.1.output,Nat.le_trans h3.1.size q3.size,fun k hk hn=>(q3.block k (Nat.lt_of_lt_of_le hk h3.1.size) ?_).trans (h3.1.block k hk hn)⟩,Nat.lt_of_lt_of_le h3.2 q3.size⟩,h4,h5,h6,(fun v hv=>by cases hv)⟩
 intro e
 simp only[List.mem_cons,List.not_mem_nil,or_false] at e
 rcases e with rfl|rfl|rfl
 ·have:=h4.2;omega
 ·have:=h5 _ hk;have:=k1.2;omega
 ·have:=h5 _ hk;have:=k2.2;omega
end
theorem kb_start {w w3 w4:World}{en:Ending}(ho3:Only [] w w3)(h:StoreMade w3 2 1 40 2 [(1,10),(4000000000,20)] 0 en w4):∃(Y:StoreL) (bt:Nat),en=.returned (.tuple #[ptr Y.sb,.int .i64 0])∧Fixed w4 Y∧Y.n=2∧KB w w4 Y kS0 (some bt) none []:=by
 obtain⟨Y,bt,he,hs,hn,hb,ho,hc,hh,b1,b2,c1,c2,hne,n1,n2,n3⟩:=h
 have hz:=ho3.size
 have hl1:=b1.lt
 have hl2:=b2.lt
 have hs1:∀k,k<w4.heap.size→Y.col k=0→BSafe w4 Y none (fun _=>[]) k:=fun k h1 h2=>⟨h1,fun e=>e.2 h2,fun e=>by simp[Qw] at e⟩
 exact⟨Y,bt,he,hs.fixed,hn,_,hs,fun t' e=>(by injection e with e;subst e;exact⟨b1,hs1 _ hl1 c1,⟨by omega,c1⟩,hs1 _ hl2 c2,b2⟩),⟨ho3.trans ho,hl1⟩,⟨by omega,by omega⟩,fun k hk=>hc k (by omega),hn,fun v hv=>(by cases hv)⟩
theorem kA:({kS1 with clock:=⟨kS1.clock.now+1,kS1.clock.leases.set 0 (kS1.clock.now+1)⟩}:StoreS)=kS2:=by rw[k2];rfl
theorem kC:({kS6 with epoch:=kS6.epoch.leave}:StoreS)=kS5:=by decide +kernel
theorem kD:({kS5 with clock:={kS5.clock with leases:=kS5.clock.leases.set 0 0}}:StoreS)=kS7:=by decide +kernel
def kS9:StoreS:={kS8 with clock:=⟨3,[3,0]⟩}
def kS10:StoreS:={kS9 with clock:=⟨3,[0,0]⟩}
theorem kE:kS8.clock=⟨2,[0,0]⟩:=by decide +kernel
theorem kF:({kS8 with clock:=⟨kS8.clock.now+1,kS8.clock.leases.set 0 (kS8.clock.now+1)⟩}:StoreS)=kS9:=by rw[kE];rfl
theorem kG:kS8.clock.now=2:=by rw[kE]
theorem KB.mem {w0 W:World}{Y:StoreL}{X:StoreS}{t:Option Nat}{o:Option (Int × Int)}{vs:List (Nat × Option Obj)}(h:KB w0 W Y X t o vs){b:Nat}{o':Option Obj}(hv:(b,o')∈vs):W.heap[b]?=o':=by
 obtain⟨D,h1,h2,h3,h4,h5,h6,h7⟩:=h
 exact (h7 _ hv).2
theorem kTag:tagW (Za ((0:Nat)+1) 1)=1:=by decide +kernel
theorem kH3:holdsB kS3.clock (0:Nat) 1=true:=by decide +kernel
theorem kDeep:kS5.epoch.deep=0:=by decide +kernel
theorem kEp:kS6.epoch=kS5.epoch.enter:=by decide +kernel
theorem kL5:kS5.clock.leases[0]?=some 2:=by rw[kMade.2.2];rfl
theorem kL9:kS9.clock.leases[0]?=some 3:=rfl
theorem kI:({kS9 with clock:={kS9.clock with leases:=kS9.clock.leases.set 0 0}}:StoreS)=kS10:=rfl
theorem kH10:holdsB kS10.clock (0:Nat) 2=false:=by decide +kernel
theorem kB:kS1.clock.now=1:=by rw[k2]
theorem knownS (w:World):Calls prog 9 #[] w fun e w'=>e=.returned (.bool true)∧Only [] w w':=by
 have hsu:=setup_any w
 have hnw:∀W A c,Row W A (Qd [(1,10),(4000000000,20)])→Calls prog 10 #[.agg #[.int .i64 2,.int .i64 1,.int .i64 40,.int .i64 2,.slice A 2 c,.int .i64 0]] W (StoreMade W 2 1 40 2 [(1,10),(4000000000,20)] 0):=fun W A c hr=>storeNewG_any W 2 1 40 2 A [(1,10),(4000000000,20)] c 0 (Int.le_refl _) ⟨by decide,by decide,by decide,by decide,by decide,by decide⟩ hr
 have HSU:=hid hsu;have HNW:=hid hnw
 clear hsu hnw
 go_enter func9,ntmps9
 go_upto_region 2 with (first|(go_at_call 27;refine HSU.out.mono ?_;rintro en w3 ⟨r,rfl,hr,ho3⟩;have HR:=hid hr;have HO3:=hid ho3;clear hr ho3)|(go_at_call 10;refine (HNW.out _ _ _ HR.out).mono ?_;intro en w4 hmd;obtain⟨Y,bt,rfl,hfx,hyn,hkb⟩:=kb_start HO3.out hmd;have HFX:=hid hfx;have HYN:=hid hyn;have HK:=hid hkb;unfold ptr;clear hfx hyn hkb hmd))
 have hgp:Calls prog 12 #[.pointer (some ⟨Y.sb,0,none⟩)] w4 fun e w'=>e=.returned (.int .i64 2)∧w'=w4:=by
  have:=getParts w4 Y HFX.out
  rw[HYN.out] at this
  exact this
 have HGP:=hid hgp
 clear hgp HSU HNW HFX HR HO3
 go_upto_region 4 with (go_at_call 12;refine HGP.out.mono ?_;rintro en wn ⟨rfl,hw⟩;obtain rfl:w4=wn:=hw.symm;clear HGP)
 obtain⟨HK4,rfl⟩:∃h,h=HK:=⟨_,rfl⟩
 have hc:Calls prog 28 #[.pointer (some ⟨Y.sb,0,none⟩),.pointer none,.int .i64 1] w4 fun e W'=>e=.returned (.tuple #[.agg #[.int .i64 10,.bool true,.int .i64 1,.bool false,.int .i64 0],.int .i64 0])∧KB w W' Y kS1 (some bt) none []:=KB.get k1 HK4.out
 have HC:=hid hc
 clear hc
 go_cut [2,3] from 31 to 35 (fun s2 s3 wx=>s2=.int .i64 0∧∃bb,s3=.pointer (some ⟨bb,0,none⟩)∧KB w wx Y kS1 (some bt) none [(bb,some (.cells #[.int .i64 10,.bool true,.int .i64 1,.bool false,.int .i64 0] 57))])
 case first=>
  go_wp2_with (go_at_call 28;refine HC.out.mono ?_;rintro en wn ⟨rfl,hkn⟩;have HKN:=hid hkn;clear hkn)
  go_meet
  exact⟨rfl,_,rfl,HKN.out.var [.int .i64 10,.bool true,.int .i64 1,.bool false,.int .i64 0] 57⟩
 obtain⟨rfl,b3,rfl,hk⟩:=hcut
 obtain⟨w5,rfl⟩:∃w5,w5=wc:=⟨_,rfl⟩
 have HK5:=hid hk
 clear hk HC
 go_upto_region 5 with fail
 have hc:Calls prog 29 #[.pointer (some ⟨Y.sb,0,none⟩),.pointer none] w5 fun e W'=>e=.returned (.tuple #[.agg #[.int .i64 0,.int .i64 1],.int .i64 0])∧KB w W' Y kS2 (some bt) none [(b3,some (.cells #[.int .i64 10,.bool true,.int .i64 1,.bool false,.int .i64 0] 57))]:=by
  have:=HK5.out.snap (i:=0) (by rw[k2];decide) (by rw[k2];decide)
  rw[kA,kB] at this
  exact this
 have HC:=hid hc
 clear hc
 go_cut [4,5] from 36 to 40 (fun s4 s5 wx=>s5=.int .i64 0∧∃bb,s4=.pointer (some ⟨bb,0,none⟩)∧KB w wx Y kS2 (some bt) none [(bb,some (.cells #[.int .i64 0,.int .i64 1] 75)),(b3,some (.cells #[.int .i64 10,.bool true,.int .i64 1,.bool false,.int .i64 0] 57))])
 case first=>
  go_wp2_with (go_at_call 29;refine HC.out.mono ?_;rintro en wn ⟨rfl,hkn⟩;have HKN:=hid hkn;clear hkn)
  go_meet
  exact⟨rfl,_,rfl,HKN.out.var [.int .i64 0,.int .i64 1] 75⟩
 obtain⟨rfl,b4,rfl,hk⟩:=hcut
 obtain⟨w6,rfl⟩:∃w6,w6=wc:=⟨_,rfl⟩
 have HK6:=hid hk
 clear hk HC
 go_upto_region 6 with fail
 have hc:Calls prog 18 #[.pointer (some ⟨Y.sb,0,none⟩),.pointer none,.int .i64 1,.int .i64 11] w6 fun e W'=>e=.returned (.tuple #[.agg #[.int .i64 10,.bool true,.int .i64 2,.bool true,.int .i64 0],.int .i64 0])∧KB w W' Y kS3 (some bt) none [(b4,some (.cells #[.int .i64 0,.int .i64 1] 75)),(b3,some (.cells #[.int .i64 10,.bool true,.int .i64 1,.bool false,.int .i64 0] 57))]:=KB.put k3 HK6.out
 have HC:=hid hc
 clear hc
 go_cut [6,7] from 41 to 45 (fun s6 s7 wx=>s7=.int .i64 0∧∃bb,s6=.pointer (some ⟨bb,0,none⟩)∧KB w wx Y kS3 (some bt) none [(bb,some (.cells #[.int .i64 10,.bool true,.int .i64 2,.bool true,.int .i64 0] 57)),(b4,some (.cells #[.int .i64 0,.int .i64 1] 75)),(b3,some (.cells #[.int .i64 10,.bool true,.int .i64 1,.bool false,.int .i64 0] 57))])
 case first=>
  go_wp2_with (go_at_call 18;refine HC.out.mono ?_;rintro en wn ⟨rfl,hkn⟩;have HKN:=hid hkn;clear hkn)
  go_meet
  exact⟨rfl,_,rfl,HKN.out.var [.int .i64 10,.bool true,.int .i64 2,.bool true,.int .i64 0] 57⟩
 obtain⟨rfl,b6,rfl,hk⟩:=hcut
 obtain⟨w7,rfl⟩:∃w7,w7=wc:=⟨_,rfl⟩
 have HK7:=hid hk
 clear hk HC
 go_upto_region 7 with fail
 have hb4:=HK7.out.blk (b:=b4) (cs:=[.int .i64 0,.int .i64 1]) (ty:=75) (by simp)
 have x0:=hb4.cell (i:=0) rfl
 have x1:=hb4.cell (i:=1) rfl
 clear hb4
 have hc:Calls prog 30 #[.pointer (some ⟨Y.sb,0,none⟩),.pointer none,.agg #[.int .i64 0,.int .i64 1],.int .i64 1] w7 fun e W'=>e=.returned (.tuple #[.agg #[.int .i64 10,.bool true,.int .i64 1,.bool false,.int .i64 0],.int .i64 0])∧KB w W' Y kS4 (some bt) none [(b6,some (.cells #[.int .i64 10,.bool true,.int .i64 2,.bool true,.int .i64 0] 57)),(b4,some (.cells #[.int .i64 0,.int .i64 1] 75)),(b3,some (.cells #[.int .i64 10,.bool true,.int .i64 1,.bool false,.int .i64 0] 57))]:=HK7.out.peek (l:=(0:Nat)) (st:=1) kH3 k4.choose_spec.1 k4.choose_spec.2
 have HC:=hid hc
 clear hc
 go_cut [8,9] from 46 to 51 (fun s8 s9 wx=>s9=.int .i64 0∧∃bb,s8=.pointer (some ⟨bb,0,none⟩)∧KB w wx Y kS4 (some bt) none [(bb,some (.cells #[.int .i64 10,.bool true,.int .i64 1,.bool false,.int .i64 0] 57)),(b6,some (.cells #[.int .i64 10,.bool true,.int .i64 2,.bool true,.int .i64 0] 57)),(b4,some (.cells #[.int .i64 0,.int .i64 1] 75)),(b3,some (.cells #[.int .i64 10,.bool true,.int .i64 1,.bool false,.int .i64 0] 57))])
 case first=>
  go_wp2_with (go_at_call 30;refine HC.out.mono ?_;rintro en wn ⟨rfl,hkn⟩;have HKN:=hid hkn;clear hkn)
  go_meet
  exact⟨rfl,_,rfl,HKN.out.var [.int .i64 10,.bool true,.int .i64 1,.bool false,.int .i64 0] 57⟩
 obtain⟨rfl,b8,rfl,hk⟩:=hcut
 obtain⟨w8,rfl⟩:∃w8,w8=wc:=⟨_,rfl⟩
 have HK8:=hid hk
 clear hk HC
 clear x0 x1
 have ha:=HK8.out.blk (b:=b3) (cs:=[.int .i64 10,.bool true,.int .i64 1,.bool false,.int .i64 0]) (ty:=57) (by simp)
 have a0:=ha.cell (i:=0) rfl
 have a1:=ha.cell (i:=1) rfl
 have a2:=ha.cell (i:=2) rfl
 have a3:=ha.cell (i:=3) rfl
 have a4:=ha.cell (i:=4) rfl
 clear ha
 have hx:=HK8.out.blk (b:=b4) (cs:=[.int .i64 0,.int .i64 1]) (ty:=75) (by simp)
 have x0:=hx.cell (i:=0) rfl
 have x1:=hx.cell (i:=1) rfl
 clear hx
 have hc:=HK8.out.blk (b:=b6) (cs:=[.int .i64 10,.bool true,.int .i64 2,.bool true,.int .i64 0]) (ty:=57) (by simp)
 have c0:=hc.cell (i:=0) rfl
 have c1:=hc.cell (i:=1) rfl
 have c2:=hc.cell (i:=2) rfl
 have c3:=hc.cell (i:=3) rfl
 have c4:=hc.cell (i:=4) rfl
 clear hc
 have hd:=HK8.out.blk (b:=b8) (cs:=[.int .i64 10,.bool true,.int .i64 1,.bool false,.int .i64 0]) (ty:=57) (by simp)
 have d0:=hd.cell (i:=0) rfl
 have d1:=hd.cell (i:=1) rfl
 have d2:=hd.cell (i:=2) rfl
 have d3:=hd.cell (i:=3) rfl
 have d4:=hd.cell (i:=4) rfl
 clear hd
 go_upto_region 10 with fail
 clear a0 a1 a2 a3 a4 x0 x1 c0 c1 c2 c3 c4 d0 d1 d2 d3 d4
 have HK9:=hid (HK8.out.drop (vs':=[(b4,some (.cells #[.int .i64 0,.int .i64 1] 75)),(b3,some (.cells #[.int .i64 10,.bool true,.int .i64 1,.bool false,.int .i64 0] 57))]) (fun v hv=>by simp at hv ⊢;rcases hv with rfl|rfl <;> simp))
 clear HK5 HK6 HK7 HK8
 have hc:Calls prog 28 #[.pointer (some ⟨Y.sb,0,none⟩),.pointer none,.int .i64 1] w8 fun e W'=>e=.returned (.tuple #[.agg #[.int .i64 11,.bool true,.int .i64 2,.bool false,.int .i64 0],.int .i64 0])∧KB w W' Y kS5 (some bt) none [(b4,some (.cells #[.int .i64 0,.int .i64 1] 75)),(b3,some (.cells #[.int .i64 10,.bool true,.int .i64 1,.bool false,.int .i64 0] 57))]:=KB.get k5 HK9.out
 have HC:=hid hc
 clear hc
 go_cut [2,10] from 91 to 95 (fun s2 s10 wx=>s2=.int .i64 0∧∃bb,s10=.pointer (some ⟨bb,0,none⟩)∧KB w wx Y kS5 (some bt) none [(bb,some (.cells #[.int .i64 11,.bool true,.int .i64 2,.bool false,.int .i64 0] 57)),(b4,some (.cells #[.int .i64 0,.int .i64 1] 75)),(b3,some (.cells #[.int .i64 10,.bool true,.int .i64 1,.bool false,.int .i64 0] 57))])
 case first=>
  go_wp2_with (go_at_call 28;refine HC.out.mono ?_;rintro en wn ⟨rfl,hkn⟩;have HKN:=hid hkn;clear hkn)
  go_meet
  exact⟨rfl,_,rfl,HKN.out.var [.int .i64 11,.bool true,.int .i64 2,.bool false,.int .i64 0] 57⟩
 obtain⟨rfl,b10,rfl,hk⟩:=hcut
 obtain⟨w10,rfl⟩:∃w10,w10=wc:=⟨_,rfl⟩
 have HK10:=hid hk
 clear hk HC
 have hd:=HK10.out.blk (b:=b10) (cs:=[.int .i64 11,.bool true,.int .i64 2,.bool false,.int .i64 0]) (ty:=57) (by simp)
 have d0:=hd.cell (i:=0) rfl
 have d1:=hd.cell (i:=1) rfl
 have d2:=hd.cell (i:=2) rfl
 have d3:=hd.cell (i:=3) rfl
 have d4:=hd.cell (i:=4) rfl
 clear hd
 have hx:=HK10.out.blk (b:=b4) (cs:=[.int .i64 0,.int .i64 1]) (ty:=75) (by simp)
 have x0:=hx.cell (i:=0) rfl
 have x1:=hx.cell (i:=1) rfl
 clear hx
 have hn1:Calls prog 31 #[.pointer (some ⟨Y.sb,0,none⟩),.pointer none,.int .i64 9,.agg #[.int .i64 0,.int .i64 1]] w10 fun e W'=>e=.returned (.int .i64 0)∧∃t2:Nat,KB w W' Y kS5 (some t2) (some (9,Za ((0:Nat)+1) 1)) _:=HK10.out.name 9 (by decide) 0 (by decide) 1 (by decide)
 have HN1:=hid hn1
 clear hn1
 go_upto_region 13 with (first|(go_at_call 31;refine HN1.out.mono ?_;rintro en w11 ⟨rfl,t2,hk11⟩;clear HN1;have hb4:=hk11.blk (b:=b4) (cs:=[.int .i64 0,.int .i64 1]) (ty:=75) (by simp);have y0:=hb4.cell (i:=0) rfl;have y1:=hb4.cell (i:=1) rfl;have hn2:Calls prog 31 #[.pointer (some ⟨Y.sb,0,none⟩),.pointer none,.int .i64 9,.agg #[.int .i64 0,.int .i64 1]] w11 fun e W'=>e=.returned (.int .i64 183)∧KB w W' Y kS5 (some t2) (some (9,Za ((0:Nat)+1) 1)) _:=hk11.nameOld (by decide) 0 (by decide) 1 (by decide);have HN2:=hid hn2;clear hb4 hk11 hn2)|(go_at_call 31;refine HN2.out.mono ?_;rintro en w12 ⟨rfl,hk12⟩;clear HN2;have HK12:=hid hk12;clear hk12))
 clear d0 d1 d2 d3 d4 x0 x1 y0 y1 HK9 HK10
 have hnm:=HK12.out.names
 have HNM:=hid hnm
 clear hnm
 go_upto_region 14 with (go_at_call 32;refine HNM.out.mono ?_;rintro en w13 ⟨g,gc,rfl,ob,hk13,hg⟩;clear HNM;have HK13:=hid hk13;have HG:=hid hg;clear hk13 hg)
 clear HK12
 have hc:Calls prog 33 #[.pointer (some ⟨Y.sb,0,none⟩),.pointer none,.int .i64 9,.int .i64 1] w13 fun e W'=>e=.returned (.tuple #[.agg #[.int .i64 10,.bool true,.int .i64 1,.bool false,.int .i64 0],.int .i64 0])∧KB w W' Y kS5 (some t2) (some (9,Za ((0:Nat)+1) 1)) [(g,ob),(b10,some (.cells #[.int .i64 11,.bool true,.int .i64 2,.bool false,.int .i64 0] 57)),(b4,some (.cells #[.int .i64 0,.int .i64 1] 75)),(b3,some (.cells #[.int .i64 10,.bool true,.int .i64 1,.bool false,.int .i64 0] 57))]:=by
  have:=HK13.out.peekNamed (by decide) kDeep kTag k6.choose_spec.1 kEp k6.choose_spec.2
  rw[kC] at this
  exact this
 have HC:=hid hc
 clear hc
 go_cut [2,12] from 117 to 121 (fun s2 s12 wx=>s2=.int .i64 0∧∃bb,s12=.pointer (some ⟨bb,0,none⟩)∧KB w wx Y kS5 (some t2) (some (9,Za ((0:Nat)+1) 1)) [(bb,some (.cells #[.int .i64 10,.bool true,.int .i64 1,.bool false,.int .i64 0] 57)),(g,ob),(b10,some (.cells #[.int .i64 11,.bool true,.int .i64 2,.bool false,.int .i64 0] 57)),(b4,some (.cells #[.int .i64 0,.int .i64 1] 75)),(b3,some (.cells #[.int .i64 10,.bool true,.int .i64 1,.bool false,.int .i64 0] 57))])
 case first=>
  go_wp2_with (go_at_call 33;refine HC.out.mono ?_;rintro en wn ⟨rfl,hkn⟩;have HKN:=hid hkn;clear hkn)
  go_meet
  exact⟨rfl,_,rfl,HKN.out.var [.int .i64 10,.bool true,.int .i64 1,.bool false,.int .i64 0] 57⟩
 obtain⟨rfl,b12,rfl,hk⟩:=hcut
 obtain⟨w14,rfl⟩:∃w14,w14=wc:=⟨_,rfl⟩
 have HK14:=hid hk
 clear hk HC
 have hd:=HK14.out.blk (b:=b12) (cs:=[.int .i64 10,.bool true,.int .i64 1,.bool false,.int .i64 0]) (ty:=57) (by simp)
 have d0:=hd.cell (i:=0) rfl
 have d1:=hd.cell (i:=1) rfl
 have d2:=hd.cell (i:=2) rfl
 have d3:=hd.cell (i:=3) rfl
 have d4:=hd.cell (i:=4) rfl
 clear hd
 have ha:=HK14.out.blk (b:=b3) (cs:=[.int .i64 10,.bool true,.int .i64 1,.bool false,.int .i64 0]) (ty:=57) (by simp)
 have a0:=ha.cell (i:=0) rfl
 have a1:=ha.cell (i:=1) rfl
 have a2:=ha.cell (i:=2) rfl
 have a3:=ha.cell (i:=3) rfl
 have a4:=ha.cell (i:=4) rfl
 clear ha
 obtain⟨g0,g1⟩:=HG.out w14 (HK14.out.mem (b:=g) (o':=ob) (by simp))
 rw[kTag] at g1
 have hmd:=HK14.out.made
 unfold ptr at hmd
 have HMD:=hid hmd
 clear hmd
 go_upto_region 17 with (first|(go_at_call 34;refine HMD.out.mono ?_;rintro en w15 ⟨rfl,hk15⟩;clear HMD;have hun:Calls prog 35 #[.pointer (some ⟨Y.sb,0,none⟩),.pointer none,.int .i64 9] w15 fun e W'=>e=.returned (.int .i64 0)∧KB w W' Y kS7 none none []:=(by have:=KB.unname (by decide) 0 (by decide) 1 (by decide) hk15 2 kL5 (by decide);rw[kD] at this;exact this);have HUN:=hid hun;clear hk15 hun)|(go_at_call 35;refine HUN.out.mono ?_;rintro en w16 ⟨rfl,hk16⟩;clear HUN;have HK16:=hid hk16;clear hk16))
 clear d0 d1 d2 d3 d4 a0 a1 a2 a3 a4 g0 g1 HG HK13 HK14
 have hc:Calls prog 36 #[.pointer (some ⟨Y.sb,0,none⟩),.pointer none,.slice (some ⟨w16.heap.size,0,none⟩) 2 2] (w16.alloc (.cells #[.int .i64 1,.int .i64 5,.int .i64 2,.int .i64 6] 36)) fun e W'=>e=.returned (.tuple #[.agg #[.int .i64 0,.bool false,.int .i64 3,.bool true,.int .i64 2],.int .i64 0])∧KB w W' Y kS8 none none []:=KB.many (l:=[(1,5),(2,6)]) rfl (by decide) k8 (HK16.out.same ((Only.refl [] w16).alloc _)) (Zg w16 (Qd [(1,5),(2,6)]) 36)
 have HC:=hid hc
 clear hc
 go_cut [2,13] from 151 to 158 (fun s2 s13 wx=>s2=.int .i64 0∧∃bb,s13=.pointer (some ⟨bb,0,none⟩)∧KB w wx Y kS8 none none [(bb,some (.cells #[.int .i64 0,.bool false,.int .i64 3,.bool true,.int .i64 2] 57))])
 case first=>
  go_wp2_with (go_at_call 36;refine HC.out.mono ?_;rintro en wn ⟨rfl,hkn⟩;have HKN:=hid hkn;clear hkn)
  go_meet
  exact⟨rfl,_,rfl,HKN.out.var [.int .i64 0,.bool false,.int .i64 3,.bool true,.int .i64 2] 57⟩
 obtain⟨rfl,b13,rfl,hk⟩:=hcut
 obtain⟨w17,rfl⟩:∃w17,w17=wc:=⟨_,rfl⟩
 have HK17:=hid hk
 clear hk HC
 go_upto_region 18 with fail
 have hc:Calls prog 29 #[.pointer (some ⟨Y.sb,0,none⟩),.pointer none] w17 fun e W'=>e=.returned (.tuple #[.agg #[.int .i64 0,.int .i64 2],.int .i64 0])∧KB w W' Y kS9 none none [(b13,some (.cells #[.int .i64 0,.bool false,.int .i64 3,.bool true,.int .i64 2] 57))]:=by
  have:=HK17.out.snap (i:=0) (by rw[kE];decide) (by rw[kE];decide)
  rw[kF,kG] at this
  exact this
 have HC:=hid hc
 clear hc
 go_cut [5,14] from 159 to 163 (fun s5 s14 wx=>s5=.int .i64 0∧∃bb,s14=.pointer (some ⟨bb,0,none⟩)∧KB w wx Y kS9 none none [(bb,some (.cells #[.int .i64 0,.int .i64 2] 75)),(b13,some (.cells #[.int .i64 0,.bool false,.int .i64 3,.bool true,.int .i64 2] 57))])
 case first=>
  go_wp2_with (go_at_call 29;refine HC.out.mono ?_;rintro en wn ⟨rfl,hkn⟩;have HKN:=hid hkn;clear hkn)
  go_meet
  exact⟨rfl,_,rfl,HKN.out.var [.int .i64 0,.int .i64 2] 75⟩
 obtain⟨rfl,b14,rfl,hk⟩:=hcut
 obtain⟨w18,rfl⟩:∃w18,w18=wc:=⟨_,rfl⟩
 have HK18:=hid hk
 clear hk HC
 have hm:=HK18.out.blk (b:=b13) (cs:=[.int .i64 0,.bool false,.int .i64 3,.bool true,.int .i64 2]) (ty:=57) (by simp)
 have m0:=hm.cell (i:=0) rfl
 have m1:=hm.cell (i:=1) rfl
 have m2:=hm.cell (i:=2) rfl
 have m3:=hm.cell (i:=3) rfl
 have m4:=hm.cell (i:=4) rfl
 clear hm
 have hy:=HK18.out.blk (b:=b14) (cs:=[.int .i64 0,.int .i64 2]) (ty:=75) (by simp)
 have y0:=hy.cell (i:=0) rfl
 have y1:=hy.cell (i:=1) rfl
 clear hy
 have hfr:Calls prog 37 #[.pointer (some ⟨Y.sb,0,none⟩),.pointer none,.agg #[.int .i64 0,.int .i64 2]] w18 fun e W'=>e=.returned (.int .i64 0)∧KB w W' Y kS10 none none [(b14,some (.cells #[.int .i64 0,.int .i64 2] 75)),(b13,some (.cells #[.int .i64 0,.bool false,.int .i64 3,.bool true,.int .i64 2] 57))]:=(by
  have:=HK18.out.free (i:=0) (x:=3) (t':=2) kL9 (by decide)
  rw[kI] at this
  exact this)
 have HFR:=hid hfr
 clear hfr
 go_upto_region 21 with (go_at_call 37;refine HFR.out.mono ?_;rintro en w19 ⟨rfl,hk19⟩;clear HFR;have HK19:=hid hk19;clear hk19)
 clear m0 m1 m2 m3 m4 y0 y1
 have hy:=HK19.out.blk (b:=b14) (cs:=[.int .i64 0,.int .i64 2]) (ty:=75) (by simp)
 have y0:=hy.cell (i:=0) rfl
 have y1:=hy.cell (i:=1) rfl
 clear hy
 have hpn:Calls prog 30 #[.pointer (some ⟨Y.sb,0,none⟩),.pointer none,.agg #[.int .i64 0,.int .i64 2],.int .i64 1] w19 fun e W'=>e=.returned (.tuple #[.agg #[.int .i64 0,.bool false,.int .i64 0,.bool false,.int .i64 0],.int .i64 182])∧Only [] w W':=HK19.out.peekNo (l:=(0:Nat)) (st:=2) kH10
 have HPN:=hid hpn
 clear hpn
 go_wp2_with (go_at_call 30;refine HPN.out.mono ?_;rintro en w20 ⟨rfl,ho⟩;clear HPN;have HO:=hid ho;clear ho)
 go_ret
 exact⟨rfl,HO.out⟩
section
open Go.RowKit Go.Maps Go.ChangeShapes Go.WideShapes Go.Deep Go.ChangeAt
section
variable {H:Type}{enc:TypeId × Value→H}{P:Program}{w:World}{base:Nat}{spare:Nat→Bool}{held:Bool}
theorem open_slice_fields {t e:TypeId}{fs:Array Field}{fuel:Nat}{cs:List Value}{x:DataW H × List MemPlace}(ht:P.underlying t=some (.slice e))(he:P.underlying e=some (.struct fs))
  (hone:oneCellFields P fs=true) (hC:P.cellsOf e=fs.size) (h:DataW.trod enc P w base spare held fuel t cs=some x):
  (cs=[.slice none 0 0]∧x=(.nil,[])) ∨
  ∃(a:Addr) (len cap m:Nat) (D:Nat→DataW H) (Pl:Nat→List MemPlace),cs=[.slice (some a) len cap]∧base≤a.block∧len≤cap∧cap≤maxLen∧m=(if spare a.block then cap else len) ∧
   x=(.slice ((List.range len).map D) ((List.range (m-len)).map fun j=>D (len+j)),MemPlace.row a (m*fs.size) ++ (List.range m).flatMap Pl) ∧
   ∀i,i<m→∃(ys:List (DataW H × List MemPlace)) (n:Nat),D i=.agg (ys.map (·.1))∧Pl i=ys.flatMap (·.2)∧ys.length=fs.size ∧
    ∀(j:Nat) (f:Field),fs[j]?=some f→∃(v:Value) (y:DataW H × List MemPlace),w.cell? (a.add (i*fs.size+j))=some v∧ys[j]?=some y∧DataW.trod enc P w base spare held n f.type [v]=some y:=by
 rcases open_slice ht h with h0|⟨a,len,cap,m,n,D,Pl,hcs,hb,hl,hm,hmm,hx,hi⟩
 ·exact .inl h0
 ·refine .inr ⟨a,len,cap,m,D,Pl,hcs,hb,hl,hm,hmm,by rw[hC] at hx;exact hx,fun i him=>?_⟩
  obtain⟨cs',hc,ht'⟩:=hi i him
  rw[hC] at hc
  obtain⟨ys,n',hn',hy,hlen,hyl,hf⟩:=DataW.trod_struct he ht'
  obtain⟨_,hcl,hat⟩:=World.cells?_some hc
  simp only[Prod.mk.injEq] at hy
  refine⟨ys,n',hy.1,hy.2,hyl,fun j f hj=>?_⟩
  obtain⟨ho,hk⟩:=hone_of hone j f hj
  have hjl:j<fs.size:=(Array.getElem?_eq_some_iff.1 hj).1
  have hcell:=hat j hjl
  have hv:cs'[j]?=some (cs'[j]'(by omega)):=List.getElem?_eq_getElem (by omega)
  have h1:=hf j f hj
  rw[ho,hk] at h1
  have hone':(cs'.drop j).take 1=[cs'[j]'(by omega)]:=by
   rw[List.drop_eq_getElem_cons (by omega)]
   rfl
  rw[hone'] at h1
  have hys:ys[j]?=some (ys[j]'(by omega)):=List.getElem?_eq_getElem (by omega)
  refine⟨_,_,?_,hys,h1.trans hys⟩
  rw[←Go.Deep.add_add,hcell,hv]
end
theorem row_of_adds {w:World}{a:Addr}{xs:List Value}(h:∀j u,xs[j]?=some u→w.cell? (a.add j)=some u):Row w (some a) xs:=by
 intro j u hu
 have hj:=(List.getElem?_eq_some_iff.1 hu).1
 have h0:xs[0]?=some (xs[0]'(by omega)):=List.getElem?_eq_getElem _
 have hc:=h 0 _ h0
 obtain⟨b,off,sp⟩:=a
 have hsp:sp=none:=by
  cases sp with
  |none=>rfl
  |some s=>
   simp only[Addr.add,if_true,World.cell?] at hc
   split at hc <;> simp at hc
 subst hsp
 refine⟨b,off,rfl,?_⟩
 have:=h j u hu
 rwa [addr_add] at this
theorem row_of_flat {α:Type}{w:World}{a:Addr}(g:α→List Value)(s:Nat)(hg:∀x,(g x).length=s)(hs:0<s){l:List α}(h:∀i x,l[i]?=some x→∀j u,(g x)[j]?=some u→w.cell? (a.add (i*s+j))=some u):Row w (some a) (l.flatMap g):=by
 refine row_of_adds fun j u hu=>?_
 have hj:=(List.getElem?_eq_some_iff.1 hu).1
 have hlen:(l.flatMap g).length=l.length*s:=by
  clear hu hj h
  induction l with
  |nil=>simp
  |cons x l ih=>rw[List.flatMap_cons,List.length_append,ih,hg,List.length_cons,Nat.succ_mul];omega
 have hi:j / s<l.length:=by rw[hlen] at hj;exact Nat.div_lt_of_lt_mul (by rw[Nat.mul_comm];exact hj)
 have e:j / s*s+j % s=j:=Nat.div_add_mod' j s
 have hx:l[j / s]?=some l[j / s]:=List.getElem?_eq_getElem hi
 have hget:=Qz g s hg l (j / s) _ hx (j % s) (Nat.mod_lt _ hs)
 rw[e,hu] at hget
 have:=h (j / s) _ hx (j % s) u hget.symm
 rwa [e] at this
section
variable {H:Type}{enc:TypeId × Value→H}{w:World}{base:Nat}{held:Bool}
theorem wf64 {n:Int}(h:(Lit.int .i64 n).wf=true):Ql n:=by
 simpa [Ql,Lit.wf,IntKind.min,IntKind.max,IntKind.signed,IntKind.bits] using h
instance:Inhabited OpS:=⟨⟨0,0,0,0,[],none,0⟩⟩
theorem fields36:∃fs:Array Field,prog.underlying 36=some (.struct fs)∧fs.size=2∧fs.toList.map (·.type)=[3,3]∧oneCellFields prog fs=true:=⟨_,Tryz.underlying36,rfl,rfl,by kernel_rfl⟩
theorem fields34:∃fs:Array Field,prog.underlying 34=some (.struct fs)∧fs.size=5∧fs.toList.map (·.type)=[3,3,3,3,29]∧oneCellFields prog fs=true:=⟨_,Tryz.underlying34,rfl,rfl,by kernel_rfl⟩
theorem fields31:∃fs:Array Field,prog.underlying 31=some (.struct fs)∧fs.size=6∧fs.toList.map (·.type)=[3,3,3,3,29,3]∧oneCellFields prog fs=true:=⟨_,Tryz.underlying31,rfl,rfl,by kernel_rfl⟩
theorem openPairs {fuel:Nat}{v:Value}{y:DataW H × List MemPlace}(h:DataW.trod enc prog w base (fun _=>true) held fuel 29 [v]=some y):
  ∃(A:Option Addr) (l:List (Int × Int)) (c:Nat),v=.slice A l.length c∧Row w A (Qd l)∧(A=none→l.length=0)∧(∀p∈l,Ql p.1∧Ql p.2)∧l.length≤Rows.uptoBulk y.1:=by
 obtain⟨fs,hu,hsz,hty,hone⟩:=fields36
 rcases open_slice_fields Tryz.underlying29 hu hone (by rw[hsz];kernel_rfl) h with ⟨hv,rfl⟩|⟨a,len,cap,m,D,Pl,hv,_,hl,hm,hmm,rfl,hx⟩
 ·injection hv with hv
  subst hv
  exact⟨none,[],0,rfl,Row.nil _ _,fun _=>rfl,(fun _ h=>by cases h),Nat.zero_le _⟩
 ·injection hv with hv
  subst hv
  simp only[if_true] at hmm
  subst hmm
  rw[hsz] at hx
  obtain⟨f,hf⟩:=choose_lt (α:=Int × Int) (n:=m) (p:=fun i d=>(∀j u,[Value.int .i64 d.1,.int .i64 d.2][j]?=some u→w.cell? (a.add (i*2+j))=some u)∧Ql d.1∧Ql d.2) (fun i hi=>by
   obtain⟨ys,n,hD,_,hys,hfi⟩:=hx i hi
   have gi:∀j:Nat,[3,3][j]?=some 3→∃n:Int,w.cell? (a.add (i*2+j))=some (.int .i64 n)∧Ql n:=by
    intro j ht
    rw[←hty,List.getElem?_map,Array.getElem?_toList] at ht
    cases hfj:fs[j]? with
    |none=>rw[hfj] at ht;cases ht
    |some g=>
     rw[hfj] at ht
     obtain⟨v,y,h1,h2,h3⟩:=hfi j g hfj
     injection ht with ht
     have ht':g.type=3:=ht
     rw[ht'] at h3
     obtain⟨n,e,_,hw⟩:=DataW.trod_int Tryz.underlying3 h3
     injection e with e
     subst e
     exact⟨n,h1,wf64 hw⟩
   obtain⟨x0,h0,q0⟩:=gi 0 rfl
   obtain⟨x1,h1,q1⟩:=gi 1 rfl
   refine⟨(x0,x1),fun j u hu=>?_,q0,q1⟩
   match j,hu with
   |0,hu=>exact Option.some.inj hu ▸ h0
   |1,hu=>exact Option.some.inj hu ▸ h1
   |j+2,hu=>cases hu)
  have hlen:((List.range len).map f).length=len:=by simp
  have hsl:=bulks.slice_le ((List.range len).map D) ((List.range (m-len)).map fun j=>D (len+j))
  refine⟨some a,(List.range len).map f,m,by rw[hlen],?_,(fun e=>by cases e),fun p hp=>?_,?_⟩
  ·refine row_of_flat (fun p:Int × Int=>[Value.int .i64 p.1,.int .i64 p.2]) 2 (fun _=>rfl) (by decide) fun i x hi j u hu=>?_
   have hil:i<len:=by
    have:=(List.getElem?_eq_some_iff.1 hi).1
    rwa [hlen] at this
   have hxi:f i=x:=by simpa [hil] using hi
   have:=(hf i (by omega)).1 j u
   rw[hxi] at this
   exact this hu
  ·obtain⟨i,hi,rfl⟩:=List.mem_map.1 hp
   exact (hf i (by have:=List.mem_range.1 hi;omega)).2
  ·rw[hlen]
   simp only[List.length_map,List.length_range] at hsl
   exact Nat.le_trans (by omega) hsl
theorem openOps {fuel:Nat}{v:Value}{y:DataW H × List MemPlace}(h:DataW.trod enc prog w base (fun _=>true) held fuel 32 [v]=some y)(hb:Rows.uptoBulk y.1≤1048576):
  ∃(A:Option Addr) (ops:List OpS) (c:Nat),v=.slice A ops.length c∧Row w A (ops.flatMap OpS.cells)∧(A=none→ops.length=0)∧∀o∈ops,OpIn w o:=by
 obtain⟨fs,hu,hsz,hty,hone⟩:=fields34
 rcases open_slice_fields Tryz.underlying32 hu hone (by rw[hsz];kernel_rfl) h with ⟨hv,rfl⟩|⟨a,len,cap,m,D,Pl,hv,_,hl,hm,hmm,rfl,hx⟩
 ·injection hv with hv
  subst hv
  exact⟨none,[],0,rfl,Row.nil _ _,fun _=>rfl,(fun _ h=>by cases h)⟩
 ·injection hv with hv
  subst hv
  simp only[if_true] at hmm
  subst hmm
  rw[hsz] at hx
  obtain⟨f,hf⟩:=choose_lt (α:=OpS) (n:=m) (p:=fun i d=>(∀j u,(OpS.cells d)[j]?=some u→w.cell? (a.add (i*5+j))=some u)∧Row w d.LA (Qd d.L)∧(d.LA=none→d.L.length=0)∧d.L.length≤Rows.uptoBulk (D i)∧Ql d.b∧Ql d.c∧∀p∈d.L,Ql p.2) (fun i hi=>by
   obtain⟨ys,n,hD,_,hys,hfi⟩:=hx i hi
   have gj:∀(j:Nat) (t:TypeId),[3,3,3,3,29][j]?=some t→∃v y,w.cell? (a.add (i*5+j))=some v∧ys[j]?=some y∧DataW.trod enc prog w base (fun _=>true) held n t [v]=some y:=by
    intro j t ht
    rw[←hty,List.getElem?_map,Array.getElem?_toList] at ht
    cases hfj:fs[j]? with
    |none=>rw[hfj] at ht;cases ht
    |some g=>
     rw[hfj] at ht
     obtain⟨v,y,h1,h2,h3⟩:=hfi j g hfj
     injection ht with ht
     have ht':g.type=t:=ht
     rw[ht'] at h3
     exact⟨v,y,h1,h2,h3⟩
   have gi:∀j:Nat,[3,3,3,3,29][j]?=some 3→∃n:Int,w.cell? (a.add (i*5+j))=some (.int .i64 n)∧Ql n:=by
    intro j ht
    obtain⟨v,y,h1,_,h3⟩:=gj j 3 ht
    obtain⟨n,e,_,hw⟩:=DataW.trod_int Tryz.underlying3 h3
    injection e with e
    subst e
    exact⟨n,h1,wf64 hw⟩
   obtain⟨x0,h0,q0⟩:=gi 0 rfl
   obtain⟨x1,h1,q1⟩:=gi 1 rfl
   obtain⟨x2,h2,q2⟩:=gi 2 rfl
   obtain⟨x3,h3,q3⟩:=gi 3 rfl
   obtain⟨v4,y4,h4,hy4,ht4⟩:=gj 4 29 rfl
   obtain⟨LA,L,lc,rfl,r1,r2,r3,r4⟩:=openPairs ht4
   refine⟨⟨x0,x1,x2,x3,L,LA,lc⟩,fun j u hu=>?_,r1,r2,?_,q2,q3,fun p hp=>(r3 p hp).2⟩
   ·match j,hu with
    |0,hu=>exact Option.some.inj hu ▸ h0
    |1,hu=>exact Option.some.inj hu ▸ h1
    |2,hu=>exact Option.some.inj hu ▸ h2
    |3,hu=>exact Option.some.inj hu ▸ h3
    |4,hu=>exact Option.some.inj hu ▸ h4
    |j+5,hu=>cases hu
   ·rw[hD]
    have:=bulks.part_le (List.mem_map.2 ⟨y4,List.mem_of_getElem? hy4,rfl⟩:y4.1∈ys.map (·.1))
    simp only[Rows.uptoBulk]
    omega)
  have hlen:((List.range len).map f).length=len:=by simp
  have hse:=bulks.slice_elems ((List.range len).map D) ((List.range (m-len)).map fun j=>D (len+j))
  refine⟨some a,(List.range len).map f,m,by rw[hlen],?_,(fun e=>by cases e),fun o ho=>?_⟩
  ·refine row_of_flat OpS.cells 5 (fun _=>rfl) (by decide) fun i x hi j u hu=>?_
   have hil:i<len:=by
    have:=(List.getElem?_eq_some_iff.1 hi).1
    rwa [hlen] at this
   have hxi:f i=x:=by simpa [hil] using hi
   have:=(hf i (by omega)).1 j u
   rw[hxi] at this
   exact this hu
  ·obtain⟨i,hi,rfl⟩:=List.mem_map.1 ho
   have hi':=List.mem_range.1 hi
   obtain⟨_,r1,r2,r3,r4,r5,r6⟩:=hf i (by omega)
   have:=bulks.part_le (List.mem_map.2 ⟨i,hi,rfl⟩:D i∈(List.range len).map D)
   dsimp only at hb
   exact⟨r1,r2,by omega,r4,r5,r6⟩
theorem six {cs:List Value}{a b c d e f:Value}(h:cs.length=6)(h0:cs[0]?=some a)(h1:cs[1]?=some b)(h2:cs[2]?=some c)(h3:cs[3]?=some d)(h4:cs[4]?=some e)(h5:cs[5]?=some f):cs=[a,b,c,d,e,f]:=by
 apply List.ext_getElem?
 intro i
 match i with
 |0=>exact h0
 |1=>exact h1
 |2=>exact h2
 |3=>exact h3
 |4=>exact h4
 |5=>exact h5
 |i+6=>rw[List.getElem?_eq_none (by omega)];rfl
theorem openSetup {fuel:Nat}{cs:List Value}{y:DataW H × List MemPlace}(h:DataW.trod enc prog w base (fun _=>true) held fuel 31 cs=some y):
  ∃(n m s l f:Int) (A:Option Addr) (src:List (Int × Int)) (c:Nat),cs=[.int .i64 n,.int .i64 m,.int .i64 s,.int .i64 l,.slice A src.length c,.int .i64 f]∧Row w A (Qd src)∧(A=none→src.length=0)∧(∀p∈src,Ql p.1∧Ql p.2)∧src.length≤Rows.uptoBulk y.1:=by
 obtain⟨fs,hu,hsz,hty,hone⟩:=fields31
 obtain⟨xs,k,rfl,rfl,hlen,hxl,hf⟩:=DataW.trod_struct hu h
 have hC:prog.cellsOf 31=6:=by kernel_rfl
 rw[hC] at hlen
 have gj:∀(j:Nat) (t:TypeId),[3,3,3,3,29,3][j]?=some t→∃v y,cs[j]?=some v∧xs[j]?=some y∧DataW.trod enc prog w base (fun _=>true) held k t [v]=some y:=by
  intro j t ht
  have hjl:j<6:=(List.getElem?_eq_some_iff.1 ht).1
  rw[←hty,List.getElem?_map,Array.getElem?_toList] at ht
  cases hfj:fs[j]? with
  |none=>rw[hfj] at ht;cases ht
  |some g=>
   rw[hfj] at ht
   injection ht with ht
   have ht':g.type=t:=ht
   obtain⟨ho,hk⟩:=hone_of hone j g hfj
   have h1:=hf j g hfj
   rw[ho,hk,ht'] at h1
   have hone':(cs.drop j).take 1=[cs[j]'(by omega)]:=by
    rw[List.drop_eq_getElem_cons (by omega)]
    rfl
   rw[hone'] at h1
   have hxs:xs[j]?=some (xs[j]'(by omega)):=List.getElem?_eq_getElem (by omega)
   exact⟨_,_,List.getElem?_eq_getElem (by omega),hxs,h1.trans hxs⟩
 have gi:∀j:Nat,[3,3,3,3,29,3][j]?=some 3→∃n:Int,cs[j]?=some (.int .i64 n):=by
  intro j ht
  obtain⟨v,y,h1,_,h3⟩:=gj j 3 ht
  obtain⟨n,e,_,hw⟩:=DataW.trod_int Tryz.underlying3 h3
  injection e with e
  subst e
  exact⟨n,h1⟩
 obtain⟨x0,h0⟩:=gi 0 rfl
 obtain⟨x1,h1⟩:=gi 1 rfl
 obtain⟨x2,h2⟩:=gi 2 rfl
 obtain⟨x3,h3⟩:=gi 3 rfl
 obtain⟨v4,y4,h4,hy4,ht4⟩:=gj 4 29 rfl
 obtain⟨x5,h5⟩:=gi 5 rfl
 obtain⟨A,src,c,rfl,r1,r2,r3,r4⟩:=openPairs ht4
 refine⟨x0,x1,x2,x3,x5,A,src,c,?_,r1,r2,r3,?_⟩
 ·exact six hlen h0 h1 h2 h3 h4 h5
 ·have:=bulks.part_le (List.mem_map.2 ⟨y4,List.mem_of_getElem? hy4,rfl⟩:y4.1∈xs.map (·.1))
  simp only[Rows.uptoBulk]
  omega
end
end
end Go.Proofs.YteeefedoffplmaaGreat
