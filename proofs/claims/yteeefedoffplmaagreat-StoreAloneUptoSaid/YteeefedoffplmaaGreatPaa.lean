/- StoreAlone, part Paa: Atom, Tk, Model, Word, Slot, Pool. -/
import Derived.Test.YteeefedoffplmaaGreatRows
import Derived.WalkKit
import Derived.Lib.Hide
import Derived.WalkLawsBesides
import Derived.WalkSpells
import Derived.Deep.OwnRows
import Derived.Deep.Draws
import Derived.Deep.AppendLies
import Derived.Deep.QuietTactic
import Derived.BigQuiet
import Derived.Laws.OwnMore
import Derived.Laws.LoneSync
import Derived.Deep.RegionHeld3
import GoSem.Claim
import Derived.Laws.BitsAllLaws
import Derived.RegionTactic
import Derived.LoopTactic
import Derived.LoopN
set_option linter.unusedSimpArgs false
set_option linter.unusedVariables false
set_option maxRecDepth 100000
set_option maxHeartbeats 51200000
namespace Go.Proofs.YteeefedoffplmaaGreat
open Go.RowKit Lib Go.Proofs.Tryz
end Go.Proofs.YteeefedoffplmaaGreat
namespace Go.Proofs.YteeefedoffplmaaGreat
open Lib Go.Proofs.Tryz
open Go.RowKit
def Blk (w:World)(b:Nat)(cs:List Value)(t:TypeId):Prop:=w.heap[b]?=some (.cells cs.toArray t (0,0))
theorem Blk.lt {w:World}{b:Nat}{cs:List Value}{t:TypeId}(h:Blk w b cs t):b<w.heap.size:=(Array.getElem?_eq_some_iff.1 h).1
theorem Blk.cell {w:World}{b:Nat}{cs:List Value}{t:TypeId}(h:Blk w b cs t){i:Nat}{v:Value}(hv:cs[i]?=some v):w.cell? ⟨b,i,none⟩=some v:=by
 unfold Blk at h
 simp[World.cell?,h,hv]
theorem Blk.frozen {w:World}{b:Nat}{cs:List Value}{t:TypeId}(h:Blk w b cs t)(i:Nat):w.frozen? ⟨b,i,none⟩=false:=by
 unfold Blk at h
 simp[World.frozen?,h]
theorem Blk.set {w:World}{b:Nat}{cs:List Value}{t:TypeId}(h:Blk w b cs t)(i:Nat)(v:Value):Blk (w.setCell ⟨b,i,none⟩ v) b (cs.set i v) t:=by
 unfold Blk at h ⊢
 have:=heap_setCell_same w b i cs.toArray t v h
 simpa using this
theorem Blk.other {w:World}{b b':Nat}{cs:List Value}{t:TypeId}(h:Blk w b cs t)(hne:b≠b')(i:Nat)(v:Value):Blk (w.setCell ⟨b',i,none⟩ v) b cs t:=by
 unfold Blk at h ⊢
 rw[heap_setCell_other _ _ _ _ hne]
 exact h
structure Only (X:List Nat)(w w':World):Prop where
 os:w'.os=w.os
 tape:w'.tape=w.tape
 output:w'.output=w.output
 size:w.heap.size≤w'.heap.size
 block:∀k,k<w.heap.size→k∉X→w'.heap[k]?=w.heap[k]?
theorem Only.refl (X:List Nat)(w:World):Only X w w:=⟨rfl,rfl,rfl,Nat.le_refl _,fun _ _ _=>rfl⟩
theorem Only.trans {X:List Nat}{a b c:World}(h:Only X a b)(k:Only X b c):Only X a c:=
 ⟨k.os.trans h.os,k.tape.trans h.tape,k.output.trans h.output,Nat.le_trans h.size k.size,fun i hi hx=>(k.block i (Nat.lt_of_lt_of_le hi h.size) hx).trans (h.block i hi hx)⟩
theorem Only.mono {X Y:List Nat}{a b:World}(h:Only X a b)(hx:∀k,k∈X→k∈Y):Only Y a b:=⟨h.os,h.tape,h.output,h.size,fun i hi hy=>h.block i hi fun e=>hy (hx i e)⟩
theorem Only.fresh {X Y:List Nat}{a b:World}(h:Only X a b)(hx:∀k,k∈X→k<a.heap.size→k∈Y):Only Y a b:=⟨h.os,h.tape,h.output,h.size,fun i hi hy=>h.block i hi fun e=>hy (hx i e hi)⟩
theorem Only.drew (X:List Nat)(w:World):Only X w w.drew:=⟨rfl,rfl,rfl,Nat.le_refl _,fun _ _ _=>rfl⟩
theorem Only.drewN {X:List Nat}{a w:World}(h:Only X a w)(n:Nat):Only X a (w.drewN n):=⟨h.os,h.tape,h.output,h.size,h.block⟩
theorem Only.drew' {X:List Nat}{a w:World}(h:Only X a w):Only X a w.drew:=⟨h.os,h.tape,h.output,h.size,h.block⟩
theorem Only.alloc {X:List Nat}{a w:World}(h:Only X a w)(o:Obj):Only X a (w.alloc o):=by
 have hb:=(Below.refl w.heap.size w).alloc (Nat.le_refl _) o
 exact h.trans ⟨hb.os,hb.tape,hb.output,hb.size,fun k hk _=>hb.block k hk⟩
theorem Only.setCell {X:List Nat}{a w:World}(h:Only X a w){p:Addr}(hp:p.block∈X∨a.heap.size≤p.block)(v:Value):Only X a (w.setCell p v):=by
 refine⟨h.os,h.tape,h.output,by simpa using h.size,fun k hk hx=>?_⟩
 rw[heap_setCell_other _ _ _ _ (fun e=>by
  subst e
  rcases hp with hp|hp
  ·exact hx hp
  ·omega)]
 exact h.block k hk hx
theorem Only.of_below {X:List Nat}{a b:World}(h:Below a.heap.size a b):Only X a b:=⟨h.os,h.tape,h.output,h.size,fun k hk _=>h.block k hk⟩
theorem Only.below {a b:World}(h:Only [] a b):Below a.heap.size a b:=⟨h.os,h.tape,h.output,h.size,fun k hk=>h.block k hk (by simp)⟩
theorem Only.of_grown {X:List Nat}{a b:World}{row:Option Nat}(h:a.grownBy b row)(hx:∀k,row=some k→k∈X∨a.heap.size≤k):Only X a b:=
 ⟨h.os,h.tape,h.output,h.size,fun k hk hn=>h.block k hk fun e=>by
  rcases hx k e.symm with h1|h1
  ·exact hn h1
  ·omega⟩
theorem Blk.only {X:List Nat}{w w':World}{b:Nat}{cs:List Value}{t:TypeId}(h:Blk w b cs t)(ho:Only X w w')(hb:b∉X):Blk w' b cs t:=(ho.block b h.lt hb).trans h
theorem Blk.alloc {w:World}{b:Nat}{cs:List Value}{t:TypeId}(h:Blk w b cs t)(o:Obj):Blk (w.alloc o) b cs t:=h.only (X:=[]) ((Only.refl _ _).alloc o) (by simp)
theorem Blk.new (w:World)(cs:List Value)(t:TypeId):Blk (w.alloc (.cells cs.toArray t)) w.heap.size cs t:=heap_alloc_new w _
theorem Blk.drew {w:World}{b:Nat}{cs:List Value}{t:TypeId}(h:Blk w b cs t):Blk w.drew b cs t:=h
theorem Blk.drewN {w:World}{b:Nat}{cs:List Value}{t:TypeId}(h:Blk w b cs t)(n:Nat):Blk (w.drewN n) b cs t:=h
theorem ret_bool {a b:Bool}(h:a=b):Ending.returned (.bool a)=.returned (.bool b):=by rw[h]
theorem ret_int {k:IntKind}{a b:Int}(h:a=b):Ending.returned (.int k a)=.returned (.int k b):=by rw[h]
theorem ret_int2 {k l:IntKind}{a b:Int}{x y:Int}(h:a=b)(h':x=y):Ending.returned (.tuple #[.int k a,.int l x])=.returned (.tuple #[.int k b,.int l y]):=by rw[h,h']
theorem addr_add (b off j:Nat):(⟨b,off,none⟩:Addr).add j=⟨b,off+j,none⟩:=by unfold Addr.add;split <;> simp_all
def Ql (x:Int):Prop:=-9223372036854775808≤x∧x≤9223372036854775807
end Go.Proofs.YteeefedoffplmaaGreat
/- The words of sync/atomic's Int64, and a nil worker's Step and Number. Conditions: the cell holds an int64 and is not frozen. -/
namespace Go.Proofs.YteeefedoffplmaaGreat
open Lib Go.Proofs.Tryz
open Go.RowKit
theorem run_call_swap {P : Program}{f : FuncId}{fn : Func}(hf : P.funcs[f]? = some fn)(hname : (fn.name == "runtime.NumGoroutine") = false)(hb : fn.body.isNone = true)(hn : Extern.findNext fn = none)(k : IntKind)
  (he:Extern.find fn=some (Extern.Atomic.swapT (.int k))) {a:Addr} {x y:Int} {w:World} (hc:w.cell? a=some (.int k x)) (hz:w.frozen? a=false):
  (callFunc f #[.pointer (some a),.int k y]).run P w=.ok (.value (.int k x)) (w.setCell a (.int k y)):=by
 rw[run_callFunc_extern hf hname hb hn he]
 change (Sem.run P (do
  let a' ←asAddr (.pointer (some a))
  let old ←Extern.Atomic.read (.int k) a'
  store a' (.int k y) .atomic
  pure old) w).andThen _=_
 simp[Extern.Atomic.read,asAddr,hc,hz,run_store P w a (.int k y) .atomic rfl,Result.andThen]
section
variable (b i:Nat)(x:Int)(w:World)
theorem Zf (hc:w.cell? ⟨b,i,none⟩=some (.int .i64 x)):
  Calls prog 51 #[.pointer (some ⟨b,i,none⟩)] w fun e w'=>e=.returned (.int .i64 x)∧w=w':=by
 have hl:=run_call_load (P:=prog) func113 (by kernel_rfl) (by kernel_rfl) (by kernel_rfl) .i64 (by kernel_rfl) hc
 go_enter func51,ntmps51
 go_wp2
 go_ret
 exact⟨rfl,rfl⟩
theorem atomStore (y:Int)(hc:w.cell? ⟨b,i,none⟩=some (.int .i64 x))(hf:w.frozen? ⟨b,i,none⟩=false):
  Calls prog 100 #[.pointer (some ⟨b,i,none⟩),.int .i64 y] w fun e w'=>e=.returned (.tuple #[])∧w.setCell ⟨b,i,none⟩ (.int .i64 y)=w':=by
 have hl:=run_call_store (P:=prog) func169 (by kernel_rfl) (by kernel_rfl) (by kernel_rfl) (by kernel_rfl) (k:=.i64) (y:=y) hc hf
 go_enter func100,ntmps100
 go_wp2
 go_end0
 exact⟨rfl,rfl⟩
theorem atomCas (y:Int)(hc:w.cell? ⟨b,i,none⟩=some (.int .i64 x))(hf:w.frozen? ⟨b,i,none⟩=false):
  Calls prog 135 #[.pointer (some ⟨b,i,none⟩),.int .i64 x,.int .i64 y] w fun e w'=>e=.returned (.bool true)∧w.setCell ⟨b,i,none⟩ (.int .i64 y)=w':=by
 have hl:=run_call_cas_hit (P:=prog) func190 (by kernel_rfl) (by kernel_rfl) (by kernel_rfl) .i64 (by kernel_rfl) (y:=y) hc hf
 go_enter func135,ntmps135
 go_wp2
 go_ret
 exact⟨rfl,rfl⟩
theorem atomCasMiss (o y:Int)(hne:¬x=o)(hc:w.cell? ⟨b,i,none⟩=some (.int .i64 x))(hf:w.frozen? ⟨b,i,none⟩=false):
  Calls prog 135 #[.pointer (some ⟨b,i,none⟩),.int .i64 o,.int .i64 y] w fun e w'=>e=.returned (.bool false)∧w=w':=by
 have hl:=run_call_cas_miss (P:=prog) func190 (by kernel_rfl) (by kernel_rfl) (by kernel_rfl) .i64 (by kernel_rfl) (o:=o) (y:=y) hc hf hne
 go_enter func135,ntmps135
 go_wp2
 go_ret
 exact⟨rfl,rfl⟩
theorem atomAdd (y:Int)(hc:w.cell? ⟨b,i,none⟩=some (.int .i64 x))(hf:w.frozen? ⟨b,i,none⟩=false):
  Calls prog 227 #[.pointer (some ⟨b,i,none⟩),.int .i64 y] w fun e w'=>e=.returned (.int .i64 (wrap64 (x+y)))∧w.setCell ⟨b,i,none⟩ (.int .i64 (wrap64 (x+y)))=w':=by
 have hl:=run_call_add (P:=prog) func242 (by kernel_rfl) (by kernel_rfl) (by kernel_rfl) .i64 (by kernel_rfl) (y:=y) (s:=wrap64 (x+y)) hc hf (by rw[←IntWalk.i64_left];rfl)
 go_enter func227,ntmps227
 go_wp2
 go_ret
 exact⟨rfl,rfl⟩
theorem atomSwap (y:Int)(hc:w.cell? ⟨b,i,none⟩=some (.int .i64 x))(hf:w.frozen? ⟨b,i,none⟩=false):
  Calls prog 163 #[.pointer (some ⟨b,i,none⟩),.int .i64 y] w fun e w'=>e=.returned (.int .i64 x)∧w.setCell ⟨b,i,none⟩ (.int .i64 y)=w':=by
 have hl:=run_call_swap (P:=prog) func204 (by kernel_rfl) (by kernel_rfl) (by kernel_rfl) .i64 (by kernel_rfl) (y:=y) hc hf
 go_enter func163,ntmps163
 go_wp2
 go_ret
 exact⟨rfl,rfl⟩
theorem Qx:Calls prog 71 #[.pointer none] w fun e w'=>e=.returned (.tuple #[])∧w=w':=by
 go_enter func71,ntmps71
 go_wp2
 exact bodyPost_ret (v:=.tuple #[]) (by simp[results,Tryz.results71,go_sem]) rfl ⟨rfl,rfl⟩
theorem number_nil:Calls prog 157 #[.pointer none] w fun e w'=>e=.returned (.int .i64 0)∧w=w':=by
 go_enter func157,ntmps157
 go_wp2
 go_ret
 exact⟨rfl,rfl⟩
end
end Go.Proofs.YteeefedoffplmaaGreat
namespace Go.Proofs.YteeefedoffplmaaGreat
open Go.RowKit Lib Go.Proofs.Tryz
theorem sp:(∀(a:Act) (d:Tmp) (v:Value),a.put (some d) v=⟨a.tmps.setIfInBounds d v,a.defers⟩)∧(∀(a:Act) (v:Value),a.put none v=a)∧(∀(l:List Value) (i:Nat) (v:Value),l.toArray.setIfInBounds i v=(l.set i v).toArray)∧(∀(x y:Value) (l:List Value),(x :: l).set 0 y=y :: l)∧(∀(x y:Value) (l:List Value) (i:Nat),(x :: l).set (i+1) y=x :: l.set i y):=
 ⟨fun _ _ _=>rfl,fun _ _=>rfl,fun _ _ _=>by simp,fun _ _ _=>rfl,fun _ _ _ _=>rfl⟩
section
variable {P:Program}{ops:Array Oper}{Q:Exit→Act→World→Prop}{md:Region.Mode}{S:World→Prop}
section
variable {fuel:Nat}{listed l':Array Bool}{a a':Act}{w:World}
theorem tk (i:Nat){oi:Oper}{v:Value}(h:wpAnyH P md ops Q S fuel l' a' w)
  (hi:ops[i]?=some oi:=by simp only[List.getElem?_toArray,List.getElem?_cons_succ,List.getElem?_cons_zero];rfl)
  (hs:Region.noSelect ops=true:=by kernel_rfl) (hf:Region.free md ops listed i=true:=by kernel_rfl) (hr:(Region.ready md ops listed).contains i=true:=by kernel_rfl)
  (hQ:∀c a w,Q (.panic c) (a.put oi.dst v) w→Q (.panic c) a w:=by exact fun _ _ _ h=>h)
  (hg:Region.wanted oi (yielded ops a.tmps)=true:=by rfl)
  (hy:∀w,S w→(execOp a.eval oi).run P w=.ok (.value v) w:=by intro w hSw;(try dsimp only at hSw);go_simp;try with_reducible rfl)
  (hS:S w:=by assumption) (hl:listed.setIfInBounds i true=l':=by first|rfl)
  (ha:a.put oi.dst v=a':=by simp only[Act.put,List.setIfInBounds_toArray,List.set_cons_zero,List.set_cons_succ];try rfl):wpAnyH P md ops Q S (fuel+1) listed a w:=by
 subst hl ha
 exact wpAnyH_take hi hs hf hr hQ (Or.inl ⟨hg,hy⟩) hS h
theorem on1 (i:Nat){o:Oper}(h:∀K':Act→World→Prop,Shut (∀a w,S w→(S w→wpAnyH P md ops Q S fuel (listed.setIfInBounds i true) a w)→K' a w)→if Region.wanted o (yielded ops a.tmps)=true then Oper.wp P o a w K' Q else K' (a.put o.dst undef) w)
  (hr:Region.ready md ops listed=[i]:=by kernel_rfl) (ho:ops[i]?=some o:=by simp only[List.getElem?_toArray,List.getElem?_cons_succ,List.getElem?_cons_zero];rfl):wpAnyH P md ops Q S (fuel+1) listed a w:=
 wpAnyH_ready hr (by simp) (AllReadyH.cons ho h AllReadyH.nil)
theorem on2 (i j:Nat){o u:Oper}(h:∀K':Act→World→Prop,Shut (∀a w,S w→(S w→wpAnyH P md ops Q S fuel (listed.setIfInBounds i true) a w)→K' a w)→if Region.wanted o (yielded ops a.tmps)=true then Oper.wp P o a w K' Q else K' (a.put o.dst undef) w)
  (h2:∀K':Act→World→Prop,Shut (∀a w,S w→(S w→wpAnyH P md ops Q S fuel (listed.setIfInBounds j true) a w)→K' a w)→if Region.wanted u (yielded ops a.tmps)=true then Oper.wp P u a w K' Q else K' (a.put u.dst undef) w)
  (hr:Region.ready md ops listed=[i,j]:=by kernel_rfl) (ho:ops[i]?=some o:=by simp only[List.getElem?_toArray,List.getElem?_cons_succ,List.getElem?_cons_zero];rfl) (hu:ops[j]?=some u:=by simp only[List.getElem?_toArray,List.getElem?_cons_succ,List.getElem?_cons_zero];rfl):wpAnyH P md ops Q S (fuel+1) listed a w:=
 wpAnyH_ready hr (by simp) (AllReadyH.cons ho h (AllReadyH.cons hu h2 AllReadyH.nil))
end
end
section
/- words -/
def T40:Int:=1099511627776
def T20:Int:=1048576
def K32:Int:=4294967296
def MaxTag:Int:=1099511627775
def isWordB (w:Int):Bool:=decide (0≤w) && decide (w<T20*T40)
def Qo (w:Int):Int:=if isWordB w then w / T40 else 0
def tagW (w:Int):Int:=if isWordB w then w % T40 else 0
def Za (i t:Int):Int:=i*T40+t
def Qt (k:Int):Bool:=decide (0≤k) && decide (k<K32)
def poison:Int:=-7777777
/- the pool -/
structure NodeS where
 a:Int
 b:Int
 c:Int
 d:Int
deriving DecidableEq
structure SlotS where
 gen:Int
 mark:Int
 link:Int
 node:NodeS
deriving DecidableEq
structure PoolS where
 slots:List SlotS
 head:Int
 next:List Int
 faults:Int
deriving DecidableEq
def PoolS.at (S:PoolS)(h:Int):Option SlotS:=do
 let s ←S.slots[(Qo h).toNat]?
 if 1≤Qo h∧tagW h % 2=1∧s.gen=tagW h then some s else none
def PoolS.read (S:PoolS)(h:Int):Option NodeS:=(S.at h).map SlotS.node
def PoolS.put (S:PoolS)(i:Nat)(s:SlotS):PoolS:={S with slots:=S.slots.set i s}
def PoolS.take (S:PoolS)(x:NodeS)(link:Int):Option (Int × PoolS):=do
 let i:=Qo S.head
 let next ←S.next[i.toNat]?
 let s ←S.slots[i.toNat]?
 if 1≤i∧0≤next∧next<T20∧isWordB S.head∧0≤s.gen∧s.gen+1≤MaxTag then
  some (Za i (s.gen+1),{S with slots:=S.slots.set i.toNat ⟨s.gen+1,0,link,x⟩,head:=Za next ((tagW S.head+1) % T40)})
 else none
def poisoned:NodeS:=⟨poison,poison,poison,poison⟩
def PoolS.push (S:PoolS)(i:Int):Option PoolS:=
 if 1≤i∧i<S.next.length∧i<T20∧isWordB S.head then some {S with next:=S.next.set i.toNat (Qo S.head),head:=Za i ((tagW S.head+1) % T40)} else none
def PoolS.give (S:PoolS)(h:Int):Option PoolS:=do
 let s ←S.at h
 (S.put (Qo h).toNat ⟨s.gen+1,poison,poison,poisoned⟩).push (Qo h)
def PoolS.giveAll (S:PoolS):List Int→Option PoolS
 |[]=>some S
 |h :: l=>do (←S.give h).giveAll l
def PoolS.setMark (S:PoolS)(h v:Int):Option PoolS:=do
 let s ←S.at h
 some (S.put (Qo h).toNat {s with mark:=v})
def PoolS.setLink (S:PoolS)(h v:Int):Option PoolS:=do
 let s ←S.at h
 some (S.put (Qo h).toNat {s with link:=v})
def PoolS.new (n:Nat):PoolS:=
 {slots:=List.replicate (n+1) ⟨0,0,0,⟨0,0,0,0⟩⟩,head:=Za 1 0,next:=(List.range (n+1)).map (fun i=>if 1≤i∧i<n then (i:Int)+1 else 0),faults:=0}
def PoolS.placesFrom (S:PoolS):Nat→Int→List Int→Option (List Int)
 |0,_,_=>none
 |n+1,i,out=>if 1≤i∧i<S.next.length then (if i∈out then none else do S.placesFrom n (←S.next[i.toNat]?) (out ++ [i])) else some out
def PoolS.places (S:PoolS):Option (List Int):=S.placesFrom (S.next.length+1) (Qo S.head) []
/- the tree -/
inductive Shape where
 |leaf (key value:Int)
 |inner (place:Nat) (first left right count:Int)
deriving DecidableEq
def Qi (n:Nat):Int:=((2 ^ n:Nat):Int)
def Shape.lo:Shape→Int
 |.leaf k _=>k
 |.inner _ f _ _ _=>f
def Shape.hi:Shape→Int
 |.leaf k _=>k
 |.inner p f _ _ _=>f+Qi (p+1)-1
def Shape.count:Shape→Int
 |.leaf _ _=>1
 |.inner _ _ _ _ c=>c
def shaped (x:NodeS):Option Shape:=
 if x.a<0 then none
 else if x.a=0 then (if Qt x.b∧x.d=1 then some (.leaf x.b x.c) else none)
 else
  let p:=((x.a-1) % 64).toNat
  let f:=(x.a-1) / 64
  if p<32∧Qt f∧f % Qi (p+1)=0 then some (.inner p f x.b x.c x.d) else none
def PoolS.shape (S:PoolS)(h lo hi:Int):Option Shape:=do
 let s ←shaped (←S.read h)
 if lo≤s.lo∧s.hi≤hi then some s else none
structure StepS where
 place:Nat
 first:Int
 left:Int
 right:Int
 count:Int
 h:Int
 isRight:Bool
deriving DecidableEq
def PoolS.downFrom (S:PoolS)(k:Int):Nat→List StepS→Int→Shape→Option (List StepS × Int × Shape)
 |0,_,_,_=>none
 |n+1,way,h,s=>
  match s with
  |.leaf ..=>some (way,h,s)
  |.inner p f l r c=>
   if s.lo≤k∧k≤s.hi then
    if f+Qi p≤k then do S.downFrom k n (way ++ [⟨p,f,l,r,c,h,true⟩]) r (←S.shape r (f+Qi p) s.hi)
    else do S.downFrom k n (way ++ [⟨p,f,l,r,c,h,false⟩]) l (←S.shape l f (f+Qi p-1))
   else some (way,h,s)
def PoolS.down (S:PoolS)(root k:Int):Option (List StepS × Int × Shape):=do S.downFrom k 40 [] root (←S.shape root 0 (K32-1))
def PoolS.find (S:PoolS)(root k:Int):Option (Int × Bool):=
 if root=0 then some (0,false) else do
  match ←S.down root k with
  |(_,_,.leaf k' v)=>some (if k'=k then (v,true) else (0,false))
  |_=>some (0,false)
structure EditS where
 root:Int
 old:Int
 had:Bool
 gone:List Int
 made:List Int
deriving DecidableEq
def EditS.zero:EditS:=⟨0,0,false,[],[]⟩
def makes (x:NodeS):EditS × PoolS→Option (EditS × PoolS)
 |(m,S)=>do
  let (h,S) ←S.take x 0
  some ({m with root:=h,made:=m.made ++ [h]},S)
def mkLeaf (k v:Int):EditS × PoolS→Option (EditS × PoolS):=makes ⟨0,k,v,1⟩
def mkFork (p:Nat)(f l r c:Int):EditS × PoolS→Option (EditS × PoolS):=makes ⟨f*64+p+1,l,r,c⟩
def Zl (more:Int):List StepS→EditS × PoolS→Option (EditS × PoolS)
 |[],x=>some x
 |s :: l,(m,S)=>do
  let (m,S) ←mkFork s.place s.first (if s.isRight then s.left else m.root) (if s.isRight then m.root else s.right) (s.count+more) (m,S)
  Zl more l ({m with gone:=m.gone ++ [s.h]},S)
def placeX:Nat→Nat→Int
 |0,_=>-1
 |n+1,x=>if x=0 then -1 else 1+placeX n (x / 2)
def placeOf (a b:Nat):Int:=placeX 33 (a ^^^ b)
def splits (h:Int)(s:Shape)(k v:Int)(x:EditS × PoolS):Option (EditS × PoolS):=do
 let (m,S) ←mkLeaf k v x
 let p:=placeOf k.toNat s.lo.toNat
 if 0≤p then mkFork p.toNat (s.lo / Qi (p.toNat+1)*Qi (p.toNat+1)) (if k<s.lo then m.root else h) (if k<s.lo then h else m.root) (s.count+1) (m,S) else none
def PoolS.trieput (S:PoolS)(root k v:Int):Option (EditS × PoolS):=
 if root=0 then mkLeaf k v (.zero,S) else do
  let (way,h,s) ←S.down root k
  match s with
  |.leaf k' v'=>
   if k'=k then
    if v'=v then some ({EditS.zero with root:=root,old:=v,had:=true},S)
    else do Zl 0 way.reverse (←mkLeaf k v ({EditS.zero with old:=v',had:=true,gone:=[h]},S))
   else do Zl 1 way.reverse (←splits h s k v (.zero,S))
  |_=>do Zl 1 way.reverse (←splits h s k v (.zero,S))
def PoolS.triedrop (S:PoolS)(root k:Int):Option (Option (EditS × PoolS)):=
 if root=0 then some none else do
  let (way,h,s) ←S.down root k
  match s with
  |.leaf k' v'=>
   if k'=k then
    match way.reverse with
    |[]=>some (some ({EditS.zero with old:=v',had:=true,gone:=[h]},S))
    |x :: l=>do some (some (←Zl (-1) l ({EditS.zero with root:=if x.isRight then x.left else x.right,old:=v',had:=true,gone:=[h,x.h]},S)))
   else some none
  |_=>some none
/- the clock, the epoch -/
structure ClockS where
 now:Int
 leases:List Int
deriving DecidableEq
structure EpochS where
 workers:Nat
 now:Int
 at0:Int
 deep:Int
 list:List (Int × Int)
deriving DecidableEq
def ClockS.least (c:ClockS):Int:=c.leases.foldl (fun m x=>if x=0 then m else min m (x-1)) c.now
def ClockS.take (c:ClockS):Option (Int × Int × ClockS):=
 match c.leases.findIdx? (·=0) with
 |none=>none
 |some i=>some (i,c.now,⟨c.now+1,c.leases.set i (c.now+1)⟩)
def EpochS.enter (e:EpochS):EpochS:={e with at0:=if e.deep=0 then e.now else e.at0,deep:=e.deep+1}
def EpochS.leave (e:EpochS):EpochS:=if e.deep=0 then e else {e with at0:=if e.deep=1 then 0 else e.at0,deep:=e.deep-1}
def EpochS.retire (e:EpochS)(h:Int):EpochS:={e with list:=e.list ++ [(h,e.now)]}
def EpochS.advance (e:EpochS):Option EpochS:=if e.at0=0∨e.at0=e.now then some {e with now:=e.now+1} else none
def collectFrom:Nat→Int→EpochS × PoolS→Option (Int × EpochS × PoolS)
 |0,_,_=>none
 |f+1,n,(e,S)=>
  match e.list.findIdx? (fun x=>x.2+2≤e.now) with
  |none=>some (n,e,S)
  |some i=>do
   let x ←e.list[i]?
   let S ←S.give x.1
   collectFrom f (n+1) ({e with list:=e.list.eraseIdx i},S)
def collect (e:EpochS)(S:PoolS):Option (Int × EpochS × PoolS):=collectFrom (e.list.length+1) 0 (e,S)
/- chains -/
structure ChainS where
 head:Int
 sets:List (Int × List Int)
deriving DecidableEq
def settle (now:Int)(S:PoolS)(h:Int):Option (Int × PoolS):=do
 let s ←S.at h
 if s.mark≠0 then some (s.mark,S) else do some (now,←S.setMark h now)
def ChainS.first (C:ChainS)(S:PoolS)(x:NodeS):Option (Int × ChainS × PoolS):=do
 let (h,S) ←S.take x 0
 let S ←S.setMark h 1
 if C.head=0∧Qo h<C.sets.length then some (h,⟨h,C.sets.set (Qo h).toNat (h,[])⟩,S) else none
def ChainS.top (C:ChainS)(now:Int)(S:PoolS):Option (Int × Int × PoolS):=do
 if C.head=0 then none else
 let (s,S) ←settle now S C.head
 some (C.head,s,S)
def ChainS.push (C:ChainS)(now:Int)(S:PoolS)(old:Int)(x:NodeS)(l:List Int):Option (Int × ChainS × PoolS):=do
 let (h,S) ←S.take x old
 if C.head=old∧Qo h<C.sets.length then do
  let (_,S) ←settle now S h
  some (h,⟨h,C.sets.set (Qo h).toNat (h,l)⟩,S)
 else none
def atFrom (stamp:Int)(S:PoolS):Nat→Int→Int→Option (Option Int)
 |0,_,_=>none
 |f+1,h,s=>if s > stamp then do
   let x ←S.at h
   if x.link=0 then some none else do
    let y ←S.at x.link
    atFrom stamp S f x.link y.mark
  else some (some h)
def ChainS.atStamp (C:ChainS)(now:Int)(S:PoolS)(stamp:Int):Option (Option Int × PoolS):=do
 if C.head=0 then some (none,S) else
 let (h,s,S) ←C.top now S
 let r ←atFrom stamp S (S.slots.length+1) h s
 some (r,S)
def ChainS.cut (C:ChainS)(S:PoolS)(h:Int):Option (Int × List Int × ChainS × PoolS):=do
 let x ←S.at h
 let S ←S.setLink h 0
 if x.link=0 then some (0,[],C,S) else do
  let s ←C.sets[(Qo h).toNat]?
  if s.1=h then some (x.link,s.2,{C with sets:=C.sets.set (Qo h).toNat (h,[])},S) else some (x.link,[],C,S)
def aliveIn (slots:List SlotS)(h:Int):Option SlotS:=do
 let s ←slots[(Qo h).toNat]?
 if 1≤Qo h∧s.gen=tagW h∧tagW h % 2≠0 then some s else none
def versionsFrom (slots:List SlotS):Nat→Int→List Int→List Int
 |0,_,out=>out
 |f+1,h,out=>if h=0 then out else
  match aliveIn slots h with
  |none=>out
  |some s=>versionsFrom slots f s.link (out ++ [h])
def ChainS.versions (C:ChainS)(S:PoolS):List Int:=versionsFrom S.slots (S.slots.length-1) C.head []
/- loads -/
structure LPartS where
 state:Int
 pairs:List (Int × Int)
 fails:Int
deriving DecidableEq
structure LoadingS where
 root:Int
 nodes:List Int
/- the store -/
structure StoreS where
 pool:PoolS
 clock:ClockS
 epoch:EpochS
 chains:List ChainS
 loads:List LPartS
deriving DecidableEq
structure ToldS where
 value:Int
 had:Bool
 number:Int
 new:Bool
 many:Int
deriving DecidableEq
def ToldS.zero:ToldS:=⟨0,false,0,false,0⟩
def Qu (key parts:Int):Int:=key*parts / K32
structure ChangeS where
 root:Int
 gone:List Int
 made:List Int
 told:ToldS
def changed (root:Int)(e:EditS):ChangeS:=⟨e.root,e.gone,e.made,⟨e.old,e.had,0,decide (e.root≠root),0⟩⟩
def Zk (e:EpochS)(l:List Int):EpochS:=l.foldl EpochS.retire e
def trimFrom:Nat→Int→Int→ChainS × EpochS × PoolS→Option (Int × ChainS × EpochS × PoolS)
 |0,_,_,_=>none
 |f+1,n,v,(C,e,S)=>do
  let (older,l,C,S) ←C.cut S v
  if older=0 then some (n,C,e,S) else trimFrom f (n+l.length+1) older (C,Zk e (l ++ [older]),S)
def StoreS.trim (X:StoreS)(p:Nat):Option (Int × StoreS):=do
 let C ←X.chains[p]?
 let e:=X.epoch.enter
 let (v,S) ←C.atStamp X.clock.now X.pool X.clock.least
 match v with
 |none=>some (0,{X with pool:=S,epoch:=e.leave})
 |some v=>do
  let (n,C,e,S) ←trimFrom (S.slots.length+1) 0 v (C,e,S)
  some (n,{X with pool:=S,epoch:=e.leave,chains:=X.chains.set p C})
def StoreS.advance (X:StoreS):Option StoreS:=do some {X with epoch:=←X.epoch.advance}
def StoreS.collect (X:StoreS):Option (Int × StoreS):=do
 let (n,e,S) ←Go.Proofs.YteeefedoffplmaaGreat.collect X.epoch X.pool
 some (n,{X with epoch:=e,pool:=S})
def StoreS.new (parts workers slots leases:Nat)(source:List (Int × Int))(fails:Int):StoreS:=
 {pool:=.new slots,clock:=⟨1,List.replicate leases 0⟩,epoch:=⟨workers,1,0,0,[]⟩,chains:=List.replicate parts ⟨0,List.replicate (slots+1) (0,[])⟩,
  loads:=(List.range parts).map fun (p:Nat)=>⟨0,source.filter (fun x=>decide (Qu x.1 parts=(p:Int))),max fails 0⟩}
/- the audit -/
end
/- bits of numbers that are not negative -/
theorem ofInt_i64 (a:Nat)(h:a<9223372036854775808):(BitVec.ofInt 64 (a:Int)).toNat=a:=by
 simp
 omega
theorem i64_or_nat (a b:Nat)(ha:a<9223372036854775808)(hb:b<9223372036854775808):bits .or .i64 (a:Int) (b:Int)=((a ||| b:Nat):Int):=by
 have hx:a ||| b<2 ^ 63:=Nat.or_lt_two_pow (by omega) (by omega)
 show IntKind.i64.wrap ((BitVec.ofInt 64 (a:Int) ||| BitVec.ofInt 64 (b:Int)).toNat:Int)=_
 rw[BitVec.toNat_or,ofInt_i64 a ha,ofInt_i64 b hb,IntWalk.i64_in _ (by omega)]
theorem i64_and_nat (a b:Nat)(ha:a<9223372036854775808)(hb:b<9223372036854775808):bits .and .i64 (a:Int) (b:Int)=((a &&& b:Nat):Int):=by
 have hx:a &&& b<2 ^ 63:=Nat.and_lt_two_pow _ (by omega)
 show IntKind.i64.wrap ((BitVec.ofInt 64 (a:Int) &&& BitVec.ofInt 64 (b:Int)).toNat:Int)=_
 rw[BitVec.toNat_and,ofInt_i64 a ha,ofInt_i64 b hb,IntWalk.i64_in _ (by omega)]
theorem i64_xor_nat (a b:Nat)(ha:a<9223372036854775808)(hb:b<9223372036854775808):bits .xor .i64 (a:Int) (b:Int)=((a ^^^ b:Nat):Int):=by
 have hx:a ^^^ b<2 ^ 63:=Nat.xor_lt_two_pow (by omega) (by omega)
 show IntKind.i64.wrap ((BitVec.ofInt 64 (a:Int) ^^^ BitVec.ofInt 64 (b:Int)).toNat:Int)=_
 rw[BitVec.toNat_xor,ofInt_i64 a ha,ofInt_i64 b hb,IntWalk.i64_in _ (by omega)]
theorem or_pack (i t:Nat)(ht:t<1099511627776):i*1099511627776 ||| t=i*1099511627776+t:=by
 have:=Nat.shiftLeft_add_eq_or_of_lt (i:=40) (b:=t) (by omega) i
 rw[Nat.shiftLeft_eq] at this
 exact this.symm
theorem and_tag (x:Nat):x &&& 1099511627775=x % 1099511627776:=Nat.and_two_pow_sub_one_eq_mod x 40
theorem isWordB_iff (h:Int):isWordB h=true↔0≤h∧h≤1152921504606846975:=by
 unfold isWordB T20 T40
 simp
 omega
theorem isWord_any (h:Int)(w:World):Calls prog 156 #[.int .i64 h] w fun e w'=>e=.returned (.bool (isWordB h))∧w=w':=by
 go_enter func156,ntmps156
 go_wp2
 all_goals
  go_ret
  refine⟨ret_bool ?_,rfl⟩
  rw[Bool.eq_iff_iff,isWordB_iff]
  simp
  omega
theorem index_any (h:Int)(w:World):Calls prog 95 #[.int .i64 h] w fun e w'=>e=.returned (.int .i64 (Qo h))∧w=w':=by
 unfold Qo
 cases hb:isWordB h with
 |false=>
  have hw:=isWord_any h w
  rw[hb] at hw
  go_enter func95,ntmps95
  go_wp2_with (go_at_call 156;refine hw.mono ?_;rintro e w' ⟨rfl,rfl⟩)
  go_ret
  exact⟨rfl,rfl⟩
 |true=>
  have hw:=isWord_any h w
  rw[hb] at hw
  obtain⟨h0,h1⟩:=(isWordB_iff h).1 hb
  go_enter func95,ntmps95
  go_wp2_with (go_at_call 156;refine hw.mono ?_;rintro e w' ⟨rfl,rfl⟩)
  go_ret
  exact⟨rfl,rfl⟩
theorem tag_any (h:Int)(w:World):Calls prog 84 #[.int .i64 h] w fun e w'=>e=.returned (.int .i64 (tagW h))∧w=w':=by
 unfold tagW
 cases hb:isWordB h with
 |false=>
  have hw:=isWord_any h w
  rw[hb] at hw
  go_enter func84,ntmps84
  go_wp2_with (go_at_call 156;refine hw.mono ?_;rintro e w' ⟨rfl,rfl⟩)
  go_ret
  exact⟨rfl,rfl⟩
 |true=>
  have hw:=isWord_any h w
  rw[hb] at hw
  obtain⟨h0,h1⟩:=(isWordB_iff h).1 hb
  go_enter func84,ntmps84
  go_wp2_with (go_at_call 156;refine hw.mono ?_;rintro e w' ⟨rfl,rfl⟩)
  go_ret
  refine⟨ret_int ?_,rfl⟩
  obtain⟨n,rfl⟩:=Int.eq_ofNat_of_zero_le h0
  show bits .and .i64 _ ((1099511627775:Nat):Int)=_
  rw[i64_and_nat _ _ (by omega) (by omega),and_tag]
  unfold T40
  simp
theorem pack_or (i t:Int)(hi:0≤i)(hi':i≤1048575)(ht:0≤t)(ht':t≤1099511627775):bits .or .i64 (i*1099511627776) t=Za i t:=by
 obtain⟨n,rfl⟩:=Int.eq_ofNat_of_zero_le hi
 obtain⟨m,rfl⟩:=Int.eq_ofNat_of_zero_le ht
 have e:((n:Int)*1099511627776)=((n*1099511627776:Nat):Int):=by simp
 rw[e,i64_or_nat _ _ (by omega) (by omega),or_pack _ _ (by omega)]
 unfold Za T40
 simp
theorem pack_any (i t:Int)(w:World)(hi:0≤i)(hi':i≤1048575)(ht:0≤t)(ht':t≤1099511627775):
  Calls prog 81 #[.int .i64 i,.int .i64 t] w fun e w'=>e=.returned (.tuple #[.int .i64 (Za i t),.int .i64 0])∧w=w':=by
 have hp:=hid (pack_or i t hi hi' ht ht')
 go_enter func81,ntmps81
 go_wp2
 go_ret2
 exact⟨ret_int2 hp.out rfl,rfl⟩
theorem isIndex_yes (i:Int)(w:World)(hi:0≤i)(hi':i≤1048575):Calls prog 148 #[.int .i64 i] w fun e w'=>e=.returned (.bool true)∧w=w':=by
 go_enter func148,ntmps148
 go_wp2
 go_ret
 exact⟨rfl,rfl⟩
theorem isParts_yes (i:Int)(w:World)(hi:1≤i)(hi':i≤64):Calls prog 106 #[.int .i64 i] w fun e w'=>e=.returned (.bool true)∧w=w':=by
 go_enter func106,ntmps106
 go_wp2
 go_ret
 exact⟨rfl,rfl⟩
theorem next_any (h i:Int)(w:World)(hh:isWordB h=true)(hi:0≤i)(hi':i≤1048575):
  Calls prog 217 #[.int .i64 h,.int .i64 i] w fun e w'=>e=.returned (.tuple #[.int .i64 (Za i ((tagW h+1) % T40)),.int .i64 0])∧w=w':=by
 have hw:=isWord_any h w
 rw[hh] at hw
 have h0:0≤tagW h∧tagW h≤1099511627775:=by unfold tagW T40;split <;> omega
 have hp:bits .or .i64 (i*1099511627776) (bits .and .i64 (tagW h+1) 1099511627775)=Za i ((tagW h+1) % T40):=by
  generalize tagW h=x at *
  obtain⟨m,rfl⟩:=Int.eq_ofNat_of_zero_le h0.1
  have e:((m:Int)+1)=((m+1:Nat):Int):=by simp
  have e2:bits .and .i64 ((m:Int)+1) 1099511627775=((m:Int)+1) % T40:=by
   rw[e]
   show bits .and .i64 _ ((1099511627775:Nat):Int)=_
   rw[i64_and_nat _ _ (by omega) (by omega),and_tag]
   unfold T40
   simp
  rw[e2,pack_or _ _ hi hi' (by unfold T40;omega) (by unfold T40;omega)]
 have HP:=hid hp
 clear hp hh
 obtain⟨h1,h2⟩:=h0
 go_enter func217,ntmps217
 go_wp2_with (first|(go_at_call 148;refine (isIndex_yes _ _ hi hi').mono ?_;rintro e w' ⟨rfl,rfl⟩)|(go_at_call 156;refine hw.mono ?_;rintro e w' ⟨rfl,rfl⟩)|(go_at_call 84;refine (tag_any _ _).mono ?_;rintro e w' ⟨rfl,rfl⟩))
 go_ret2
 exact⟨ret_int2 HP.out rfl,rfl⟩
theorem isKey_any (k:Int)(w:World):Calls prog 105 #[.int .i64 k] w fun e w'=>e=.returned (.bool (Qt k))∧w=w':=by
 go_enter func105,ntmps105
 go_wp2
 all_goals
  go_ret
  refine⟨ret_bool ?_,rfl⟩
  unfold Qt K32
  rw[Bool.eq_iff_iff]
  simp
  omega
theorem keyB_iff (k:Int):Qt k=true↔0≤k∧k≤4294967295:=by
 unfold Qt K32
 simp
 omega
theorem part_yes (k n:Int)(w:World)(hk:Qt k=true)(h1:1≤n)(h2:n≤64):
  Calls prog 47 #[.int .i64 k,.int .i64 n] w fun e w'=>e=.returned (.tuple #[.int .i64 (Qu k n),.int .i64 0])∧w=w':=by
 have hw:=isKey_any k w
 rw[hk] at hw
 obtain⟨g1,g2⟩:=(keyB_iff k).1 hk
 have g3:0≤k*n:=Int.mul_nonneg g1 (by omega)
 have g4:k*n≤4294967295*64:=Int.mul_le_mul g2 h2 (by omega) (by omega)
 unfold Qu K32
 go_enter func47,ntmps47
 go_wp2_with (first|(go_at_call 105;refine hw.mono ?_;rintro e w' ⟨rfl,rfl⟩)|(go_at_call 106;refine (isParts_yes _ _ h1 h2).mono ?_;rintro e w' ⟨rfl,rfl⟩))
 go_ret2
 exact⟨ret_int2 rfl rfl,rfl⟩
theorem part_no (k n:Int)(w:World)(hk:Qt k=false):
  Calls prog 47 #[.int .i64 k,.int .i64 n] w fun e w'=>e=.returned (.tuple #[.int .i64 0,.int .i64 12])∧w=w':=by
 have hw:=isKey_any k w
 rw[hk] at hw
 clear hk
 go_enter func47,ntmps47
 go_wp2_with (go_at_call 105;refine hw.mono ?_;rintro e w' ⟨rfl,rfl⟩)
 go_ret2
 exact⟨rfl,rfl⟩
theorem placeX_big:∀(n x:Nat),x<2 ^ n→∀m,x<2 ^ m→placeX n x=placeX m x
 |0,x,h,m,_=>by
  have:x=0:=by simpa using h
  subst this
  cases m <;> simp[placeX]
 |n+1,x,h,0,h'=>by
  have:x=0:=by simpa using h'
  subst this
  simp[placeX]
 |n+1,x,h,m+1,h'=>by
  simp only[placeX]
  rw[placeX_big n (x / 2) (by rw[Nat.pow_succ] at h;omega) m (by rw[Nat.pow_succ] at h';omega)]
theorem placeX_half (x:Nat)(hx:x<8589934592)(h0:x≠0):placeX 33 x=1+placeX 33 (x / 2):=by
 rw[show placeX 33 x=1+placeX 32 (x / 2) by simp[placeX,h0],placeX_big 32 (x / 2) (by omega) 33 (by omega)]
theorem placeX_byte (x:Nat)(hx:x<8589934592)(h0:256≤x):placeX 33 x=8+placeX 33 (x / 256):=by
 rw[placeX_half x hx (by omega),placeX_half (x / 2) (by omega) (by omega),placeX_half (x / 2 / 2) (by omega) (by omega),placeX_half (x / 2 / 2 / 2) (by omega) (by omega),placeX_half (x / 2 / 2 / 2 / 2) (by omega) (by omega),
  placeX_half (x / 2 / 2 / 2 / 2 / 2) (by omega) (by omega),placeX_half (x / 2 / 2 / 2 / 2 / 2 / 2) (by omega) (by omega),placeX_half (x / 2 / 2 / 2 / 2 / 2 / 2 / 2) (by omega) (by omega)]
 have:x / 2 / 2 / 2 / 2 / 2 / 2 / 2 / 2=x / 256:=by omega
 rw[this]
 omega
theorem placeX_bound:∀(n x:Nat),-1≤placeX n x∧placeX n x<n
 |0,_=>by simp[placeX]
 |n+1,x=>by
  have:=placeX_bound n (x / 2)
  unfold placeX
  split <;> omega
theorem isKey_nat (a:Nat)(w:World)(ha:Hid (a<4294967296)):Calls prog 105 #[.int .i64 (a:Int)] w fun e w'=>e=.returned (.bool true)∧w=w':=by
 have h:=isKey_any (a:Int) w
 rw[(keyB_iff _).2 (by have:=ha.out;omega)] at h
 exact h
def Num33 (n:Nat):Prop:=n<8589934592
theorem place_any (a b:Nat)(w:World)(ha:a<4294967296)(hb:b<4294967296):
  Calls prog 230 #[.int .i64 a,.int .i64 b] w fun e w'=>e=.returned (.tuple #[.int .i64 (placeOf a b),.int .i64 0])∧w=w':=by
 have HA:=hid ha
 have HB:=hid hb
 have hx:bits .xor .i64 (a:Int) (b:Int)=((a ^^^ b:Nat):Int):=i64_xor_nat a b (by omega) (by omega)
 have hlt:a ^^^ b<4294967296:=show a ^^^ b<2 ^ 32 from Nat.xor_lt_two_pow (by omega) (by omega)
 unfold placeOf
 generalize hX:a ^^^ b=X at hx hlt
 have HLT:=hid hlt
 have HX:=hid hx
 clear hx
 clear hX ha hb hlt
 go_enter func230,ntmps230
 go_wp2_with (go_at_call 105;refine (isKey_nat _ _ (by first|exact HA|exact HB)).mono ?_;rintro e w' ⟨rfl,rfl⟩)
 go_loop [6,7] (fun t x=>∃(n:Nat) (m:Int),Num33 n∧-1≤m∧m≤100∧x=.int .i64 n∧t=.int .i64 m∧m+1+placeX 33 n=placeX 33 X) (fun _ x=>(intOf x).toNat)
 case atStart=>exact⟨X,-1,by have:=HLT.out;unfold Num33;omega,by omega,by omega,by rw[HX.out],rfl,by omega⟩
 case round=>
  obtain⟨n,m,hn,h1,h2,rfl,rfl,hm⟩:=hrel
  have HM:=hid hm
  clear hm
  by_cases hbig:256≤n
  ·have h3:m≤40:=by
    have:=placeX_bound 33 X
    have:=placeX_bound 33 n
    have:=HM.out
    omega
   have hs:=hid (placeX_byte n hn hbig)
   go_wp2_with fail
   go_round
   case rel=>exact⟨n / 256,m+8,by unfold Num33 at hn ⊢;omega,by omega,by omega,by simp,by go_num,by have:=hs.out;have:=HM.out;omega⟩
   case measure=>simp[intOf];omega
  ·go_wp2_with fail
   go_loop [6,7] (fun t x=>∃(n:Nat) (m:Int),Num33 n∧-1≤m∧m≤100∧x=.int .i64 n∧t=.int .i64 m∧m+1+placeX 33 n=placeX 33 X) (fun _ x=>(intOf x).toNat)
   case atStart=>exact⟨n,m,hn,h1,h2,rfl,rfl,HM.out⟩
   case round=>
    obtain⟨n,m,hn,h1,h2,rfl,rfl,hm⟩:=hrel
    have HM:=hid hm
    clear hm
    by_cases hz:n=0
    ·subst hz
     go_wp2_with fail
     go_ret2
     exact⟨ret_int2 (by have:=HM.out;simp[placeX] at this ⊢;omega) rfl,rfl⟩
    ·have hpos:0<n:=by omega
     have h3:m≤40:=by
      have:=placeX_bound 33 X
      have:=placeX_bound 33 n
      have:=HM.out
      omega
     have hs:=hid (placeX_half n hn hz)
     have hn':(n:Int)<8589934592:=by unfold Num33 at hn;omega
     clear hz
     go_wp2_with fail
     go_round
     case rel=>exact⟨n / 2,m+1,by unfold Num33 at hn ⊢;omega,by omega,by omega,by simp,by go_num,by have:=hs.out;have:=HM.out;omega⟩
     case measure=>simp[intOf];omega
end Go.Proofs.YteeefedoffplmaaGreat
namespace Go.Proofs.YteeefedoffplmaaGreat
open Lib Go.Proofs.Tryz
open Go.RowKit
theorem Qz {α:Type}(f:α→List Value)(s:Nat)(hf:∀x,(f x).length=s):∀(l:List α) (k:Nat) (x:α),l[k]?=some x→∀j,j<s→(l.flatMap f)[k*s+j]?=(f x)[j]?
 |[],k,x,h=>by simp at h
 |y :: l,0,x,h=>fun j hj=>by
  simp at h
  subst h
  simp[List.getElem?_append,hf,hj]
 |y :: l,k+1,x,h=>fun j hj=>by
  have ih:=Qz f s hf l k x (by simpa using h) j hj
  rw[List.flatMap_cons,List.getElem?_append_right (by rw[hf,Nat.succ_mul];omega),hf,←ih]
  congr 1
  rw[Nat.succ_mul]
  omega
theorem flatMap_set {α:Type}(f:α→List Value)(s:Nat)(hf:∀x,(f x).length=s):∀(l:List α) (k:Nat) (x:α),l[k]?=some x→∀j v y,j<s→f y=(f x).set j v→(l.flatMap f).set (k*s+j) v=(l.set k y).flatMap f
 |[],k,x,h=>by simp at h
 |z :: l,0,x,h=>fun j v y hj hy=>by
  simp at h
  subst h
  rw[List.set_cons_zero,List.flatMap_cons,List.flatMap_cons,hy,List.set_append_left _ _ (by rw[hf];omega)]
  simp
 |z :: l,k+1,x,h=>fun j v y hj hy=>by
  have ih:=flatMap_set f s hf l k x (by simpa using h) j v y hj hy
  rw[List.set_cons_succ,List.flatMap_cons,List.flatMap_cons,List.set_append_right _ _ (by rw[hf,Nat.succ_mul];omega),hf,←ih]
  congr 2
  rw[Nat.succ_mul]
  omega
def NodeS.cells (x:NodeS):List Value:=[.int .i64 x.a,.int .i64 x.b,.int .i64 x.c,.int .i64 x.d]
def NodeS.val (x:NodeS):Value:=.agg #[.int .i64 x.a,.int .i64 x.b,.int .i64 x.c,.int .i64 x.d]
def SlotS.cells (s:SlotS):List Value:=[.int .i64 s.gen,.int .i64 s.mark,.int .i64 s.link,.int .i64 s.node.a,.int .i64 s.node.b,.int .i64 s.node.c,.int .i64 s.node.d]
theorem SlotS.cells_length (s:SlotS):s.cells.length=7:=rfl
structure NodeS.Ok (x:NodeS):Prop where
 a:Ql x.a
 b:Ql x.b
 c:Ql x.c
 d:Ql x.d
structure SlotS.Ok (s:SlotS):Prop where
 gen:Ql s.gen
 mark:Ql s.mark
 link:Ql s.link
 node:s.node.Ok
structure PoolL where
 pb:Nat
 lb:Nat
 fb:Nat
 nb:Nat
def PoolL.blocks (L:PoolL):List Nat:=[L.lb,L.fb,L.nb]
def PoolL.all (L:PoolL):List Nat:=[L.pb,L.lb,L.fb,L.nb]
def ptr (b:Nat):Value:=.pointer (some ⟨b,0,none⟩)
def Qr (b n:Nat):Value:=.slice (some ⟨b,0,none⟩) n n
structure PoolAt (w:World)(L:PoolL)(S:PoolS):Prop where
 p:Blk w L.pb [Qr L.lb S.slots.length,ptr L.fb,.int .i64 S.faults] 124
 l:Blk w L.lb (S.slots.flatMap SlotS.cells) 280
 f:Blk w L.fb [.int .i64 S.head,Qr L.nb S.next.length] 271
 n:Blk w L.nb (S.next.map (Value.int .i64)) 122
 apart:L.pb≠L.lb∧L.pb≠L.fb∧L.pb≠L.nb∧L.lb≠L.fb∧L.lb≠L.nb∧L.fb≠L.nb
 len:S.next.length=S.slots.length
 most:S.slots.length≤4097
 ok:∀s∈S.slots,s.Ok
 nok:∀x∈S.next,Ql x
section
variable {w w':World}{L:PoolL}{S:PoolS}
theorem PoolAt.only (h:PoolAt w L S){X:List Nat}(ho:Only X w w')(hx:∀k∈L.all,k∉X):PoolAt w' L S:=
 ⟨h.p.only ho (hx _ (by simp[PoolL.all])),h.l.only ho (hx _ (by simp[PoolL.all])),h.f.only ho (hx _ (by simp[PoolL.all])),h.n.only ho (hx _ (by simp[PoolL.all])),h.apart,h.len,h.most,h.ok,h.nok⟩
theorem PoolAt.drew (h:PoolAt w L S):PoolAt w.drew L S:=⟨h.p,h.l,h.f,h.n,h.apart,h.len,h.most,h.ok,h.nok⟩
theorem PoolAt.alloc (h:PoolAt w L S)(o:Obj):PoolAt (w.alloc o) L S:=h.only (X:=[]) ((Only.refl _ _).alloc o) (by simp)
theorem PoolAt.below (h:PoolAt w L S)(hb:Below w.heap.size w w'):PoolAt w' L S:=h.only (X:=[]) (.of_below hb) (by simp)
theorem PoolAt.lt (h:PoolAt w L S):∀k∈L.all,k<w.heap.size:=by
 intro k hk
 simp only[PoolL.all,List.mem_cons,List.not_mem_nil,or_false] at hk
 rcases hk with rfl|rfl|rfl|rfl
 ·exact h.p.lt
 ·exact h.l.lt
 ·exact h.f.lt
 ·exact h.n.lt
theorem PoolAt.slot (h:PoolAt w L S){i:Nat}{s:SlotS}(hs:S.slots[i]?=some s){j:Nat}(hj:j<7){v:Value}(hv:s.cells[j]?=some v):w.cell? ⟨L.lb,i*7+j,none⟩=some v:=
 h.l.cell ((Qz SlotS.cells 7 SlotS.cells_length S.slots i s hs j hj).trans hv)
theorem PoolAt.setSlot (h:PoolAt w L S){i:Nat}{s s':SlotS}(hs:S.slots[i]?=some s){j:Nat}(hj:j<7){v:Value}(hv:s'.cells=s.cells.set j v)(hok:s'.Ok):
  PoolAt (w.setCell ⟨L.lb,i*7+j,none⟩ v) L {S with slots:=S.slots.set i s'}:=by
 obtain⟨a1,a2,a3,a4,a5,a6⟩:=h.apart
 refine⟨by simpa using h.p.other a1 _ _,?_,h.f.other a4.symm _ _,h.n.other a5.symm _ _,h.apart,by simpa using h.len,by simpa using h.most,fun x hx=>?_,h.nok⟩
 ·have:=h.l.set (i*7+j) v
  rwa [flatMap_set SlotS.cells 7 SlotS.cells_length S.slots i s hs j v s' hj hv] at this
 ·rcases List.mem_or_eq_of_mem_set hx with hx|rfl
  ·exact h.ok x hx
  ·exact hok
theorem PoolAt.setHead (h:PoolAt w L S)(x:Int):PoolAt (w.setCell ⟨L.fb,0,none⟩ (.int .i64 x)) L {S with head:=x}:=by
 obtain⟨a1,a2,a3,a4,a5,a6⟩:=h.apart
 exact⟨h.p.other a2 _ _,h.l.other a4 _ _,h.f.set 0 _,h.n.other a6.symm _ _,h.apart,h.len,h.most,h.ok,h.nok⟩
theorem PoolAt.setNext (h:PoolAt w L S)(i:Nat)(x:Int)(hx:Ql x):PoolAt (w.setCell ⟨L.nb,i,none⟩ (.int .i64 x)) L {S with next:=S.next.set i x}:=by
 obtain⟨a1,a2,a3,a4,a5,a6⟩:=h.apart
 refine⟨h.p.other a3 _ _,h.l.other a5 _ _,by simpa using h.f.other a6 _ _,?_,h.apart,by simpa using h.len,h.most,h.ok,fun y hy=>?_⟩
 ·have:=h.n.set i (.int .i64 x)
  rwa [←List.map_set] at this
 ·rcases List.mem_or_eq_of_mem_set hy with hy|rfl
  ·exact h.nok y hy
  ·exact hx
theorem PoolAt.next (h:PoolAt w L S){i:Nat}{x:Int}(hx:S.next[i]?=some x):w.cell? ⟨L.nb,i,none⟩=some (.int .i64 x):=h.n.cell (by simp[hx])
end
end Go.Proofs.YteeefedoffplmaaGreat
/- A slot's node read and laid down. Conditions: the slot's cells hold int64s and are not frozen. -/
namespace Go.Proofs.YteeefedoffplmaaGreat
open Lib Go.Proofs.Tryz
open Go.RowKit
theorem holdsN (b o c:Nat)(k:Nat)(x:Int)(w:World)(kk:Int)(p:Nat)(hkk:kk=k)(hp:p=o+3+k)(hk:k<4)(hc:w.cell? ⟨c,0,none⟩=some (.pointer (some ⟨b,o,none⟩)))(hx:w.cell? ⟨b,p,none⟩=some (.int .i64 x)):
  Calls prog 210 #[.int .i64 kk,.pointer (some ⟨c,0,none⟩)] w fun e w'=>e=.returned (.int .i64 x)∧w=w':=by
 subst hkk hp
 go_enter func210,ntmps210
 go_wp2_with (go_at_call 51;refine (Zf _ _ _ _ hx).mono ?_;rintro e w' ⟨rfl,rfl⟩)
 go_ret
 exact⟨rfl,rfl⟩
theorem Zh {w w':World}(hb:Below w.heap.size w w'){a:Addr}{v:Value}(h:w.cell? a=some v):w'.cell? a=some v:=(hb.cell (block_lt_of_cell h)).trans h
theorem Qb {w:World}{a:Addr}{v:Value}(h:w.cell? a=some v)(o:Obj):(w.alloc o).cell? a=some v:=Zh ((Below.refl _ _).alloc (Nat.le_refl _) o) h
theorem cell_new (w:World)(cs:Array Value)(t:TypeId)(i:Nat)(v:Value)(h:cs[i]?=some v):(w.alloc (.cells cs t)).cell? ⟨w.heap.size,i,none⟩=some v:=by
 have h':=heap_alloc_new w (.cells cs t)
 unfold World.cell?
 rw[h']
 simpa using h
theorem holds_any (b o:Nat)(x:NodeS)(w:World)(h0:w.cell? ⟨b,o+3,none⟩=some (.int .i64 x.a))(h1:w.cell? ⟨b,o+4,none⟩=some (.int .i64 x.b))
  (h2:w.cell? ⟨b,o+5,none⟩=some (.int .i64 x.c)) (h3:w.cell? ⟨b,o+6,none⟩=some (.int .i64 x.d)):
  Calls prog 172 #[.pointer (some ⟨b,o,none⟩)] w fun e w'=>e=.returned x.val∧Below w.heap.size w w':=by
 have hc:=fun u=>Qb (cell_new w #[Value.pointer (some ⟨b,o,none⟩)] 277 0 _ rfl) u
 have g0:=fun v=>holdsN b o w.heap.size 0 x.a _ 0 (o+3) rfl rfl (by omega) (hc v) (Qb (Qb h0 _) v)
 have g1:=fun v=>holdsN b o w.heap.size 1 x.b _ 1 (o+4) rfl rfl (by omega) (hc v) (Qb (Qb h1 _) v)
 have g2:=fun v=>holdsN b o w.heap.size 2 x.c _ 2 (o+5) rfl rfl (by omega) (hc v) (Qb (Qb h2 _) v)
 have g3:=fun v=>holdsN b o w.heap.size 3 x.d _ 3 (o+6) rfl rfl (by omega) (hc v) (Qb (Qb h3 _) v)
 have G0:=hid g0;have G1:=hid g1;have G2:=hid g2;have G3:=hid g3
 clear g0 g1 g2 g3 hc h0 h1 h2 h3
 go_enter func172,ntmps172
 go_wp2_with (go_at_call 210;(first|(with_reducible refine (G0.out _).mono ?_)|(with_reducible refine (G1.out _).mono ?_)|(with_reducible refine (G2.out _).mono ?_)|(with_reducible refine (G3.out _).mono ?_));rintro e w' ⟨rfl,rfl⟩)
 exact bodyPost_ret (v:=x.val) (by simp[results,Tryz.results172,go_sem,NodeS.val]) rfl ⟨rfl,((Below.refl _ _).alloc (Nat.le_refl _) _).alloc (by simp) _⟩
def Stored (L:PoolL)(S':PoolS)(w:World)(r:Value)(e:Ending)(w':World):Prop:=e=.returned r∧PoolAt w' L S'∧Only L.blocks w w'
theorem poolStore {w:World}{L:PoolL}{S:PoolS}(h:PoolAt w L S){i:Nat}{s:SlotS}(hs:S.slots[i]?=some s)(j:Nat)(hj:j<7)(x:Int)(hx:s.cells[j]?=some (.int .i64 x))(s':SlotS)(y:Int)(hv:s'.cells=s.cells.set j (.int .i64 y))(hok:s'.Ok)(p:Nat)(hp:p=i*7+j):
  Calls prog 100 #[.pointer (some ⟨L.lb,p,none⟩),.int .i64 y] w (Stored L {S with slots:=S.slots.set i s'} w (.tuple #[])):=by
 subst hp
 refine (atomStore _ _ x _ _ (h.slot hs hj hx) (h.l.frozen _)).mono ?_
 rintro e w' ⟨rfl,rfl⟩
 exact⟨rfl,h.setSlot hs hj hv hok,(Only.refl _ _).setCell (.inl (by simp[PoolL.blocks])) _⟩
def PoolS.with (S:PoolS)(i:Nat)(s:SlotS):PoolS:={S with slots:=S.slots.set i s}
theorem PoolS.with_with (S:PoolS)(i:Nat)(s s':SlotS):(S.with i s).with i s'=S.with i s':=by simp[PoolS.with]
theorem PoolS.with_get (S:PoolS){i:Nat}{s:SlotS}(hs:S.slots[i]?=some s)(s':SlotS):(S.with i s').slots[i]?=some s':=by
 have:=(List.getElem?_eq_some_iff.1 hs).1
 simp[PoolS.with,this]
def SlotS.setj (s:SlotS)(j:Nat)(y:Int):SlotS:=
 match j with
 |0=>{s with gen:=y}
 |1=>{s with mark:=y}
 |2=>{s with link:=y}
 |3=>{s with node:={s.node with a:=y}}
 |4=>{s with node:={s.node with b:=y}}
 |5=>{s with node:={s.node with c:=y}}
 |_=>{s with node:={s.node with d:=y}}
theorem SlotS.setj_cells (s:SlotS)(j:Nat)(hj:j<7)(y:Int):(s.setj j y).cells=s.cells.set j (.int .i64 y):=by
 obtain rfl|rfl|rfl|rfl|rfl|rfl|rfl:j=0∨j=1∨j=2∨j=3∨j=4∨j=5∨j=6:=by omega
 all_goals rfl
theorem SlotS.setj_ok {s:SlotS}(h:s.Ok)(j:Nat)(hj:j<7){y:Int}(hy:Ql y):(s.setj j y).Ok:=by
 obtain⟨h0,h1,h2,h3,h4,h5,h6⟩:=h
 obtain rfl|rfl|rfl|rfl|rfl|rfl|rfl:j=0∨j=1∨j=2∨j=3∨j=4∨j=5∨j=6:=by omega
 all_goals (refine⟨?_,?_,?_,?_,?_,?_,?_⟩ <;> assumption)
theorem SlotS.cells_some (s:SlotS)(j:Nat)(hj:j<7):∃x,s.cells[j]?=some (.int .i64 x):=by
 obtain rfl|rfl|rfl|rfl|rfl|rfl|rfl:j=0∨j=1∨j=2∨j=3∨j=4∨j=5∨j=6:=by omega
 all_goals exact⟨_,rfl⟩
theorem Qv {w:World}{L:PoolL}{S:PoolS}{i:Nat}{s0 s:SlotS}(hs:Hid (S.slots[i]?=some s0))(h:Hid (PoolAt w L (S.with i s)))(j:Nat)(hj:j<7)(y:Int)(hy:Ql y)(p:Nat)(hp:p=i*7+j):
  Calls prog 100 #[.pointer (some ⟨L.lb,p,none⟩),.int .i64 y] w (Stored L (S.with i (s.setj j y)) w (.tuple #[])):=by
 have hs':=S.with_get hs.out s
 obtain⟨x,hx⟩:=s.cells_some j hj
 have:=poolStore h.out hs' j hj x hx (s.setj j y) y (s.setj_cells j hj y) (SlotS.setj_ok (h.out.ok s (List.mem_of_getElem? hs')) j hj hy) p hp
 have e:({S.with i s with slots:=(S.with i s).slots.set i (s.setj j y)}:PoolS)=S.with i (s.setj j y):=S.with_with i s _
 rwa [e] at this
theorem PoolS.with_self (S:PoolS){i:Nat}{s:SlotS}(hs:S.slots[i]?=some s):S.with i s=S:=by
 have:S.slots.set i s=S.slots:=by
  apply List.ext_getElem?
  intro k
  by_cases hk:i=k
  ·subst hk
   rw[List.getElem?_set_self (List.getElem?_eq_some_iff.1 hs).1,hs]
  ·rw[List.getElem?_set_ne hk]
 simp[PoolS.with,this]
theorem lays_any (w:World)(L:PoolL)(S:PoolS)(h:PoolAt w L S)(i:Nat)(s:SlotS)(hs:S.slots[i]?=some s)(x:NodeS)(mark link:Int)(hx:x.Ok)(hm:Ql mark)(hl:Ql link):
  Calls prog 192 #[.pointer (some ⟨L.lb,i*7,none⟩),x.val,.int .i64 mark,.int .i64 link] w (Stored L (S.with i ⟨s.gen,mark,link,x⟩) w (.tuple #[])):=by
 have hp:PoolAt (w.alloc (.cells #[.int .i64 x.a,.int .i64 x.b,.int .i64 x.c,.int .i64 x.d] 218)) L (S.with i s):=by
  rw[S.with_self hs]
  exact h.alloc _
 have ho:Only L.blocks w (w.alloc (.cells #[.int .i64 x.a,.int .i64 x.b,.int .i64 x.c,.int .i64 x.d] 218)):=(Only.refl _ _).alloc _
 have HP:=hid hp
 have HO:=hid ho
 have HS:=hid hs
 clear hp ho h hs
 obtain⟨x0,x1,x2,x3⟩:=hx
 have X0:=hid x0;have X1:=hid x1;have X2:=hid x2;have X3:=hid x3;have HM:=hid hm;have HL:=hid hl
 clear x0 x1 x2 x3 hm hl
 unfold NodeS.val
 obtain⟨a,b,c,d⟩:=x
 have i0:∀w:World,(Instr.index 328 (.agg #[.int .i64 a,.int .i64 b,.int .i64 c,.int .i64 d]) (.int .i64 0)).run prog w=.ok (.int .i64 a) w:=fun w=>by kernel_rfl
 have i1:∀w:World,(Instr.index 328 (.agg #[.int .i64 a,.int .i64 b,.int .i64 c,.int .i64 d]) (.int .i64 1)).run prog w=.ok (.int .i64 b) w:=fun w=>by kernel_rfl
 have i2:∀w:World,(Instr.index 328 (.agg #[.int .i64 a,.int .i64 b,.int .i64 c,.int .i64 d]) (.int .i64 2)).run prog w=.ok (.int .i64 c) w:=fun w=>by kernel_rfl
 have i3:∀w:World,(Instr.index 328 (.agg #[.int .i64 a,.int .i64 b,.int .i64 c,.int .i64 d]) (.int .i64 3)).run prog w=.ok (.int .i64 d) w:=fun w=>by kernel_rfl
 go_enter func192,ntmps192
 go_wp2_with fail
 refine wp_loop_rounds 5 ?_
 rw[rounds_succ]
 go_wp2_with (go_at_call 100;(first|(with_reducible refine (Qv HS HP 3 (by omega) _ X0.out _ rfl).mono ?_)|(with_reducible refine (Qv HS HP 4 (by omega) _ X1.out _ rfl).mono ?_)|(with_reducible refine (Qv HS HP 5 (by omega) _ X2.out _ rfl).mono ?_)|(with_reducible refine (Qv HS HP 6 (by omega) _ X3.out _ rfl).mono ?_)|(with_reducible refine (Qv HS HP 1 (by omega) _ HM.out _ rfl).mono ?_)|(with_reducible refine (Qv HS HP 2 (by omega) _ HL.out _ rfl).mono ?_));rintro e w' ⟨rfl,hp,ho⟩;have HP:=hid hp;have HO:=hid (HO.out.trans ho);clear hp ho)
 rw[rounds_succ]
 go_wp2_with (go_at_call 100;(first|(with_reducible refine (Qv HS HP 3 (by omega) _ X0.out _ rfl).mono ?_)|(with_reducible refine (Qv HS HP 4 (by omega) _ X1.out _ rfl).mono ?_)|(with_reducible refine (Qv HS HP 5 (by omega) _ X2.out _ rfl).mono ?_)|(with_reducible refine (Qv HS HP 6 (by omega) _ X3.out _ rfl).mono ?_)|(with_reducible refine (Qv HS HP 1 (by omega) _ HM.out _ rfl).mono ?_)|(with_reducible refine (Qv HS HP 2 (by omega) _ HL.out _ rfl).mono ?_));rintro e w' ⟨rfl,hp,ho⟩;have HP:=hid hp;have HO:=hid (HO.out.trans ho);clear hp ho)
 rw[rounds_succ]
 go_wp2_with (go_at_call 100;(first|(with_reducible refine (Qv HS HP 3 (by omega) _ X0.out _ rfl).mono ?_)|(with_reducible refine (Qv HS HP 4 (by omega) _ X1.out _ rfl).mono ?_)|(with_reducible refine (Qv HS HP 5 (by omega) _ X2.out _ rfl).mono ?_)|(with_reducible refine (Qv HS HP 6 (by omega) _ X3.out _ rfl).mono ?_)|(with_reducible refine (Qv HS HP 1 (by omega) _ HM.out _ rfl).mono ?_)|(with_reducible refine (Qv HS HP 2 (by omega) _ HL.out _ rfl).mono ?_));rintro e w' ⟨rfl,hp,ho⟩;have HP:=hid hp;have HO:=hid (HO.out.trans ho);clear hp ho)
 rw[rounds_succ]
 go_wp2_with (go_at_call 100;(first|(with_reducible refine (Qv HS HP 3 (by omega) _ X0.out _ rfl).mono ?_)|(with_reducible refine (Qv HS HP 4 (by omega) _ X1.out _ rfl).mono ?_)|(with_reducible refine (Qv HS HP 5 (by omega) _ X2.out _ rfl).mono ?_)|(with_reducible refine (Qv HS HP 6 (by omega) _ X3.out _ rfl).mono ?_)|(with_reducible refine (Qv HS HP 1 (by omega) _ HM.out _ rfl).mono ?_)|(with_reducible refine (Qv HS HP 2 (by omega) _ HL.out _ rfl).mono ?_));rintro e w' ⟨rfl,hp,ho⟩;have HP:=hid hp;have HO:=hid (HO.out.trans ho);clear hp ho)
 rw[rounds_succ]
 go_wp2_with (go_at_call 100;(first|(with_reducible refine (Qv HS HP 3 (by omega) _ X0.out _ rfl).mono ?_)|(with_reducible refine (Qv HS HP 4 (by omega) _ X1.out _ rfl).mono ?_)|(with_reducible refine (Qv HS HP 5 (by omega) _ X2.out _ rfl).mono ?_)|(with_reducible refine (Qv HS HP 6 (by omega) _ X3.out _ rfl).mono ?_)|(with_reducible refine (Qv HS HP 1 (by omega) _ HM.out _ rfl).mono ?_)|(with_reducible refine (Qv HS HP 2 (by omega) _ HL.out _ rfl).mono ?_));rintro e w' ⟨rfl,hp,ho⟩;have HP:=hid hp;have HO:=hid (HO.out.trans ho);clear hp ho)
 go_end0
 exact⟨rfl,HP.out,HO.out⟩
end Go.Proofs.YteeefedoffplmaaGreat
namespace Go.Proofs.YteeefedoffplmaaGreat
open Go.RowKit Lib Go.Proofs.Tryz
theorem index_is {h:Int}{n:Nat}(hn:Qo h=n)(w:World):Calls prog 95 #[.int .i64 h] w fun e w'=>e=.returned (.int .i64 (n:Int))∧w=w':=hn ▸ index_any h w
theorem tag_is {h t:Int}(hn:tagW h=t)(w:World):Calls prog 84 #[.int .i64 h] w fun e w'=>e=.returned (.int .i64 t)∧w=w':=hn ▸ tag_any h w
theorem tagW_bound (h:Int):0≤tagW h∧tagW h≤1099511627775:=by unfold tagW T40;split <;> omega
theorem idxW_bound (h:Int):0≤Qo h∧Qo h≤1048575:=by
 unfold Qo
 split
 ·rename_i hb
  rw[isWordB_iff] at hb
  unfold T40
  omega
 ·omega
theorem at_spec {S:PoolS}{h:Int}{s:SlotS}(ha:S.at h=some s):∃n:Nat,Qo h=n∧1≤n∧S.slots[n]?=some s∧n<S.slots.length∧tagW h % 2=1∧s.gen=tagW h:=by
 unfold PoolS.at at ha
 simp only[bind,Option.bind] at ha
 split at ha
 ·cases ha
 ·rename_i s' hs
  replace ha:(if 1≤Qo h∧tagW h % 2=1∧s'.gen=tagW h then some s' else none)=some s:=ha
  split at ha
  ·rename_i hc
   injection ha with ha
   subst ha
   have:=(idxW_bound h).1
   exact⟨(Qo h).toNat,by omega,by omega,hs,(List.getElem?_eq_some_iff.1 hs).1,hc.2.1,hc.2.2⟩
  ·cases ha
section
variable (w:World)(L:PoolL)(S:PoolS)(hp:PoolAt w L S)(h:Int)(s:SlotS)
theorem at_yes {n:Nat}{t:Int}(hn:Qo h=n)(ht:tagW h=t)(h1:1≤n)(hlt:n<S.slots.length)(_:S.slots.length≤4097)(hodd:t % 2=1)(hc:w.cell? ⟨L.pb,0,none⟩=some (Qr L.lb S.slots.length)):
  Calls prog 191 #[ptr L.pb,.int .i64 h] w fun e w'=>e=.returned (.tuple #[.pointer (some ⟨L.lb,n*7,none⟩),.int .i64 t])∧w=w':=by
 have hb:=tagW_bound h
 rw[ht] at hb
 obtain⟨b1,b2⟩:=hb
 have HN:=hid hn;have HT:=hid ht
 have e1:decide ((n:Int)<1)=false:=by simp;omega
 have e2:decide (S.slots.length≤n)=false:=by simp;omega
 have e3:(t % 2 == 0)=false:=by rw[hodd];rfl
 generalize S.slots.length=len at *
 unfold Qr at hc
 unfold ptr
 clear hn ht hodd
 go_enter func191,ntmps191
 go_wp2_with (first|(go_at_call 95;refine (index_is HN.out _).mono ?_;rintro e w' ⟨rfl,rfl⟩)|(go_at_call 84;refine (tag_is HT.out _).mono ?_;rintro e w' ⟨rfl,rfl⟩))
 go_ret2
 exact⟨rfl,rfl⟩
end
theorem at_any (w:World)(L:PoolL)(S:PoolS)(hp:PoolAt w L S)(h:Int)(s:SlotS)(ha:S.at h=some s)(n:Nat)(hn:Qo h=n):
  Calls prog 191 #[ptr L.pb,.int .i64 h] w fun e w'=>e=.returned (.tuple #[.pointer (some ⟨L.lb,n*7,none⟩),.int .i64 s.gen])∧w=w':=by
 obtain⟨m,hm,h1,hs,hlt,hodd,hg⟩:=at_spec ha
 obtain rfl:n=m:=by omega
 rw[hg]
 exact at_yes w L S h hn rfl h1 hlt hp.most hodd (hp.p.cell rfl)
theorem meets_any (w:World)(L:PoolL)(S:PoolS)(hp:PoolAt w L S)(h:Int)(s:SlotS)(ha:S.at h=some s)(n:Nat)(hn:Qo h=n):
  Calls prog 202 #[ptr L.pb,.pointer none,.int .i64 h] w fun e w'=>e=.returned (.tuple #[.pointer (some ⟨L.lb,n*7,none⟩),.int .i64 0])∧w=w':=by
 have hat:=at_any w L S hp h s ha n hn
 obtain⟨m,hm,h1,hs,hlt,hodd,hg⟩:=at_spec ha
 obtain rfl:n=m:=by omega
 have hl:=Zf L.lb (n*7) s.gen w (hp.slot hs (j:=0) (by omega) rfl)
 unfold ptr at hat ⊢
 clear hs hp ha hn hm hodd hg
 go_enter func202,ntmps202
 go_wp2_with (first|(go_at_call 71;refine (Qx _).mono ?_;rintro e w' ⟨rfl,rfl⟩)|(go_at_call 191;refine hat.mono ?_;rintro e w' ⟨rfl,rfl⟩)|(go_at_call 51;refine hl.mono ?_;rintro e w' ⟨rfl,rfl⟩))
 go_ret2
 exact⟨rfl,rfl⟩
theorem blk_behind {w w1:World}{cs:Array Value}{t:TypeId}(hb:Below (w.alloc (.cells cs t)).heap.size (w.alloc (.cells cs t)) w1):Blk w1 w.heap.size cs.toList t:=
 (show Blk (w.alloc (.cells cs t)) w.heap.size cs.toList t from by simpa using Blk.new w cs.toList t).only (X:=[]) (.of_below hb) (by simp)
theorem read_any (w:World)(L:PoolL)(S:PoolS)(hp:PoolAt w L S)(h:Int)(x:NodeS)(hx:S.read h=some x):
  Calls prog 159 #[ptr L.pb,.pointer none,.int .i64 h] w fun e w'=>e=.returned (.tuple #[x.val,.int .i64 0])∧Below w.heap.size w w':=by
 obtain⟨s,ha,rfl⟩:∃s,S.at h=some s∧s.node=x:=by simpa [PoolS.read] using hx
 obtain⟨n,hn,h1,hs,hlt,hodd,hg⟩:=at_spec ha
 have hme:=fun o=>meets_any _ L S (hp.alloc o) h s ha n hn
 have hho:=fun o=>holds_any L.lb (n*7) s.node _ ((hp.alloc o).slot hs (j:=3) (by omega) rfl) ((hp.alloc o).slot hs (j:=4) (by omega) rfl) ((hp.alloc o).slot hs (j:=5) (by omega) rfl) ((hp.alloc o).slot hs (j:=6) (by omega) rfl)
 have HM:=hid hme;have HH:=hid hho
 unfold NodeS.val
 unfold NodeS.val at HH
 unfold ptr at HM ⊢
 clear hme hho hs hp ha hn hodd hg hx
 generalize s.node.a=a,s.node.b=b,s.node.c=c,s.node.d=d at *
 go_enter func159,ntmps159
 go_wp2_with (first|(go_at_call 202;refine (HM.out _).mono ?_;rintro e w' ⟨rfl,rfl⟩)|(go_at_call 172;refine (HH.out _).mono ?_;rintro e w1 ⟨rfl,hb⟩;have HB:=hid hb;have hn:=blk_behind hb;have hf:=hn.frozen;have c0:=hn.cell (i:=0) rfl;have c1:=hn.cell (i:=1) rfl;have c2:=hn.cell (i:=2) rfl;have c3:=hn.cell (i:=3) rfl;clear hb hn))
 exact bodyPost_ret (v:=.tuple #[.agg #[.int .i64 a,.int .i64 b,.int .i64 c,.int .i64 d],.int .i64 0]) (by simp[results,Tryz.results159,go_sem,c0,c1,c2,c3]) rfl ⟨rfl,(((((((Below.refl _ _).alloc (Nat.le_refl _) _).trans (HB.out.mono (by simp))).setCell (Nat.le_refl _) _).setCell (Nat.le_refl _) _).setCell (Nat.le_refl _) _).setCell (Nat.le_refl _) _)⟩
def I2 (x:Int):Value:=.tuple #[.int .i64 x,.int .i64 0]
def B2 (x:Bool):Value:=.tuple #[.bool x,.int .i64 0]
section
variable (w:World)(L:PoolL)(S:PoolS)(hp:PoolAt w L S)(h:Int)
include hp
theorem mark_any (s:SlotS)(ha:S.at h=some s):Calls prog 188 #[ptr L.pb,.pointer none,.int .i64 h] w fun e w'=>e=.returned (I2 s.mark)∧w=w':=by
 obtain⟨n,hn,h1,hs,hlt,hodd,hg⟩:=at_spec ha
 have hme:=meets_any _ L S hp h s ha n hn
 have hl:=Zf L.lb (n*7+1) s.mark w (hp.slot hs (j:=1) (by omega) rfl)
 unfold I2
 unfold ptr at hme ⊢
 clear hs hp ha hn hodd hg
 go_enter func188,ntmps188
 go_wp2_with (first|(go_at_call 202;refine hme.mono ?_;rintro e w' ⟨rfl,rfl⟩)|(go_at_call 51;refine hl.mono ?_;rintro e w' ⟨rfl,rfl⟩))
 go_ret2
 exact⟨rfl,rfl⟩
theorem link_any (s:SlotS)(ha:S.at h=some s):Calls prog 187 #[ptr L.pb,.pointer none,.int .i64 h] w fun e w'=>e=.returned (I2 s.link)∧w=w':=by
 obtain⟨n,hn,h1,hs,hlt,hodd,hg⟩:=at_spec ha
 have hme:=meets_any _ L S hp h s ha n hn
 have hl:=Zf L.lb (n*7+2) s.link w (hp.slot hs (j:=2) (by omega) rfl)
 unfold I2
 unfold ptr at hme ⊢
 clear hs hp ha hn hodd hg
 go_enter func187,ntmps187
 go_wp2_with (first|(go_at_call 202;refine hme.mono ?_;rintro e w' ⟨rfl,rfl⟩)|(go_at_call 51;refine hl.mono ?_;rintro e w' ⟨rfl,rfl⟩))
 go_ret2
 exact⟨rfl,rfl⟩
theorem casMark_any (s:SlotS)(ha:S.at h=some s)(v:Int)(hv:Ql v)(S':PoolS)(hS:S.setMark h v=some S'):
  Calls prog 236 #[ptr L.pb,.pointer none,.int .i64 h,.int .i64 s.mark,.int .i64 v] w (Stored L S' w (B2 true)):=by
 obtain⟨n,hn,h1,hs,hlt,hodd,hg⟩:=at_spec ha
 have hme:=meets_any _ L S hp h s ha n hn
 have hl:=atomCas L.lb (n*7+1) s.mark w v (hp.slot hs (j:=1) (by omega) rfl) (hp.l.frozen _)
 have e:S'=S.with n {s with mark:=v}:=by
  simp only[PoolS.setMark,ha,bind,Option.bind,Option.some.injEq] at hS
  rw[←hS,hn]
  rfl
 subst e
 have hok:=hp.ok s (List.mem_of_getElem? hs)
 have hfin:PoolAt (w.setCell ⟨L.lb,n*7+1,none⟩ (.int .i64 v)) L (S.with n {s with mark:=v})∧Only L.blocks w (w.setCell ⟨L.lb,n*7+1,none⟩ (.int .i64 v)):=
  ⟨hp.setSlot hs (by omega) rfl ⟨hok.gen,hv,hok.link,hok.node⟩,(Only.refl _ _).setCell (.inl (by simp[PoolL.blocks])) _⟩
 have HF:=hid hfin
 unfold B2
 unfold ptr at hme ⊢
 clear hs hp ha hn hodd hg hfin hok hS
 generalize s.mark=m at *
 go_enter func236,ntmps236
 go_wp2_with (first|(go_at_call 202;refine hme.mono ?_;rintro e w' ⟨rfl,rfl⟩)|(go_at_call 135;refine hl.mono ?_;rintro e w' ⟨rfl,rfl⟩))
 go_ret2
 exact⟨rfl,HF.out⟩
theorem swapLink_any (s:SlotS)(ha:S.at h=some s)(v:Int)(hv:Ql v)(S':PoolS)(hS:S.setLink h v=some S'):
  Calls prog 189 #[ptr L.pb,.pointer none,.int .i64 h,.int .i64 v] w (Stored L S' w (I2 s.link)):=by
 obtain⟨n,hn,h1,hs,hlt,hodd,hg⟩:=at_spec ha
 have hme:=meets_any _ L S hp h s ha n hn
 have hl:=atomSwap L.lb (n*7+2) s.link w v (hp.slot hs (j:=2) (by omega) rfl) (hp.l.frozen _)
 have e:S'=S.with n {s with link:=v}:=by
  simp only[PoolS.setLink,ha,bind,Option.bind,Option.some.injEq] at hS
  rw[←hS,hn]
  rfl
 subst e
 have hok:=hp.ok s (List.mem_of_getElem? hs)
 have hfin:PoolAt (w.setCell ⟨L.lb,n*7+2,none⟩ (.int .i64 v)) L (S.with n {s with link:=v})∧Only L.blocks w (w.setCell ⟨L.lb,n*7+2,none⟩ (.int .i64 v)):=
  ⟨hp.setSlot hs (by omega) rfl ⟨hok.gen,hok.mark,hv,hok.node⟩,(Only.refl _ _).setCell (.inl (by simp[PoolL.blocks])) _⟩
 have HF:=hid hfin
 unfold I2
 unfold ptr at hme ⊢
 clear hs hp ha hn hodd hg hfin hok hS
 generalize s.link=m at *
 go_enter func189,ntmps189
 go_wp2_with (first|(go_at_call 202;refine hme.mono ?_;rintro e w' ⟨rfl,rfl⟩)|(go_at_call 163;refine hl.mono ?_;rintro e w' ⟨rfl,rfl⟩))
 go_ret2
 exact⟨rfl,HF.out⟩
end
end Go.Proofs.YteeefedoffplmaaGreat
