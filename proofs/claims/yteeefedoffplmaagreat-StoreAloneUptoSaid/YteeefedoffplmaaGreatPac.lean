/- StoreAlone, part Pac: Collect, Collect2, Met, With, Places2. -/
import Derived.Test.YteeefedoffplmaaGreatPab
import Derived.Deep.RegionHeld3
import Derived.Laws.Tables
import Derived.Laws.Bits64b
set_option linter.unusedSimpArgs false
set_option linter.unusedVariables false
set_option maxRecDepth 100000
set_option maxHeartbeats 51200000
namespace Go.Proofs.YteeefedoffplmaaGreat
open Go.RowKit Lib Go.Proofs.Tryz
end Go.Proofs.YteeefedoffplmaaGreat
namespace Go.Proofs.YteeefedoffplmaaGreat
open Lib Go.Proofs.Tryz
open Go.RowKit
def Deleted (base e size:Nat)(v:Value)(n:Nat)(xs:List Value)(i:Nat)(w:World)(en:Ending)(w':World):Prop:=
 ∃v',en=.returned v'∧w'.ownsRow base e size v' (n-1) (xs.take (i*size) ++ xs.drop ((i+1)*size))∧v'.ownBlock=v.ownBlock∧w.grownBy w' v.ownBlock
theorem zero229 (w:World):(zeroValue 229).run prog w=.ok (.agg #[.int .i64 0,.int .i64 0]) w:=by kernel_rfl
theorem one229:∀v∈(Value.agg #[Value.int .i64 0,Value.int .i64 0]).cells.toList,v.oneCell'=true:=by
 intro v hv
 simp[Value.cells] at hv
 subst hv
 rfl
theorem grown_trans {a b c:World}{row:Option Nat}(h:a.grownBy b row)(k:b.grownBy c row):a.grownBy c row:=
 ⟨k.os.trans h.os,k.tape.trans h.tape,k.output.trans h.output,Nat.le_trans h.size k.size,fun i hi hn=>(k.block i (Nat.lt_of_lt_of_le hi h.size) hn).trans (h.block i hi hn)⟩
theorem row_size {cur:Array Value}{xs:List Value}{i n cap size:Nat}(hcs:cur.size=cap*size)(hl:(xs.drop ((i+1)*size)).length=(n-(i+1))*size)(hi:i<n)(hnc:n≤cap):
  (cur.toList.take (i*size) ++ xs.drop ((i+1)*size) ++ cur.toList.drop (i*size+(n-(i+1))*size)).toArray.size=cap*size:=by
 have h1:(n-(i+1))*size+(i+1)*size=n*size:=by rw[←Nat.add_mul];congr 1;omega
 have h2:n*size≤cap*size:=Nat.mul_le_mul_right _ hnc
 have h3:i*size≤cap*size:=Nat.mul_le_mul_right _ (by omega)
 have h4:(i+1)*size=i*size+size:=by rw[Nat.succ_mul]
 simp only[List.size_toArray,List.length_append,List.length_take,List.length_drop,Array.length_toList,hcs] at hl ⊢
 rw[hl]
 omega
theorem deleted_fin {base e size g n cap i:Nat}{cur:Array Value}{w2:World}{xs:List Value}(hbg:base≤g)(hcm:cap≤9223372036854775807)(hcur:cur.toList.take (n*size)=xs)(hcs:cur.size=cap*size)(hl:(xs.drop ((i+1)*size)).length=(n-(i+1))*size)
  (hxl:xs.length=n*size) (hi:i<n) (hnc:n≤cap)
  (h2:∃cur':Array Value,w2.heap[g]?=some (.cells cur' e (0,0))∧cur'.size=(cur.toList.take (i*size) ++ xs.drop ((i+1)*size) ++ cur.toList.drop (i*size+(n-(i+1))*size)).toArray.size ∧
   cur'.toList.take ((n-1)*size)=(cur.toList.take (i*size) ++ xs.drop ((i+1)*size) ++ cur.toList.drop (i*size+(n-(i+1))*size)).toArray.toList.take ((n-1)*size)):
  w2.ownsRow base e size (.slice (some ⟨g,0,none⟩) (n-1) cap) (n-1) (xs.take (i*size) ++ xs.drop ((i+1)*size)):=by
 obtain⟨cur',hg,hsz,htk⟩:=h2
 have h0:i*size+(n-(i+1))*size=(n-1)*size:=by rw[←Nat.add_mul];congr 1;omega
 have h1:i*size≤n*size:=Nat.mul_le_mul_right _ (by omega)
 have h3:n*size≤cap*size:=Nat.mul_le_mul_right _ hnc
 have hlen:(xs.take (i*size) ++ xs.drop ((i+1)*size)).length=(n-1)*size:=by
  rw[List.length_append,hl,List.length_take,hxl,Nat.min_eq_left h1,h0]
 refine⟨hlen,.inr ⟨g,cap,cur',rfl,hbg,hg,by omega,by unfold maxLen;omega,by rw[hsz,row_size hcs hl hi hnc],?_⟩⟩
 have htake:cur.toList.take (i*size)=xs.take (i*size):=by rw[←hcur,List.take_take,Nat.min_eq_left h1]
 rw[htk,htake]
 show List.take ((n-1)*size) ((xs.take (i*size) ++ xs.drop ((i+1)*size)) ++ _)=_
 rw[←hlen,List.take_left]
theorem grown_undrew {w w1:World}{row:Option Nat}(h:w.drew.grownBy w1 row):w.grownBy w1 row:=⟨h.os,h.tape,h.output,h.size,h.block⟩
theorem deleteWait (w:World)(base:Nat)(v:Value)(n:Nat)(xs:List Value)(hown:w.ownsRow base 229 2 v n xs)(hxs:∀u∈xs,u.oneCell'=true)(i:Nat)(hi:i<n)(hn:n≤200000):
  Calls prog 139 #[v,.int .i64 (i:Int),.int .i64 ((i:Int)+1)] w (Deleted base 229 2 v n xs i w):=by
 have hnil:¬(v=.slice none 0 0∧n=0):=by intro h;omega
 obtain⟨hxl,hr|⟨g,cap,cur,rfl,hbg,hg,hnc,hcm,hcs,hcur⟩⟩:=hown
 ·exact absurd hr hnil
 have hrow:∀j,j≤n→Row w (some ⟨g,j*2,none⟩) (xs.drop (j*2)):=by
  intro j hj k u hu
  refine⟨g,j*2,rfl,?_⟩
  rw[List.getElem?_drop,←hcur,List.getElem?_take] at hu
  split at hu
  ·simp only[World.cell?,hg]
   simpa using hu
  ·cases hu
 have hdl:(xs.drop ((i+1)*2)).length=(n-(i+1))*2:=by rw[List.length_drop,hxl,Nat.sub_mul]
 have HR:=hid hrow;have HG:=hid hg;have HCS:=hid hcs;have HCUR:=hid hcur;have HXL:=hid hxl;have HXS:=hid hxs;have HBG:=hid hbg;have HDL:=hid hdl
 unfold maxLen at hcm
 clear hrow hg hcs hcur hxl hxs hbg hdl hnil
 have hi1:(i:Int)<n:=by omega
 have h01:(0:Int)≤(i:Int)+1:=by omega
 have e0:((i:Int) == (i:Int)+1)=false:=by simp;omega
 by_cases hcap:cap=i+1
 ·obtain rfl:n=i+1:=by omega
  have HCAP:=hid hcap
  subst hcap
  have hle:(i:Int)≤(i:Int)+1:=by omega
  go_enter func139,ntmps139
  go_wp2_with fail
  refine wp_region_still_tail 6 (by kernel_rfl) (by kernel_rfl) ?_
  simp only[List.take_succ_cons,List.take_zero,List.drop_succ_cons,List.drop_zero]
  change wpStill _ _ (World.drew _) (fun a'=>wpList _ _ _ _ a' (World.drew _)) _ _
  iterate 6 still_step
  refine wpStill_nil ?_
  go_wp2_with (first|(at_builtin;(refine wpList_append_room_is rfl (.tmp 22) (.tmp 25) rfl elemWait rfl HG.out _ 0 _ [] rfl (Row.nil _ _) rfl (by simp) (by omega) (by rw[HCS.out];omega) (fun e=>by first|cases e|omega) ?_);intro w1 hg1 hgr1 hsz1;have HG1:=hid hg1;have HGR1:=hid hgr1;clear hg1 hgr1 hsz1)|((refine wpList_clear_is rfl (.tmp 31) rfl elemWait (zero229 _) rfl one229 rfl HG1.out (by have:=HCS.out;simp;omega) ?_);intro w2 hg2 hgr2;have HG2:=hid hg2;have HGR2:=hid hgr2;clear hg2 hgr2))
  go_ret
  have hd0:xs.drop ((i+1)*2)=[]:=List.eq_nil_of_length_eq_zero (by rw[HDL.out];simp)
  have h2:=HG2.out
  refine⟨_,rfl,deleted_fin (n:=i+1) HBG.out (by omega) HCUR.out HCS.out HDL.out HXL.out (by omega) (by omega) (by rw[hd0];simpa using h2),rfl,grown_trans (grown_undrew HGR1.out) HGR2.out⟩
 ·have hle:(i:Int)≤cap:=by omega
  have hle2:(i:Int)+1≤cap:=by omega
  have hle3:(i:Int)+1≤n:=by omega
  have hnc':(n:Int)≤cap:=by omega
  go_enter func139,ntmps139
  go_wp2_with fail
  refine wp_region_still_tail 6 (by kernel_rfl) (by kernel_rfl) ?_
  simp only[List.take_succ_cons,List.take_zero,List.drop_succ_cons,List.drop_zero]
  change wpStill _ _ (World.drew _) (fun a'=>wpList _ _ _ _ a' (World.drew _)) _ _
  iterate 6 still_step
  refine wpStill_nil ?_
  go_wp2_with (first|(at_builtin;(refine wpList_append_room_is rfl (.tmp 22) (.tmp 25) rfl elemWait rfl HG.out _ (n-(i+1)) _ (xs.drop ((i+1)*2)) rfl (HR.out (i+1) (by omega)) HDL.out (fun u hu=>HXS.out u (List.mem_of_mem_drop hu)) (by omega) (by rw[HCS.out];omega) (fun e=>by first|cases e|omega) ?_);intro w1 hg1 hgr1 hsz1;have HG1:=hid hg1;have HGR1:=hid hgr1;clear hg1 hgr1 hsz1)|((refine wpList_clear_is rfl (.tmp 31) rfl elemWait (zero229 _) rfl one229 rfl HG1.out (by rw[row_size HCS.out HDL.out (by omega) (by omega)];omega) ?_);intro w2 hg2 hgr2;have HG2:=hid hg2;have HGR2:=hid hgr2;clear hg2 hgr2))
  go_ret
  have e:i+(n-(i+1))=n-1:=by omega
  have h2:=HG2.out
  rw[e] at h2
  refine⟨_,rfl,?_,rfl,grown_trans (grown_undrew HGR1.out) HGR2.out⟩
  rw[e]
  exact deleted_fin HBG.out (by omega) HCUR.out HCS.out HDL.out HXL.out (by omega) (by omega) h2
end Go.Proofs.YteeefedoffplmaaGreat
/- The epoch's Collect, for worker 0. Conditions: the epoch and the pool lie in memory; collect of the plain store answers. -/
namespace Go.Proofs.YteeefedoffplmaaGreat
open Lib Go.Proofs.Tryz
open Go.RowKit
def ripeB (now:Int)(x:Int × Int):Bool:=decide (x.2+2≤now)
theorem ripe_any (h e now:Int)(c:Nat)(w:World)(he:0≤e∧e≤1099511627776)(hc:w.cell? ⟨c,0,none⟩=some (.int .i64 now)):
  Calls prog 137 #[.agg #[.int .i64 h,.int .i64 e],ptr c] w fun en w'=>en=.returned (.bool (ripeB now (h,e)))∧Below w.heap.size w w':=by
 obtain⟨h1,h2⟩:=he
 have hc':=Qb hc (.cells #[.int .i64 h,.int .i64 e] 229)
 unfold ptr ripeB
 clear hc
 go_enter func137,ntmps137
 go_wp2_with fail
 go_ret
 exact⟨rfl,(Below.refl _ _).alloc (Nat.le_refl _) _⟩
def IxRel (l:List (Int × Int))(now:Int)(w:World)(k:Nat)(i:Value)(wr:World):Prop:=
 ∃j:Nat,j≤l.length∧i=.int .i64 j∧k=l.length-j∧(∀x∈l.take j,ripeB now x=false)∧Only [] w wr
def idxI (o:Option Nat):Int:=match o with|some i=>(i:Int)|none=>-1
theorem findIdx_none {α:Type}{p:α→Bool}{l:List α}(h:∀x∈l,p x=false):l.findIdx? p=none:=by
 rw[List.findIdx?_eq_none_iff]
 exact h
theorem findIdx_some {α:Type}{p:α→Bool}{l:List α}{j:Nat}{x:α}(h:∀x∈l.take j,p x=false)(hx:l[j]?=some x)(hp:p x=true):l.findIdx? p=some j:=by
 obtain⟨hj,hx'⟩:=List.getElem?_eq_some_iff.1 hx
 rw[List.findIdx?_eq_some_iff_getElem]
 refine⟨hj,by rw[hx'];exact hp,fun k hk=>?_⟩
 have:l[k]∈l.take j:=by
  rw[List.mem_iff_getElem]
  exact⟨k,by simp;omega,by simp⟩
 simp[h _ this]
theorem indexWait (w:World)(l:List (Int × Int))(A:Option Addr)(cap c:Nat)(now:Int)(hrow:Row w A (waitCells l))(hlen:l.length≤100000)(hc:w.cell? ⟨c,0,none⟩=some (.int .i64 now))(hok:∀x∈l,Ql x.1∧0≤x.2∧x.2≤1099511627776):
  Calls prog 136 #[.slice A l.length cap,.func (.func 137) #[] #[ptr c]] w fun e w'=>e=.returned (.int .i64 (idxI (l.findIdx? (ripeB now))))∧Only [] w w':=by
 have HR:=hid hrow;have HC:=hid hc;have HOK:=hid hok
 unfold ptr
 clear hrow hc hok
 go_enter func136,ntmps136
 go_wp2_with fail
 go_loopg [8] l.length (fun k i wr=>IxRel l now w k i wr)
 case atStart=>exact⟨0,Nat.zero_le _,rfl,rfl,by simp,Only.refl _ _⟩
 case round=>
  obtain⟨j,hj,rfl,rfl,hno,ho⟩:=hrel
  have HO:=hid ho;have HNO:=hid hno
  clear ho hno
  by_cases hlt:j<l.length
  ·have hlt':(j:Int)<l.length:=by omega
   obtain⟨x,hx⟩:∃x,l[j]?=some x:=⟨_,List.getElem?_eq_getElem hlt⟩
   have hg:∀i,i<2→(waitCells l)[j*2+i]?=[Value.int .i64 x.1,.int .i64 x.2][i]?:=Qz _ 2 (fun _=>rfl) l j x hx
   have hr2:Row wr A (waitCells l):=HR.out.keep fun a v hc=>Zh HO.out.below hc
   obtain⟨b,off,hA,h1⟩:=hr2 (j*2+0) _ ((hg 0 (by omega)).trans rfl)
   obtain⟨b',off',hA',h2⟩:=hr2 (j*2+1) _ ((hg 1 (by omega)).trans rfl)
   subst hA
   simp only[Option.some.injEq,Addr.mk.injEq,and_true] at hA'
   obtain⟨rfl,rfl⟩:=hA'
   have hrip:=ripe_any x.1 x.2 now c wr (HOK.out x (List.mem_of_getElem? hx)).2 (Zh HO.out.below HC.out)
   have HX:=hid hx;have HRIP:=hid hrip
   rw[Nat.add_zero] at h1
   rw[←Nat.add_assoc] at h2
   unfold ptr at HRIP
   clear hx hg hr2 hrip
   cases hb:ripeB now (x.1,x.2)
   all_goals
    have HB:=hid hb
    rw[hb] at HRIP
    clear hb
    go_wp2_with (go_at_call 137;refine HRIP.out.mono ?_;rintro e w1 ⟨rfl,hb1⟩;have HO:=hid (HO.out.trans (.of_below hb1));clear hb1)
   ·go_roundg (l.length-(j+1))
    case measure=>omega
    case rel=>exact⟨j+1,by omega,by go_num,rfl,by
     rw[Zd HX.out]
     intro y hy
     rcases List.mem_append.1 hy with hy|hy
     ·exact HNO.out y hy
     ·obtain rfl:=List.mem_singleton.1 hy
      exact HB.out,HO.out⟩
   ·go_ret
    exact⟨ret_int (by rw[findIdx_some HNO.out HX.out HB.out];rfl),HO.out⟩
  ·have hjl:j=l.length:=by omega
   have HJ:=hid hjl
   clear hjl
   go_wp2_with fail
   go_ret
   have:=HNO.out
   rw[HJ.out,List.take_length] at this
   exact⟨ret_int (by rw[findIdx_none this];rfl),HO.out⟩
end Go.Proofs.YteeefedoffplmaaGreat
namespace Go.Proofs.YteeefedoffplmaaGreat
open Go.RowKit Lib Go.Proofs.Tryz
def coX (eb:Nat)(ed:Option Nat)(L:PoolL):List Nat:=eb :: (ed.toList ++ L.blocks)
structure CoInv (eb pb base:Nat)(ed:Option Nat)(L:PoolL)(now:Int)(w:World)(n:Int)(E:EpochS)(S:PoolS)(wr:World):Prop where
 e:EpochAt wr eb pb base ed E
 p:PoolAt wr L S
 o:Only (coX eb ed L) w wr
 c:Blk wr w.heap.size [.int .i64 now] 3
 now:E.now=now
 n0:0≤n
 most:n+E.list.length≤100000
def CoRel (eb pb base:Nat)(ed:Option Nat)(L:PoolL)(now:Int)(r:Int × EpochS × PoolS)(w:World)(k:Nat)(nV:Value)(wr:World):Prop:=
 ∃f n E S,k=f∧nV=.int .i64 n∧collectFrom f n (E,S)=some r∧CoInv eb pb base ed L now w n E S wr
def Collected (eb pb base:Nat)(ed:Option Nat)(L:PoolL)(r:Int × EpochS × PoolS)(w:World)(e:Ending)(w':World):Prop:=
 e=.returned (I2 r.1)∧EpochAt w' eb pb base ed r.2.1∧PoolAt w' L r.2.2∧Only (coX eb ed L) w w'
theorem collectFrom_zero (n:Int)(x:EpochS × PoolS):collectFrom 0 n x=none:=rfl
theorem collectFrom_none {k:Nat}{n:Int}{E:EpochS}{S:PoolS}(h:E.list.findIdx? (ripeB E.now)=none):collectFrom (k+1) n (E,S)=some (n,E,S):=by
 unfold collectFrom
 have:(fun x:Int × Int=>decide (x.2+2≤E.now))=ripeB E.now:=rfl
 rw[this,h]
theorem collectFrom_some {k:Nat}{n:Int}{E:EpochS}{S:PoolS}{i:Nat}{r:Int × EpochS × PoolS}(h:E.list.findIdx? (ripeB E.now)=some i)(hr:collectFrom (k+1) n (E,S)=some r):
  ∃x S',E.list[i]?=some x∧S.give x.1=some S'∧collectFrom k (n+1) ({E with list:=E.list.eraseIdx i},S')=some r:=by
 unfold collectFrom at hr
 have:(fun x:Int × Int=>decide (x.2+2≤E.now))=ripeB E.now:=rfl
 rw[this,h] at hr
 simp only[Option.bind_eq_bind,Option.bind_eq_some_iff] at hr
 obtain⟨x,hx,S',hS,hr⟩:=hr
 exact⟨x,S',hx,hS,hr⟩
theorem waitCells_erase (l:List (Int × Int))(i:Nat):(waitCells l).take (i*2) ++ (waitCells l).drop ((i+1)*2)=waitCells (l.eraseIdx i):=by
 induction l generalizing i with
 |nil=>simp[waitCells]
 |cons x l ih=>
  cases i with
  |zero=>simp[waitCells]
  |succ i=>
   have h1:(i+1)*2=i*2+2:=by omega
   have h2:(i+1+1)*2=(i+1)*2+2:=by omega
   have:=ih i
   rw[h1] at this
   rw[h2,h1]
   simp only[waitCells,List.flatMap_cons,List.eraseIdx_cons_succ,List.cons_append,List.nil_append,List.take_succ_cons,List.drop_succ_cons] at this ⊢
   rw[this]
theorem waitCells_one (l:List (Int × Int)):∀u∈waitCells l,u.oneCell'=true:=by
 intro u hu
 obtain⟨x,_,hx⟩:=List.mem_flatMap.1 hu
 simp at hx
 rcases hx with rfl|rfl <;> rfl
theorem CoInv.step {eb pb base:Nat}{ed:Option Nat}{L:PoolL}{now:Int}{w wr w1 wG w2:World}{n:Int}{E:EpochS}{S S':PoolS}(h:CoInv eb pb base ed L now w n E S wr)(hlt:∀k∈L.all,k<base)(hne:eb∉L.all)(hed:∀k,ed=some k→base≤k∧k<w.heap.size)(hroom:base≤w.heap.size)
  {lv v2:Value} (hlv:lv.ownBlock=ed) (hb:Blk wr eb (epochCells pb E lv) 185) (ho1:Only [] wr w1) (hpG:PoolAt wG L S') (hoG:Only L.blocks w1 wG) {i:Nat} (hi:i<E.list.length)
  (hown2:w2.ownsRow base 229 2 v2 (E.list.length-1) (waitCells (E.list.eraseIdx i))) (hv2:v2.ownBlock=lv.ownBlock) (hg2:wG.grownBy w2 lv.ownBlock):
  CoInv eb pb base ed L now w (n+1) {E with list:=E.list.eraseIdx i} S' (w2.setCell ⟨eb,12,none⟩ v2):=by
 have hebL:eb∉L.blocks:=fun e=>hne (by simp[PoolL.all];simp[PoolL.blocks] at e;simp[e])
 have hx:∀k∈coX eb ed L,k<w.heap.size:=by
  intro k hk
  simp only[coX,List.mem_cons,List.mem_append,Option.mem_toList] at hk
  rcases hk with rfl|hk|hk
  ·have:=h.e.lt;omega
  ·exact (hed k hk).2
  ·have:=hlt k (by simp[PoolL.blocks] at hk;simp[PoolL.all];exact .inr hk)
   omega
 have hoall:Only (coX eb ed L) wr (w2.setCell ⟨eb,12,none⟩ v2):=by
  have h1:Only (coX eb ed L) wr wG:=(ho1.mono (fun k hk=>by simp at hk)).trans (hoG.mono (fun k hk=>by simp[coX,hk]))
  have h2:=h1.grown hg2 (fun k hk=>.inr (by rw[hlv] at hk;simp[coX,hk]))
  exact h2.setCell (p:=⟨eb,12,none⟩) (.inl (by simp[coX])) v2
 have hwe:∀k,lv.ownBlock=some k→base≤k:=fun k hk=>(hed k (hlv ▸ hk)).1
 have hb2:Blk w2 eb (epochCells pb E lv) 185:=Qm ((hb.only ho1 (by simp)).only hoG hebL) hg2 (fun e=>by have:=hwe _ e;have:=h.e.lt;omega)
 have hlen:(E.list.eraseIdx i).length=E.list.length-1:=by rw[List.length_eraseIdx];simp[hi]
 refine⟨⟨⟨v2,hb2.set 12 v2,?_,hv2.trans hlv⟩,h.e.lt,Nat.le_trans h.e.room hoall.size,h.e.workers,h.e.now,h.e.at0,h.e.deep,fun x hx=>h.e.ok x (List.mem_of_mem_eraseIdx hx)⟩,?_,h.o.trans ?_,?_,h.now,?_,?_⟩
 ·show World.ownsRow _ _ _ _ _ (E.list.eraseIdx i).length (waitCells (E.list.eraseIdx i))
  rw[hlen]
  refine Qe hown2 ((Only.refl [eb] _).setCell (p:=⟨eb,12,none⟩) (.inl (by simp)) v2) (fun k hk=>?_)
  have:=(hown2.lt k hk).1
  have:=h.e.lt
  simp
  omega
 ·have hp2:PoolAt w2 L S':=hpG.only (X:=lv.ownBlock.toList) ((Only.refl _ _).grown hg2 (fun k hk=>.inr (by simp[hk]))) (fun k hk hm=>by
   have:=hlt k hk
   have:=hwe k (by simpa using hm)
   omega)
  exact hp2.only (X:=[eb]) ((Only.refl _ _).setCell (p:=⟨eb,12,none⟩) (.inl (by simp)) v2) (fun k hk hm=>by
   simp at hm
   subst hm
   exact hne hk)
 ·exact⟨hoall.os,hoall.tape,hoall.output,hoall.size,hoall.block⟩
 ·exact h.c.only hoall (fun e=>by have:=hx _ e;omega)
 ·have:=h.n0;omega
 ·show n+1+((E.list.eraseIdx i).length:Int)≤100000
  rw[hlen]
  have:=h.most
  omega
theorem collect_any (w:World)(eb pb base:Nat)(ed:Option Nat)(L:PoolL)(E:EpochS)(S:PoolS)(he:EpochAt w eb pb base ed E)(hp:PoolAt w L S)(hpb:L.pb=pb)(hlt:∀k∈L.all,k<base)(hne:eb∉L.all)(r:Int × EpochS × PoolS)(hr:collect E S=some r)(hmost:E.list.length≤100000):
  Calls prog 74 #[ptr eb,.pointer none] w (Collected eb pb base ed L r w):=by
 subst hpb
 have hmine:=mine_any w eb L.pb base ed E he
 have hl:Calls prog 51 #[.pointer (some ⟨eb,2,none⟩)] w fun e w'=>e=.returned (.int .i64 E.now)∧w=w':=by
  obtain⟨lv,hb,_⟩:=he.ex
  exact Zf eb 2 E.now w (hb.cell rfl)
 have hstart:CoRel eb L.pb base ed L E.now r w (E.list.length+1) (.int .i64 0) (w.alloc (.cells #[.int .i64 E.now] 3)):=
  ⟨_,0,E,S,rfl,rfl,hr,⟨he.only (X:=[]) ((Only.refl _ _).alloc _) (by simp) (by simp),hp.alloc _,(Only.refl _ _).alloc _,Blk.new w [.int .i64 E.now] 3,rfl,by omega,by omega⟩⟩
 have HST:=hid hstart
 have hroom:base≤w.heap.size:=he.room
 have heb:eb<base:=he.lt
 have HLT:=hid hlt;have HNE:=hid hne
 have hed:∀k,ed=some k→base≤k:=ed_ge he
 have hedl:∀k,ed=some k→k<w.heap.size:=by
  obtain⟨lv,hb,hown,hee⟩:=he.ex
  intro k hk
  exact (hown.lt k (hee.trans hk)).2
 have HED:=hid hed;have HEDL:=hid hedl
 unfold ptr at hmine ⊢
 generalize hfu:E.list.length+1=fuel at HST
 clear hp hr hmost hstart hne hlt hed hedl hfu he
 generalize E.now=now at *
 go_enter func74,ntmps74
 go_wp2_with (first|(go_at_call 132;refine hmine.mono ?_;rintro e w' ⟨rfl,rfl⟩)|(go_at_call 71;refine (Qx _).mono ?_;rintro e w' ⟨rfl,rfl⟩)|(go_at_call 51;refine hl.mono ?_;rintro e w' ⟨rfl,rfl⟩))
 go_loopg [8] fuel (fun k nV wr=>CoRel eb L.pb base ed L now r w k nV wr)
 case atStart=>exact HST.out
 case round=>
  obtain⟨k,n,E',S',rfl,rfl,hco,hinv⟩:=hrel
  have hn0:=hinv.n0
  have hmost:=hinv.most
  cases gk with
  |zero=>rw[collectFrom_zero] at hco;cases hco
  |succ k=>
   obtain⟨lv,hb,hown,hee⟩:=hinv.e.ex
   obtain⟨A,cap,hlv,hrow,hnil⟩:=Qc hown
   have hnow:=hinv.now
   have c12:wr.cell? ⟨eb,12,none⟩=some lv:=hb.cell rfl
   rw[hlv] at c12
   have hix:=indexWait wr E'.list A cap w.heap.size now hrow (by omega) (hinv.c.cell rfl) hinv.e.ok
   have HINV:=hid hinv;have HB:=hid hb;have HOWN:=hid hown;have HEE:=hid hee;have HLV:=hid hlv;have HROW:=hid hrow
   cases hf:E'.list.findIdx? (ripeB now) with
   |none=>
    have hres:=collectFrom_none (k:=k) (n:=n) (S:=S') (by rw[hnow];exact hf)
    rw[hco] at hres
    have hres:=Option.some.inj hres
    rw[hf] at hix
    have HRES:=hid hres
    unfold ptr at hix
    unfold idxI at hix
    clear hres hinv hb hown hee hlv hrow hnil hnow hco hf
    go_wp2_with (go_at_call 136;refine hix.mono ?_;rintro e w1 ⟨rfl,ho⟩;have HO:=hid ho;clear ho)
    go_ret2
    exact⟨by rw[HRES.out];rfl,by rw[HRES.out];exact HINV.out.e.only HO.out (by simp) (by simp),by rw[HRES.out];exact HINV.out.p.only HO.out (by simp),HINV.out.o.trans (HO.out.mono (by simp))⟩
   |some i=>
    obtain⟨x,S2,hx,hS,hco2⟩:=collectFrom_some (by rw[hnow];exact hf) hco
    obtain⟨hil,hxe⟩:=List.getElem?_eq_some_iff.1 hx
    rw[hf] at hix
    have hg:(waitCells E'.list)[i*2+0]?=some (.int .i64 x.1):=Qz _ 2 (fun _=>rfl) E'.list i x hx 0 (by omega)
    obtain⟨b,off,hA,h1⟩:=hrow (i*2+0) _ hg
    subst hA
    rw[Nat.add_zero] at h1
    have c0:wr.cell? ⟨eb,0,none⟩=some (ptr L.pb):=hb.cell rfl
    have hil':(i:Int)<E'.list.length:=by omega
    have HCO:=hid hco2;have HIL:=hid hil;have HS:=hid hS
    unfold ptr at hix c0
    unfold idxI at hix
    have HIX:=hid hix
    clear hinv hb hown hee hlv hrow hnil hnow hco hf hco2 hx hxe hil hix hS hg
    generalize x.1=xh at *
    generalize hll:E'.list.length=len at *
    have HLL:=hid hll
    clear hll
    go_wp2_with (go_at_call 136;refine HIX.out.mono ?_;rintro e w1 ⟨rfl,ho⟩;have HO1:=hid ho;have c0:=Zh ho.below c0;have c12:=Zh ho.below c12;have h1:=Zh ho.below h1;clear ho)
    refine wp_region_still_tail 13 (by kernel_rfl) (by kernel_rfl) ?_
    simp only[List.take_succ_cons,List.take_zero,List.drop_succ_cons,List.drop_zero]
    change wpStill _ _ (World.drew _) (fun a'=>wpList _ _ _ _ a' (World.drew _)) _ _
    iterate 13 still_step
    refine wpStill_nil ?_
    have hebL:eb∉L.blocks:=fun e=>HNE.out (by simp[PoolL.all];simp[PoolL.blocks] at e;simp[e])
    have HEBL:=hid hebL
    have hgv:=give_any w1.drew L S' ((HINV.out.p.only HO1.out (by simp)).drew) xh S2 HS.out
    have hown0:=HOWN.out
    rw[HLV.out] at hown0
    have HOWN0:=hid hown0
    unfold ptr at hgv
    clear hebL hown0
    go_wp2_with (first|(go_at_call 138;refine hgv.mono ?_;rintro e wG ⟨rfl,hpG,hoG⟩;have hbG:=(HB.out.only HO1.out (by simp)).drew.only hoG HEBL.out;have c12:=hbG.cell (i:=12) rfl;rw[HLV.out] at c12;have hoG1:Only L.blocks w1 wG:=⟨hoG.os,hoG.tape,hoG.output,hoG.size,hoG.block⟩;have HPG:=hid hpG;have HOG:=hid hoG1;have HBG:=hid hbG;clear hpG hoG hoG1 hbG hgv)|(go_at_call 139;refine (deleteWait _ base _ len (waitCells E'.list) (Qe (Qe HOWN0.out HO1.out (by simp)) HOG.out (fun k hk hm=>by have h1:=HED.out k (by rw[←HEE.out,HLV.out];exact hk);have h2:=HLT.out k (by simp[PoolL.blocks] at hm;simp[PoolL.all];exact .inr hm);omega)) (waitCells_one _) i HIL.out (by omega)).mono ?_;rintro e w2 ⟨v2,rfl,hown2,hv2,hg2⟩;obtain⟨A2,cc2,rfl,_,_⟩:=Qc hown2;have hb2:=Qm HBG.out hg2 (fun e=>by have h1:=HED.out eb (by rw[←HEE.out,HLV.out];exact e);omega);have d12:=hb2.cell (i:=12) rfl;have f12:=hb2.frozen 12;have HW2:=hid hown2;have HV2:=hid hv2;have HG2:=hid hg2;clear hown2 hv2 hg2 hb2))
    go_roundg k
    case measure=>omega
    case rel=>exact⟨k,n+1,_,S2,rfl,by go_num,HCO.out,CoInv.step HINV.out HLT.out HNE.out (fun k hk=>⟨HED.out k hk,HEDL.out k hk⟩) hroom HEE.out HB.out HO1.out HPG.out HOG.out (by rw[HLL.out];exact HIL.out) (by rw[HLL.out,←waitCells_erase];exact HW2.out) (by rw[HV2.out,HLV.out]) (by rw[HLV.out];exact HG2.out)⟩
end Go.Proofs.YteeefedoffplmaaGreat
namespace Go.Proofs.YteeefedoffplmaaGreat
open Lib Go.Proofs.Tryz
open Go.RowKit
def SlotS.api (s:SlotS):List Value:=[.int .i64 s.gen,.int .i64 s.node.a,.int .i64 s.node.b,.int .i64 s.node.c,.int .i64 s.node.d,.int .i64 s.mark,.int .i64 s.link]
def apis (l:List SlotS):List Value:=l.flatMap SlotS.api
theorem apis_snoc (l:List SlotS)(s:SlotS):apis (l ++ [s])=apis l ++ s.api:=by simp[apis]
theorem api_one (s:SlotS):∀u∈s.api,u.oneCell'=true:=by
 intro u hu
 simp only[SlotS.api,List.mem_cons,List.not_mem_nil,or_false] at hu
 rcases hu with rfl|rfl|rfl|rfl|rfl|rfl|rfl <;> rfl
theorem elemSlot:ElemOk prog 135 220 7 56:=elemOk_of (by kernel_rfl) (by decide) (.agg #[.int .i64 0,.int .i64 0,.int .i64 0,.int .i64 0,.int .i64 0,.int .i64 0,.int .i64 0]) (by kernel_rfl) rfl
theorem Qg (w:World)(o:Obj):w.heap.size≤(w.alloc o).heap.size:=by simp
theorem holds_agg (b o:Nat)(x0 x1 x2 x3:Int)(w:World)(h0:w.cell? ⟨b,o+3,none⟩=some (.int .i64 x0))(h1:w.cell? ⟨b,o+4,none⟩=some (.int .i64 x1))(h2:w.cell? ⟨b,o+5,none⟩=some (.int .i64 x2))(h3:w.cell? ⟨b,o+6,none⟩=some (.int .i64 x3)):
  Calls prog 172 #[.pointer (some ⟨b,o,none⟩)] w fun e w'=>e=.returned (.agg #[.int .i64 x0,.int .i64 x1,.int .i64 x2,.int .i64 x3])∧Below w.heap.size w w':=holds_any b o ⟨x0,x1,x2,x3⟩ w h0 h1 h2 h3
theorem below_undrew {w w1:World}(h:Below w.drew.heap.size w.drew w1):Below w.heap.size w w1:=⟨h.os,h.tape,h.output,h.size,h.block⟩
def NewSlots (l:List SlotS)(w:World)(e:Ending)(w':World):Prop:=∃v,e=.returned v∧w'.ownsRow w.heap.size 220 7 v l.length (apis l)∧Only [] w w'
def SlRel (S:PoolS)(w:World)(k:Nat)(out i:Value)(wr:World):Prop:=
 ∃j:Nat,j+1≤S.slots.length∧i=.int .i64 ((j:Int)+1)∧k=S.slots.length-j∧wr.ownsRow w.heap.size 220 7 out j (apis ((S.slots.drop 1).take j))∧Only [] w wr
theorem slots_any (w:World)(L:PoolL)(S:PoolS)(hp:PoolAt w L S)(h1:1≤S.slots.length):Calls prog 104 #[ptr L.pb] w (NewSlots (S.slots.drop 1) w):=by
 have HP:=hid hp
 have c0:w.cell? ⟨L.pb,0,none⟩=some (Qr L.lb S.slots.length):=hp.p.cell rfl
 have hm:=hp.most
 unfold ptr
 unfold Qr at c0
 clear hp
 go_enter func104,ntmps104
 go_wp2_with fail
 go_loopg [3,4] S.slots.length (fun k out i wr=>SlRel S w k out i wr)
 case atStart=>exact⟨0,by omega,rfl,rfl,World.ownsRow_nil _ _ 220 7,Only.refl _ _⟩
 case round=>
  obtain⟨j,hj,rfl,rfl,hown,ho⟩:=hrel
  have HO:=hid ho
  have HW:=hid hown
  have hpr:=HP.out.only HO.out (by simp)
  have c0:wr.cell? ⟨L.pb,0,none⟩=some (Qr L.lb S.slots.length):=hpr.p.cell rfl
  unfold Qr at c0
  have HPR:=hid hpr
  clear ho hown hpr
  by_cases hlt:j+1<S.slots.length
  ·have hlt':(j:Int)+1<S.slots.length:=by omega
   obtain⟨s,hs⟩:∃s,S.slots[j+1]?=some s:=⟨_,List.getElem?_eq_getElem hlt⟩
   have g0:=HPR.out.slot hs (j:=0) (by omega) rfl
   have g1:=HPR.out.slot hs (j:=1) (by omega) rfl
   have g2:=HPR.out.slot hs (j:=2) (by omega) rfl
   have g3:=HPR.out.slot hs (j:=3) (by omega) rfl
   have g4:=HPR.out.slot hs (j:=4) (by omega) rfl
   have g5:=HPR.out.slot hs (j:=5) (by omega) rfl
   have g6:=HPR.out.slot hs (j:=6) (by omega) rfl
   rw[Nat.add_zero] at g0
   have HSS:=hid hs
   have hne:some L.lb≠u3.ownBlock:=fun e=>by
    have h1:=(HW.out.lt _ e.symm).1
    have h2:=HP.out.l.lt
    omega
   have HNE:=hid hne
   have HM1:Hid (j+1≤maxLen):=hid (by unfold maxLen;omega)
   have HM2:Hid ((j+1)*56≤140737488355328):=hid (by omega)
   clear hne
   clear hs
   obtain⟨sg,sm,sl,⟨sa,sb,sc,sd⟩⟩:=s
   go_wp2_with fail
   go_region_held3 (fun W=>W.cell? ⟨L.lb,(j+1)*7,none⟩=some (.int .i64 sg)∧W.cell? ⟨L.lb,(j+1)*7+1,none⟩=some (.int .i64 sm)∧W.cell? ⟨L.lb,(j+1)*7+2,none⟩=some (.int .i64 sl)∧W.cell? ⟨L.lb,(j+1)*7+3,none⟩=some (.int .i64 sa)∧W.cell? ⟨L.lb,(j+1)*7+4,none⟩=some (.int .i64 sb)∧W.cell? ⟨L.lb,(j+1)*7+5,none⟩=some (.int .i64 sc)∧W.cell? ⟨L.lb,(j+1)*7+6,none⟩=some (.int .i64 sd))
    (first|go_keep|(refine⟨Zh hb1 ?_,Zh hb1 ?_,Zh hb1 ?_,Zh hb1 ?_,Zh hb1 ?_,Zh hb1 ?_,Zh hb1 ?_⟩ <;> assumption)|(refine⟨hg2.cell (Qb ?_ _) HNE.out,hg2.cell (Qb ?_ _) HNE.out,hg2.cell (Qb ?_ _) HNE.out,hg2.cell (Qb ?_ _) HNE.out,hg2.cell (Qb ?_ _) HNE.out,hg2.cell (Qb ?_ _) HNE.out,hg2.cell (Qb ?_ _) HNE.out⟩ <;> assumption))
    (first|(go_simp;go_at_call 51;go_split_ands;refine (Zf _ _ _ _ (by assumption)).mono ?_;rintro e w' ⟨rfl,rfl⟩)|(go_simp;go_at_call 172;go_split_ands;refine (holds_agg _ _ sa sb sc sd _ (by assumption) (by assumption) (by assumption) (by assumption)).mono ?_;rintro e w1 ⟨rfl,hb1⟩;have HB1:=hid hb1;have HBS:=hid (show w.heap.size≤w1.heap.size from Nat.le_trans HO.out.size hb1.size))|(refine Zb rfl (.tmp 21) (.tmp 37) rfl elemSlot rfl ((own_below HW.out (below_undrew HB1.out)).alloc _) _ 1 _ (SlotS.api ⟨sg,sm,sl,⟨sa,sb,sc,sd⟩⟩) rfl (Zg _ _ _) rfl (api_one _) HM1.out HM2.out (Nat.le_trans HBS.out (Qg _ _)) (fun e=>by cases e) ?_;intro v2 w2 hown2 hg2 hat2;have HW2:=hid hown2;have HG2:=hid hg2))
   have HO2:=hid ((((HO.out.trans (.of_below (below_undrew HB1.out))).alloc _).grown HG2.out (fun k hk=>.inl (HW.out.lt k hk).1)))
   go_wp2_with fail
   go_roundg (S.slots.length-(j+1))
   case measure=>omega
   case rel=>exact⟨j+1,by omega,by go_num,rfl,by rw[Zd (by rw[List.getElem?_drop,Nat.add_comm];exact HSS.out),apis_snoc];exact HW2.out,HO2.out⟩
  ·have hjl:j+1=S.slots.length:=by omega
   have HJ:=hid hjl
   clear hjl
   go_wp2_with fail
   go_ret
   refine⟨_,rfl,?_,HO.out⟩
   have h0:(S.slots.drop 1).length=j:=by rw[List.length_drop];have:=HJ.out;omega
   have:=HW.out
   rw[List.take_of_length_le (by rw[h0];exact Nat.le_refl _)] at this
   rw[h0]
   exact this
end Go.Proofs.YteeefedoffplmaaGreat
/- Arrays of 65 words: the comparison of two of them. No condition. -/
namespace Go.Proofs.YteeefedoffplmaaGreat
open Lib Go.Proofs.Tryz
open Go.RowKit
def eqArr (d:Nat)(elem:TypeId)(n:Nat)(xs ys:Array Value):List Nat→Sem Bool
 |[]=>pure true
 |i :: is=>do
  let a ←part elem xs (i*n)
  let b ←part elem ys (i*n)
  let r ←Op.equalIn d elem a b
  if (!r)=true then pure false else eqArr d elem n xs ys is
theorem run_equalIn_array {P:Program}(w:World)(d:Nat)(t elem:TypeId)(len n:Nat)(xs ys:Array Value)(ht:P.underlying t=some (.array len elem))(hs:∀w,(sizeOf elem).run P w=.ok n w):
  (Op.equalIn (d+1) t (.agg xs) (.agg ys)).run P w=(eqArr d elem n xs ys (List.range' 0 len)).run P w:=by
 simp only[Op.equalIn,Sem.run_bind,run_underlying ht,Result.andThen_ok,hs]
 simp only[Std.Legacy.Range.forIn_eq_forIn_range',Std.Legacy.Range.size,Nat.sub_zero,Nat.add_one_sub_one,Nat.div_one]
 generalize List.range' 0 len 1=is
 clear ht
 induction is generalizing w with
 |nil=>simp[eqArr]
 |cons i is ih=>
  simp only[List.forIn_cons,eqArr,Sem.run_bind,Sem.run_ite]
  generalize (part elem xs (i*n)).run P w=r1
  cases r1 with
  |ok a w1=>
   simp only[Result.andThen_ok]
   generalize (part elem ys (i*n)).run P w1=r2
   cases r2 with
   |ok b w2=>
    simp only[Result.andThen_ok]
    generalize (Op.equalIn d elem a b).run P w2=r3
    cases r3 with
    |ok r w3=>
     cases r
     ·simp only[Result.andThen_ok,Bool.not_false,if_true,Sem.run_pure]
     ·simp only[Result.andThen_ok,Bool.not_true,Bool.false_eq_true,if_false,Sem.run_pure]
      exact ih w3
    |halt x w3=>simp[Result.andThen]
   |halt x w2=>simp[Result.andThen]
  |halt x w1=>simp[Result.andThen]
def mets (l:List Nat):Array Value:=(l.map fun x:Nat=>Value.int .u64 (x:Int)).toArray
theorem mets_size (l:List Nat):(mets l).size=l.length:=by simp[mets]
theorem mets_get {l:List Nat}{i x:Nat}(h:l[i]?=some x):(mets l)[i]?=some (.int .u64 (x:Int)):=by simp[mets,h]
theorem isAgg285 (w:World):(isAgg 285).run prog w=.ok false w:=by kernel_rfl
theorem size285 (w:World):(sizeOf 285).run prog w=.ok 1 w:=by kernel_rfl
theorem part_met (l:List Nat)(i x:Nat)(h:l[i]?=some x)(w:World):(part 285 (mets l) i).run prog w=.ok (.int .u64 (x:Int)) w:=by
 unfold part
 simp only[Sem.run_bind,isAgg285,Result.andThen_ok,mets_get h]
 rfl
theorem eq_mets (xs ys:List Nat)(hx:xs.length=65)(hy:ys.length=65):∀(k s:Nat) (w:World),s+k=65→(eqArr 9999 285 1 (mets xs) (mets ys) (List.range' s k)).run prog w=.ok (decide (xs.drop s=ys.drop s)) w
 |0,s,w,h=>by
  have h1:xs.drop s=[]:=List.drop_eq_nil_of_le (by omega)
  have h2:ys.drop s=[]:=List.drop_eq_nil_of_le (by omega)
  rw[h1,h2]
  rfl
 |k+1,s,w,h=>by
  obtain⟨a,ha⟩:∃a,xs[s]?=some a:=⟨_,List.getElem?_eq_getElem (by omega)⟩
  obtain⟨b,hb⟩:∃b,ys[s]?=some b:=⟨_,List.getElem?_eq_getElem (by omega)⟩
  have ih:=eq_mets xs ys hx hy k (s+1) w (by omega)
  have hu:prog.underlying 285=some (.int .u64):=by kernel_rfl
  rw[List.range'_succ,eqArr]
  simp only[Sem.run_bind,Nat.mul_one,part_met xs s a ha,part_met ys s b hb,Result.andThen_ok,run_equalIn_int w 9998 285 .u64 .u64 (a:Int) (b:Int) hu]
  obtain⟨hsx,hax⟩:=List.getElem?_eq_some_iff.1 ha
  obtain⟨hsy,hby⟩:=List.getElem?_eq_some_iff.1 hb
  rw[List.drop_eq_getElem_cons hsx,List.drop_eq_getElem_cons hsy,hax,hby]
  by_cases hab:a=b
  ·subst hab
   simp[ih]
  ·have h1:((a:Int) == (b:Int))=false:=by simp;omega
   simp[h1,hab]
theorem eq_met (xs ys:List Nat)(hx:xs.length=65)(hy:ys.length=65)(w:World):(binOp .eql 287 (.agg (mets xs)) (.agg (mets ys))).run prog w=.ok (.bool (decide (xs=ys))) w:=by
 have hu:prog.underlying 287=some (.array 65 285):=by kernel_rfl
 rw[run_eql_struct,run_equalIn_array w 9999 287 285 65 1 _ _ hu size285,eq_mets xs ys hx hy 65 0 w rfl]
 simp[Result.andThen]
end Go.Proofs.YteeefedoffplmaaGreat
namespace Go.Proofs.YteeefedoffplmaaGreat
open Go.RowKit Lib Go.Proofs.Tryz
theorem wpList_alloc_is {P:Program}{ops:Array Oper}{rest:List Oper}{o:Oper}{a:Act}{w:World}{Q:Exit→Act→World→Prop}(hgd:o.guard=none)(ty:TypeId)(ho:o.op=.alloc ty)(z:Value)(hz:∀w,(zeroValue ty).run P w=.ok z w)
  (h:wpList P ops Q rest (a.put o.dst (.pointer (some ⟨w.heap.size,0,none⟩))) (w.alloc (.cells z.cells ty))):wpList P ops Q (o :: rest) a w:=
 wpList_plain hgd fun _ hK=>by
  unfold Oper.wp execOp
  simp only[ho,Instr.alloc,newVar,newRow,newObj,Sem.run_bind,Sem.run_pure,hz,Result.andThen_ok]
  exact hK _ _ h
theorem wpList_alloc_agg {P:Program}{ops:Array Oper}{rest:List Oper}{o:Oper}{a:Act}{w:World}{Q:Exit→Act→World→Prop}(hgd:o.guard=none)(ty:TypeId)(ho:o.op=.alloc ty)(z:Array Value)(hz:∀w,(zeroValue ty).run P w=.ok (.agg z) w)
  (h:wpList P ops Q rest (a.put o.dst (.pointer (some ⟨w.heap.size,0,none⟩))) (w.alloc (.cells z ty))):wpList P ops Q (o :: rest) a w:=wpList_alloc_is hgd ty ho (.agg z) hz h
theorem load_block {w:World}{b:Nat}{cs:Array Value}{t:TypeId}{fr:Nat × Nat}(h:w.heap[b]?=some (.cells cs t fr)){n:Nat}(hn:cs.size=n):(loadCellsFrom ⟨b,0,none⟩ 0 n #[]).run prog w=.ok cs w:=by
 subst hn
 have:=run_loadCells_list (P:=prog) w ⟨b,0,none⟩ cs.toList (fun j v hv=>by
  rw[addr_add,Nat.zero_add,World.cell?,h]
  simpa using hv)
 simpa [loadCells] using this
theorem pow_lt64 (j:Nat)(h:j<64):2 ^ j<18446744073709551616:=by
 have:2 ^ j<2 ^ 64:=Nat.pow_lt_pow_right (by omega) h
 simpa using this
theorem wrap_pow (j:Nat)(h:j<64):IntKind.u64.wrap ((2:Int) ^ j)=((2 ^ j:Nat):Int):=by
 have h1:=pow_lt64 j h
 rw[show (2:Int) ^ j=((2 ^ j:Nat):Int) by simp,IntKind.wrap_u64]
 generalize 2 ^ j=p at *
 omega
def z65:Array Value:=(List.replicate 65 (Value.int .u64 0)).toArray
theorem zero65 (w:World):(zeroValue 287).run prog w=.ok (.agg z65) w:=by kernel_rfl
theorem info287:(prog.info? 287).map (·.size)=some 65:=by kernel_rfl
attribute [-go_sem] loadCellsFrom
theorem with_any (w:World)(A:Array Value)(hA:A.size=65)(h1:A.all (·.oneCell')=true)(n:Nat)(hn:n<4160)(x:Nat)(hx:A[n / 64]?=some (.int .u64 (x:Int)))(hx64:x<18446744073709551616):
  Calls prog 185 #[.agg A,.int .i64 (n:Int)] w fun e w'=>e=.returned (.agg (A.setIfInBounds (n / 64) (.int .u64 ((x ||| 2 ^ (n % 64):Nat):Int))))∧Below w.heap.size w w':=by
 have HA:=hid hA;have H1:=hid h1;have HX:=hid hx
 have hn':(n:Int)<4160:=by omega
 clear hA h1 hx
 go_enter func185,ntmps185
 go_wp2_with (refine wpList_alloc_agg rfl 287 rfl z65 zero65 ?_)
 have hw0:(((w.alloc (.cells A 287)).alloc (.cells z65 287)).heap[w.heap.size]?=some (.cells A 287 (0,0))∧((w.alloc (.cells A 287)).alloc (.cells z65 287)).heap[w.heap.size+1]?=some (.cells z65 287 (0,0)))∧Below w.heap.size w ((w.alloc (.cells A 287)).alloc (.cells z65 287)):=by
  refine⟨⟨?_,?_⟩,((Below.refl _ _).alloc (Nat.le_refl _) _).alloc (by simp) _⟩
  ·exact (((Below.refl _ _).alloc (Nat.le_refl _) _).block _ (by simp)).trans (heap_alloc_new w _)
  ·have:=heap_alloc_new (w.alloc (.cells A 287)) (.cells z65 287)
   rwa [World.size_alloc] at this
 generalize hW0:(w.alloc (.cells A 287)).alloc (.cells z65 287)=W0 at *
 clear hW0
 obtain⟨⟨k1,k2⟩,k3⟩:=hw0
 have HK1:=hid k1;have HK2:=hid k2;have HK3:=hid k3
 have c1:W0.cell? ⟨w.heap.size,n / 64,none⟩=some (.int .u64 (x:Int)):=by simp[World.cell?,k1,HX.out]
 have f1:W0.frozen? ⟨w.heap.size,n / 64,none⟩=false:=by simp[World.frozen?,k1]
 have e1:IntKind.i64.wrap ((n:Int) / 64)=((n / 64:Nat):Int):=by rw[IntWalk.i64_in _ (by omega)];simp
 have e2:(n:Int).tmod 64=((n % 64:Nat):Int):=by rw[Int.tmod_eq_emod_of_nonneg (by omega)];simp
 have hq:((n / 64:Nat):Int)<65:=by omega
 have hr:n % 64<64:=Nat.mod_lt _ (by omega)
 have hq0:(0:Int)≤((n / 64:Nat):Int):=by omega
 generalize hqq:n / 64=q at *
 generalize hmm:n % 64=m at *
 have HQ:=hid hqq;have HMM:=hid hmm
 clear hqq hmm
 have e5:bits .or .u64 (x:Int) (IntKind.u64.wrap ((2:Int) ^ m))=((x ||| 2 ^ m:Nat):Int):=by rw[wrap_pow m hr];exact bits_or_u64_nat _ _ hx64 (pow_lt64 m hr)
 have E5:=hid e5
 clear e5
 generalize hV:bits .or .u64 (x:Int) (IntKind.u64.wrap ((2:Int) ^ m))=V at E5
 have HV:=hid hV
 have g1:(W0.setCell ⟨w.heap.size,q,none⟩ (.int .u64 V)).heap[w.heap.size]?=some (.cells (A.setIfInBounds q (.int .u64 V)) 287 (0,0)):=by simp[World.setCell,Array.getElem?_modify,k1]
 have g2:(W0.setCell ⟨w.heap.size,q,none⟩ (.int .u64 V)).heap[w.heap.size+1]?=some (.cells z65 287 (0,0)):=by rw[heap_setCell_other _ _ _ _ (by simp)];exact k2
 have g3:Below w.heap.size w (W0.setCell ⟨w.heap.size,q,none⟩ (.int .u64 V)):=k3.setCell (Nat.le_refl _) _
 have hA':(A.setIfInBounds q (.int .u64 V)).size=65:=by simp[HA.out]
 have h1':(A.setIfInBounds q (.int .u64 V)).all (·.oneCell')=true:=by
  rw[Array.all_eq_true_iff_forall_mem]
  intro v hv
  rw[Array.mem_iff_getElem?] at hv
  obtain⟨k,hk⟩:=hv
  rw[Array.getElem?_setIfInBounds] at hk
  split at hk
  ·split at hk
   ·injection hk with hk
    subst hk
    rfl
   ·cases hk
  ·have:=H1.out
   rw[Array.all_eq_true_iff_forall_mem] at this
   exact this v (Array.mem_iff_getElem?.2 ⟨k,hk⟩)
 have ld:(loadCellsFrom ⟨w.heap.size,0,none⟩ 0 65 #[]).run prog (W0.setCell ⟨w.heap.size,q,none⟩ (.int .u64 V)).drew=.ok (A.setIfInBounds q (.int .u64 V)) (W0.setCell ⟨w.heap.size,q,none⟩ (.int .u64 V)).drew:=load_block (w:=(W0.setCell ⟨w.heap.size,q,none⟩ (.int .u64 V)).drew) g1 hA'
 have ld2:(loadCellsFrom ⟨w.heap.size+1,0,none⟩ 0 65 #[]).run prog ((W0.setCell ⟨w.heap.size,q,none⟩ (.int .u64 V)).drew.setRow (w.heap.size+1) (A.setIfInBounds q (.int .u64 V)))=.ok (A.setIfInBounds q (.int .u64 V)) ((W0.setCell ⟨w.heap.size,q,none⟩ (.int .u64 V)).drew.setRow (w.heap.size+1) (A.setIfInBounds q (.int .u64 V))):=
  load_block (setRow_heap (W0.setCell ⟨w.heap.size,q,none⟩ (.int .u64 V)).drew _ _ _ _ _ g2) hA'
 have G2:=hid g2;have HA2:=hid hA';have H12:=hid h1'
 have hb2:Hid (Below w.heap.size w ((W0.setCell ⟨w.heap.size,q,none⟩ (.int .u64 V)).drew.setRow (w.heap.size+1) (A.setIfInBounds q (.int .u64 V)))):=hid ⟨g3.os,g3.tape,g3.output,by simpa using g3.size,fun k hk=>by rw[setRow_other _ _ _ _ (by omega)];exact g3.block k hk⟩
 generalize hAA:A.setIfInBounds q (.int .u64 V)=A' at *
 have HAA:=hid hAA
 clear g1 g2 g3 hA' h1' hAA
 clear k1 k2 k3
 refine wp_region_still_tail 9 (by kernel_rfl) (by kernel_rfl) ?_
 simp only[List.take_succ_cons,List.take_zero,List.drop_succ_cons,List.drop_zero]
 change wpStill _ _ (World.drew _) (fun a'=>wpList _ _ _ _ a' (World.drew _)) _ _
 iterate 9 still_step
 refine wpStill_nil ?_
 go_wp2_with (refine wpList_store_row rfl 287 (.tmp 4) (.tmp 14) rfl _ _ rfl rfl 287 z65 G2.out (by rw[HA2.out];exact info287) (by rw[HA2.out];rfl) H12.out ?_)
 exact bodyPost_ret (v:=.agg A') (by simp[results,Tryz.results185,go_sem,ld2,Act.put]) rfl ⟨by rw[HQ.out,HMM.out,←E5.out,HAA.out],hb2.out⟩
end Go.Proofs.YteeefedoffplmaaGreat
namespace Go.Proofs.YteeefedoffplmaaGreat
open Lib Go.Proofs.Tryz
open Go.RowKit
theorem pileIsNot (b k n:Nat)(i:Int)(w:World)(hc:w.cell? ⟨b,1,none⟩=some (Qr k n))(h:¬(1≤i∧i<n)):
  Calls prog 184 #[ptr b,.int .i64 i] w fun e w'=>e=.returned (.bool false)∧w=w':=by
 unfold Qr at hc
 unfold ptr
 by_cases h1:1≤i
 ·have e2:decide (i<(n:Int))=false:=by simp;omega
  clear h
  go_enter func184,ntmps184
  go_wp2_with fail
  go_ret
  exact⟨rfl,rfl⟩
 ·clear h
  go_enter func184,ntmps184
  go_wp2_with fail
  go_ret
  exact⟨rfl,rfl⟩
def BitsOf (M:List Nat)(out:List Int):Prop:=M.length=65∧(∀x∈M,x<18446744073709551616)∧∀y:Nat,y<4160→∀x,M[y / 64]?=some x→(x.testBit (y % 64)=true↔(y:Int)∈out)
def metWith (M:List Nat)(n:Nat):List Nat:=M.set (n / 64) ((M.getD (n / 64) 0) ||| 2 ^ (n % 64))
theorem BitsOf.start:BitsOf (List.replicate 65 0) []:=by
 refine⟨by simp,fun x hx=>?_,fun y hy x hx=>?_⟩
 ·obtain⟨_,rfl⟩:=List.mem_replicate.1 hx
  omega
 ·rw[List.getElem?_replicate] at hx
  split at hx
  ·injection hx with hx
   subst hx
   simp
  ·cases hx
theorem BitsOf.get {M:List Nat}{out:List Int}(h:BitsOf M out){n:Nat}(hn:n<4160):∃x,M[n / 64]?=some x∧x<18446744073709551616:=by
 have hl:n / 64<M.length:=by rw[h.1];omega
 exact⟨_,List.getElem?_eq_getElem hl,h.2.1 _ (List.getElem_mem hl)⟩
theorem BitsOf.with {M:List Nat}{out:List Int}(h:BitsOf M out){n:Nat}(hn:n<4160):BitsOf (metWith M n) (out ++ [(n:Int)]):=by
 obtain⟨x,hx,hxl⟩:=h.get hn
 have hg:M.getD (n / 64) 0=x:=by simp[List.getD,hx]
 refine⟨by simp[metWith,h.1],fun y hy=>?_,fun y hy z hz=>?_⟩
 ·rcases List.mem_or_eq_of_mem_set hy with hy|rfl
  ·exact h.2.1 y hy
  ·rw[hg]
   have h1:x<2 ^ 64:=by simpa using hxl
   have h2:2 ^ (n % 64)<2 ^ 64:=Nat.pow_lt_pow_right (by omega) (Nat.mod_lt _ (by omega))
   have:=Nat.or_lt_two_pow h1 h2
   simpa using this
 ·unfold metWith at hz
  rw[hg,List.getElem?_set] at hz
  split at hz
  ·rename_i he
   split at hz
   ·injection hz with hz
    subst hz
    have h0:=h.2.2 y hy x (by rw[←he];exact hx)
    rw[Nat.testBit_or,Bool.or_eq_true,h0,Nat.testBit_two_pow]
    simp only[decide_eq_true_eq,List.mem_append,List.mem_singleton]
    constructor
    ·rintro (h1|h1)
     ·exact .inl h1
     ·right;omega
    ·rintro (h1|h1)
     ·exact .inl h1
     ·right
      have:y=n:=by omega
      rw[this]
   ·cases hz
  ·rename_i he
   have h0:=h.2.2 y hy z hz
   rw[h0]
   simp only[List.mem_append,List.mem_singleton]
   constructor
   ·exact .inl
   ·rintro (h1|h1)
    ·exact h1
    ·exfalso
     have:y=n:=by omega
     subst this
     exact he rfl
theorem BitsOf.ne {M:List Nat}{out:List Int}(h:BitsOf M out){n:Nat}(hn:n<4160)(hno:(n:Int)∉out):metWith M n≠M:=by
 intro e
 obtain⟨x,hx,_⟩:=h.get hn
 have h1:=(h.with hn).2.2 n hn x (by rw[e];exact hx)
 have h2:=h.2.2 n hn x hx
 have h3:x.testBit (n % 64)=true:=h1.2 (by simp)
 exact hno (h2.1 h3)
theorem mets_with (M:List Nat)(n:Nat)(x:Nat)(hx:M[n / 64]?=some x):(mets M).setIfInBounds (n / 64) (.int .u64 ((x ||| 2 ^ (n % 64):Nat):Int))=mets (metWith M n):=by
 have hg:M.getD (n / 64) 0=x:=by simp[List.getD,hx]
 unfold mets metWith
 rw[hg,List.map_set]
 simp
theorem mets_one (M:List Nat):(mets M).all (·.oneCell')=true:=by
 rw[Array.all_eq_true_iff_forall_mem]
 intro v hv
 simp only[mets,List.mem_toArray,List.mem_map] at hv
 obtain⟨x,_,rfl⟩:=hv
 rfl
theorem z65_eq:z65=mets (List.replicate 65 0):=by simp[z65,mets]
end Go.Proofs.YteeefedoffplmaaGreat
/- A pool's free places: the walk. Conditions: the pool lies in memory; places of the plain pool answers. -/
namespace Go.Proofs.YteeefedoffplmaaGreat
open Lib Go.Proofs.Tryz
open Go.RowKit
theorem with_met (w:World)(M:List Nat)(out:List Int)(hM:BitsOf M out)(n:Nat)(hn:n<4160):
  Calls prog 185 #[.agg (mets M),.int .i64 (n:Int)] w fun e w'=>e=.returned (.agg (mets (metWith M n)))∧Below w.heap.size w w':=by
 obtain⟨x,hx,hxl⟩:=hM.get hn
 have:=with_any w (mets M) (by rw[mets_size];exact hM.1) (mets_one M) n hn x (mets_get hx) hxl
 rwa [mets_with M n x hx] at this
theorem store_all {w:World}{g:Nat}{t:TypeId}{old cells:Array Value}(hg:w.heap[g]?=some (.cells old t (0,0)))(hs:old.size=cells.size)(h1:cells.all (·.oneCell')=true):
  (storeCells ⟨g,0,none⟩ cells.toList).run prog w=.ok () (w.setRow g cells):=by
 have hone:∀v∈cells.toList,v.oneCell'=true:=by
  intro v hv
  rw[Array.all_eq_true_iff_forall_mem] at h1
  exact h1 v (by simpa using hv)
 have:=run_storeCells_at prog g 0 t cells.toList 0 old w hg (by simp[hs]) hone
 rw[this]
 congr 2
 simp only[Nat.add_zero,List.take_zero,List.nil_append,Nat.zero_add,Array.length_toList]
 rw[←hs,List.drop_of_length_le (by simp)]
 simp
def plW (w1:World)(A:Array Value):World:=(w1.alloc (.cells z65 287)).setRow w1.heap.size A
theorem plW_blk (w1:World)(A:Array Value):(plW w1 A).heap[w1.heap.size]?=some (.cells A 287 (0,0)):=setRow_heap _ _ _ _ _ _ (heap_alloc_new w1 _)
theorem plW_only (w1:World)(A:Array Value):Only [] w1 (plW w1 A):=
 ⟨rfl,rfl,rfl,by simp[plW],fun k hk _=>by
  unfold plW
  rw[setRow_other _ _ _ _ (by omega)]
  exact ((Below.refl _ _).alloc (Nat.le_refl _) _).block _ hk⟩
structure PlInv (S:PoolS)(res:List Int)(w:World)(f:Nat)(i:Int)(out':List Int)(M:List Nat)(out:Value)(wr:World):Prop where
 run:S.placesFrom f i out'=some res
 own:wr.ownsRow (w.heap.size+1) 3 1 out out'.length (Zc out')
 bits:BitsOf M out'
 blk:wr.heap[w.heap.size]?=some (.cells (mets M) 287 (0,0))
 o:Only [] w wr
 most:f+out'.length≤4100
theorem pl_fin {S:PoolS}{L:PoolL}{res:List Int}{w W2 w3:World}{f n:Nat}{y:Int}{out':List Int}{M':List Nat}{u v2:Value}{o:Obj}(hp:PoolAt w L S)(ho2:Only [] w W2)(hob:∀g,u.ownBlock=some g→w.heap.size+1≤g)
  (hown2:w3.ownsRow (w.heap.size+1) 3 1 v2 (out'.length+1) (Zc out' ++ [.int .i64 (n:Int)])) (hg2:(W2.alloc o).drew.grownBy w3 u.ownBlock) (h4:∃old,w3.heap[w.heap.size]?=some (.cells old 287 (0,0)))
  (hgo:S.placesFrom f y (out' ++ [(n:Int)])=some res) (hb:BitsOf M' (out' ++ [(n:Int)])) (hm:f+1+out'.length≤4100) (hy:S.next[n]?=some y):
  PlInv S res w f y (out' ++ [(n:Int)]) M' v2 (w3.setRow w.heap.size (mets M'))∧(w3.setRow w.heap.size (mets M')).cell? ⟨L.fb,1,none⟩=some (Qr L.nb S.next.length) ∧
   Calls prog 51 #[.pointer (some ⟨L.nb,n,none⟩)] (w3.setRow w.heap.size (mets M')) fun e w'=>e=.returned (.int .i64 y)∧w3.setRow w.heap.size (mets M')=w':=by
 obtain⟨old,h4⟩:=h4
 have ho3:Only [] w w3:=((ho2.alloc o).drew').grown hg2 (fun k hk=>.inl (by have:=hob k hk;omega))
 have ho5:Only [] w (w3.setRow w.heap.size (mets M')):=⟨ho3.os,ho3.tape,ho3.output,by simpa using ho3.size,fun k hk hn=>by
  rw[setRow_other _ _ _ _ (by omega)]
  exact ho3.block k hk hn⟩
 have hp5:=hp.only ho5 (by simp)
 have hown5:(w3.setRow w.heap.size (mets M')).ownsRow (w.heap.size+1) 3 1 v2 (out'.length+1) (Zc out' ++ [.int .i64 (n:Int)]):=by
  refine Qe (X:=[w.heap.size]) hown2 ⟨rfl,rfl,rfl,by simp,fun k hk hn=>setRow_other _ _ _ _ (by simpa using hn)⟩ (fun k hk=>?_)
  have:=(hown2.lt k hk).1
  simp
  omega
 refine⟨⟨hgo,?_,hb,setRow_heap _ _ _ _ _ _ h4,ho5,?_⟩,hp5.f.cell rfl,Zf L.nb n y _ (hp5.next hy)⟩
 ·rw[List.length_append,ints_snoc]
  exact hown5
 ·rw[List.length_append]
  simp
  omega
def PlRel (S:PoolS)(res:List Int)(w:World)(k:Nat)(out i:Value)(wr:World):Prop:=∃f i' out' M,k=f∧i=.int .i64 i'∧PlInv S res w f i' out' M out wr
theorem placesFrom_stop {S:PoolS}{f:Nat}{i:Int}{out res:List Int}(h:S.placesFrom (f+1) i out=some res)(hi:¬(1≤i∧i<S.next.length)):res=out:=by
 unfold PoolS.placesFrom at h
 rw[if_neg hi] at h
 exact (Option.some.inj h).symm
theorem placesFrom_go {S:PoolS}{f:Nat}{i:Int}{out res:List Int}(h:S.placesFrom (f+1) i out=some res)(hi:1≤i∧i<S.next.length):i∉out∧∃y,S.next[i.toNat]?=some y∧S.placesFrom f y (out ++ [i])=some res:=by
 unfold PoolS.placesFrom at h
 rw[if_pos hi] at h
 split at h
 ·cases h
 ·rename_i hno
  simp only[Option.bind_eq_bind,Option.bind_eq_some_iff] at h
  exact⟨hno,h⟩
theorem pileHead (w:World)(L:PoolL)(S:PoolS)(hp:PoolAt w L S):Calls prog 183 #[ptr L.fb] w fun e w'=>e=.returned (.int .i64 S.head)∧w=w':=by
 have hl:=Zf L.fb 0 S.head w (hp.f.cell rfl)
 unfold ptr
 clear hp
 go_enter func183,ntmps183
 go_wp2_with (go_at_call 51;refine hl.mono ?_;rintro e w' ⟨rfl,rfl⟩)
 go_ret
 exact⟨rfl,rfl⟩
attribute [-go_sem] loadCellsFrom
attribute [-go_sem] run_eql_struct
theorem places_any (w:World)(L:PoolL)(S:PoolS)(hp:PoolAt w L S)(res:List Int)(hr:S.places=some res):Calls prog 120 #[ptr L.fb] w (NewInts res w):=by
 have hm:=hp.most
 have hlen:=hp.len
 have hpa:=hp.alloc (.cells z65 287)
 have hhead:=pileHead _ L S hpa
 have hidx:=fun W=>index_any S.head W
 have hstart:PlRel S res w (S.next.length+1) (.slice none 0 0) (.int .i64 (Qo S.head)) (w.alloc (.cells z65 287)):=
  ⟨_,_,[],List.replicate 65 0,rfl,rfl,hr,World.ownsRow_nil _ _ 3 1,BitsOf.start,by rw[←z65_eq];exact heap_alloc_new w _,(Only.refl _ _).alloc _,by rw[hlen];simp;omega⟩
 have HST:=hid hstart;have HP:=hid hp
 have hpl:=hp.lt
 have HLT:Hid (∀k∈L.all,k<w.heap.size):=hid hpl
 have HM:Hid (S.next.length≤4097):=hid (by rw[hlen];exact hm)
 unfold ptr at hhead ⊢
 generalize Qo S.head=i0 at *
 clear hp hpa hstart hr hlen hpl hm
 generalize hf:S.next.length+1=fuel at *
 clear hf
 go_enter func120,ntmps120
 go_wp2_with (first|(refine wpList_alloc_agg rfl 287 rfl z65 zero65 ?_)|(go_at_call 183;refine hhead.mono ?_;rintro e w' ⟨rfl,rfl⟩)|(go_at_call 95;refine (hidx _).mono ?_;rintro e w' ⟨rfl,rfl⟩))
 go_loopg [3,5] fuel (fun k out i wr=>PlRel S res w k out i wr)
 case atStart=>exact HST.out
 case round=>
  obtain⟨f,i,out',M,rfl,rfl,hinv⟩:=hrel
  cases gk with
  |zero=>
   have:=hinv.run
   unfold PoolS.placesFrom at this
   cases this
  |succ f=>
   have hpr:=HP.out.only hinv.o (by simp)
   have HI:=hid hinv
   by_cases hi:1≤i∧i<S.next.length
   ·obtain⟨hno,y,hy,hgo⟩:=placesFrom_go hinv.run hi
    obtain⟨n,rfl⟩:=Int.eq_ofNat_of_zero_le (show 0≤i by omega)
    have hm:=HM.out
    have hn:n<4160:=by omega
    have his:=pileIs L.fb n S.next.length L.nb wr (hpr.f.cell rfl) (by omega) (by omega) (by omega)
    have hwm:=with_met wr M out' hinv.bits n hn
    have hq:∀W,(binOp .eql 287 (.agg (mets (metWith M n))) (.agg (mets M))).run prog W=.ok (.bool false) W:=fun W=>by
     rw[eq_met _ _ (hinv.bits.with hn).1 hinv.bits.1]
     simp[hinv.bits.ne hn hno]
    have ld:(loadCellsFrom ⟨w.heap.size,0,none⟩ 0 65 #[]).run prog wr=.ok (mets M) wr:=load_block hinv.blk (by rw[mets_size];exact hinv.bits.1)
    have hb':=hinv.bits.with hn
    have HB':=hid hb';have HGO:=hid hgo;have HY:=hid hy;have HPR:=hid hpr;have HLE:=hid hi
    have HMSo:Hid ((mets M).size=65):=hid (by rw[mets_size];exact hinv.bits.1)
    have HMS:Hid ((mets (metWith M n)).size=65):=hid (by rw[mets_size];exact hb'.1)
    unfold ptr at his
    clear hinv hi hno hy hgo hb' hpr
    generalize hMM:metWith M n=M' at *
    clear hMM
    go_wp2_with (first|(go_at_call 184;refine his.mono ?_;rintro e w' ⟨rfl,rfl⟩)|(go_at_call 185;refine hwm.mono ?_;rintro e w1 ⟨rfl,hb1⟩;have HB1:=hid hb1;have hsz:w.heap.size<w1.heap.size:=Nat.lt_of_lt_of_le (Array.getElem?_eq_some_iff.1 HI.out.blk).1 hb1.size;have hW:=plW_only w1 (mets M');have h4:(plW w1 (mets M')).heap[w.heap.size]?=some (.cells (mets M) 287 (0,0)):=(hW.block _ hsz (by simp)).trans ((hb1.block _ (Array.getElem?_eq_some_iff.1 HI.out.blk).1).trans HI.out.blk);have H4:=hid h4;have HWW:=hid hW;have ld6:(loadCellsFrom ⟨w1.heap.size,0,none⟩ 0 65 #[]).run prog (plW w1 (mets M'))=.ok (mets M') (plW w1 (mets M')):=load_block (plW_blk w1 _) HMS.out;have ld4:(loadCellsFrom ⟨w.heap.size,0,none⟩ 0 65 #[]).run prog (plW w1 (mets M'))=.ok (mets M) (plW w1 (mets M')):=load_block h4 HMSo.out;unfold plW at ld6 ld4;clear hb1 hW h4)|(refine wpList_alloc_agg rfl 287 rfl z65 zero65 ?_)|(refine wpList_store_row rfl 287 (.tmp 6) (.tmp 22) rfl _ _ rfl rfl 287 z65 (heap_alloc_new _ _) (by rw[HMS.out];exact info287) (by rw[HMS.out];rfl) (mets_one _) ?_))
    clear ld ld4 ld6
    have hW2:(w1.alloc (.cells z65 287)).setRow w1.heap.size (mets M')=plW w1 (mets M'):=rfl
    have h6:=plW_blk w1 (mets M')
    have h4:=H4.out
    have ho2:Only [] w (plW w1 (mets M')):=(HI.out.o.trans (.of_below HB1.out)).trans HWW.out
    have hown:=Qe (own_below HI.out.own HB1.out) HWW.out (by simp)
    have hob:∀g,u3.ownBlock=some g→w.heap.size+1≤g∧g<w1.heap.size:=fun g hg=>⟨(HI.out.own.lt g hg).1,Nat.lt_of_lt_of_le (HI.out.own.lt g hg).2 HB1.out.size⟩
    clear H4 HWW
    generalize (w1.alloc (.cells z65 287)).setRow w1.heap.size (mets M')=W2 at *
    rw[←hW2] at h6 h4 ho2 hown
    have ld6:(loadCellsFrom ⟨w1.heap.size,0,none⟩ 0 65 #[]).run prog W2.drew=.ok (mets M') W2.drew:=load_block (w:=W2.drew) h6 HMS.out
    have h6a:(W2.alloc (.cells #[.int .i64 (n:Int)] 3)).heap[w1.heap.size]?=some (.cells (mets M') 287 (0,0)):=(((Below.refl _ _).alloc (Nat.le_refl _) _).block _ (Array.getElem?_eq_some_iff.1 h6).1).trans h6
    have h4a:(W2.alloc (.cells #[.int .i64 (n:Int)] 3)).heap[w.heap.size]?=some (.cells (mets M) 287 (0,0)):=(((Below.refl _ _).alloc (Nat.le_refl _) _).block _ (Array.getElem?_eq_some_iff.1 h4).1).trans h4
    have ld6a:(loadCellsFrom ⟨w1.heap.size,0,none⟩ 0 65 #[]).run prog (W2.alloc (.cells #[.int .i64 (n:Int)] 3)).drew=.ok (mets M') (W2.alloc (.cells #[.int .i64 (n:Int)] 3)).drew:=load_block (w:=(W2.alloc (.cells #[.int .i64 (n:Int)] 3)).drew) h6a HMS.out
    have hoa:(W2.alloc (.cells #[.int .i64 (n:Int)] 3)).drew.ownsRow (w.heap.size+1) 3 1 u3 out'.length (Zc out'):=hown.alloc _
    have hrw:Row (W2.alloc (.cells #[.int .i64 (n:Int)] 3)).drew (some ⟨W2.heap.size,0,none⟩) [.int .i64 (n:Int)]:=Zg W2 [.int .i64 (n:Int)] 3
    have hba:w.heap.size+1≤(W2.alloc (.cells #[.int .i64 (n:Int)] 3)).drew.heap.size:=by
     have:=(Array.getElem?_eq_some_iff.1 h4).1
     show _≤(W2.alloc _).heap.size
     simp
     omega
    have hm1:out'.length+1≤maxLen:=by have:=HI.out.most;unfold maxLen;omega
    have hm2:(out'.length+1)*8≤140737488355328:=by have:=HI.out.most;omega
    have HOA:=hid hoa;have HROW:=hid hrw;have HBA:=hid hba;have HM1:=hid hm1;have HM2:=hid hm2;have HO2:=hid ho2;have HOB:=hid hob;have H4A:=hid h4a;have H6A:=hid h6a
    clear hW2 h6 h4 ho2 hown hob h6a h4a hoa hrw hba hm1 hm2 hq
    have hms:=HMS.out
    go_region_law ((refine Zb rfl (.tmp 27) (.tmp 29) rfl elemInt rfl HOA.out _ 1 _ [.int .i64 (n:Int)] rfl HROW.out rfl (by simp[Value.oneCell']) HM1.out HM2.out HBA.out (fun e=>by cases e) ?_;intro v2 w3 hown2 hg2 hat2;have h43:w3.heap[w.heap.size]?=some (.cells (mets M) 287 (0,0)):=(hg2.block _ (Array.getElem?_eq_some_iff.1 H4A.out).1 (fun e=>by have:=(HOB.out _ e.symm).1;omega)).trans H4A.out;have H43:=hid h43;have h63:w3.heap[w1.heap.size]?=some (.cells (mets M') 287 (0,0)):=(hg2.block _ (Array.getElem?_eq_some_iff.1 H6A.out).1 (fun e=>by have:=(HOB.out _ e.symm).2;omega)).trans H6A.out;have ld63:(loadCellsFrom ⟨w1.heap.size,0,none⟩ 0 65 #[]).run prog w3=.ok (mets M') w3:=load_block h63 HMS.out;have st3:=store_all h43 (HMSo.out.trans HMS.out.symm) (mets_one _);obtain⟨hf1,hf2,hf3⟩:=pl_fin (M':=M') HP.out HO2.out (fun g hg=>(HOB.out g hg).1) hown2 hg2 ⟨_,h43⟩ HGO.out HB'.out (by have:=HI.out.most;omega) HY.out;have HF1:=hid hf1;have HF3:=hid hf3;unfold Qr at hf2;clear hown2 hg2 hat2 h43 h63 hf1 hf3))
    all_goals
     have hnl:(n:Int)<S.next.length:=by have:=HLE.out;omega
     go_wp2_with (go_at_call 51;refine HF3.out.mono ?_;rintro e w' ⟨rfl,rfl⟩)
     go_roundg f
     case measure=>omega
     case rel=>exact⟨f,y,_,_,rfl,rfl,HF1.out⟩
   ·have hno:=placesFrom_stop hinv.run hi
    have his:=pileIsNot L.fb L.nb S.next.length i wr (hpr.f.cell rfl) hi
    have HN:=hid hno
    unfold ptr at his
    clear hinv hi hno hpr
    go_wp2_with (go_at_call 184;refine his.mono ?_;rintro e w' ⟨rfl,rfl⟩)
    go_ret
    rw[HN.out]
    exact⟨_,rfl,Qn HI.out.own (by omega),HI.out.o⟩
end Go.Proofs.YteeefedoffplmaaGreat
namespace Go.Proofs.YteeefedoffplmaaGreat
open Go.RowKit Lib Go.Proofs.Tryz
end Go.Proofs.YteeefedoffplmaaGreat
