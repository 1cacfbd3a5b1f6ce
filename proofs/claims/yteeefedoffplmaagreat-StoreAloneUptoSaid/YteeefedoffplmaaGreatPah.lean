/- StoreAlone, part Pah: DelFn, LPut, Other, LoadPut, Store, Has. -/
import Derived.Test.YteeefedoffplmaaGreatPaf
import Derived.LoopN
import Derived.Test.YteeefedoffplmaaGreatPag
import Derived.Test.YteeefedoffplmaaGreatPae
import Derived.Test.YteeefedoffplmaaGreatPad
import Derived.Test.YteeefedoffplmaaGreatPac
set_option linter.unusedSimpArgs false
set_option linter.unusedVariables false
set_option maxRecDepth 100000
set_option maxHeartbeats 51200000
namespace Go.Proofs.YteeefedoffplmaaGreat
open Go.RowKit Lib Go.Proofs.Tryz
theorem isHandle_any (w:World)(b:Nat)(h x:Int)(hc:w.cell? ⟨b,0,none⟩=some (.int .i64 h)):
  Calls prog 249 #[.int .i64 x,ptr b] w fun e w'=>e=.returned (.bool (decide (x=h)))∧w=w':=by
 unfold ptr
 go_enter func249,ntmps249
 go_wp2_with fail
 go_ret
 refine⟨ret_bool ?_,rfl⟩
 first|rfl|simp
def IxHRel (xs:List Int)(h:Int)(w:World)(k:Nat)(s:Value)(wr:World):Prop:=
 ∃j:Nat,j≤xs.length∧s=.int .i64 (j:Int)∧k=xs.length-j∧(∀x∈xs.take j,decide (x=h)=false)∧wr=w
theorem ints_get {xs:List Int}{j:Nat}{x:Int}(h:xs[j]?=some x):(Zc xs)[j]?=some (.int .i64 x):=by
 unfold Zc
 rw[List.getElem?_map,h]
 rfl
theorem indexHandle_any (w:World)(A:Option Addr)(cap b:Nat)(h:Int)(xs:List Int)(hsm:xs.length≤1000000)(hrow:Row w A (Zc xs))(hc:w.cell? ⟨b,0,none⟩=some (.int .i64 h)):
  Calls prog 125 #[.slice A xs.length cap,.func (.func 249) #[] #[ptr b]] w fun e w'=>e=.returned (.int .i64 (idxI (xs.findIdx? fun x=>decide (x=h))))∧w'=w:=by
 have hcl:=fun x=>isHandle_any w b h x hc
 have HR:=hid hrow;have HCL:=hid hcl
 unfold ptr at *
 clear hrow hcl
 go_enter func125,ntmps125
 go_wp2_with fail
 go_loopg [8] xs.length (fun k i wr=>IxHRel xs h w k i wr)
 case atStart=>exact⟨0,Nat.zero_le _,rfl,rfl,by simp,rfl⟩
 case round=>
  obtain⟨j,hj,rfl,rfl,hno,rfl⟩:=hrel
  have HNO:=hid hno
  clear hno
  by_cases hlt:j<xs.length
  ·have hlt':(j:Int)<xs.length:=by omega
   obtain⟨x,hx⟩:∃x,xs[j]?=some x:=⟨_,List.getElem?_eq_getElem hlt⟩
   obtain⟨b',off,hA,h1⟩:=HR.out j _ (ints_get hx)
   subst hA
   have HX:=hid hx
   clear hx
   cases hb:decide (x=h)
   all_goals
    have HB:=hid hb
    have hcx:=HCL.out x
    rw[hb] at hcx
    have HCX:=hid hcx
    clear hb hcx
    go_wp2_with (go_at_call 249;refine HCX.out.mono ?_;rintro e w1 ⟨rfl,rfl⟩)
   ·go_roundg (xs.length-(j+1))
    case measure=>omega
    case rel=>exact⟨j+1,by omega,by go_num,rfl,by
     rw[Zd HX.out]
     intro y hy
     rcases List.mem_append.1 hy with hy|hy
     ·exact HNO.out y hy
     ·obtain rfl:=List.mem_singleton.1 hy
      exact HB.out,rfl⟩
   ·go_ret
    exact⟨ret_int (by rw[findIdx_some HNO.out HX.out HB.out];rfl),rfl⟩
  ·have hjl:j=xs.length:=by omega
   have HJ:=hid hjl
   clear hjl
   go_wp2_with fail
   go_ret
   have:=HNO.out
   rw[HJ.out,List.take_length] at this
   exact⟨ret_int (by rw[findIdx_none this];rfl),rfl⟩
def DfRel (xs:List Int)(h:Int)(w:World)(g cap:Nat)(k:Nat)(s5 s6:Value)(wr:World):Prop:=
 ∃(i j:Nat) (cur:List Value),j≤xs.length∧i<j∧s5=.int .i64 (i:Int)∧s6=.int .i64 (j:Int)∧k=xs.length-j∧Blk wr g cur 3∧cur.length=cap∧cur.take i=Zc ((xs.take j).filter fun x=>!decide (x=h))∧i=((xs.take j).filter fun x=>!decide (x=h)).length ∧
  (∀q,j≤q→q<xs.length→cur[q]?=(Zc xs)[q]?)∧w.grownBy wr (some g)
theorem filter_snoc {xs:List Int}{j:Nat}{x:Int}(p:Int→Bool)(hx:xs[j]?=some x):(xs.take (j+1)).filter p=(xs.take j).filter p ++ (if p x then [x] else []):=by
 rw[Zd hx,List.filter_append]
 congr 1
 simp only[List.filter_cons,List.filter_nil]
theorem grown_of_only {w w':World}{g:Nat}(h:Only [g] w w'):w.grownBy w' (some g):=
 ⟨h.os,h.tape,h.output,h.size,fun k hk hne=>h.block k hk (by simp only[List.mem_singleton];exact fun e=>hne (by rw[e]))⟩
theorem zero3 (w:World):(zeroValue 3).run prog w=.ok (.int .i64 0) w:=by kernel_rfl
theorem one3:∀v∈(Value.int .i64 0).cells.toList,v.oneCell'=true:=by
 intro v hv
 simp[Value.cells] at hv
 subst hv
 rfl
theorem deleteHandle_any (w:World)(base b:Nat)(h:Int)(v:Value)(xs:List Int)(hsm:xs.length≤1000000)(hown:w.ownsRow base 3 1 v xs.length (Zc xs))(hc:w.cell? ⟨b,0,none⟩=some (.int .i64 h))(hb:v.ownBlock≠some b):
  Calls prog 248 #[v,.func (.func 249) #[] #[ptr b]] w fun e w'=>∃v',e=.returned v'∧w'.ownsRow base 3 1 v' (xs.filter fun x=>!decide (x=h)).length (Zc (xs.filter fun x=>!decide (x=h)))∧v'.ownBlock=v.ownBlock∧w.grownBy w' v.ownBlock:=by
 obtain⟨A,cap,rfl,hrow,_⟩:=Qc hown
 have hix:=indexHandle_any w A cap b h xs hsm hrow hc
 have HIX:=hid hix;have HOWN:=hid hown;have HC:=hid hc
 unfold ptr at *
 cases hf:xs.findIdx? (fun x=>decide (x=h)) with
 |none=>
  have hid':(xs.filter fun x=>!decide (x=h))=xs:=by
   rw[List.filter_eq_self]
   intro x hx
   have:=List.findIdx?_eq_none_iff.1 hf x hx
   simpa using this
  rw[hf] at HIX
  unfold idxI at HIX
  have HI:=hid hid'
  clear hown hrow hix hf hc hid'
  go_enter func248,ntmps248
  go_wp2_with (go_at_call 125;refine HIX.out.mono ?_;rintro e w1 ⟨rfl,rfl⟩)
  go_ret
  exact⟨_,rfl,by rw[HI.out];exact HOWN.out,rfl,World.grownBy.refl _ _⟩
 |some i=>
  rw[hf] at HIX
  unfold idxI at HIX
  obtain⟨hil,hip,hib⟩:=List.findIdx?_eq_some_iff_getElem.1 hf
  obtain⟨hxl,hr|⟨g,cap',cur,hv,hbg,hg,hnc,hcm,hcs,hcur⟩⟩:=hown
  ·omega
  injection hv with hA _ hcap
  subst hA hcap
  rw[Nat.mul_one] at hcs hcur
  have hpre:(xs.take (i+1)).filter (fun x=>!decide (x=h))=xs.take i:=by
   rw[filter_snoc _ (List.getElem?_eq_getElem hil)]
   have h1:(!decide (xs[i]=h))=false:=by simpa using hip
   rw[h1]
   simp only[Bool.false_eq_true,if_false,List.append_nil]
   rw[List.filter_eq_self]
   intro x hx
   obtain⟨q,hq,rfl⟩:=List.mem_iff_getElem.1 hx
   simp only[List.length_take] at hq
   have:=hib q (by omega)
   simp only[List.getElem_take]
   simpa using this
  have hcl:cur.toList.length=cap:=by rw[Array.length_toList,hcs]
  have hst:DfRel xs h w g cap (xs.length-(i+1)) (.int .i64 (i:Int)) (.int .i64 ((i:Int)+1)) w:=by
   refine⟨i,i+1,cur.toList,hil,by omega,rfl,by simp,rfl,by unfold Blk;rw[hg],hcl,?_,?_,fun q h1 h2=>?_,World.grownBy.refl _ _⟩
   ·rw[hpre]
    have h2:cur.toList.take i=(Zc xs).take i:=by rw[←hcur,List.take_take,Nat.min_eq_left (by omega)]
    rw[h2]
    unfold Zc
    rw[List.map_take]
   ·rw[hpre,List.length_take,Nat.min_eq_left (by omega)]
   ·rw[←hcur,List.getElem?_take,if_pos h2]
  have HST:=hid hst
  have hw1:IntKind.i64.wrap ((i:Int)+1)=(i:Int)+1:=IntWalk.i64_in _ (by omega)
  have hne:¬(i:Int)=-1:=by omega
  have hnc':xs.length≤cap:=hnc
  have HCM:=hid hcm;have HBG:=hid hbg;have HNC:=hid hnc'
  have hbn:b≠g:=fun e=>hb (by rw[e];rfl)
  clear hrow hix hf hc hxl hg hnc hcm hcs hcur hpre hcl hst hip hib hbg hnc'
  go_enter func248,ntmps248
  go_wp2_with (go_at_call 125;refine HIX.out.mono ?_;rintro e w1 ⟨rfl,rfl⟩)
  go_loopg [5,6] (xs.length-(i+1)) (fun k s5 s6 wr=>DfRel xs h w1 g cap k s5 s6 wr)
  case atStart=>exact HST.out
  case round=>
   obtain⟨i',j,cs,hj,hij,rfl,rfl,rfl,hblk,hcl,htk,hil2,hah,hgr⟩:=hrel
   have HBLK:=hid hblk;have HCL:=hid hcl;have HTK:=hid htk;have HIL:=hid hil2;have HAH:=hid hah;have HGR:=hid hgr
   by_cases hlt:j<xs.length
   ·have hlt':(j:Int)<xs.length:=by omega
    obtain⟨x,hx⟩:∃x,xs[j]?=some x:=⟨_,List.getElem?_eq_getElem hlt⟩
    have cj:wr.cell? ⟨g,j,none⟩=some (.int .i64 x):=hblk.cell (by rw[hah j (Nat.le_refl _) hlt];exact ints_get hx)
    have hi2:i'<cs.length:=by have:=HNC.out;omega
    have ci:∃y,wr.cell? ⟨g,i',none⟩=some y:=⟨_,hblk.cell (List.getElem?_eq_getElem hi2)⟩
    obtain⟨yi,ci⟩:=ci
    have fi:=hblk.frozen i'
    have hcx:=isHandle_any wr b h x (by
     have h1:=HC.out
     exact Qa (Only.of_grown (X:=[g]) hgr (fun k hk=>.inl (by simpa using hk.symm))) h1 (by simpa using hbn))
    have HX:=hid hx
    unfold ptr at hcx
    have hi0:(0:Int)≤(i':Int):=by omega
    have hi1:(i':Int)<xs.length:=by omega
    clear hblk hcl htk hil2 hah hgr hx
    cases hb2:decide (x=h)
    all_goals
     have HB:=hid hb2
     rw[hb2] at hcx
     have HCX:=hid hcx
     clear hb2 hcx
     go_wp2_with (go_at_call 249;refine HCX.out.mono ?_;rintro e w1 ⟨rfl,rfl⟩)
    ·go_roundg (xs.length-(j+1))
     case measure=>omega
     case rel=>
      have hpx:(!decide (x=h))=true:=by rw[HB.out];rfl
      have hfs:=filter_snoc (fun x=>!decide (x=h)) HX.out
      simp only[hpx,if_true] at hfs
      refine⟨i'+1,j+1,cs.set i' (.int .i64 x),by omega,by omega,by go_num,by go_num,rfl,HBLK.out.set i' _,by rw[List.length_set];exact HCL.out,?_,?_,fun q h1 h2=>?_,?_⟩
      ·rw[hfs]
       have hi3:i'<cs.length:=hi2
       rw[List.take_succ_eq_append_getElem (by rw[List.length_set];exact hi3),List.take_set_of_le (Nat.le_refl _),HTK.out]
       unfold Zc
       simp
      ·rw[hfs,List.length_append,←HIL.out]
       rfl
      ·rw[List.getElem?_set_ne (by omega)]
       exact HAH.out q (by omega) h2
      ·exact grown_trans HGR.out (grown_of_only ((Only.refl [g] wr).setCell (.inl (by simp)) _))
    ·go_roundg (xs.length-(j+1))
     case measure=>omega
     case rel=>
      have hpx:(!decide (x=h))=false:=by rw[HB.out];rfl
      have hfs:=filter_snoc (fun x=>!decide (x=h)) HX.out
      simp only[hpx,Bool.false_eq_true,if_false,List.append_nil] at hfs
      exact⟨i',j+1,cs,by omega,by omega,rfl,by go_num,rfl,HBLK.out,HCL.out,by rw[hfs];exact HTK.out,by rw[hfs];exact HIL.out,fun q h1 h2=>HAH.out q (by omega) h2,HGR.out⟩
   ·have hjl:j=xs.length:=by omega
    subst hjl
    rw[List.take_length] at htk hil2
    have hi3:(i':Int)≤(xs.length:Int):=by omega
    have hi4:(i':Int)≤(cap:Int):=by have:=HNC.out;omega
    have hi5:¬(cap:Int)<(i':Int):=by omega
    have hi0:(0:Int)≤(i':Int):=by omega
    have HTK2:=hid hil2
    have hcapne:¬cap=i':=by have:=HNC.out;omega
    have hcapne2:¬i'=cap:=by have:=HNC.out;omega
    clear hblk hcl htk hil2 hah hgr
    have hgh:wr.heap[g]?=some (.cells cs.toArray 3 (0,0)):=HBLK.out
    have HGH:=hid hgh
    have HFIT:=hid (show i'+(xs.length-i')*1≤cs.toArray.size from by have h1:=HCL.out;have h2:=HNC.out;simp;omega)
    have HIJ:=hid hij
    clear hgh
    go_wp2_with ((refine wpList_clear_is rfl (.tmp 38) rfl elemInt (zero3 _) rfl one3 rfl HGH.out HFIT.out ?_);intro w2 hg2 hgr2;have HG2:=hid hg2;have HGR2:=hid hgr2;clear hg2 hgr2)
    go_ret
    obtain⟨cur2,k1,k2,k3⟩:=HG2.out
    have htk2:=HTK2.out
    refine⟨_,rfl,⟨?_,.inr ⟨g,cap,cur2,?_,HBG.out,k1,?_,HCM.out,?_,?_⟩⟩,rfl,grown_trans HGR.out HGR2.out⟩
    ·unfold Zc
     simp
    ·rw[←htk2];rfl
    ·rw[←htk2];omega
    ·rw[k2,Nat.mul_one]
     have:=HCL.out
     simpa using this
    ·rw[Nat.mul_one,←htk2,k3]
     have:=HTK.out
     rw[List.take_length] at this
     simpa using this
theorem keep5' {w:World}{b b' i:Nat}{v a0 a1 a2 a3 a4:Value}(h:w.cell? ⟨b,i,none⟩=some v)(hn:b≠b'):
  (((((w.setCell ⟨b',0,none⟩ a0).setCell ⟨b',1,none⟩ a1).setCell ⟨b',2,none⟩ a2).setCell ⟨b',3,none⟩ a3).setCell ⟨b',4,none⟩ a4).cell? ⟨b,i,none⟩=some v:=
 Qa ((((((Only.refl [b'] w).setCell (.inl (by simp)) _).setCell (.inl (by simp)) _).setCell (.inl (by simp)) _).setCell (.inl (by simp)) _).setCell (.inl (by simp)) _) h (by simpa using hn)
theorem putB' {w0 w2:World}{L:PoolL}{S':PoolS}{b:Nat}{z0 z1 z2 z3 z4:Value}{t:TypeId}{mA:Option Addr}{n mc:Nat}{xs:List Value}(a0 a1 a2 a3 a4:Value)(h5:Blk w2 b [z0,z1,z2,z3,z4] t)(hO:Only L.blocks w0 w2)(hb:w0.heap.size≤b)(hP:PoolAt w2 L S')(hlt:∀k∈L.all,k<b)(hrow:w2.ownsRow (b+1) 3 1 (.slice mA n mc) n xs):
  Blk (((((w2.setCell ⟨b,0,none⟩ a0).setCell ⟨b,1,none⟩ a1).setCell ⟨b,2,none⟩ a2).setCell ⟨b,3,none⟩ a3).setCell ⟨b,4,none⟩ a4) b [a0,a1,a2,a3,a4] t ∧
  Only L.blocks w0 (((((w2.setCell ⟨b,0,none⟩ a0).setCell ⟨b,1,none⟩ a1).setCell ⟨b,2,none⟩ a2).setCell ⟨b,3,none⟩ a3).setCell ⟨b,4,none⟩ a4) ∧
  PoolAt (((((w2.setCell ⟨b,0,none⟩ a0).setCell ⟨b,1,none⟩ a1).setCell ⟨b,2,none⟩ a2).setCell ⟨b,3,none⟩ a3).setCell ⟨b,4,none⟩ a4) L S' ∧
  World.ownsRow (((((w2.setCell ⟨b,0,none⟩ a0).setCell ⟨b,1,none⟩ a1).setCell ⟨b,2,none⟩ a2).setCell ⟨b,3,none⟩ a3).setCell ⟨b,4,none⟩ a4) (b+1) 3 1 (.slice mA n mc) n xs:=by
 have g:Only [b] w2 (((((w2.setCell ⟨b,0,none⟩ a0).setCell ⟨b,1,none⟩ a1).setCell ⟨b,2,none⟩ a2).setCell ⟨b,3,none⟩ a3).setCell ⟨b,4,none⟩ a4):=((((((Only.refl [b] w2).setCell (.inl (by simp)) _).setCell (.inl (by simp)) _).setCell (.inl (by simp)) _).setCell (.inl (by simp)) _).setCell (.inl (by simp)) _)
 refine⟨((((h5.set 0 _).set 1 _).set 2 _).set 3 _).set 4 _,?_,hP.only g (fun k hk e=>by have:=hlt k hk;simp at e;omega),?_⟩
 ·exact ((hO.mono (Y:=b :: L.blocks) (by intro k hk;simp[hk])).trans (g.mono (by intro k hk;simp at hk;simp[hk]))).fresh (fun k hk hl=>by
   simp only[List.mem_cons] at hk
   rcases hk with rfl|hk
   ·omega
   ·exact hk)
 ·exact Qe hrow g (fun k hk e=>by have:=(hrow.lt k hk).1;simp at e;omega)
structure LoadAt (w:World)(L:PoolL)(base lg ld lt:Nat)(lpv:Value)(root:Int)(nodes:List Int)(nv:Value):Prop where
 g:Blk w lg [.int .i64 root,nv,ptr ld,.pointer none] 355
 d:Blk w ld [ptr L.pb,ptr lt,lpv] 194
 t:Blk w lt [ptr L.pb] 187
 row:w.ownsRow base 3 1 nv nodes.length (Zc nodes)
 low:lg<base∧ld<base∧lt<base
 all:∀k∈L.all,k<base
 glt:lg∉L.all
 ldl:ld∉L.blocks
 ltl:lt∉L.blocks
 ne:lg≠ld∧lg≠lt
 room:base≤w.heap.size
def notIn (l:List Int)(g:List Int):List Int:=l.filter fun n=>n∉g
theorem notIn_snoc {l g:List Int}{j:Nat}{x:Int}(hx:g[j]?=some x):notIn l (g.take (j+1))=(notIn l (g.take j)).filter fun n=>!decide (n=x):=by
 unfold notIn
 rw[List.filter_filter,Zd hx]
 congr 1
 funext n
 rw[Bool.eq_iff_iff]
 simp[not_or,and_comm]
def LpRel (L:PoolL)(base lg ld lt:Nat)(lpv:Value)(root:Int)(nodes gone:List Int)(gA:Option Addr)(S':PoolS)(w:World)(k:Nat)(s57:Value)(wr:World):Prop:=
 ∃(j:Nat) (S:PoolS) (nv:Value) (D:List Nat),j≤gone.length∧s57=.int .i64 (j:Int)∧k=gone.length-j∧S.giveAll (gone.drop j)=some S'∧PoolAt wr L S∧LoadAt wr L base lg ld lt lpv root (notIn nodes (gone.take j)) nv∧Row wr gA (Zc gone)∧(∀b,gA=some b→base≤b.block∧b.block<wr.heap.size∧nv.ownBlock≠some b.block) ∧
  Only (lg :: L.blocks ++ D) w wr∧(∀k∈D,base≤k)
theorem loadPutAny_any (w:World)(L:PoolL)(S:PoolS)(base lg ld lt:Nat)(lpv:Value)(root:Int)(nodes:List Int)(nv:Value)(hp:PoolAt w L S)(hl:LoadAt w L base lg ld lt lpv root nodes nv)(k v:Int)(hk:Qt k=true)(hv:Ql v)(hw:WayIn S root k)(m':EditS)(S1 S':PoolS)
  (h:S.trieput root k v=some (m',S1)) (hgv:S1.giveAll m'.gone=some S') (hmd:m'.made.length≤1000) (hgn:m'.gone.length≤1000) (hnd:nodes.length≤10000):
  Calls prog 244 #[ptr lg,.agg #[.int .i64 k,.int .i64 v]] w fun e w'=>∃nv' D,e=.returned (.int .i64 0)∧PoolAt w' L S'∧LoadAt w' L base lg ld lt lpv m'.root (notIn (nodes ++ m'.made) m'.gone) nv'∧Only (lg :: L.blocks ++ D) w w'∧∀k∈D,base≤k:=by
 obtain⟨nA,nc,rfl,_,_⟩:=Qc hl.row
 have hpo:∀W,Only [] w W→Calls prog 165 #[ptr lt,.pointer none,.int .i64 root,.int .i64 k,.int .i64 v] W (Putted L m' S1 W):=fun W ho=>trieput_any W lt L S (hp.only ho (by simp)) (hl.t.only ho (by simp)) hl.ltl root k v hk hv hw m' S1 h
 have ho0:Only [] w (w.alloc (.cells #[.int .i64 k,.int .i64 v] 36)):=(Only.refl _ _).alloc _
 have c0:=(hl.g.only ho0 (by simp)).cell (i:=0) rfl
 have c2:=(hl.g.only ho0 (by simp)).cell (i:=2) rfl
 have c3:=(hl.g.only ho0 (by simp)).cell (i:=3) rfl
 have d1:=(hl.d.only ho0 (by simp)).cell (i:=1) rfl
 have b0:(w.alloc (.cells #[.int .i64 k,.int .i64 v] 36)).cell? ⟨w.heap.size,0,none⟩=some (.int .i64 k):=(Blk.new w [.int .i64 k,.int .i64 v] 36).cell rfl
 have b1:(w.alloc (.cells #[.int .i64 k,.int .i64 v] 36)).cell? ⟨w.heap.size,1,none⟩=some (.int .i64 v):=(Blk.new w [.int .i64 k,.int .i64 v] 36).cell rfl
 have hbx:w.heap.size∉L.blocks:=fun e=>by have:=hp.lt _ (Qf e);omega
 have HPO:=hid hpo
 have HL:=hid hl
 have HLG:=hid hl.g
 have HGL:=hid hl.glt
 have HDL:=hid hl.ldl
 have HBX:=hid hbx
 have HO0:=hid ho0
 have HMD:=hid hmd
 have HLT:=hid hp.lt
 have HGV:=hid hgv
 have HGN:=hid hgn
 have HND:=hid hnd
 have hbx2:w.heap.size+1∉L.blocks:=fun e=>by have:=hp.lt _ (Qf e);omega
 have heb0:Blk ((w.alloc (.cells #[.int .i64 k,.int .i64 v] 36)).alloc (.cells #[.int .i64 0,.int .i64 0,.bool false,.slice none 0 0,.slice none 0 0] 264)) (w.heap.size+1) [.int .i64 0,.int .i64 0,.bool false,.slice none 0 0,.slice none 0 0] 264:=by
  have:=Blk.new (w.alloc (.cells #[.int .i64 k,.int .i64 v] 36)) [.int .i64 0,.int .i64 0,.bool false,.slice none 0 0,.slice none 0 0] 264
  rw[World.size_alloc] at this
  exact this
 have HEB:=hid heb0
 have HBX2:=hid hbx2
 have hgb:lg∉L.blocks:=fun e=>hl.glt (Qf e)
 have HGB:=hid hgb
 have HROOM:=hid hl.room
 have HLOW:=hid hl.low
 unfold Putted Edit2 ptr at HPO
 unfold ptr at *
 have hlgs:lg<w.heap.size:=hl.g.lt
 have HLS:=hid hlgs
 have hlds:ld<w.heap.size:=hl.d.lt
 have hn1:lg≠w.heap.size+1:=by omega
 have hn2:ld≠w.heap.size+1:=by omega
 have hn5:w.heap.size≠w.heap.size+1:=by omega
 have hn3:lg≠w.heap.size:=by omega
 have hn4:ld≠w.heap.size:=by omega
 clear hp hl hk hv h hpo ho0 hbx hmd hgb hlgs hlds heb0 hbx2 hw hgv hgn hnd
 go_enter func244,ntmps244
 go_wp2_with fail
 go_region_held3 (fun W=>W.cell? ⟨lg,0,none⟩=some (.int .i64 root)∧W.cell? ⟨lg,2,none⟩=some (.pointer (some ⟨ld,0,none⟩))∧W.cell? ⟨lg,3,none⟩=some (.pointer none)∧W.cell? ⟨ld,1,none⟩=some (.pointer (some ⟨lt,0,none⟩))∧W.cell? ⟨w.heap.size,0,none⟩=some (.int .i64 k)∧W.cell? ⟨w.heap.size,1,none⟩=some (.int .i64 v))
  (first|with_reducible exact⟨Qa ho2 c0 HGB.out,Qa ho2 c2 HGB.out,Qa ho2 c3 HGB.out,Qa ho2 d1 HDL.out,Qa ho2 b0 HBX.out,Qa ho2 b1 HBX.out⟩|with_reducible exact⟨Qa (ho2.alloc _) c0 HGB.out,Qa (ho2.alloc _) c2 HGB.out,Qa (ho2.alloc _) c3 HGB.out,Qa (ho2.alloc _) d1 HDL.out,Qa (ho2.alloc _) b0 HBX.out,Qa (ho2.alloc _) b1 HBX.out⟩|with_reducible exact⟨keep5' (Qa ho2 c0 HGB.out) hn1,keep5' (Qa ho2 c2 HGB.out) hn1,keep5' (Qa ho2 c3 HGB.out) hn1,keep5' (Qa ho2 d1 HDL.out) hn2,keep5' (Qa ho2 b0 HBX.out) hn5,keep5' (Qa ho2 b1 HBX.out) hn5⟩|(go_keep;done))
  (first|(go_simp;go_at_call 165;refine (HPO.out _ HO0.out.drew').mono ?_;rintro e w2 ⟨gv,mv,rfl,h1,h2,h3,h4,ho2'⟩;obtain⟨gA,gc,rfl,_,_⟩:=Qc h2;obtain⟨mA,mc,rfl,hmr,hmn⟩:=Qc h3;have H1:=hid h1;have H2:=hid h2;have H3:=hid h3;have H4:=hid h4;have HR:=hid hmr;have HN:=hid hmn;clear h1 h2 h3 h4 hmr hmn;have ho2:Only L.blocks (w.alloc (.cells #[.int .i64 k,.int .i64 v] 36)) w2:=⟨ho2'.os,ho2'.tape,ho2'.output,ho2'.size,ho2'.block⟩;have HO2:=hid ho2;clear ho2')|(go_simp;go_at_call 165;refine (HPO.out _ (HO0.out.alloc _).drew').mono ?_;rintro e w2 ⟨gv,mv,rfl,h1,h2,h3,h4,ho2'⟩;obtain⟨gA,gc,rfl,_,_⟩:=Qc h2;obtain⟨mA,mc,rfl,hmr,hmn⟩:=Qc h3;have H1:=hid h1;have H2:=hid h2;have H3:=hid h3;have H4:=hid h4;have HR:=hid hmr;have HN:=hid hmn;clear h1 h2 h3 h4 hmr hmn;have ho2:Only L.blocks (w.alloc (.cells #[.int .i64 k,.int .i64 v] 36)) w2:=((Only.refl _ _).alloc _).trans ⟨ho2'.os,ho2'.tape,ho2'.output,ho2'.size,ho2'.block⟩;have heb:Blk w2 (w.heap.size+1) [.int .i64 0,.int .i64 0,.bool false,.slice none 0 0,.slice none 0 0] 264:=HEB.out.only (X:=L.blocks) ⟨ho2'.os,ho2'.tape,ho2'.output,ho2'.size,ho2'.block⟩ HBX2.out;have q0:=heb.cell (i:=0) rfl;have q1:=heb.cell (i:=1) rfl;have q2:=heb.cell (i:=2) rfl;have q3:=heb.cell (i:=3) rfl;have q4:=heb.cell (i:=4) rfl;have qf:=heb.frozen;have HEB2:=hid heb;clear heb ho2';have HO2:=hid ho2))
 have ar5_1:=0;rotate_left
 rotate_left
 all_goals
  first|(have _:=ar5_1;have hE:Blk (w2.alloc (.cells #[.int .i64 m'.root,.int .i64 m'.old,.bool m'.had,.slice gA m'.gone.length gc,.slice mA m'.made.length mc] 264)) w2.heap.size [.int .i64 m'.root,.int .i64 m'.old,.bool m'.had,.slice gA m'.gone.length gc,.slice mA m'.made.length mc] 264:=Blk.new w2 _ 264;have hO3:=HO2.out.alloc (.cells #[.int .i64 m'.root,.int .i64 m'.old,.bool m'.had,.slice gA m'.gone.length gc,.slice mA m'.made.length mc] 264);have hP3:=H1.out.alloc (.cells #[.int .i64 m'.root,.int .i64 m'.old,.bool m'.had,.slice gA m'.gone.length gc,.slice mA m'.made.length mc] 264);have hR3:=(Qn (b':=w.heap.size+1) H3.out (by simp)).alloc (.cells #[.int .i64 m'.root,.int .i64 m'.old,.bool m'.had,.slice gA m'.gone.length gc,.slice mA m'.made.length mc] 264);have hQ3:=(Qn (b':=w.heap.size+1) H2.out (by simp)).alloc (.cells #[.int .i64 m'.root,.int .i64 m'.old,.bool m'.had,.slice gA m'.gone.length gc,.slice mA m'.made.length mc] 264);(have hes:w.heap.size<w2.heap.size:=by have:=HO2.out.size;simp at this;omega);generalize w2.alloc (.cells #[.int .i64 m'.root,.int .i64 m'.old,.bool m'.had,.slice gA m'.gone.length gc,.slice mA m'.made.length mc] 264)=W3 at hE hO3 hP3 hR3 hQ3 ⊢;generalize w2.heap.size=eb at hE hes ⊢)|(have hrw:=Qn (b':=w.heap.size+1+1) H3.out (by simp);have hrg:=Qn (b':=w.heap.size+1+1) H2.out (by simp);obtain⟨hE,hO3,hP3,hR3⟩:=putB' (b:=w.heap.size+1) (.int .i64 m'.root) (.int .i64 m'.old) (.bool m'.had) (.slice gA m'.gone.length gc) (.slice mA m'.made.length mc) HEB2.out HO2.out (by simp) H1.out (fun k hk=>by have:=HLT.out k hk;omega) hrw;obtain⟨_,_,_,hQ3⟩:=putB' (b:=w.heap.size+1) (.int .i64 m'.root) (.int .i64 m'.old) (.bool m'.had) (.slice gA m'.gone.length gc) (.slice mA m'.made.length mc) HEB2.out HO2.out (by simp) H1.out (fun k hk=>by have:=HLT.out k hk;omega) hrg;have hes:w.heap.size<w.heap.size+1:=Nat.lt_succ_self _;replace hR3:=Qn (b':=w.heap.size+1) hR3 (by omega);replace hQ3:=Qn (b':=w.heap.size+1) hQ3 (by omega);clear hrw hrg;generalize (((((w2.setCell ⟨w.heap.size+1,0,none⟩ (.int .i64 m'.root)).setCell ⟨w.heap.size+1,1,none⟩ (.int .i64 m'.old)).setCell ⟨w.heap.size+1,2,none⟩ (.bool m'.had)).setCell ⟨w.heap.size+1,3,none⟩ (.slice gA m'.gone.length gc)).setCell ⟨w.heap.size+1,4,none⟩ (.slice mA m'.made.length mc))=W3 at hE hO3 hP3 hR3 hQ3 ⊢;generalize hebE:w.heap.size+1=eb at hE hes ⊢;clear hebE)
  have hne:lg≠eb:=by have:=HLS.out;omega
  have hlg3:=(HLG.out.only HO0.out (by simp)).only hO3 HGB.out
  have hlf:=hlg3.frozen
  have g0:=hlg3.cell (i:=0) rfl
  have g1:=hlg3.cell (i:=1) rfl
  have e0:=hE.cell (i:=0) rfl
  have e3:=hE.cell (i:=3) rfl
  have e4:=hE.cell (i:=4) rfl
  have E3:=hid hE
  have O3:=hid hO3
  have P3:=hid hP3
  have R3:=hid hR3
  have Q3:=hid hQ3
  have HLG3:=hid hlg3
  have HES:=hid hes
  clear hE hO3 hP3 hR3 hQ3 hlg3 hes c0 c2 c3 d1 b0 b1 hn1 hn2 hn3 hn4 hn5
  try clear qf q0 q1 q2 q3 q4
  clear ho2
  go_wp2_with fail
  obtain⟨W4,hW4⟩:∃W4,W3.setCell ⟨lg,0,none⟩ (.int .i64 m'.root)=W4:=⟨_,rfl⟩
  rw[hW4]
  have go4:Only [lg] W3 W4:=by rw[←hW4];exact (Only.refl _ _).setCell (.inl (by simp)) _
  have hlg4:Blk W4 lg [.int .i64 m'.root,.slice nA nodes.length nc,.pointer (some ⟨ld,0,none⟩),.pointer none] 355:=by rw[←hW4];exact HLG3.out.set 0 _
  have hE4:=E3.out.only go4 (by simpa using Ne.symm hne)
  have hR4:=Qe R3.out go4 (fun k hk e=>by have:=(R3.out.lt k hk).1;have:=HLS.out;simp at e;omega)
  have hQ4:=Qe Q3.out go4 (fun k hk e=>by have:=(Q3.out.lt k hk).1;have:=HLS.out;simp at e;omega)
  have hN4:W4.ownsRow base 3 1 (.slice nA nodes.length nc) nodes.length (Zc nodes):=Qe (Qe (Qe HL.out.row HO0.out (by simp)) O3.out (fun k hk e=>by have:=(HL.out.row.lt k hk).1;have:=HL.out.all k (Qf e);omega)) go4 (fun k hk e=>by have:=(HL.out.row.lt k hk).1;have:=HLOW.out.1;simp at e;omega)
  obtain⟨mA',mc',hme,hrow4,hnil4⟩:=Qc hR4
  simp only[Value.slice.injEq,true_and] at hme
  obtain⟨rfl,rfl⟩:=hme
  have HROW:=hid (hrow4.drewN 1)
  have HNIL:=hid hnil4
  have HLG4:=hid hlg4
  have HE4:=hid hE4
  have GO4:=hid go4
  have HN4:=hid hN4
  have HQ4:=hid hQ4
  have l0:=hlg4.cell (i:=0) rfl
  have l1:=hlg4.cell (i:=1) rfl
  have lf:=hlg4.frozen
  have x3:=hE4.cell (i:=3) rfl
  have x4:=hE4.cell (i:=4) rfl
  have hm1:nodes.length+m'.made.length≤maxLen:=by have:=HMD.out;have:=HND.out;unfold maxLen;omega
  have hm2:(nodes.length+m'.made.length)*8≤140737488355328:=by have:=HMD.out;have:=HND.out;omega
  have HM1:=hid hm1
  have HM2:=hid hm2
  have HOE:=hid (show ∀k,(Value.slice nA nodes.length nc).ownBlock=some k→base≤k∧k<w.heap.size from fun k hk=>HL.out.row.lt k hk)
  clear hW4 go4 hlg4 hE4 hR4 hQ4 hN4 hrow4 hnil4 hlf g0 g1 e0 e3 e4 hm1 hm2
  have HBS:=hid (show base≤W4.drew.heap.size from by have h1:=O3.out.size;have h2:=GO4.out.size;have h3:=HROOM.out;simp at h1;show base≤W4.heap.size;omega)
  go_region_law (refine Zb rfl (.tmp 47) (.tmp 49) rfl elemInt rfl HN4.out.drew mA m'.made.length mc (Zc m'.made) rfl HROW.out (by simp[ints_length]) (ints_one _) HM1.out HM2.out HBS.out HNIL.out ?_;intro v2 w5 hown2 hg2 hat2;obtain⟨A2,c2',rfl,_,_⟩:=Qc hown2;have hg2':World.grownBy W4.drew w5 (Value.slice nA nodes.length nc).ownBlock:=hg2;have hat2':(Value.slice A2 (nodes.length+m'.made.length) c2').ownBlock=(Value.slice nA nodes.length nc).ownBlock∨(Value.slice A2 (nodes.length+m'.made.length) c2').ownBlock=some W4.drew.heap.size:=hat2;have hlg5:=Qm HLG4.out.drew hg2' (fun e=>by have:=(HOE.out _ e).1;have:=HLOW.out.1;omega);have hE5:=Qm HE4.out.drew hg2' (fun e=>by have:=(HOE.out _ e).2;have:=HES.out;omega);have lf5:=hlg5.frozen;have l15:=hlg5.cell (i:=1) rfl;have x35:=hE5.cell (i:=3) rfl;have HLG5:=hid hlg5;have HE5:=hid hE5;have HG5:=hid hg2';have HOWN5:=hid hown2;have HAT5:=hid hat2';clear hlg5 hE5 hg2 hg2' hat2 hat2' hown2)
  all_goals
   go_wp2_with fail
   obtain⟨W5,hW5⟩:∃W5,w5.setCell ⟨lg,1,none⟩ (.slice A2 (nodes.length+m'.made.length) c2')=W5:=⟨_,rfl⟩
   rw[hW5]
   have hs5:Only [lg] w5 W5:=hW5 ▸ (Only.refl _ _).setCell (.inl (by simp)) _
   have h45:Only ((Value.slice nA nodes.length nc).ownBlock.toList) W4 w5:=(((Only.refl [] W4).drew').mono (by simp)).grown HG5.out (fun k hk=>.inr (by rw[hk];simp))
   have hnvl:∀k∈(Value.slice nA nodes.length nc).ownBlock.toList,base≤k∧k<w.heap.size:=fun k hk=>HOE.out k (by simpa using hk)
   have hlo:=HLOW.out
   have hall:=HL.out.all
   have gf:Only (lg :: (Value.slice nA nodes.length nc).ownBlock.toList) W3 W5:=((GO4.out.mono (by simp)).trans (h45.mono (fun k hk=>by simp[hk]))).trans (hs5.mono (fun k hk=>by simp at hk;simp[hk]))
   have gw:Only (lg :: L.blocks ++ (Value.slice nA nodes.length nc).ownBlock.toList) w W5:=(HO0.out.mono (by simp)).trans ((O3.out.mono (by intro k hk;simp[hk])).trans (gf.mono (by intro k hk;simp only[List.cons_append,List.mem_cons,List.mem_append] at hk ⊢;rcases hk with h|h <;> simp[h])))
   have hP5:PoolAt W5 L S1:=P3.out.only gf (fun k hk e=>by
    rcases List.mem_cons.1 e with e|e
    ·exact HGL.out (e ▸ hk)
    ·have:=hall k hk
     have:=(hnvl k e).1
     omega)
   have hQ5:=Qe HQ4.out (h45.mono (Y:=lg :: (Value.slice nA nodes.length nc).ownBlock.toList) (fun k hk=>by simp[hk]) |>.trans (hs5.mono (fun k hk=>by simp at hk;simp[hk]))) (fun k hk e=>by
    have h1:=(HQ4.out.lt k hk).1
    rcases List.mem_cons.1 e with e|e
    ·have:=HLS.out
     omega
    ·have:=(hnvl k e).2
     omega)
   obtain⟨gA',gc',hge,hgrow,_⟩:=Qc hQ5
   simp only[Value.slice.injEq,true_and] at hge
   obtain⟨rfl,rfl⟩:=hge
   have hgb:∀b,gA=some b→w.heap.size+1≤b.block∧b.block<W4.heap.size:=fun b hb=>by subst hb;exact row_block HQ4.out
   have hrow5:W5.ownsRow base 3 1 (.slice A2 (nodes.length+m'.made.length) c2') (nodes ++ m'.made).length (Zc (nodes ++ m'.made)):=by
    have:=Qe HOWN5.out hs5 (fun k hk e=>by have:=(HOWN5.out.lt k hk).1;simp at e;omega)
    rw[List.length_append]
    unfold Zc at this ⊢
    rw[List.map_append]
    exact this
   have hnn:notIn (nodes ++ m'.made) (m'.gone.take 0)=nodes ++ m'.made:=by
    unfold notIn
    rw[List.filter_eq_self]
    intro n _
    simp
   have hla:LoadAt W5 L base lg ld lt lpv m'.root (notIn (nodes ++ m'.made) (m'.gone.take 0)) (.slice A2 (nodes.length+m'.made.length) c2'):=by
    rw[hnn]
    refine⟨hW5 ▸ HLG5.out.set 1 _,HL.out.d.only gw ?_,HL.out.t.only gw ?_,hrow5,hlo,hall,HL.out.glt,HL.out.ldl,HL.out.ltl,HL.out.ne,Nat.le_trans HL.out.room gw.size⟩
    ·simp only[List.cons_append,List.mem_cons,List.mem_append]
     rintro (e|e|e)
     ·exact HL.out.ne.1 e.symm
     ·exact HL.out.ldl e
     ·have:=(hnvl _ e).1
      omega
    ·simp only[List.cons_append,List.mem_cons,List.mem_append]
     rintro (e|e|e)
     ·exact HL.out.ne.2 e.symm
     ·exact HL.out.ltl e
     ·have:=(hnvl _ e).1
      omega
   have h5s:W4.heap.size≤W5.heap.size:=Nat.le_trans h45.size hs5.size
   have hst:LpRel L base lg ld lt lpv m'.root (nodes ++ m'.made) m'.gone gA S' w m'.gone.length (.int .i64 0) W5:=
    ⟨0,S1,_,(Value.slice nA nodes.length nc).ownBlock.toList,Nat.zero_le _,rfl,rfl,HGV.out,hP5,hla,hgrow,(fun b hb=>by
     have h1:=hgb b hb
     have h2:=HROOM.out
     refine⟨by omega,by omega,?_⟩
     rcases HAT5.out with e|e
     ·rw[e]
      intro e2
      have:=(HOE.out _ e2).2
      omega
     ·rw[e]
      intro e2
      injection e2 with e2
      have h3:W4.drew.heap.size=W4.heap.size:=rfl
      omega),gw,fun k hk=>(hnvl k hk).1⟩
   have HST:=hid hst
   clear hs5 h45 hnvl hall gf gw hP5 hQ5 hgrow hgb hrow5 hnn hla h5s hst hW5 l0 l1 lf x3 x4
   try clear l15 x35 lf5
   go_loopg [57] m'.gone.length (fun k s wr=>LpRel L base lg ld lt lpv m'.root (nodes ++ m'.made) m'.gone gA S' w k s wr)
   case atStart=>exact HST.out
   case round=>
    obtain⟨j,Sj,nv,D,hj,rfl,rfl,hgj,hpj,hlj,hrj,hgb,how,hD⟩:=hrel
    obtain⟨vA,vc,rfl,_,_⟩:=Qc hlj.row
    have HGJ:=hid hgj
    have HPJ:=hid hpj
    have HLJ:=hid hlj
    have HRJ:=hid hrj
    have HGB2:=hid hgb
    have HOW:=hid how
    have HD:=hid hD
    by_cases hlt:j<m'.gone.length
    ·have hlt':(j:Int)<m'.gone.length:=by omega
     obtain⟨x,hx⟩:∃x,m'.gone[j]?=some x:=⟨_,List.getElem?_eq_getElem hlt⟩
     obtain⟨gb,goff,hA,cj⟩:=hrj j _ (ints_get hx)
     subst hA
     have hdrop:m'.gone.drop j=x :: m'.gone.drop (j+1):=by
      have h1:=(List.getElem?_eq_some_iff.1 hx).2
      rw[List.drop_eq_getElem_cons hlt,h1]
     rw[hdrop] at hgj
     obtain⟨S2,hg1,hg2⟩:∃S2,Sj.give x=some S2∧S2.giveAll (m'.gone.drop (j+1))=some S':=by
      unfold PoolS.giveAll at hgj
      exact Option.bind_eq_some_iff.1 hgj
     have hlgb:=hlj.g.alloc (.cells #[.int .i64 x] 3)
     have n1:=hlgb.cell (i:=1) rfl
     have nt:(wr.alloc (.cells #[.int .i64 x] 3)).cell? ⟨wr.heap.size,0,none⟩=some (.int .i64 x):=(Blk.new wr [.int .i64 x] 3).cell rfl
     have hro:=hlj.room
     have hov:=fun k hk=>hlj.row.lt k hk
     have hdel:=deleteHandle_any (wr.alloc (.cells #[.int .i64 x] 3)) base wr.heap.size x _ (notIn (nodes ++ m'.made) (m'.gone.take j)) (by
      have h1:(notIn (nodes ++ m'.made) (m'.gone.take j)).length≤(nodes ++ m'.made).length:=List.length_filter_le _ _
      rw[List.length_append] at h1
      have:=HMD.out;have:=HND.out;omega) (hlj.row.alloc _) nt (fun e=>by have:=(hov _ e).2;omega)
     have HDEL:=hid hdel
     have HX:=hid hx
     have HG1:=hid hg1
     have HG2:=hid hg2
     have HLGB:=hid hlgb
     have HOV:=hid hov
     have HNT:=hid (Blk.new wr [.int .i64 x] 3)
     have HRO:=hid hro
     unfold ptr at HDEL
     clear hgj hpj hlj hrj hgb how hD hx hdrop hg1 hg2 hlgb nt hro hov hdel
     go_wp2_with (go_at_call 248;refine HDEL.out.mono ?_;rintro e w2 ⟨v',rfl,hown,hob,hgr⟩;obtain⟨uA,uc,rfl,_,_⟩:=Qc hown;have hlg2:=Qm HLGB.out hgr (fun e=>by have:=(HOV.out _ e).1;have:=HLOW.out.1;omega);have hnt2:=Qm HNT.out hgr (fun e=>by have:=(HOV.out _ e).2;omega);have y1:=hlg2.cell (i:=1) rfl;have yf:=hlg2.frozen;have HLG2:=hid hlg2;have HNT2:=hid hnt2;have HOWN:=hid hown;have HOB:=hid hob;have HGR:=hid hgr;clear hown hob hgr hlg2 hnt2)
     obtain⟨W3',hW3⟩:∃W3',w2.setCell ⟨lg,1,none⟩ (.slice uA ((notIn (nodes ++ m'.made) (m'.gone.take j)).filter fun n=>!decide (n=x)).length uc)=W3':=⟨_,rfl⟩
     rw[hW3]
     have hs3:Only [lg] w2 W3':=hW3 ▸ (Only.refl _ _).setCell (.inl (by simp)) _
     have h12:Only ((Value.slice vA (notIn (nodes ++ m'.made) (m'.gone.take j)).length vc).ownBlock.toList) (wr.alloc (.cells #[.int .i64 x] 3)) w2:=Only.of_grown HGR.out (fun k hk=>.inl (by rw[hk];simp))
     have hlg3':=HLG2.out.set 1 (.slice uA ((notIn (nodes ++ m'.made) (m'.gone.take j)).filter fun n=>!decide (n=x)).length uc)
     rw[hW3] at hlg3'
     have hov:=HOV.out
     have hlo:=HLOW.out
     have hwr3:Only (lg :: (Value.slice vA (notIn (nodes ++ m'.made) (m'.gone.take j)).length vc).ownBlock.toList) wr W3':=(((Only.refl [] wr).alloc _).mono (by simp)).trans ((h12.mono (fun k hk=>by simp[hk])).trans (hs3.mono (fun k hk=>by simp at hk;simp[hk])))
     have hfar:∀b,b<base→b≠lg→b∉lg :: (Value.slice vA (notIn (nodes ++ m'.made) (m'.gone.take j)).length vc).ownBlock.toList:=fun b h1 h2 e=>by
      rcases List.mem_cons.1 e with e|e
      ·exact h2 e
      ·have:=(hov _ (by simpa using e)).1
       omega
     have hld3:=HLJ.out.d.only hwr3 (hfar _ HLJ.out.low.2.1 (Ne.symm HLJ.out.ne.1))
     have hp3:PoolAt W3' L Sj:=HPJ.out.only hwr3 (fun k hk=>hfar k (HLJ.out.all k hk) (fun e=>HLJ.out.glt (e ▸ hk)))
     have hnt3:=HNT2.out.only hs3 (by have:=HLJ.out.g.lt;simp;omega)
     have hgive:=fun W (ho:Only [] W3' W)=>give_any W L Sj (hp3.only ho (by simp)) x S2 HG1.out
     have p2:=hlg3'.cell (i:=2) rfl
     have p3:=hlg3'.cell (i:=3) rfl
     have p4:=hld3.cell (i:=0) rfl
     have p5:=hnt3.cell (i:=0) rfl
     have hlgL:lg∉L.blocks:=fun e=>HLJ.out.glt (Qf e)
     have hntL:wr.heap.size∉L.blocks:=fun e=>by have:=HPJ.out.lt _ (Qf e);omega
     have hldL:=HLJ.out.ldl
     have HGIVE:=hid hgive
     have HS3:=hid hs3
     have H12:=hid h12
     have HLG3':=hid hlg3'
     have HWR3:=hid hwr3
     have HFAR:=hid hfar
     have HP3':=hid hp3
     have P2:=hid p2
     have P3':=hid p3
     have P4:=hid p4
     have P5:=hid p5
     have HLL:=hid hlgL
     have HNL:=hid hntL
     have HDL2:=hid hldL
     unfold ptr Stored at HGIVE
     unfold ptr at P4
     clear hW3 hs3 h12 hlg3' hov hlo hwr3 hfar hld3 hp3 hnt3 hgive p2 p3 p4 p5 hlgL hntL hldL
     have q2:=P2.out
     have q3:=P3'.out
     have q4:=P4.out
     have q5:=P5.out
     have mm:Hid (W3'.drew.cell? ⟨lg,2,none⟩=some (.pointer (some ⟨ld,0,none⟩))∧W3'.drew.cell? ⟨lg,3,none⟩=some (.pointer none)∧W3'.drew.cell? ⟨ld,0,none⟩=some (.pointer (some ⟨L.pb,0,none⟩))∧W3'.drew.cell? ⟨wr.heap.size,0,none⟩=some (.int .i64 x)):=hid ⟨q2,q3,q4,q5⟩
     have m0:=mm.out
     go_region_held3 (fun W=>W.cell? ⟨lg,2,none⟩=some (.pointer (some ⟨ld,0,none⟩))∧W.cell? ⟨lg,3,none⟩=some (.pointer none)∧W.cell? ⟨ld,0,none⟩=some (.pointer (some ⟨L.pb,0,none⟩))∧W.cell? ⟨wr.heap.size,0,none⟩=some (.int .i64 x))
      (first|with_reducible exact m0|with_reducible exact m1|(go_keep;done))
      (first|(go_simp;go_at_call 138;refine (HGIVE.out _ (Only.refl [] W3').drew').mono ?_;rintro e w6 ⟨rfl,hp6,ho6'⟩;have ho6:Only L.blocks W3' w6:=⟨ho6'.os,ho6'.tape,ho6'.output,ho6'.size,ho6'.block⟩;have m1:w6.cell? ⟨lg,2,none⟩=some (.pointer (some ⟨ld,0,none⟩))∧w6.cell? ⟨lg,3,none⟩=some (.pointer none)∧w6.cell? ⟨ld,0,none⟩=some (.pointer (some ⟨L.pb,0,none⟩))∧w6.cell? ⟨wr.heap.size,0,none⟩=some (.int .i64 x):=⟨Qa ho6 P2.out HLL.out,Qa ho6 P3'.out HLL.out,Qa ho6 P4.out HDL2.out,Qa ho6 P5.out HNL.out⟩;have HP6:=hid hp6;have HO6:=hid ho6;clear hp6 ho6 ho6'))
     all_goals (try go_wp2_with fail)
     all_goals
      go_roundg (m'.gone.length-(j+1))
      case measure=>omega
      case rel=>
       have hov:=HOV.out
       have hw6:Only (lg :: L.blocks ++ (Value.slice vA (notIn (nodes ++ m'.made) (m'.gone.take j)).length vc).ownBlock.toList) wr w6:=(HWR3.out.mono (fun k hk=>by simp only[List.cons_append,List.mem_cons,List.mem_append] at hk ⊢;rcases hk with h|h <;> simp[h])).trans (HO6.out.mono (fun k hk=>by simp[hk]))
       have hfar6:∀b,b<base→b≠lg→b∉L.blocks→b∉lg :: L.blocks ++ (Value.slice vA (notIn (nodes ++ m'.made) (m'.gone.take j)).length vc).ownBlock.toList:=fun b h1 h2 h3 e=>by
        simp only[List.cons_append,List.mem_cons,List.mem_append] at e
        rcases e with e|e|e
        ·exact h2 e
        ·exact h3 e
        ·have:=(hov _ (by simpa using e)).1
         omega
       have hn:=notIn_snoc (l:=nodes ++ m'.made) HX.out
       have hrow3:=Qe (Qe HOWN.out HS3.out (fun k hk e=>by have:=(HOWN.out.lt k hk).1;have:=HLJ.out.low.1;simp at e;omega)) HO6.out (fun k hk e=>by have:=(HOWN.out.lt k hk).1;have:=HLJ.out.all _ (Qf e);omega)
       have hj1:wrap64 ((j:Int)+1)=(j:Int)+1:=IntWalk.wrap64_in ((j:Int)+1) (by have:=HGN.out;omega)
       refine⟨j+1,S2,.slice uA ((notIn (nodes ++ m'.made) (m'.gone.take j)).filter fun n=>!decide (n=x)).length uc,D ++ (Value.slice vA (notIn (nodes ++ m'.made) (m'.gone.take j)).length vc).ownBlock.toList,by omega,by first|(rw[hj1];rfl)|go_num,rfl,HG2.out,HP6.out,?_,?_,?_,?_,?_⟩
       ·rw[hn]
        exact⟨HLG3'.out.only HO6.out HLL.out,HLJ.out.d.only hw6 (hfar6 _ HLJ.out.low.2.1 (Ne.symm HLJ.out.ne.1) HLJ.out.ldl),HLJ.out.t.only hw6 (hfar6 _ HLJ.out.low.2.2 (Ne.symm HLJ.out.ne.2) HLJ.out.ltl),hrow3,HLJ.out.low,HLJ.out.all,HLJ.out.glt,HLJ.out.ldl,HLJ.out.ltl,HLJ.out.ne,Nat.le_trans HLJ.out.room hw6.size⟩
       ·refine HRJ.out.only hw6 (fun b hb e=>?_)
        have h1:=HGB2.out b hb
        simp only[List.cons_append,List.mem_cons,List.mem_append] at e
        rcases e with e|e|e
        ·have:=HLJ.out.low.1
         omega
        ·have:=HLJ.out.all _ (Qf e)
         omega
        ·exact h1.2.2 (by simpa using e)
       ·intro b hb
        have h1:=HGB2.out b hb
        exact⟨h1.1,Nat.lt_of_lt_of_le h1.2.1 hw6.size,by rw[HOB.out];exact h1.2.2⟩
       ·exact (HOW.out.mono (fun k hk=>by simp only[List.cons_append,List.mem_cons,List.mem_append] at hk ⊢;rcases hk with h|h|h <;> simp[h])).trans (hw6.mono (fun k hk=>by simp only[List.cons_append,List.mem_cons,List.mem_append] at hk ⊢;rcases hk with h|h|h <;> simp[h]))
       ·intro k hk
        rcases List.mem_append.1 hk with hk|hk
        ·exact HD.out k hk
        ·exact (hov k (by simpa using hk)).1
    ·have hjl:j=m'.gone.length:=by omega
     have HJL:=hid hjl
     clear hgj hpj hlj hrj hgb how hD hjl
     go_wp2_with fail
     go_ret
     have h1:=HGJ.out
     have h2:=HLJ.out
     rw[HJL.out,List.drop_length] at h1
     rw[HJL.out,List.take_length] at h2
     cases h1
     exact⟨_,D,rfl,HPJ.out,h2,HOW.out,HD.out⟩
structure StoreL where
 pool:PoolL
 clock:ClockL
 eb:Nat
 sb:Nat
 ld:Nat
 lt:Nat
 nm:Nat
 ts:Nat
 base:Nat
 n:Nat
 chain:Nat→ChainL
 lp:Nat→Nat
 pt:Nat→Nat
 pg:Nat→Nat
 col:Nat→Nat
def StoreL.is (Y:StoreL)(k c:Nat):Prop:=k<Y.base∧Y.col k=c
structure StoreL.Ok (Y:StoreL):Prop where
 pool:∀k∈Y.pool.all,Y.is k 1
 cb:Y.is Y.clock.cb 2
 lb:Y.is Y.clock.lb 2
 eb:Y.is Y.eb 3
 xb:∀i,i<Y.n→Y.is (Y.chain i).xb (4+2*i)
 sets:∀i,i<Y.n→Y.is (Y.chain i).sb (4+2*i)
 lp:∀i,i<Y.n→Y.is (Y.lp i) (5+2*i)
 sb:Y.is Y.sb 0
 ld:Y.is Y.ld 0
 lt:Y.is Y.lt 0
 ts:Y.is Y.ts 0
 pt:∀i,i<Y.n→Y.is (Y.pt i) 0
 pg:∀i,i<Y.n→Y.is (Y.pg i) 0
 n:1≤Y.n∧Y.n≤64
def FRow (w:World)(Y:StoreL)(A:Option Addr)(xs:List Value):Prop:=
 ∀j u,xs[j]?=some u→∃b,A=some ⟨b,0,none⟩∧Y.is b 0∧w.cell? ⟨b,j,none⟩=some u
structure Fixed (w:World)(Y:StoreL):Prop where
 sb:∃A c,Blk w Y.sb [ptr Y.pool.pb,ptr Y.clock.cb,ptr Y.eb,ptr Y.ld,ptr Y.nm,ptr Y.ts,.slice A Y.n c] 94∧FRow w Y A ((List.range Y.n).map fun i=>ptr (Y.pt i))
 ld:∃A c,Blk w Y.ld [ptr Y.pool.pb,ptr Y.lt,.slice A Y.n c] 194∧FRow w Y A ((List.range Y.n).map fun i=>ptr (Y.lp i))
 lt:Blk w Y.lt [ptr Y.pool.pb] 187
 ts:Blk w Y.ts [ptr Y.pool.pb] 187
 pt:∀i,i<Y.n→Blk w (Y.pt i) [ptr (Y.chain i).xb,.int .i64 (i:Int),.int .i64 (Y.n:Int),ptr Y.pool.pb,ptr (Y.pg i),ptr Y.eb,ptr Y.ld] 152
 pg:∀i,i<Y.n→Blk w (Y.pg i) [ptr Y.pool.pb] 187
def Qd (l:List (Int × Int)):List Value:=l.flatMap fun p=>[.int .i64 p.1,.int .i64 p.2]
def LPartAt (w:World)(Y:StoreL)(i:Nat)(a:LPartS):Prop:=
 ∃A c,Blk w (Y.lp i) [.int .i64 a.state,ptr (Y.chain i).xb,.slice A a.pairs.length c,.int .i64 a.fails] 197∧FRow w Y A (Qd a.pairs)
structure StoreIn (w:World)(Y:StoreL)(ed:Option Nat)(D:Nat→List Nat)(X:StoreS):Prop where
 ok:Y.Ok
 fixed:Fixed w Y
 pool:PoolAt w Y.pool X.pool
 clock:ClockAt w Y.clock X.clock
 epoch:EpochAt w Y.eb Y.pool.pb Y.base ed X.epoch
 chain:∀i C,X.chains[i]?=some C→ChainAt w (Y.chain i) Y.pool.pb Y.clock.cb Y.base (D i) C
 load:∀i a,X.loads[i]?=some a→LPartAt w Y i a
 chains:X.chains.length=Y.n
 loads:X.loads.length=Y.n
 sets:∀C∈X.chains,C.sets.length=X.pool.slots.length
 slots:1≤X.pool.slots.length
 apart:∀i j,i<Y.n→j<Y.n→i≠j→∀k∈D i,k∉D j
 edD:∀i,i<Y.n→∀k∈D i,ed≠some k
 edlt:∀k,ed=some k→k<w.heap.size
 room:Y.base≤w.heap.size
def Qw (Y:StoreL)(ed:Option Nat)(D:Nat→List Nat)(k:Nat):Prop:=ed=some k∨∃i,i<Y.n∧k∈D i
structure Moves (Y:StoreL)(dy dy':Nat→Prop)(w w':World):Prop where
 os:w'.os=w.os
 tape:w'.tape=w.tape
 output:w'.output=w.output
 size:w.heap.size≤w'.heap.size
 block:∀k,k<w.heap.size→¬(k<Y.base∧Y.col k≠0)→¬dy k→w'.heap[k]?=w.heap[k]?
 dyn:∀k,dy' k→dy k∨w.heap.size≤k
section
variable {Y:StoreL}{dy dy' dy'':Nat→Prop}{w w' w'':World}{ed:Option Nat}{D:Nat→List Nat}{X:StoreS}{Z:List Nat}
theorem Moves.refl (Y:StoreL)(dy:Nat→Prop)(w:World):Moves Y dy dy w w:=⟨rfl,rfl,rfl,Nat.le_refl _,fun _ _ _ _=>rfl,fun _ h=>.inl h⟩
theorem Moves.trans (h:Moves Y dy dy' w w')(k:Moves Y dy' dy'' w' w''):Moves Y dy dy'' w w'':=by
 refine⟨k.os.trans h.os,k.tape.trans h.tape,k.output.trans h.output,Nat.le_trans h.size k.size,fun i h1 h2 h3=>?_,fun i hi=>?_⟩
 ·rw[k.block i (Nat.lt_of_lt_of_le h1 h.size) h2 (fun e=>(h.dyn i e).elim h3 (fun e=>by omega))]
  exact h.block i h1 h2 h3
 ·rcases k.dyn i hi with e|e
  ·exact h.dyn i e
  ·exact .inr (Nat.le_trans h.size e)
theorem Moves.of_only (ho:Only Z w w')(hz:∀k∈Z,(k<Y.base∧Y.col k≠0)∨dy k)(hd:∀k,dy' k→dy k∨w.heap.size≤k):Moves Y dy dy' w w':=
 ⟨ho.os,ho.tape,ho.output,ho.size,fun k h1 h2 h3=>ho.block k h1 (fun e=>(hz k e).elim h2 h3),hd⟩
theorem Moves.of_new (ho:Only [] w w'):Moves Y dy dy w w':=.of_only ho (by simp) (fun _ h=>.inl h)
theorem Moves.blk {b:Nat}{cs:List Value}{t:TypeId}(hm:Moves Y dy dy' w w')(h:Blk w b cs t)(h1:¬(b<Y.base∧Y.col b≠0))(h2:¬dy b):Blk w' b cs t:=(hm.block b h.lt h1 h2).trans h
theorem Fixed.only (h:Fixed w Y)(ho:Only Z w w')(hk:Y.Ok)(hz:∀k∈Z,¬Y.is k 0):Fixed w' Y:=by
 have hs:∀A xs,FRow w Y A xs→FRow w' Y A xs:=fun A xs hr j u hu=>by
  obtain⟨b,e,hb,hc⟩:=hr j u hu
  exact⟨b,e,hb,Qa ho hc (fun e=>hz b e hb)⟩
 obtain⟨A,c,h1,h2⟩:=h.sb
 obtain⟨A',c',h3,h4⟩:=h.ld
 exact⟨⟨A,c,h1.only ho (fun e=>hz _ e hk.sb),hs _ _ h2⟩,⟨A',c',h3.only ho (fun e=>hz _ e hk.ld),hs _ _ h4⟩,h.lt.only ho (fun e=>hz _ e hk.lt),h.ts.only ho (fun e=>hz _ e hk.ts),
  fun i hi=>(h.pt i hi).only ho (fun e=>hz _ e (hk.pt i hi)),fun i hi=>(h.pg i hi).only ho (fun e=>hz _ e (hk.pg i hi))⟩
theorem LPartAt.only {i:Nat}{a:LPartS}(h:LPartAt w Y i a)(ho:Only Z w w')(h1:Y.lp i∉Z)(hz:∀k∈Z,¬Y.is k 0):LPartAt w' Y i a:=by
 obtain⟨A,c,h2,h3⟩:=h
 refine⟨A,c,h2.only ho h1,fun j u hu=>?_⟩
 obtain⟨b,e,hb,hc⟩:=h3 j u hu
 exact⟨b,e,hb,Qa ho hc (fun e=>hz b e hb)⟩
theorem StoreIn.dyn_lt (h:StoreIn w Y ed D X){k:Nat}(hk:Qw Y ed D k):Y.base≤k∧k<w.heap.size:=by
 rcases hk with e|⟨i,hi,e⟩
 ·exact⟨ed_ge h.epoch k e,h.edlt k e⟩
 ·obtain⟨C,hC⟩:∃C,X.chains[i]?=some C:=⟨_,List.getElem?_eq_getElem (by rw[h.chains];exact hi)⟩
  exact (h.chain i C hC).dlt k e
theorem StoreIn.only (h:StoreIn w Y ed D X)(ho:Only Z w w')(hz:∀k∈Z,Y.base≤k∧¬Qw Y ed D k):StoreIn w' Y ed D X:=by
 have hk:=h.ok
 have hb:∀k c,Y.is k c→k∉Z:=fun k c e m=>by have:=(hz k m).1;have:=e.1;omega
 have hn:∀k∈Z,¬Y.is k 0:=fun k m e=>hb k 0 e m
 refine⟨hk,h.fixed.only ho hk hn,h.pool.only ho (fun k e=>hb k 1 (hk.pool k e)),h.clock.only ho (hb _ _ hk.cb) (hb _ _ hk.lb),h.epoch.only ho (hb _ _ hk.eb) (fun k e m=>(hz k m).2 (.inl e)),fun i C hC=>?_,fun i a ha=>?_,h.chains,h.loads,h.sets,h.slots,h.apart,h.edD,fun k e=>Nat.lt_of_lt_of_le (h.edlt k e) ho.size,Nat.le_trans h.room ho.size⟩
 ·have hi:i<Y.n:=by rw[←h.chains];exact (List.getElem?_eq_some_iff.1 hC).1
  exact (h.chain i C hC).only ho (hb _ _ (hk.xb i hi)) (hb _ _ (hk.sets i hi)) (fun k e m=>(hz k m).2 (.inr ⟨i,hi,e⟩))
 ·have hi:i<Y.n:=by rw[←h.loads];exact (List.getElem?_eq_some_iff.1 ha).1
  exact (h.load i a ha).only ho (hb _ _ (hk.lp i hi)) hn
theorem StoreIn.new (h:StoreIn w Y ed D X)(ho:Only [] w w'):StoreIn w' Y ed D X:=h.only ho (by simp)
theorem is_ne {k l c d:Nat}(h:Y.is k c)(h2:Y.is l d)(hcd:c≠d):k≠l:=fun e=>by subst e;exact hcd (h.2.symm.trans h2.2)
theorem StoreIn.poolStep (h:StoreIn w Y ed D X){S':PoolS}(ho:Only Y.pool.blocks w w')(hp:PoolAt w' Y.pool S')(hs:S'.slots.length=X.pool.slots.length):StoreIn w' Y ed D {X with pool:=S'}:=by
 have hk:=h.ok
 have hb:∀k c,Y.is k c→c≠1→k∉Y.pool.blocks:=fun k c e hc m=>is_ne e (hk.pool k (Qf m)) hc rfl
 have hn:∀k∈Y.pool.blocks,¬Y.is k 0:=fun k m e=>hb k 0 e (by decide) m
 have hd:∀k,Y.base≤k→k∉Y.pool.blocks:=fun k e m=>by have:=(hk.pool k (Qf m)).1;omega
 refine⟨hk,h.fixed.only ho hk hn,hp,h.clock.only ho (hb _ _ hk.cb (by decide)) (hb _ _ hk.lb (by decide)),h.epoch.only ho (hb _ _ hk.eb (by decide)) (fun k e=>hd k (ed_ge h.epoch k e)),fun i C hC=>?_,fun i a ha=>?_,h.chains,h.loads,fun C hC=>(h.sets C hC).trans hs.symm,by simpa [hs] using h.slots,h.apart,h.edD,fun k e=>Nat.lt_of_lt_of_le (h.edlt k e) ho.size,Nat.le_trans h.room ho.size⟩
 ·have hi:i<Y.n:=by rw[←h.chains];exact (List.getElem?_eq_some_iff.1 hC).1
  exact (h.chain i C hC).only ho (hb _ _ (hk.xb i hi) (by omega)) (hb _ _ (hk.sets i hi) (by omega)) (fun k e=>hd k ((h.chain i C hC).dlt k e).1)
 ·have hi:i<Y.n:=by rw[←h.loads];exact (List.getElem?_eq_some_iff.1 ha).1
  exact (h.load i a ha).only ho (hb _ _ (hk.lp i hi) (by omega)) hn
theorem StoreIn.poolMoves (h:StoreIn w Y ed D X)(ho:Only Y.pool.blocks w w'):Moves Y (Qw Y ed D) (Qw Y ed D) w w':=
 .of_only ho (fun k m=>by have:=h.ok.pool k (Qf m);exact .inl ⟨this.1,by rw[this.2];decide⟩) (fun _ h=>.inl h)
theorem StoreIn.epochStep (h:StoreIn w Y ed D X){E':EpochS}{ed':Option Nat}(ho:Only (Y.eb :: ed.toList) w w')(he:EpochAt w' Y.eb Y.pool.pb Y.base ed' E')(hed:ed'=ed∨∃g,ed'=some g∧w.heap.size≤g)(hlt:∀k,ed'=some k→k<w'.heap.size):StoreIn w' Y ed' D {X with epoch:=E'}:=by
 have hk:=h.ok
 have hd:∀k,Y.base≤k→ed≠some k→k∉Y.eb :: ed.toList:=fun k e h1 m=>by
  have:=hk.eb.1
  simp at m
  rcases m with rfl|m
  ·omega
  ·exact h1 m
 have hb:∀k c,Y.is k c→c≠3→k∉Y.eb :: ed.toList:=fun k c e hc m=>by
  simp at m
  rcases m with m|m
  ·exact is_ne e hk.eb hc m
  ·have:=ed_ge h.epoch k m
   have:=e.1
   omega
 have hn:∀k∈Y.eb :: ed.toList,¬Y.is k 0:=fun k m e=>hb k 0 e (by decide) m
 refine⟨hk,h.fixed.only ho hk hn,h.pool.only ho (fun k e=>hb k 1 (hk.pool k e) (by decide)),h.clock.only ho (hb _ _ hk.cb (by decide)) (hb _ _ hk.lb (by decide)),he,fun i C hC=>?_,fun i a ha=>?_,h.chains,h.loads,h.sets,h.slots,h.apart,fun i hi k m e=>?_,hlt,Nat.le_trans h.room ho.size⟩
 ·have hi:i<Y.n:=by rw[←h.chains];exact (List.getElem?_eq_some_iff.1 hC).1
  exact (h.chain i C hC).only ho (hb _ _ (hk.xb i hi) (by omega)) (hb _ _ (hk.sets i hi) (by omega)) (fun k e=>hd k ((h.chain i C hC).dlt k e).1 (h.edD i hi k e))
 ·have hi:i<Y.n:=by rw[←h.loads];exact (List.getElem?_eq_some_iff.1 ha).1
  exact (h.load i a ha).only ho (hb _ _ (hk.lp i hi) (by omega)) hn
 ·rcases hed with rfl|⟨g,rfl,hg⟩
  ·exact h.edD i hi k m e
  ·injection e with e
   have:=(h.dyn_lt (.inr ⟨i,hi,m⟩)).2
   omega
theorem StoreIn.epochMoves (h:StoreIn w Y ed D X){ed':Option Nat}(ho:Only (Y.eb :: ed.toList) w w')(hed:ed'=ed∨∃g,ed'=some g∧w.heap.size≤g):Moves Y (Qw Y ed D) (Qw Y ed' D) w w':=
 .of_only ho (fun k m=>by
  simp at m
  rcases m with rfl|m
  ·exact .inl ⟨h.ok.eb.1,by rw[h.ok.eb.2];decide⟩
  ·exact .inr (.inl m)) (fun k e=>by
  rcases e with e|e
  ·rcases hed with rfl|⟨g,rfl,hg⟩
   ·exact .inl (.inl e)
   ·injection e with e
    subst e
    exact .inr hg
  ·exact .inl (.inr e))
theorem StoreIn.chainStep (h:StoreIn w Y ed D X){i:Nat}{C':ChainS}{D':List Nat}{S':PoolS}(hi:i<Y.n)(ho:Only (chX (Y.chain i) Y.pool) w w')(hp:PoolAt w' Y.pool S')(hc:ChainAt w' (Y.chain i) Y.pool.pb Y.clock.cb Y.base D' C')
  (hd:∀k∈D',k∈D i∨w.heap.size≤k) (hs:S'.slots.length=X.pool.slots.length) (hsl:C'.sets.length=X.pool.slots.length):StoreIn w' Y ed (fun j=>if j=i then D' else D j) {X with pool:=S',chains:=X.chains.set i C'}:=by
 have hk:=h.ok
 have hm:∀k∈chX (Y.chain i) Y.pool,Y.is k 1∨Y.is k (4+2*i):=fun k m=>by
  simp only[chX,List.mem_cons] at m
  rcases m with rfl|rfl|m
  ·exact .inr (hk.xb i hi)
  ·exact .inr (hk.sets i hi)
  ·exact .inl (hk.pool k (Qf m))
 have hb:∀k c,Y.is k c→c≠1→c≠4+2*i→k∉chX (Y.chain i) Y.pool:=fun k c e h1 h2 m=>by
  rcases hm k m with e2|e2
  ·exact is_ne e e2 h1 rfl
  ·exact is_ne e e2 h2 rfl
 have hlow:∀k,Y.base≤k→k∉chX (Y.chain i) Y.pool:=fun k e m=>by
  rcases hm k m with e2|e2
  all_goals
   have:=e2.1
   omega
 have hn:∀k∈chX (Y.chain i) Y.pool,¬Y.is k 0:=fun k m e=>hb k 0 e (by decide) (by omega) m
 refine⟨hk,h.fixed.only ho hk hn,hp,h.clock.only ho (hb _ _ hk.cb (by decide) (by omega)) (hb _ _ hk.lb (by decide) (by omega)),h.epoch.only ho (hb _ _ hk.eb (by decide) (by omega)) (fun k e=>hlow k (ed_ge h.epoch k e)),fun j C hC=>?_,fun j a ha=>?_,by simpa using h.chains,h.loads,fun C hC=>?_,by simpa [hs] using h.slots,fun a b ha hb2 hab k=>?_,fun j hj k=>?_,fun k e=>Nat.lt_of_lt_of_le (h.edlt k e) ho.size,Nat.le_trans h.room ho.size⟩
 ·simp only[List.getElem?_set] at hC
  by_cases hij:i=j
  ·subst hij
   have hlt:i<X.chains.length:=by rw[h.chains];exact hi
   rw[if_pos rfl,if_pos hlt] at hC
   injection hC with hC
   subst hC
   simpa using hc
  ·rw[if_neg hij] at hC
   have hj:j<Y.n:=by rw[←h.chains];exact (List.getElem?_eq_some_iff.1 hC).1
   rw[if_neg (fun e=>hij e.symm)]
   exact (h.chain j C hC).only ho (hb _ _ (hk.xb j hj) (by omega) (by omega)) (hb _ _ (hk.sets j hj) (by omega) (by omega)) (fun k e=>hlow k ((h.chain j C hC).dlt k e).1)
 ·have hj:j<Y.n:=by rw[←h.loads];exact (List.getElem?_eq_some_iff.1 ha).1
  exact (h.load j a ha).only ho (hb _ _ (hk.lp j hj) (by omega) (by omega)) hn
 ·rcases List.mem_or_eq_of_mem_set hC with hC|rfl
  ·exact (h.sets C hC).trans hs.symm
  ·exact hsl.trans hs.symm
 ·by_cases h1:a=i
  ·have h2:¬b=i:=fun e=>hab (h1.trans e.symm)
   rw[if_pos h1,if_neg h2]
   intro hk1 hk2
   rcases hd k hk1 with e|e
   ·exact h.apart i b hi hb2 (fun e=>h2 e.symm) k e hk2
   ·have:=(h.dyn_lt (.inr ⟨b,hb2,hk2⟩)).2
    omega
  ·rw[if_neg h1]
   by_cases h2:b=i
   ·rw[if_pos h2]
    intro hk1 hk2
    rcases hd k hk2 with e|e
    ·exact h.apart a i ha hi h1 k hk1 e
    ·have:=(h.dyn_lt (.inr ⟨a,ha,hk1⟩)).2
     omega
   ·rw[if_neg h2]
    exact h.apart a b ha hb2 hab k
 ·by_cases h1:j=i
  ·rw[if_pos h1]
   intro hk1 e
   rcases hd k hk1 with e2|e2
   ·exact h.edD i hi k e2 e
   ·have:=h.edlt k e
    omega
  ·rw[if_neg h1]
   exact h.edD j hj k
theorem StoreIn.chainMoves (h:StoreIn w Y ed D X){i:Nat}{D':List Nat}(hi:i<Y.n)(ho:Only (chX (Y.chain i) Y.pool) w w')(hd:∀k∈D',k∈D i∨w.heap.size≤k):Moves Y (Qw Y ed D) (Qw Y ed (fun j=>if j=i then D' else D j)) w w':=
 .of_only ho (fun k m=>by
  simp only[chX,List.mem_cons] at m
  rcases m with rfl|rfl|m
  ·exact .inl ⟨(h.ok.xb i hi).1,by rw[(h.ok.xb i hi).2];omega⟩
  ·exact .inl ⟨(h.ok.sets i hi).1,by rw[(h.ok.sets i hi).2];omega⟩
  ·have:=h.ok.pool k (Qf m)
   exact .inl ⟨this.1,by rw[this.2];decide⟩) (fun k e=>by
  rcases e with e|⟨j,hj,e⟩
  ·exact .inl (.inl e)
  ·replace e:k∈(if j=i then D' else D j):=e
   by_cases h1:j=i
   ·rw[if_pos h1] at e
    rcases hd k e with e|e
    ·exact .inl (.inr ⟨i,hi,e⟩)
    ·exact .inr e
   ·rw[if_neg h1] at e
    exact .inl (.inr ⟨j,hj,e⟩))
theorem StoreIn.far (h:StoreIn w Y ed D X){i:Nat}(hi:i<Y.n):Far (Y.chain i) Y.pool Y.base:=
 ⟨fun e=>is_ne (h.ok.xb i hi) (h.ok.pool _ e) (by omega) rfl,fun e=>is_ne (h.ok.sets i hi) (h.ok.pool _ e) (by omega) rfl,fun k e=>(h.ok.pool k e).1⟩
theorem StoreIn.loadStep (h:StoreIn w Y ed D X){i:Nat}{a:LPartS}(ha:X.loads[i]?=some a)(s:Int):StoreIn (w.setCell ⟨Y.lp i,0,none⟩ (.int .i64 s)) Y ed D {X with loads:=X.loads.set i {a with state:=s}}∧Moves Y (Qw Y ed D) (Qw Y ed D) w (w.setCell ⟨Y.lp i,0,none⟩ (.int .i64 s)):=by
 have hk:=h.ok
 have hi:i<Y.n:=by rw[←h.loads];exact (List.getElem?_eq_some_iff.1 ha).1
 have hil:i<X.loads.length:=(List.getElem?_eq_some_iff.1 ha).1
 have ho:Only [Y.lp i] w (w.setCell ⟨Y.lp i,0,none⟩ (.int .i64 s)):=(Only.refl _ _).setCell (.inl (by simp)) _
 have hb:∀k c,Y.is k c→c≠5+2*i→k∉[Y.lp i]:=fun k c e hc m=>by
  simp at m
  exact is_ne e (hk.lp i hi) hc m
 have hlow:∀k,Y.base≤k→k∉[Y.lp i]:=fun k e m=>by
  simp at m
  have:=(hk.lp i hi).1
  omega
 have hn:∀k∈[Y.lp i],¬Y.is k 0:=fun k m e=>hb k 0 e (by omega) m
 refine⟨⟨hk,h.fixed.only ho hk hn,h.pool.only ho (fun k e=>hb k 1 (hk.pool k e) (by omega)),h.clock.only ho (hb _ _ hk.cb (by omega)) (hb _ _ hk.lb (by omega)),h.epoch.only ho (hb _ _ hk.eb (by omega)) (fun k e=>hlow k (ed_ge h.epoch k e)),fun j C hC=>?_,fun j b hb2=>?_,h.chains,by simpa using h.loads,h.sets,h.slots,h.apart,h.edD,fun k e=>Nat.lt_of_lt_of_le (h.edlt k e) ho.size,Nat.le_trans h.room ho.size⟩,.of_only ho (fun k m=>by
  simp at m
  subst m
  exact .inl ⟨(hk.lp i hi).1,by rw[(hk.lp i hi).2];omega⟩) (fun _ h=>.inl h)⟩
 ·have hj:j<Y.n:=by rw[←h.chains];exact (List.getElem?_eq_some_iff.1 hC).1
  exact (h.chain j C hC).only ho (hb _ _ (hk.xb j hj) (by omega)) (hb _ _ (hk.sets j hj) (by omega)) (fun k e=>hlow k ((h.chain j C hC).dlt k e).1)
 ·simp only[List.getElem?_set] at hb2
  by_cases hij:i=j
  ·subst hij
   rw[if_pos rfl,if_pos hil] at hb2
   injection hb2 with hb2
   subst hb2
   obtain⟨A,c,h1,h2⟩:=h.load i a ha
   refine⟨A,c,h1.set 0 _,fun j u hu=>?_⟩
   obtain⟨b,e,hbb,hc⟩:=h2 j u hu
   exact⟨b,e,hbb,Qa ho hc (fun e=>hn b e hbb)⟩
  ·rw[if_neg hij] at hb2
   have hj:j<Y.n:=by rw[←h.loads];exact (List.getElem?_eq_some_iff.1 hb2).1
   exact (h.load j b hb2).only ho (hb _ _ (hk.lp j hj) (by omega)) hn
end
theorem has_yes (w:World)(Y:StoreL)(hy:Y.Ok)(hf:Fixed w Y)(i:Nat)(hi:i<Y.n)(key:Int)(hk:Qt key=true)(hp:Qu key Y.n=(i:Int)):
  Calls prog 140 #[ptr (Y.pt i),.int .i64 key] w fun e w'=>e=.returned (.bool true)∧w'=w:=by
 have hpy:=part_yes key Y.n w hk (by have:=hy.n;omega) (by have:=hy.n;omega)
 rw[hp] at hpy
 have c1:=(hf.pt i hi).cell (i:=1) rfl
 have c2:=(hf.pt i hi).cell (i:=2) rfl
 have hq:((i:Int) == (i:Int))=true:=by simp
 unfold ptr
 generalize (Y.n:Int)=nn at *
 generalize (i:Int)=ii at *
 clear hf hk hp hy hi
 go_enter func140,ntmps140
 go_wp2_with (go_at_call 47;refine hpy.mono ?_;rintro e w' ⟨rfl,rfl⟩)
 go_ret
 exact⟨by simp,rfl⟩
def ToldS.val (t:ToldS):Value:=.agg #[.int .i64 t.value,.bool t.had,.int .i64 t.number,.bool t.new,.int .i64 t.many]
theorem changed_any (w:World)(root r o:Int)(had:Bool)(gv mv:Value)(gA mA:Option Addr)(gn gc mn mc:Nat)(hg:gv=.slice gA gn gc)(hm:mv=.slice mA mn mc):
  Calls prog 182 #[.int .i64 root,.agg #[.int .i64 r,.int .i64 o,.bool had,gv,mv]] w fun e w'=>e=.returned (.agg #[.int .i64 r,gv,mv,.int .i64 o,.bool had,.int .i64 0,.bool (decide (r≠root)),.int .i64 0])∧Only [] w w':=by
 subst hg hm
 have hq:(r != root)=decide (r≠root):=by
  by_cases h:r=root <;> simp[h]
 rw[←hq]
 clear hq
 go_enter func182,ntmps182
 go_wp2_with fail
 refine bodyPost_ret (v:=.agg #[.int .i64 r,.slice gA gn gc,.slice mA mn mc,.int .i64 o,.bool had,.int .i64 0,.bool (r != root),.int .i64 0]) (by simp[results,Tryz.results182,go_sem]) rfl ⟨rfl,((Only.refl _ _).alloc _).alloc _⟩
theorem partNew_any (w:World)(i n pb eb xb ld:Nat):
  Calls prog 46 #[.int .i64 (i:Int),.int .i64 (n:Int),ptr pb,ptr eb,ptr xb,ptr ld] w fun e w'=>∃b g,e=.returned (ptr b)∧w.heap.size≤b∧w.heap.size≤g∧b≠g∧Blk w' b [ptr xb,.int .i64 (i:Int),.int .i64 (n:Int),ptr pb,ptr g,ptr eb,ptr ld] 152∧Blk w' g [ptr pb] 187∧Only [] w w':=by
 have ht:=trieNew_any w pb
 unfold ptr at *
 go_enter func46,ntmps46
 go_wp2_with (go_at_call 43;refine ht.mono ?_;rintro e w1 ⟨g,rfl,h1,h2,h3⟩;have H1:=hid h1;have H2:=hid h2;have H3:=hid h3;clear h1 h2 h3)
 go_ret
 exact⟨_,g,rfl,H3.out.size,H2.out,fun e=>by have:=H1.out.lt;omega,heap_alloc_new _ _,H1.out.alloc _,H3.out.alloc _⟩
theorem loadOf_any (w:World)(Y:StoreL)(hf:Fixed w Y)(i:Nat)(hi:i<Y.n):
  Calls prog 218 #[ptr Y.ld,.pointer none,.int .i64 (i:Int)] w fun e w'=>e=.returned (.tuple #[ptr (Y.lp i),.int .i64 0])∧w'=w:=by
 obtain⟨A,c,h1,h2⟩:=hf.ld
 have c2:=h1.cell (i:=2) rfl
 obtain⟨b,rfl,_,hc⟩:=h2 i (ptr (Y.lp i)) (by simp[hi])
 have hq:((i:Int)<(Y.n:Int)):=by omega
 unfold ptr at *
 clear hf h1 h2
 generalize Y.n=n at *
 go_enter func218,ntmps218
 go_wp2_with fail
 all_goals (try (exfalso;omega))
 go_ret2
 exact⟨rfl,rfl⟩
end Go.Proofs.YteeefedoffplmaaGreat
