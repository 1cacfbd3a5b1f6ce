/- StoreAlone, part Pav: NewP, MadeG. -/
import Derived.Test.YteeefedoffplmaaGreatPau
import Derived.Test.YteeefedoffplmaaGreatPas
set_option linter.unusedSimpArgs false
set_option linter.unusedVariables false
set_option maxRecDepth 100000
set_option maxHeartbeats 51200000
namespace Go.Proofs.YteeefedoffplmaaGreat
open Go.RowKit Lib Go.Proofs.Tryz
structure NbG (w W:World)(cs:List Value)(su sb:Nat)(L:PoolL)(K:ClockL)(nm bt t0 sl le:Nat):Prop where
 st:Blk W su cs 31
 pool:PoolAt W L (PoolS.new sl)
 clock:ClockAt W K ⟨1,List.replicate le 0⟩
 names:Blk W nm [ptr bt] 177
 table:Blk W bt [.slice none 0 0] 170
 only:Only [] w W
 low:w.heap.size≤su∧su<sb
 mid:∀k∈L.all,sb<k∧k<K.lb
 high:sb<K.lb∧K.lb<K.cb∧K.cb<nm∧K.cb<bt∧nm≠bt∧nm<t0∧bt<t0
 room:t0≤W.heap.size
theorem NbG.step {w W W':World}{cs:List Value}{su sb nm bt t0 sl le:Nat}{L:PoolL}{K:ClockL}{X:List Nat}(h:NbG w W cs su sb L K nm bt t0 sl le)(ho:Only X W W')(hx:∀k∈X,k=sb∨t0≤k):NbG w W' cs su sb L K nm bt t0 sl le:=by
 have h1:=h.low
 obtain⟨h2,h3,h4,h5,h6,h7,h8⟩:=h.high
 have hno:∀k,(k≠sb∧k<t0)→k∉X:=fun k hk m=>by rcases hx k m with e|e <;> omega
 have hm:∀k∈L.all,k∉X:=fun k hk=>by have:=h.mid k hk;exact hno k (by omega)
 refine⟨h.st.only ho (hno _ (by omega)),h.pool.only ho hm,h.clock.only ho (hno _ (by omega)) (hno _ (by omega)),h.names.only ho (hno _ (by omega)),h.table.only ho (hno _ (by omega)),?_,h.low,h.mid,h.high,Nat.le_trans h.room ho.size⟩
 refine ((h.only.mono (Y:=X) (by simp)).trans ho).fresh (fun k hk hl=>?_)
 rcases hx k hk with e|e <;> omega
abbrev storeCells (L:PoolL)(K:ClockL)(eb ld nm ts:Value)(ps:Value):List Value:=[.pointer (some ⟨L.pb,0,none⟩),.pointer (some ⟨K.cb,0,none⟩),eb,ld,nm,ts,ps]
abbrev pv (b:Nat):Value:=.pointer (some ⟨b,0,none⟩)
def NgE (w:World)(cs:List Value)(su sb:Nat)(L:PoolL)(K:ClockL)(nm bt t0 n m sl le:Nat)(W:World):Prop:=
 ∃eb ts base,NbG w W cs su sb L K nm bt t0 sl le∧EpochAt W eb L.pb base none ⟨m,1,0,0,[]⟩∧Blk W ts [.pointer (some ⟨L.pb,0,none⟩)] 187∧t0≤eb∧t0≤ts∧eb≠ts ∧
  Blk W sb (storeCells L K (pv eb) (.pointer none) (pv nm) (pv ts) (.slice none 0 0)) 94
theorem finE {w W4 W:World}{cs:List Value}{su sb nm bt t0 n m sl le eb ts base:Nat}{L:PoolL}{K:ClockL}(hn:NbG w W4 cs su sb L K nm bt t0 sl le)(ho:Only [] W4 W)(he:EpochAt W eb L.pb base none ⟨m,1,0,0,[]⟩)(ht:Blk W ts [.pointer (some ⟨L.pb,0,none⟩)] 187)(h1:t0≤eb)(h2:t0≤ts)(h3:eb≠ts)
  (hs:Blk W4 sb (storeCells L K (.pointer none) (.pointer none) (pv nm) (.pointer none) (.slice none 0 0)) 94):
  NgE w cs su sb L K nm bt t0 n m sl le ((W.setCell ⟨sb,2,none⟩ (.pointer (some ⟨eb,0,none⟩))).setCell ⟨sb,5,none⟩ (.pointer (some ⟨ts,0,none⟩))):=by
 have ho2:Only [sb] W ((W.setCell ⟨sb,2,none⟩ (.pointer (some ⟨eb,0,none⟩))).setCell ⟨sb,5,none⟩ (.pointer (some ⟨ts,0,none⟩))):=((Only.refl _ _).setCell (.inl (by simp)) _).setCell (.inl (by simp)) _
 have hh:=hn.high
 exact⟨eb,ts,base,(hn.step ho (by simp)).step ho2 (fun k hk=>by simp at hk;exact .inl hk),he.only ho2 (by simp;omega) (by simp),ht.only ho2 (by simp;omega),h1,h2,h3,((hs.only ho (by simp)).set 2 _).set 5 _⟩
structure LcAt (Wc wr:World)(L:PoolL)(K:ClockL)(sl:Nat)(Xs:List ChainL)(rv:Value):Prop where
 row:wr.ownsRow Wc.heap.size 104 1 rv Xs.length (Xs.map fun X=>ptr X.xb)
 each:∀(i:Nat) (X:ChainL),Xs[i]?=some X→(∃b0,ChainAt wr X L.pb K.cb b0 [] ⟨0,List.replicate (sl+1) (0,[])⟩)∧Wc.heap.size≤X.xb∧Wc.heap.size≤X.sb∧X.xb<wr.heap.size∧X.sb<wr.heap.size∧rv.ownBlock≠some X.xb∧rv.ownBlock≠some X.sb
 apart:∀(i j:Nat) (X Z:ChainL),Xs[i]?=some X→Xs[j]?=some Z→i≠j→X.xb≠Z.xb∧X.xb≠Z.sb∧X.sb≠Z.sb
 only:Only [] Wc wr
theorem LcAt.nil (Wc:World)(L:PoolL)(K:ClockL)(sl:Nat):LcAt Wc Wc L K sl [] (.slice none 0 0):=⟨World.ownsRow_nil _ _ 104 1,by simp,by simp,Only.refl _ _⟩
theorem get_snoc {α:Type}{l:List α}{a b:α}{i:Nat}(h:(l ++ [a])[i]?=some b):l[i]?=some b∨(i=l.length∧b=a):=by
 by_cases hi:i<l.length
 ·rw[List.getElem?_append_left hi] at h;exact .inl h
 ·rw[List.getElem?_append_right (by omega)] at h
  cases hk:i-l.length with
  |zero=>rw[hk] at h;simp at h;exact .inr ⟨by omega,h.symm⟩
  |succ k=>rw[hk] at h;simp at h
theorem LcAt.snoc {Wc wr w7 w8:World}{L:PoolL}{K:ClockL}{sl b1:Nat}{Xs:List ChainL}{rv v8:Value}{X1:ChainL}{o:Obj}(h:LcAt Wc wr L K sl Xs rv)(ho:Only [] wr w7)(h1:wr.heap.size≤X1.xb)(h2:wr.heap.size≤X1.sb)
  (hx:ChainAt w7 X1 L.pb K.cb b1 [] ⟨0,List.replicate (sl+1) (0,[])⟩) (hg:(w7.alloc o).grownBy w8 rv.ownBlock) (hat:v8.ownBlock=rv.ownBlock∨v8.ownBlock=some (w7.alloc o).heap.size)
  (hown:w8.ownsRow Wc.heap.size 104 1 v8 (Xs.length+1) ((Xs.map fun X=>ptr X.xb) ++ [ptr X1.xb])):LcAt Wc w8 L K sl (Xs ++ [X1]) v8:=by
 have hs:=ho.size
 have hsa:=Qg w7 o
 have hs8:=hg.size
 have hrl:∀k,rv.ownBlock=some k→Wc.heap.size≤k∧k<wr.heap.size:=fun k hk=>h.row.lt k hk
 have hx1:X1.xb<w7.heap.size∧X1.sb<w7.heap.size:=⟨Nat.lt_of_lt_of_le hx.lt.1 hx.room,Nat.lt_of_lt_of_le hx.lt.2 hx.room⟩
 have hall:w7.heap.size≤(w7.alloc o).heap.size:=hsa
 have hrow1:∀k,rv.ownBlock=some k→k≠X1.xb∧k≠X1.sb:=fun k hk=>by have:=hrl k hk;omega
 have hoc:Only rv.ownBlock.toList wr w8:=((ho.alloc o).mono (Y:=rv.ownBlock.toList) (by simp)).grown hg (fun k hk=>.inr (by rw[hk];simp))
 have hoc7:Only rv.ownBlock.toList w7 w8:=(((Only.refl [] w7).alloc o).mono (Y:=rv.ownBlock.toList) (by simp)).grown hg (fun k hk=>.inr (by rw[hk];simp))
 refine⟨?_,fun i X hX=>?_,fun i j X Z hX hZ hij=>?_,own_grow (e:=104) (s:=1) h.row h.only (ho.alloc o) hg⟩
 ·rw[List.length_append,List.map_append]
  exact hown
 ·rcases get_snoc hX with hX|⟨_,rfl⟩
  ·obtain⟨⟨b0,hc⟩,q1,q2,q3,q4,q5,q6⟩:=h.each i X hX
   refine⟨⟨b0,hc.only hoc (by simpa using q5) (by simpa using q6) (by simp)⟩,q1,q2,by omega,by omega,?_,?_⟩
   ·rcases hat with e|e
    ·rw[e];exact q5
    ·rw[e];intro e2;injection e2 with e2;omega
   ·rcases hat with e|e
    ·rw[e];exact q6
    ·rw[e];intro e2;injection e2 with e2;omega
  ·have hw:=h.only.size
   refine⟨⟨b1,hx.only hoc7 (fun m=>?_) (fun m=>?_) (by simp)⟩,by omega,by omega,by omega,by omega,?_,?_⟩
   ·cases hv:rv.ownBlock with
    |none=>rw[hv] at m;simp at m
    |some k=>rw[hv] at m;simp at m;exact (hrow1 k hv).1 m.symm
   ·cases hv:rv.ownBlock with
    |none=>rw[hv] at m;simp at m
    |some k=>rw[hv] at m;simp at m;exact (hrow1 k hv).2 m.symm
   ·rcases hat with e|e
    ·rw[e];intro e2;exact (hrow1 _ e2).1 rfl
    ·rw[e];intro e2;injection e2 with e2;omega
   ·rcases hat with e|e
    ·rw[e];intro e2;exact (hrow1 _ e2).2 rfl
    ·rw[e];intro e2;injection e2 with e2;omega
 ·rcases get_snoc hX with hX' | ⟨hi,rfl⟩ <;> rcases get_snoc hZ with hZ' | ⟨hj,rfl⟩
  ·exact h.apart i j X Z hX' hZ' hij
  ·obtain⟨_,q1,q2,q3,q4,q5,q6⟩:=h.each i X hX'
   exact⟨by omega,by omega,by omega⟩
  ·obtain⟨_,q1,q2,q3,q4,q5,q6⟩:=h.each j Z hZ'
   exact⟨by omega,by omega,by omega⟩
  ·omega
def LcRel (Wc:World)(L:PoolL)(K:ClockL)(sl n:Nat)(k:Nat)(s5 s62:Value)(wr:World):Prop:=
 ∃Xs:List ChainL,Xs.length≤n∧s62=.int .i64 (Xs.length:Int)∧k=n-Xs.length∧LcAt Wc wr L K sl Xs s5
structure PtsAt (W9 wr:World)(L:PoolL)(K:ClockL)(xs:Nat→Nat)(n eb ld nm ts sb:Nat)(ps:List (Nat × Nat))(rv:Value):Prop where
 row:wr.ownsRow W9.heap.size 107 1 rv ps.length (ps.map fun p=>ptr p.1)
 store:Blk wr sb (storeCells L K (pv eb) (pv ld) (pv nm) (pv ts) rv) 94
 each:∀(i:Nat) (p:Nat × Nat),ps[i]?=some p→Blk wr p.1 [.pointer (some ⟨xs i,0,none⟩),.int .i64 (i:Int),.int .i64 (n:Int),.pointer (some ⟨L.pb,0,none⟩),.pointer (some ⟨p.2,0,none⟩),.pointer (some ⟨eb,0,none⟩),.pointer (some ⟨ld,0,none⟩)] 152∧Blk wr p.2 [.pointer (some ⟨L.pb,0,none⟩)] 187∧W9.heap.size≤p.1∧W9.heap.size≤p.2∧rv.ownBlock≠some p.1∧rv.ownBlock≠some p.2
 only:Only [sb] W9 wr
theorem PtsAt.snoc {W9 wr w12 w13:World}{L:PoolL}{K:ClockL}{xs:Nat→Nat}{n eb ld nm ts sb pt pg:Nat}{ps:List (Nat × Nat)}{rv v8:Value}{o:Obj}(h:PtsAt W9 wr L K xs n eb ld nm ts sb ps rv)(hsb:sb<W9.heap.size)(ho:Only [] wr w12)(h1:wr.heap.size≤pt)(h2:wr.heap.size≤pg)
  (hp:Blk w12 pt [.pointer (some ⟨xs ps.length,0,none⟩),.int .i64 (ps.length:Int),.int .i64 (n:Int),.pointer (some ⟨L.pb,0,none⟩),.pointer (some ⟨pg,0,none⟩),.pointer (some ⟨eb,0,none⟩),.pointer (some ⟨ld,0,none⟩)] 152) (hpg:Blk w12 pg [.pointer (some ⟨L.pb,0,none⟩)] 187)
  (hg:(w12.alloc o).grownBy w13 rv.ownBlock) (hat:v8.ownBlock=rv.ownBlock∨v8.ownBlock=some (w12.alloc o).heap.size) (hown:w13.ownsRow W9.heap.size 107 1 v8 (ps.length+1) ((ps.map fun p=>ptr p.1) ++ [ptr pt])):
  PtsAt W9 (w13.setCell ⟨sb,6,none⟩ v8) L K xs n eb ld nm ts sb (ps ++ [(pt,pg)]) v8:=by
 have hs:=ho.size
 have hsa:=Qg w12 o
 have hs13:=hg.size
 have hw:=h.only.size
 have hrl:∀k,rv.ownBlock=some k→W9.heap.size≤k∧k<wr.heap.size:=fun k hk=>h.row.lt k hk
 have hpl:=hp.lt
 have hpgl:=hpg.lt
 have hos:Only [sb] w13 (w13.setCell ⟨sb,6,none⟩ v8):=(Only.refl _ _).setCell (.inl (by simp)) _
 have hoc:Only rv.ownBlock.toList wr w13:=((ho.alloc o).mono (Y:=rv.ownBlock.toList) (by simp)).grown hg (fun k hk=>.inr (by rw[hk];simp))
 have hoc12:Only rv.ownBlock.toList w12 w13:=(((Only.refl [] w12).alloc o).mono (Y:=rv.ownBlock.toList) (by simp)).grown hg (fun k hk=>.inr (by rw[hk];simp))
 have hrs:sb∉rv.ownBlock.toList:=fun m=>by
  cases hv:rv.ownBlock with
  |none=>rw[hv] at m;simp at m
  |some k=>rw[hv] at m;simp at m;have:=hrl k hv;omega
 have hrn:∀b,wr.heap.size≤b→b∉rv.ownBlock.toList:=fun b hb m=>by
  cases hv:rv.ownBlock with
  |none=>rw[hv] at m;simp at m
  |some k=>rw[hv] at m;simp at m;have:=hrl k hv;omega
 have hvn:∀b,wr.heap.size≤b→b<w12.heap.size→v8.ownBlock≠some b:=fun b h1 h2=>by
  rcases hat with e|e
  ·rw[e];intro e2;have:=hrl _ e2;omega
  ·rw[e];intro e2;injection e2 with e2;omega
 refine⟨?_,((h.store.only hoc hrs).set 6 _),fun i p hp'=>?_,?_⟩
 ·rw[List.length_append,List.map_append]
  refine Qe hown hos (fun k hk m=>?_)
  simp at m
  subst m
  rcases hat with e|e
  ·rw[e] at hk;have:=hrl _ hk;omega
  ·rw[e] at hk;injection hk with hk;omega
 ·rcases get_snoc hp' with hp' | ⟨hi,rfl⟩
  ·obtain⟨q1,q2,q3,q4,q5,q6⟩:=h.each i p hp'
   have hl1:=q1.lt
   have hl2:=q2.lt
   refine⟨(q1.only hoc (by simpa using q5)).only hos (by simp;omega),(q2.only hoc (by simpa using q6)).only hos (by simp;omega),q3,q4,?_,?_⟩
   ·rcases hat with e|e
    ·rw[e];exact q5
    ·rw[e];intro e2;injection e2 with e2;omega
   ·rcases hat with e|e
    ·rw[e];exact q6
    ·rw[e];intro e2;injection e2 with e2;omega
  ·subst hi
   exact⟨(hp.only hoc12 (hrn _ h1)).only hos (by simp;omega),(hpg.only hoc12 (hrn _ h2)).only hos (by simp;omega),by dsimp only;omega,by dsimp only;omega,hvn _ h1 hpl,hvn _ h2 hpgl⟩
 ·refine (((h.only.mono (Y:=sb :: rv.ownBlock.toList) (by simp)).trans (hoc.mono (by simp +contextual))).trans (hos.mono (by simp))).fresh (fun k hk hl=>?_)
  rcases List.mem_cons.1 hk with e|e
  ·exact List.mem_cons.2 (.inl e)
  ·cases hv:rv.ownBlock with
   |none=>rw[hv] at e;simp at e
   |some k=>rw[hv] at e;simp at e;have:=hrl k hv;omega
def PtsRel (W9:World)(L:PoolL)(K:ClockL)(xs:Nat→Nat)(n eb ld nm ts sb:Nat)(k:Nat)(s96:Value)(wr:World):Prop:=
 ∃(ps:List (Nat × Nat)) (rv:Value),ps.length≤n∧s96=.int .i64 (ps.length:Int)∧k=n-ps.length∧PtsAt W9 wr L K xs n eb ld nm ts sb ps rv
abbrev SG (sb su g j pb eb ld xb n:Nat)(W:World):Prop:=
 W.cell? ⟨sb,0,none⟩=some (.pointer (some ⟨pb,0,none⟩))∧W.cell? ⟨sb,2,none⟩=some (.pointer (some ⟨eb,0,none⟩))∧W.cell? ⟨sb,3,none⟩=some (.pointer (some ⟨ld,0,none⟩))∧W.cell? ⟨su,0,none⟩=some (.int .i64 (n:Int))∧W.cell? ⟨g,j,none⟩=some (.pointer (some ⟨xb,0,none⟩))
theorem sg_only {sb su g j pb eb ld xb n:Nat}{W W':World}{Z:List Nat}(h:SG sb su g j pb eb ld xb n W)(ho:Only Z W W')(h1:sb∉Z)(h2:su∉Z)(h3:g∉Z):SG sb su g j pb eb ld xb n W':=
 ⟨Qa ho h.1 h1,Qa ho h.2.1 h1,Qa ho h.2.2.1 h1,Qa ho h.2.2.2.1 h2,Qa ho h.2.2.2.2 h3⟩
theorem sg_far {sb su g j pb eb ld xb n:Nat}{W W':World}{row:Option Nat}(h:SG sb su g j pb eb ld xb n W)(hg:W.grownBy W' row)(h1:row≠some sb)(h2:row≠some su)(h3:row≠some g):SG sb su g j pb eb ld xb n W':=
 ⟨cell_far5 h.1 hg h1,cell_far5 h.2.1 hg h1,cell_far5 h.2.2.1 hg h1,cell_far5 h.2.2.2.1 hg h2,cell_far5 h.2.2.2.2 hg h3⟩
theorem sg_set {sb su g j pb eb ld xb n:Nat}{W:World}(h:SG sb su g j pb eb ld xb n W)(h2:su≠sb)(h3:g≠sb)(v:Value):SG sb su g j pb eb ld xb n (W.setCell ⟨sb,6,none⟩ v):=
 ⟨(World.cell?_setCell_other W ⟨sb,6,none⟩ ⟨sb,0,none⟩ v (by simp)).trans h.1,(World.cell?_setCell_other W ⟨sb,6,none⟩ ⟨sb,2,none⟩ v (by simp)).trans h.2.1,(World.cell?_setCell_other W ⟨sb,6,none⟩ ⟨sb,3,none⟩ v (by simp)).trans h.2.2.1,
  (World.cell?_setCell_other W ⟨sb,6,none⟩ ⟨su,0,none⟩ v (fun e=>h2 (by injection e with e;exact e.symm))).trans h.2.2.2.1,(World.cell?_setCell_other W ⟨sb,6,none⟩ ⟨g,j,none⟩ v (fun e=>h3 (by injection e with e;exact e.symm))).trans h.2.2.2.2⟩
def gCol (n sb clb ccb eb:Nat)(X:Nat→ChainL)(lp:Nat→Nat)(k:Nat):Nat:=
 if sb<k∧k<clb then 1 else if k=clb∨k=ccb then 2 else if k=eb then 3 else
 match (List.range n).find? (fun i=>decide (k=(X i).xb∨k=(X i).sb)) with
 |some i=>4+2*i
 |none=>match (List.range n).find? (fun i=>decide (k=lp i)) with
  |some i=>5+2*i
  |none=>0
theorem find_one {n i0:Nat}{p:Nat→Bool}(hi:i0<n)(h:p i0=true)(hu:∀i,i<n→p i=true→i=i0):(List.range n).find? p=some i0:=by
 cases hf:(List.range n).find? p with
 |none=>exact absurd h (by simpa using List.find?_eq_none.1 hf i0 (by simpa using hi))
 |some a=>
  have h1:=List.find?_some hf
  have h2:=List.mem_of_find?_eq_some hf
  rw[hu a (by simpa using h2) h1]
theorem find_no {n:Nat}{p:Nat→Bool}(h:∀i,i<n→p i=false):(List.range n).find? p=none:=by
 rw[List.find?_eq_none]
 intro i hi
 rw[h i (by simpa using hi)]
 simp
section
variable {n sb clb ccb eb:Nat}{X:Nat→ChainL}{lp:Nat→Nat}{k:Nat}
theorem gCol_pool (h1:sb<k∧k<clb):gCol n sb clb ccb eb X lp k=1:=by unfold gCol;rw[if_pos h1]
theorem gCol_clock (h1:¬(sb<k∧k<clb))(h2:k=clb∨k=ccb):gCol n sb clb ccb eb X lp k=2:=by unfold gCol;rw[if_neg h1,if_pos h2]
theorem gCol_epoch (h1:¬(sb<k∧k<clb))(h2:¬(k=clb∨k=ccb))(h3:k=eb):gCol n sb clb ccb eb X lp k=3:=by unfold gCol;rw[if_neg h1,if_neg h2,if_pos h3]
theorem gCol_zero (h1:¬(sb<k∧k<clb))(h2:k≠clb∧k≠ccb)(h3:k≠eb)(h4:∀i,i<n→k≠(X i).xb∧k≠(X i).sb)(h5:∀i,i<n→k≠lp i):gCol n sb clb ccb eb X lp k=0:=by
 unfold gCol
 rw[if_neg h1,if_neg (by omega),if_neg h3,find_no (fun i hi=>by have:=h4 i hi;simp;omega)]
 dsimp only
 rw[find_no (fun i hi=>by have:=h5 i hi;simp;omega)]
theorem gCol_chain {i:Nat}(hi:i<n)(h1:¬(sb<k∧k<clb))(h2:k≠clb∧k≠ccb)(h3:k≠eb)(h4:k=(X i).xb∨k=(X i).sb)(hu:∀j,j<n→(k=(X j).xb∨k=(X j).sb)→j=i):gCol n sb clb ccb eb X lp k=4+2*i:=by
 unfold gCol
 rw[if_neg h1,if_neg (by omega),if_neg h3,find_one hi (by simpa using h4) (fun j hj h=>hu j hj (by simpa using h))]
theorem gCol_lp {i:Nat}(hi:i<n)(h1:¬(sb<k∧k<clb))(h2:k≠clb∧k≠ccb)(h3:k≠eb)(h4:∀i,i<n→k≠(X i).xb∧k≠(X i).sb)(h5:k=lp i)(hu:∀j,j<n→k=lp j→j=i):gCol n sb clb ccb eb X lp k=5+2*i:=by
 unfold gCol
 rw[if_neg h1,if_neg (by omega),if_neg h3,find_no (fun i hi=>by have:=h4 i hi;simp;omega)]
 dsimp only
 rw[find_one hi (by simpa using h5) (fun j hj h=>hu j hj (by simpa using h))]
end
structure AllMade (w W:World)(cs:List Value)(su sb:Nat)(L:PoolL)(K:ClockL)(nm bt t0 t1 t4 t6 eb ts be ld lt g lc gq lq B n m sl le:Nat)(X:Nat→ChainL)(lp pt pg:Nat→Nat)(pvv:Nat→Value)(src:List (Int × Int)):Prop where
 nb:NbG w W cs su sb L K nm bt t0 sl le
 ep:EpochAt W eb L.pb be none ⟨m,1,0,0,[]⟩
 hts:Blk W ts [ptr L.pb] 187
 low:t0≤eb∧t0≤ts∧eb≠ts∧eb<t1∧ts<t1
 ch:∀i,i<n→(∃b0,ChainAt W (X i) L.pb K.cb b0 [] ⟨0,List.replicate (sl+1) (0,[])⟩)∧t1≤(X i).xb∧t1≤(X i).sb∧(X i).xb<t4∧(X i).sb<t4
 chA:∀i j,i<n→j<n→i≠j→(X i).xb≠(X j).xb∧(X i).xb≠(X j).sb∧(X i).sb≠(X j).sb
 hld:Blk W ld [ptr L.pb,ptr lt,.slice (some ⟨g,0,none⟩) n lc] 194
 hlt:Blk W lt [ptr L.pb] 187
 hg:∀i,i<n→W.cell? ⟨g,i,none⟩=some (ptr (lp i))
 lps:∀i,i<n→Blk W (lp i) [.int .i64 0,ptr (X i).xb,pvv i,.int .i64 0] 197∧W.ownsRow B 36 2 (pvv i) (Qq src n i).length (Qd (Qq src n i))
 lo:t4≤lt∧lt<ld∧ld<g∧g<t6
 lpo:∀i,i<n→ld<lp i∧lp i≠g∧lp i<B∧lp i<t6
 lpA:∀a b,a<n→b<n→a≠b→lp a≠lp b
 pts:∀i,i<n→Blk W (pt i) [ptr (X i).xb,.int .i64 (i:Int),.int .i64 (n:Int),ptr L.pb,ptr (pg i),ptr eb,ptr ld] 152∧Blk W (pg i) [ptr L.pb] 187∧t6≤pt i∧t6≤pg i
 gqs:∀i,i<n→W.cell? ⟨gq,i,none⟩=some (ptr (pt i))
 gql:t6≤gq∧t4≤t6∧t1≤t4
 hsb:Blk W sb [ptr L.pb,ptr K.cb,ptr eb,ptr ld,ptr nm,ptr ts,.slice (some ⟨gq,0,none⟩) n lq] 94
abbrev newY (W:World)(sb:Nat)(L:PoolL)(K:ClockL)(nm eb ts ld lt n:Nat)(X:Nat→ChainL)(lp pt pg:Nat→Nat):StoreL:=
 ⟨L,K,eb,sb,ld,lt,nm,ts,W.heap.size,n,X,lp,pt,pg,gCol n sb K.lb K.cb eb X lp⟩
section
variable {w W:World}{cs:List Value}{su sb:Nat}{L:PoolL}{K:ClockL}{nm bt t0 t1 t4 t6 eb ts be ld lt g lc gq lq B n m sl le:Nat}{X:Nat→ChainL}{lp pt pg:Nat→Nat}{pvv:Nat→Value}{src:List (Int × Int)}
theorem AllMade.z (h:AllMade w W cs su sb L K nm bt t0 t1 t4 t6 eb ts be ld lt g lc gq lq B n m sl le X lp pt pg pvv src)(k:Nat)(h1:k<W.heap.size)(h2:k≤sb∨(K.cb<k∧k<t0)∨(t0≤k∧k<t1∧k≠eb)∨(t4≤k∧∀i,i<n→k≠lp i)):
  (newY W sb L K nm eb ts ld lt n X lp pt pg).is k 0:=by
 obtain⟨a1,a2,a3,a4,a5,a6,a7⟩:=h.nb.high
 obtain⟨b1,b2,b3,b4,b5⟩:=h.low
 obtain⟨c1,c2,c3,c4⟩:=h.lo
 obtain⟨d1,d2,d3⟩:=h.gql
 refine⟨h1,gCol_zero ?_ ?_ ?_ (fun i hi=>?_) (fun i hi=>?_)⟩
 ·rcases h2 with h2|h2|h2|⟨h2,_⟩ <;> omega
 ·rcases h2 with h2|h2|h2|⟨h2,_⟩ <;> omega
 ·rcases h2 with h2|h2|h2|⟨h2,_⟩ <;> omega
 ·obtain⟨_,q1,q2,q3,q4⟩:=h.ch i hi
  rcases h2 with h2|h2|h2|⟨h2,_⟩ <;> omega
 ·have:=h.lpo i hi
  rcases h2 with h2|h2|h2|⟨_,h3⟩
  ·omega
  ·omega
  ·omega
  ·exact h3 i hi
theorem made_inG (h:AllMade w W cs su sb L K nm bt t0 t1 t4 t6 eb ts be ld lt g lc gq lq B n m sl le X lp pt pg pvv src)(hn:1≤n∧n≤64)(f:Int)(hf:f≤0):
  StoreIn W (newY W sb L K nm eb ts ld lt n X lp pt pg) none (fun _=>[]) (StoreS.new n m sl le src f):=by
 obtain⟨a1,a2,a3,a4,a5,a6,a7⟩:=h.nb.high
 obtain⟨b1,b2,b3,b4,b5⟩:=h.low
 obtain⟨c1,c2,c3,c4⟩:=h.lo
 obtain⟨d1,d2,d3⟩:=h.gql
 have z0:=h.hsb.lt
 have z1:=h.hld.lt
 have z2:=h.hlt.lt
 have z12:=h.hts.lt
 have z13:=h.nb.clock.c.lt
 have z14:=h.nb.clock.l.lt
 have z15:eb<W.heap.size:=by obtain⟨lv,h,_⟩:=h.ep.ex;exact h.lt
 have hmx:max f 0=0:=by omega
 have hlast:∀k,t6≤k→∀i,i<n→k≠lp i:=fun k hk i hi=>by have:=h.lpo i hi;omega
 have hchl:∀i,i<n→(X i).xb<W.heap.size∧(X i).sb<W.heap.size:=fun i hi=>by
  obtain⟨⟨b0,hc⟩,_⟩:=h.ch i hi
  exact⟨Nat.lt_of_lt_of_le hc.lt.1 hc.room,Nat.lt_of_lt_of_le hc.lt.2 hc.room⟩
 have y1:=h.z ld z1 (.inr (.inr (.inr ⟨by omega,fun i hi=>by have:=h.lpo i hi;omega⟩)))
 have y2:=h.z lt z2 (.inr (.inr (.inr ⟨by omega,fun i hi=>by have:=h.lpo i hi;omega⟩)))
 have ycb:gCol n sb K.lb K.cb eb X lp K.cb=2:=gCol_clock (by omega) (.inr rfl)
 have ylb:gCol n sb K.lb K.cb eb X lp K.lb=2:=gCol_clock (by omega) (.inl rfl)
 have yeb:gCol n sb K.lb K.cb eb X lp eb=3:=gCol_epoch (by omega) (by omega) rfl
 have yxb:∀i,i<n→gCol n sb K.lb K.cb eb X lp (X i).xb=4+2*i:=fun i hi=>by
  obtain⟨_,q1,q2,q3,q4⟩:=h.ch i hi
  exact gCol_chain hi (by omega) (by omega) (by omega) (.inl rfl) (fun j hj e=>by
   by_cases hij:i=j
   ·exact hij.symm
   ·have:=h.chA i j hi hj hij
    have h2:=h.chA j i hj hi (fun e=>hij e.symm)
    omega)
 have ysb:∀i,i<n→gCol n sb K.lb K.cb eb X lp (X i).sb=4+2*i:=fun i hi=>by
  obtain⟨_,q1,q2,q3,q4⟩:=h.ch i hi
  exact gCol_chain hi (by omega) (by omega) (by omega) (.inr rfl) (fun j hj e=>by
   by_cases hij:i=j
   ·exact hij.symm
   ·have:=h.chA i j hi hj hij
    have h2:=h.chA j i hj hi (fun e=>hij e.symm)
    omega)
 have ylp:∀i,i<n→gCol n sb K.lb K.cb eb X lp (lp i)=5+2*i:=fun i hi=>by
  have hl:=h.lpo i hi
  exact gCol_lp hi (by omega) (by omega) (by omega) (fun j hj=>by obtain⟨_,q1,q2,q3,q4⟩:=h.ch j hj;omega) rfl (fun j hj e=>by
   by_cases hij:i=j
   ·exact hij.symm
   ·exact absurd e (h.lpA i j hi hj hij))
 have hsets:∀s∈(List.replicate (sl+1) ((0:Int),([]:List Int))),s.2=[]:=fun s hs=>by rw[List.eq_of_mem_replicate hs]
 have hloads:∀i a,(StoreS.new n m sl le src f).loads[i]?=some a→i<n∧a=⟨0,Qq src n i,0⟩:=fun i a ha=>by
  simp only[StoreS.new,List.getElem?_map] at ha
  by_cases hi:i<n
  ·rw[List.getElem?_range hi] at ha
   simp only[Option.map_some,hmx] at ha
   injection ha with ha
   exact⟨hi,ha.symm⟩
  ·rw[List.getElem?_eq_none (by simpa using hi)] at ha
   cases ha
 have hchains:∀i C,(StoreS.new n m sl le src f).chains[i]?=some C→i<n∧C=⟨0,List.replicate (sl+1) (0,[])⟩:=fun i C hC=>by
  simp only[StoreS.new,List.getElem?_replicate] at hC
  split at hC
  ·rename_i hi
   injection hC with hC
   exact⟨hi,hC.symm⟩
  ·cases hC
 refine⟨?_,?_,h.nb.pool,h.nb.clock,h.ep.raise rfl z15 (Nat.le_refl _),?_,?_,?_,?_,?_,?_,?_,?_,?_,Nat.le_refl _⟩
 ·refine⟨fun k hk=>?_,⟨z13,ycb⟩,⟨z14,ylb⟩,⟨z15,yeb⟩,fun i hi=>⟨(hchl i hi).1,yxb i hi⟩,fun i hi=>⟨(hchl i hi).2,ysb i hi⟩,fun i hi=>⟨(h.lps i hi).1.lt,ylp i hi⟩,h.z _ z0 (.inl (Nat.le_refl _)),y1,y2,h.z _ z12 (.inr (.inr (.inl ⟨by omega,by omega,fun e=>b3 e.symm⟩))),fun i hi=>?_,fun i hi=>?_,hn⟩
  ·have:=h.nb.mid k hk
   exact⟨h.nb.pool.lt k hk,gCol_pool this⟩
  ·obtain⟨q1,q2,q3,q4⟩:=h.pts i hi
   exact h.z (pt i) q1.lt (.inr (.inr (.inr ⟨by omega,hlast _ q3⟩)))
  ·obtain⟨q1,q2,q3,q4⟩:=h.pts i hi
   exact h.z (pg i) q2.lt (.inr (.inr (.inr ⟨by omega,hlast _ q4⟩)))
 ·refine⟨⟨_,_,h.hsb,fun j u hu=>?_⟩,⟨_,_,h.hld,fun j u hu=>?_⟩,h.hlt,h.hts,fun i hi=>(h.pts i hi).1,fun i hi=>(h.pts i hi).2.1⟩
  ·dsimp only at hu
   rw[List.getElem?_map] at hu
   by_cases hj:j<n
   ·rw[List.getElem?_range hj] at hu
    injection hu with hu
    subst hu
    exact⟨gq,rfl,h.z _ (cell_lt (h.gqs j hj)) (.inr (.inr (.inr ⟨by omega,hlast _ d1⟩))),h.gqs j hj⟩
   ·rw[List.getElem?_eq_none (by simpa using hj)] at hu
    cases hu
  ·dsimp only at hu
   rw[List.getElem?_map] at hu
   by_cases hj:j<n
   ·rw[List.getElem?_range hj] at hu
    injection hu with hu
    subst hu
    exact⟨g,rfl,h.z _ (cell_lt (h.hg j hj)) (.inr (.inr (.inr ⟨by omega,fun i hi e=>(h.lpo i hi).2.1 e.symm⟩))),h.hg j hj⟩
   ·rw[List.getElem?_eq_none (by simpa using hj)] at hu
    cases hu
 ·intro i C hC
  obtain⟨hi,rfl⟩:=hchains i C hC
  obtain⟨⟨b0,hc⟩,_⟩:=h.ch i hi
  exact hc.raise hsets (hchl i hi) (Nat.le_refl _)
 ·intro i a ha
  obtain⟨hi,rfl⟩:=hloads i a ha
  obtain⟨q1,q2⟩:=h.lps i hi
  have hlpi:=h.lpo i hi
  obtain⟨A,c,hv,hr,hA⟩:=Qc q2
  rw[hv] at q1
  refine⟨A,c,q1,fun j u hu=>?_⟩
  have hu':=hu
  obtain⟨b,o,e,hc⟩:=hr j u hu
  rcases q2.2 with ⟨e1,_⟩|⟨gb,cap,cur,e1,hgb,_⟩
  ·rw[hv] at e1;injection e1 with e1;rw[e1] at e;cases e
  ·rw[hv] at e1
   injection e1 with e1
   rw[e] at e1
   injection e1 with e1
   injection e1 with e1 e2
   subst e1 e2
   refine⟨b,e,h.z _ (cell_lt hc) (.inr (.inr (.inr ⟨by omega,fun i' hi'=>by have:=h.lpo i' hi';omega⟩))),by rw[Nat.zero_add] at hc;exact hc⟩
 ·simp[StoreS.new]
 ·simp[StoreS.new]
 ·intro C hC
  rw[List.eq_of_mem_replicate hC]
  simp[StoreS.new,PoolS.new]
 ·simp[StoreS.new,PoolS.new]
 ·intro i j _ _ _ k hk
  simp at hk
 ·intro i _ k hk
  simp at hk
 ·intro k hk
  cases hk
end
end Go.Proofs.YteeefedoffplmaaGreat
