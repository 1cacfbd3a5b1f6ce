/- StoreAlone, part Pai: Load, Wait, LFill, Inv, Trees. -/
import Derived.Test.YteeefedoffplmaaGreatPah
import Derived.StillTailTactics
import Derived.Test.YteeefedoffplmaaGreatPaa
set_option linter.unusedSimpArgs false
set_option linter.unusedVariables false
set_option maxRecDepth 100000
set_option maxHeartbeats 51200000
namespace Go.Proofs.YteeefedoffplmaaGreat
open Go.RowKit Lib Go.Proofs.Tryz
theorem take_len {S S':PoolS}{x:NodeS}{l h:Int}(ht:S.take x l=some (h,S')):S'.slots.length=S.slots.length:=by
 unfold PoolS.take at ht
 simp only[bind,Option.bind_eq_some_iff] at ht
 obtain⟨n,_,s,_,ht⟩:=ht
 split at ht
 ·simp only[Option.some.injEq,Prod.mk.injEq] at ht
  obtain⟨_,rfl⟩:=ht
  simp
 ·cases ht
theorem setMark_len {S S':PoolS}{h v:Int}(ht:S.setMark h v=some S'):S'.slots.length=S.slots.length:=by
 unfold PoolS.setMark at ht
 simp only[bind,Option.bind_eq_some_iff,Option.some.injEq] at ht
 obtain⟨s,_,rfl⟩:=ht
 simp[PoolS.put]
theorem first_len {C C':ChainS}{S S':PoolS}{x:NodeS}{h:Int}(hf:C.first S x=some (h,C',S')):S'.slots.length=S.slots.length∧C'.sets.length=C.sets.length:=by
 simp only[ChainS.first,bind,Option.bind_eq_some_iff] at hf
 obtain⟨⟨h1,S1⟩,ht,S2,hm,hf⟩:=hf
 simp only at hm hf
 split at hf
 ·simp only[Option.some.injEq,Prod.mk.injEq] at hf
  obtain⟨rfl,rfl,rfl⟩:=hf
  exact⟨(setMark_len hm).trans (take_len ht),by simp⟩
 ·cases hf
theorem StoreIn.lgStep {w w':World}{Y:StoreL}{ed:Option Nat}{D:Nat→List Nat}{X:StoreS}{lg:Nat}{S':PoolS}(h:StoreIn w Y ed D X)(hg1:Y.base≤lg)(hg2:¬Qw Y ed D lg)(ho:Only (lg :: Y.pool.blocks) w w')(hp:PoolAt w' Y.pool S')(hs:S'.slots.length=X.pool.slots.length):StoreIn w' Y ed D {X with pool:=S'}:=by
 have hk:=h.ok
 have hb:∀k c,Y.is k c→c≠1→k∉lg :: Y.pool.blocks:=fun k c e hc m=>by
  simp only[List.mem_cons] at m
  rcases m with rfl|m
  ·have:=e.1
   omega
  ·exact is_ne e (hk.pool k (Qf m)) hc rfl
 have hn:∀k∈lg :: Y.pool.blocks,¬Y.is k 0:=fun k m e=>hb k 0 e (by decide) m
 have hd:∀k,Y.base≤k→k≠lg→k∉lg :: Y.pool.blocks:=fun k e hne m=>by
  simp only[List.mem_cons] at m
  rcases m with m|m
  ·exact hne m
  ·have:=(hk.pool k (Qf m)).1
   omega
 refine⟨hk,h.fixed.only ho hk hn,hp,h.clock.only ho (hb _ _ hk.cb (by decide)) (hb _ _ hk.lb (by decide)),h.epoch.only ho (hb _ _ hk.eb (by decide)) (fun k e=>hd k (ed_ge h.epoch k e) (fun e2=>hg2 (.inl (e2 ▸ e)))),fun i C hC=>?_,fun i a ha=>?_,h.chains,h.loads,fun C hC=>(h.sets C hC).trans hs.symm,by simpa [hs] using h.slots,h.apart,h.edD,fun k e=>Nat.lt_of_lt_of_le (h.edlt k e) ho.size,Nat.le_trans h.room ho.size⟩
 ·have hi:i<Y.n:=by rw[←h.chains];exact (List.getElem?_eq_some_iff.1 hC).1
  exact (h.chain i C hC).only ho (hb _ _ (hk.xb i hi) (by omega)) (hb _ _ (hk.sets i hi) (by omega)) (fun k e=>hd k ((h.chain i C hC).dlt k e).1 (fun e2=>hg2 (.inr ⟨i,hi,e2 ▸ e⟩)))
 ·have hi:i<Y.n:=by rw[←h.loads];exact (List.getElem?_eq_some_iff.1 ha).1
  exact (h.load i a ha).only ho (hb _ _ (hk.lp i hi) (by omega)) hn
theorem StoreIn.chainSame {w w':World}{Y:StoreL}{ed:Option Nat}{D:Nat→List Nat}{X:StoreS}(h:StoreIn w Y ed D X){i:Nat}{C':ChainS}{S':PoolS}(hi:i<Y.n)(ho:Only (chX (Y.chain i) Y.pool) w w')(hp:PoolAt w' Y.pool S')(hc:ChainAt w' (Y.chain i) Y.pool.pb Y.clock.cb Y.base (D i) C')
  (hs:S'.slots.length=X.pool.slots.length) (hsl:C'.sets.length=X.pool.slots.length):StoreIn w' Y ed D {X with pool:=S',chains:=X.chains.set i C'}:=by
 have h1:=h.chainStep hi ho hp hc (fun k hk=>.inl hk) hs hsl
 have e:(fun j=>if j=i then D i else D j)=D:=by
  funext j
  by_cases h:j=i
  ·rw[if_pos h,h]
  ·rw[if_neg h]
 rwa [e] at h1
def fillX (X:StoreS)(i:Nat)(C':ChainS)(S2:PoolS):StoreS:={X with pool:=S2,chains:=X.chains.set i C'}
theorem loadEnd_any (w:World)(b4 b5 lp:Nat)(s s0 e:Int)(h4:w.cell? ⟨b4,0,none⟩=some (.pointer none))(h5:w.cell? ⟨b5,0,none⟩=some (ptr lp))(hc:w.cell? ⟨lp,0,none⟩=some (.int .i64 s0))(hf:w.frozen? ⟨lp,0,none⟩=false):
  Calls prog 237 #[.int .i64 s,.int .i64 e,ptr b4,ptr b5] w fun r w'=>r=.returned (.int .i64 e)∧w'=w.setCell ⟨lp,0,none⟩ (.int .i64 s):=by
 have hst:=atomStore lp 0 s0 w s hc hf
 unfold ptr at *
 clear hf
 go_enter func237,ntmps237
 go_wp2_with (first|(go_at_call 71;refine (Qx _).mono ?_;rintro e w' ⟨rfl,rfl⟩)|(go_at_call 100;refine hst.mono ?_;rintro e w' ⟨rfl,rfl⟩))
 go_ret
 exact⟨rfl,rfl⟩
theorem Moves.of_chain {w w':World}{Y:StoreL}{ed:Option Nat}{D:Nat→List Nat}(hk:Y.Ok){i lg:Nat}(hi:i<Y.n)(ho:Only (lg :: chX (Y.chain i) Y.pool) w w')(hl:w.heap.size≤lg):Moves Y (Qw Y ed D) (Qw Y ed D) w w':=by
 have ho':=ho.fresh (Y:=chX (Y.chain i) Y.pool) (fun k m hlt=>by
  rcases List.mem_cons.1 m with rfl|m
  ·omega
  ·exact m)
 refine .of_only ho' (fun k m=>?_) (fun _ h=>.inl h)
 simp only[chX,List.mem_cons] at m
 rcases m with rfl|rfl|m
 ·exact .inl ⟨(hk.xb i hi).1,by rw[(hk.xb i hi).2];omega⟩
 ·exact .inl ⟨(hk.sets i hi).1,by rw[(hk.sets i hi).2];omega⟩
 ·have:=hk.pool k (Qf m)
  exact .inl ⟨this.1,by rw[this.2];decide⟩
def LoadW:List (Int × Int)→LoadingS × PoolS→LoadingS × PoolS→Prop
 |[],x,y=>x=y
 |p :: l,(m,S),y=>Qt p.1=true∧Ql p.2∧WayIn S m.root p.1∧m.nodes.length≤10000∧∃e S1 S2,S.trieput m.root p.1 p.2=some (e,S1)∧S1.giveAll e.gone=some S2∧e.made.length≤1000∧e.gone.length≤1000∧S2.slots.length=S.slots.length∧LoadW l (⟨e.root,notIn (m.nodes ++ e.made) e.gone⟩,S2) y
def FlRel (Y:StoreL)(ed:Option Nat)(D:Nat→List Nat)(X:StoreS)(lg:Nat)(lpv:Value)(pairs:List (Int × Int))(fin:LoadingS × PoolS)(w:World)(k:Nat)(s15:Value)(wr:World):Prop:=
 ∃(j:Nat) (m:LoadingS) (S:PoolS) (nv:Value) (Dx:List Nat),j≤pairs.length∧s15=.int .i64 (j:Int)∧k=pairs.length-j∧LoadW (pairs.drop j) (m,S) fin∧PoolAt wr Y.pool S∧LoadAt wr Y.pool w.heap.size lg Y.ld Y.lt lpv m.root m.nodes nv∧S.slots.length=X.pool.slots.length ∧
  Only (lg :: Y.pool.blocks ++ Dx) w wr∧∀k∈Dx,w.heap.size≤k
theorem pair_row {w:World}{Y:StoreL}{A:Option Addr}{l:List (Int × Int)}(h:FRow w Y A (Qd l)){j:Nat}{p:Int × Int}(hj:l[j]?=some p):
  ∃b,A=some ⟨b,0,none⟩∧Y.is b 0∧w.cell? ⟨b,j*2,none⟩=some (.int .i64 p.1)∧w.cell? ⟨b,j*2+1,none⟩=some (.int .i64 p.2):=by
 have hg:=Qz (fun p:Int × Int=>[Value.int .i64 p.1,.int .i64 p.2]) 2 (fun _=>rfl) l j p hj
 obtain⟨b,e,hb,h0⟩:=h (j*2+0) _ (by rw[Qd,hg 0 (by decide)];rfl)
 obtain⟨b',e',_,h1⟩:=h (j*2+1) _ (by rw[Qd,hg 1 (by decide)];rfl)
 rw[e] at e'
 injection e' with e'
 injection e' with e'
 subst e'
 exact⟨b,e,hb,h0,h1⟩
theorem fillAny_any (w:World)(Y:StoreL)(ed:Option Nat)(D:Nat→List Nat)(X:StoreS)(h:StoreIn w Y ed D X)(lg:Nat)(hlg:Blk w lg [.int .i64 0,.slice none 0 0,ptr Y.ld,.pointer none] 355)(hg1:Y.base≤lg)(hg2:¬Qw Y ed D lg)
  (i:Nat) (a:LPartS) (C:ChainS) (ha:X.loads[i]?=some a) (hC:X.chains[i]?=some C) (hpl:a.pairs.length≤1000) (m:LoadingS) (S1:PoolS) (hw:LoadW a.pairs (⟨0,[]⟩,X.pool) (m,S1)) (hd:Int) (C':ChainS) (S2:PoolS) (hf:C.first S1 ⟨m.root,1,0,0⟩=some (hd,C',S2)) (hr:Ql m.root):
  Calls prog 238 #[ptr lg,ptr (Y.lp i)] w fun e w'=>e=.returned (.int .i64 0)∧StoreIn w' Y ed D (fillX X i C' S2)∧Only (lg :: chX (Y.chain i) Y.pool) w w':=by
 have hi:i<Y.n:=by rw[←h.loads];exact (List.getElem?_eq_some_iff.1 ha).1
 obtain⟨A,c,hlp,hrow⟩:=h.load i a ha
 obtain⟨lA,lc,hldb,_⟩:=h.fixed.ld
 have hgl:lg∉Y.pool.all:=fun e=>by have:=(h.ok.pool _ e).1;omega
 have hnb:∀k c,Y.is k c→c≠1→k∉Y.pool.blocks:=fun k c e hc m=>is_ne e (h.ok.pool k (Qf m)) hc rfl
 have hst:FlRel Y ed D X lg (.slice lA Y.n lc) a.pairs (m,S1) w a.pairs.length (.int .i64 0) w:=
  ⟨0,⟨0,[]⟩,X.pool,.slice none 0 0,[],Nat.zero_le _,rfl,rfl,hw,h.pool,⟨hlg,hldb,h.fixed.lt,World.ownsRow_nil _ _ _ _,⟨hlg.lt,Nat.lt_of_lt_of_le h.ok.ld.1 h.room,Nat.lt_of_lt_of_le h.ok.lt.1 h.room⟩,fun k hk=>Nat.lt_of_lt_of_le (h.ok.pool k hk).1 h.room,hgl,hnb _ _ h.ok.ld (by decide),hnb _ _ h.ok.lt (by decide),⟨fun e=>by have:=h.ok.ld.1;omega,fun e=>by have:=h.ok.lt.1;omega⟩,Nat.le_refl _⟩,rfl,Only.refl _ _,by simp⟩
 have hfirst:∀W,StoreIn W Y ed D {X with pool:=S1}→Calls prog 245 #[ptr (Y.chain i).xb,.pointer none,(NodeS.mk m.root 1 0 0).val] W _:=fun W hs=>first_any W (Y.chain i) Y.pool S1 Y.clock.cb Y.base (D i) C hs.pool (hs.chain i C hC) (hs.far hi) ⟨m.root,1,0,0⟩ ⟨hr,by unfold Ql;simp,by unfold Ql;simp,by unfold Ql;simp⟩ hd C' S2 hf
 have hlpn:Y.lp i∉lg :: Y.pool.blocks:=fun m=>by
  simp only[List.mem_cons] at m
  rcases m with m|m
  ·have:=(h.ok.lp i hi).1;omega
  ·exact hnb _ _ (h.ok.lp i hi) (by omega) m
 have l1:=hlp.cell (i:=1) rfl
 have l2:=hlp.cell (i:=2) rfl
 have H:=hid h;have HF:=hid hfirst;have HG1:=hid hg1;have HG2:=hid hg2;have HLP:=hid hlp;have HFF:=hid hf;have HLPN:=hid hlpn;have HI:=hid hi;have HCC:=hid hC
 have HROW:=hid hrow;have HST:=hid hst;have HPL:=hid hpl
 unfold NodeS.val I2 Chained ptr at HF
 unfold ptr at *
 clear h hfirst hg1 hg2 hlp hf hlpn hi hC hrow hnb hgl hlg hldb ha hr hst hpl hw
 go_enter func238,ntmps238
 go_wp2_with fail
 go_loopg [15] a.pairs.length (fun k s15 wr=>FlRel Y ed D X lg (.slice lA Y.n lc) a.pairs (m,S1) w k s15 wr)
 case atStart=>exact HST.out
 case round=>
  obtain⟨j,mj,S,nv,Dx,hj,rfl,rfl,hlw,hpj,hlj,hsl,ho,hD⟩:=hrel
  have HPJ:=hid hpj;have HLJ:=hid hlj;have HSL:=hid hsl;have HO:=hid ho;have HD:=hid hD;have HLW:=hid hlw
  by_cases hlt:j<a.pairs.length
  ·have hlt':(j:Int)<a.pairs.length:=by omega
   obtain⟨⟨k,v⟩,hx⟩:∃x,a.pairs[j]?=some x:=⟨_,List.getElem?_eq_getElem hlt⟩
   obtain⟨pb,rfl,hpb,hk0,hk1⟩:=pair_row HROW.out hx
   have hpn:pb∉lg :: Y.pool.blocks ++ Dx:=fun e=>by
    have h1:=hpb.1
    have h2:=HG1.out
    have h3:=H.out.room
    simp only[List.cons_append,List.mem_cons,List.mem_append] at e
    rcases e with e|e|e
    ·omega
    ·exact is_ne hpb (H.out.ok.pool _ (Qf e)) (by decide) rfl
    ·have:=hD _ e;omega
   replace hk0:=Qa ho hk0 hpn
   replace hk1:=Qa ho hk1 hpn
   have hdrop:a.pairs.drop j=(k,v) :: a.pairs.drop (j+1):=by
    have h1:=(List.getElem?_eq_some_iff.1 hx).2
    rw[List.drop_eq_getElem_cons hlt,h1]
   rw[hdrop] at hlw
   obtain⟨w1,w2,w3,w4,e,T1,T2,e1,e2,e3,e4,e5,e6⟩:=hlw
   have hput:Calls prog 244 #[ptr lg,.agg #[.int .i64 k,.int .i64 v]] (wr.alloc (.cells #[.int .i64 k,.int .i64 v] 36)) _:=
    loadPutAny_any (wr.alloc (.cells #[.int .i64 k,.int .i64 v] 36)) Y.pool S w.heap.size lg Y.ld Y.lt (.slice lA Y.n lc) mj.root mj.nodes nv (hpj.alloc _) ⟨hlj.g.alloc _,hlj.d.alloc _,hlj.t.alloc _,hlj.row.alloc _,hlj.low,hlj.all,hlj.glt,hlj.ldl,hlj.ltl,hlj.ne,Nat.le_trans hlj.room ((Only.refl [] wr).alloc _).size⟩ k v w1 w2 w3 e T1 T2 e1 e2 e3 e4 w4
   have HPUT:=hid hput;have E5:=hid e5;have E6:=hid e6
   unfold ptr at HPUT
   clear hpj hlj hsl ho hD hdrop hpn hpb hx w1 w2 w3 w4 e1 e2 e3 e4 e5 e6 hput
   go_wp2_with (go_at_call 244;refine HPUT.out.mono ?_;rintro e w1 ⟨nv',D',rfl,hp1,hl1,ho1,hd1⟩;have HP1:=hid hp1;have HL1:=hid hl1;have HO1:=hid ho1;have HD1:=hid hd1;clear hp1 hl1 ho1 hd1)
   go_roundg (a.pairs.length-(j+1))
   case measure=>omega
   case rel=>
    have hj1:wrap64 ((j:Int)+1)=(j:Int)+1:=IntWalk.wrap64_in ((j:Int)+1) (by have:=HPL.out;omega)
    refine⟨j+1,_,T2,nv',Dx ++ D',by omega,by first|(rw[hj1];rfl)|go_num,rfl,E6.out,HP1.out,HL1.out,E5.out.trans HSL.out,?_,fun k hk=>(List.mem_append.1 hk).elim (HD.out k) (HD1.out k)⟩
    refine (HO.out.mono ?_).trans ((((Only.refl (lg :: Y.pool.blocks ++ (Dx ++ D')) wr).alloc _)).trans (HO1.out.mono ?_))
    all_goals
     intro k hk
     simp only[List.cons_append,List.mem_cons,List.mem_append] at hk ⊢
     rcases hk with h|h|h <;> simp[h]
  ·have hjl:j=a.pairs.length:=by omega
   rw[hjl,List.drop_length] at hlw
   cases hlw
   have ho01:Only (lg :: Y.pool.blocks) w wr:=HO.out.fresh fun k hk hlt=>by
    simp only[List.cons_append,List.mem_cons,List.mem_append] at hk ⊢
    rcases hk with h|h|h
    ·exact .inl h
    ·exact .inr h
    ·have:=HD.out k h;omega
   have hs1:=H.out.lgStep HG1.out HG2.out ho01 HPJ.out HSL.out
   have q1:=(HLP.out.only ho01 HLPN.out).cell (i:=1) rfl
   have q0:=HLJ.out.g.cell (i:=0) rfl
   have q3:=HLJ.out.g.cell (i:=3) rfl
   have hlx:Y.lp i∉chX (Y.chain i) Y.pool:=fun m=>by
    simp only[chX,List.mem_cons] at m
    rcases m with m|m|m
    ·exact is_ne (H.out.ok.lp i HI.out) (H.out.ok.xb i HI.out) (by omega) m
    ·exact is_ne (H.out.ok.lp i HI.out) (H.out.ok.sets i HI.out) (by omega) m
    ·exact HLPN.out (by simp[m])
   have hgx:lg∉chX (Y.chain i) Y.pool:=fun m=>by
    have hg:=HG1.out
    simp only[chX,List.mem_cons] at m
    rcases m with m|m|m
    ·have:=(H.out.ok.xb i HI.out).1;omega
    ·have:=(H.out.ok.sets i HI.out).1;omega
    ·have:=(H.out.ok.pool _ (Qf m)).1;omega
   have HLX:=hid hlx;have HGX:=hid hgx
   have HS1:=hid hs1;have HO01:=hid ho01
   have Q0:=hid q0;have Q1:=hid q1;have Q3:=hid q3
   clear ho01 hs1 hlx hgx l1 l2 hpj hlj hsl ho hD q0 q1 q3
   go_wp2_with fail
   have q1:=Q1.out;have q0:=Q0.out;have q3:=Q3.out
   unfold ptr at q1
   go_region_held3 (fun W=>W.cell? ⟨Y.lp i,1,none⟩=some (.pointer (some ⟨(Y.chain i).xb,0,none⟩))∧W.cell? ⟨lg,0,none⟩=some (.int .i64 m.root)∧W.cell? ⟨lg,3,none⟩=some (.pointer none))
    (first|with_reducible exact⟨Qa ho2 q1 HLX.out,Qa ho2 q0 HGX.out,Qa ho2 q3 HGX.out⟩|(go_keep;done))
    (first|(go_simp;go_at_call 245;refine (HF.out _ (HS1.out.new (Only.drew [] _))).mono ?_;rintro e w2 ⟨rfl,hp2,hc2,ho2'⟩;have HP2:=hid hp2;have HC2:=hid hc2;have ho2:Only (chX (Y.chain i) Y.pool) wr w2:=⟨ho2'.os,ho2'.tape,ho2'.output,ho2'.size,ho2'.block⟩;have HO2:=hid ho2;clear hp2 hc2 ho2'))
   go_wp2_with fail
   go_ret
   have hl:=first_len HFF.out
   have hsx:=H.out.sets C (List.mem_of_getElem? HCC.out)
   have hs2:=HS1.out.chainSame HI.out HO2.out HP2.out HC2.out hl.1 (hl.2.trans (hsx.trans HSL.out.symm))
   exact⟨rfl,hs2,(HO01.out.mono (by intro k hk;simp only[List.mem_cons,chX] at hk ⊢;rcases hk with h|h <;> simp[h])).trans (HO2.out.mono (by intro k hk;simp[hk]))⟩
section
def FreeFrom (next:List Int):Int→List Nat→Prop
 |x,[]=>x=0
 |x,i :: l=>x=(i:Int)∧1≤i∧i<next.length∧∃y,next[i]?=some y∧FreeFrom next y l
theorem FreeFrom.range {next:List Int}:∀{l:List Nat} {x:Int},FreeFrom next x l→next.length≤1048576→0≤x∧x<1048576
 |[],x,h,_=>by
  have:x=0:=h
  omega
 |i :: l,x,h,hn=>by
  have:=h.1;have:=h.2.2.1
  omega
theorem FreeFrom.set {next:List Int}{j:Nat}(y:Int):∀{l:List Nat} {x:Int},FreeFrom next x l→j∉l→FreeFrom (next.set j y) x l
 |[],_,h,_=>h
 |i :: l,x,h,hj=>by
  obtain⟨h1,h2,h3,z,h4,h5⟩:=h
  simp only[List.mem_cons,not_or] at hj
  refine⟨h1,h2,by simpa using h3,z,?_,h5.set y hj.2⟩
  rw[List.getElem?_set_ne (by exact hj.1),h4]
theorem idx_pack {i t:Int}(hi:0≤i)(hi':i<1048576)(ht:0≤t)(ht':t<1099511627776):Qo (Za i t)=i:=by
 have h1:Za i t=i*1099511627776+t:=rfl
 have h2:isWordB (Za i t)=true:=by
  rw[h1];unfold isWordB T20 T40
  simp only[Bool.and_eq_true,decide_eq_true_eq]
  omega
 unfold Qo
 rw[if_pos h2,h1,T40]
 omega
theorem tag_pack {i t:Int}(hi:0≤i)(hi':i<1048576)(ht:0≤t)(ht':t<1099511627776):tagW (Za i t)=t:=by
 have h1:Za i t=i*1099511627776+t:=rfl
 have h2:isWordB (Za i t)=true:=by
  rw[h1];unfold isWordB T20 T40
  simp only[Bool.and_eq_true,decide_eq_true_eq]
  omega
 unfold tagW
 rw[if_pos h2,h1,T40]
 omega
theorem word_pack {i t:Int}(hi:0≤i)(hi':i<1048576)(ht:0≤t)(ht':t<1099511627776):isWordB (Za i t)=true:=by
 have h1:Za i t=i*1099511627776+t:=rfl
 rw[h1];unfold isWordB T20 T40
 simp only[Bool.and_eq_true,decide_eq_true_eq]
 omega
theorem word_of_idx {h:Int}(hi:1≤Qo h):isWordB h=true:=by
 unfold Qo at hi
 split at hi
 ·assumption
 ·omega
theorem word_eq {a b:Int}(ha:1≤Qo a)(hb:1≤Qo b)(hi:Qo a=Qo b)(ht:tagW a=tagW b):a=b:=by
 have wa:=word_of_idx ha;have wb:=word_of_idx hb
 unfold Qo at hi;unfold tagW at ht
 rw[if_pos wa,if_pos wb,T40] at hi ht
 omega
theorem tag_range (h:Int):0≤tagW h∧tagW h<1099511627776:=by
 unfold tagW
 split
 ·rw[T40];omega
 ·omega
theorem idx_range (h:Int):0≤Qo h∧Qo h<1048576:=by
 unfold Qo
 split
 ·next hw=>
  unfold isWordB T20 T40 at hw
  simp only[Bool.and_eq_true,decide_eq_true_eq] at hw
  rw[T40];omega
 ·omega
theorem at_some {S:PoolS}{h:Int}{s:SlotS}:S.at h=some s↔S.slots[(Qo h).toNat]?=some s∧1≤Qo h∧tagW h % 2=1∧s.gen=tagW h:=by
 unfold PoolS.at
 cases hs:S.slots[(Qo h).toNat]? with
 |none=>simp
 |some x=>
  simp only[Option.bind_eq_bind,Option.bind_some]
  split
  ·next hc=>
   constructor
   ·intro e;cases e;exact⟨rfl,hc⟩
   ·rintro ⟨e,_⟩;exact e
  ·next hc=>
   constructor
   ·intro e;cases e
   ·rintro ⟨e,h2⟩;cases e;exact absurd h2 hc
theorem Ze {S:PoolS}{h:Int}{x:NodeS}:S.read h=some x↔∃s,S.at h=some s∧s.node=x:=by
 unfold PoolS.read
 cases S.at h <;> simp
def Keep (S S':PoolS):Prop:=∀h s,S.at h=some s→S'.at h=some s
theorem Keep.refl (S:PoolS):Keep S S:=fun _ _ h=>h
theorem Keep.trans {A B C:PoolS}(h:Keep A B)(k:Keep B C):Keep A C:=fun x s e=>k x s (h x s e)
theorem Keep.read {A B:PoolS}(h:Keep A B){x:Int}{n:NodeS}(e:A.read x=some n):B.read x=some n:=by
 obtain⟨s,h1,h2⟩:=Ze.1 e
 exact Ze.2 ⟨s,h _ _ h1,h2⟩
structure PInv (N:Nat)(S:PoolS)(own:List Int)(G:Int):Prop where
 slots:S.slots.length=N+1
 next:S.next.length=N+1
 big:N<1048576
 word:isWordB S.head=true
 faults:S.faults=0
 gens:∀s∈S.slots,0≤s.gen∧s.gen≤G
 nodup:own.Nodup
 alive:∀h∈own,∃s,S.at h=some s
 free:∃F:List Nat,FreeFrom S.next (Qo S.head) F∧F.Nodup∧(∀i∈F,∃s,S.slots[i]?=some s∧s.gen % 2=0)∧F.length+own.length=N
theorem PInv.perm {N:Nat}{S:PoolS}{own own':List Int}{G:Int}(h:PInv N S own G)(p:own.Perm own'):PInv N S own' G:=by
 obtain⟨F,h1,h2,h3,h4⟩:=h.free
 exact⟨h.slots,h.next,h.big,h.word,h.faults,h.gens,p.nodup_iff.1 h.nodup,fun x hx=>h.alive x (p.mem_iff.2 hx),F,h1,h2,h3,by rw[←p.length_eq];exact h4⟩
theorem PInv.later {N:Nat}{S:PoolS}{own:List Int}{G G':Int}(h:PInv N S own G)(hG:G≤G'):PInv N S own G':=
 {h with gens:=fun s hs=>⟨(h.gens s hs).1,by have:=(h.gens s hs).2;omega⟩}
theorem PInv.take {N:Nat}{S:PoolS}{own:List Int}{G:Int}(h:PInv N S own G)(hn:own.length<N)(hG:G<MaxTag)(x:NodeS)(link:Int):
  ∃a S',S.take x link=some (a,S')∧PInv N S' (a :: own) (G+1)∧Keep S S'∧a∉own∧a≠0∧isWordB a=true∧(∃g,S'.at a=some ⟨g,0,link,x⟩)∧(∀o,S.at a=some o→False):=by
 obtain⟨F,hF,hd,he,hl⟩:=h.free
 have hbig:=h.big
 rw[MaxTag] at hG
 cases F with
 |nil=>simp at hl;omega
 |cons i F=>
  obtain⟨h1,h2,h3,y,h4,h5⟩:=hF
  obtain⟨s,hs,hev⟩:=he i (by simp)
  have hsm:s∈S.slots:=List.mem_of_getElem? hs
  have hg:=h.gens s hsm
  have hy:=h5.range (by rw[h.next];omega)
  have hi:i<1048576:=by rw[h.next] at h3;omega
  have hsl:i<S.slots.length:=(List.getElem?_eq_some_iff.1 hs).1
  have hx1:Qo (Za (i:Int) (s.gen+1))=i:=idx_pack (by omega) (by omega) (by omega) (by omega)
  have hx2:tagW (Za (i:Int) (s.gen+1))=s.gen+1:=tag_pack (by omega) (by omega) (by omega) (by omega)
  have hx3:isWordB (Za (i:Int) (s.gen+1))=true:=word_pack (by omega) (by omega) (by omega) (by omega)
  have hno:∀o,S.at (Za (i:Int) (s.gen+1))=some o→False:=by
   intro o ho
   obtain⟨a1,a2,a3,a4⟩:=at_some.1 ho
   rw[hx1,Int.toNat_natCast,hs] at a1
   cases a1
   rw[hx2] at a4
   omega
  have hkeep:Keep S {S with slots:=S.slots.set i ⟨s.gen+1,0,link,x⟩,head:=Za y ((tagW S.head+1) % T40)}:=by
   intro b t hb
   obtain⟨a1,a2,a3,a4⟩:=at_some.1 hb
   refine at_some.2 ⟨?_,a2,a3,a4⟩
   have hne:i≠(Qo b).toNat:=by
    intro e
    rw[←e,hs] at a1
    cases a1
    omega
   show (S.slots.set i _)[(Qo b).toNat]?=some t
   rw[List.getElem?_set_ne hne,a1]
  refine⟨Za i (s.gen+1),{S with slots:=S.slots.set i ⟨s.gen+1,0,link,x⟩,head:=Za y ((tagW S.head+1) % T40)},?_,?_,hkeep,?_,?_,hx3,⟨s.gen+1,?_⟩,hno⟩
  ·unfold PoolS.take
   simp only[h1,Int.toNat_natCast,h4,hs,Option.bind_eq_bind,Option.bind_some]
   rw[if_pos ⟨by omega,hy.1,by rw[T20];exact hy.2,h.word,hg.1,by rw[MaxTag];omega⟩]
  ·have ht:=tag_range S.head
   have ht2:0≤(tagW S.head+1) % T40∧(tagW S.head+1) % T40<1099511627776:=by rw[T40];omega
   refine⟨by simp[h.slots],h.next,h.big,word_pack hy.1 hy.2 ht2.1 ht2.2,h.faults,?_,?_,?_,F,?_,(List.nodup_cons.1 hd).2,?_,?_⟩
   ·intro t ht
    rcases List.mem_or_eq_of_mem_set ht with ht|rfl
    ·have:=h.gens t ht
     omega
    ·dsimp only
     omega
   ·refine List.nodup_cons.2 ⟨fun hm=>?_,h.nodup⟩
    obtain⟨o,ho⟩:=h.alive _ hm
    exact hno o ho
   ·intro b hb
    rcases List.mem_cons.1 hb with rfl|hb
    ·refine⟨⟨s.gen+1,0,link,x⟩,at_some.2 ⟨?_,by omega,by omega,by rw[hx2]⟩⟩
     show (S.slots.set i _)[_]?=_
     rw[hx1,Int.toNat_natCast,List.getElem?_set_self hsl]
    ·obtain⟨o,ho⟩:=h.alive _ hb
     exact⟨o,hkeep _ _ ho⟩
   ·show FreeFrom S.next (Qo (Za y _)) F
    rw[idx_pack hy.1 hy.2 ht2.1 ht2.2]
    exact h5
   ·intro j hj
    obtain⟨t,ht,hte⟩:=he j (List.mem_cons_of_mem _ hj)
    have hne:i≠j:=fun e=>(List.nodup_cons.1 hd).1 (e ▸ hj)
    refine⟨t,?_,hte⟩
    show (S.slots.set i _)[j]?=_
    rw[List.getElem?_set_ne hne,ht]
   ·simp only[List.length_cons] at hl ⊢
    omega
  ·intro hm
   obtain⟨o,ho⟩:=h.alive _ hm
   exact hno o ho
  ·intro e
   rw[e] at hx1
   have:Qo 0=0:=by decide
   omega
  ·refine at_some.2 ⟨?_,by omega,by omega,by rw[hx2]⟩
   show (S.slots.set i _)[_]?=_
   rw[hx1,Int.toNat_natCast,List.getElem?_set_self hsl]
theorem at_inj {S:PoolS}{a b:Int}{s t:SlotS}(ha:S.at a=some s)(hb:S.at b=some t)(hi:Qo a=Qo b):a=b:=by
 obtain⟨a1,a2,a3,a4⟩:=at_some.1 ha
 obtain⟨b1,b2,b3,b4⟩:=at_some.1 hb
 rw[hi,b1] at a1
 cases a1
 exact word_eq a2 b2 hi (by omega)
theorem idx_toNat_inj {a b:Int}(h:(Qo a).toNat=(Qo b).toNat):Qo a=Qo b:=by
 have:=(idx_range a).1;have:=(idx_range b).1
 omega
theorem at_set {S:PoolS}{a:Int}{s s':SlotS}(ha:S.at a=some s)(hg:s'.gen=s.gen):(S.put (Qo a).toNat s').at a=some s'∧∀b,b≠a→(S.put (Qo a).toNat s').at b=S.at b:=by
 obtain⟨a1,a2,a3,a4⟩:=at_some.1 ha
 have hl:=(List.getElem?_eq_some_iff.1 a1).1
 constructor
 ·refine at_some.2 ⟨?_,a2,a3,by rw[hg,a4]⟩
  show (S.slots.set _ _)[_]?=_
  rw[List.getElem?_set_self hl]
 ·intro b hb
  have key:∀t,(S.put (Qo a).toNat s').at b=some t↔S.at b=some t:=by
   intro t
   rw[at_some,at_some]
   show ((S.slots.set (Qo a).toNat s')[(Qo b).toNat]?=some t∧_)↔_
   by_cases e:(Qo a).toNat=(Qo b).toNat
   ·constructor
    ·rintro ⟨b1,b2,b3,b4⟩
     rw[←e,List.getElem?_set_self hl] at b1
     cases b1
     exact absurd (word_eq b2 a2 (idx_toNat_inj e.symm) (by omega)) hb
    ·rintro ⟨b1,b2,b3,b4⟩
     rw[←e,a1] at b1
     cases b1
     exact absurd (word_eq b2 a2 (idx_toNat_inj e.symm) (by omega)) hb
   ·rw[List.getElem?_set_ne e]
  cases hc:S.at b with
  |some t=>exact (key t).2 hc
  |none=>
   cases hd:(S.put (Qo a).toNat s').at b with
   |none=>rfl
   |some t=>rw[(key t).1 hd] at hc;cases hc
theorem PInv.setSlot {N:Nat}{S:PoolS}{own:List Int}{G:Int}(h:PInv N S own G){a:Int}{s s':SlotS}(ha:S.at a=some s)(hg:s'.gen=s.gen):PInv N (S.put (Qo a).toNat s') own G:=by
 obtain⟨F,hF,hd,he,hl⟩:=h.free
 obtain⟨a1,a2,a3,a4⟩:=at_some.1 ha
 obtain⟨c1,c2⟩:=at_set ha hg
 refine⟨by simp[PoolS.put,h.slots],h.next,h.big,h.word,h.faults,?_,h.nodup,?_,F,hF,hd,?_,hl⟩
 ·intro t ht
  rcases List.mem_or_eq_of_mem_set ht with ht|rfl
  ·exact h.gens t ht
  ·rw[hg];exact h.gens s (List.mem_of_getElem? a1)
 ·intro b hb
  by_cases e:b=a
  ·subst e;exact⟨_,c1⟩
  ·rw[c2 b e];exact h.alive b hb
 ·intro j hj
  obtain⟨t,ht,hte⟩:=he j hj
  refine⟨t,?_,hte⟩
  show (S.slots.set _ _)[j]?=_
  have hne:(Qo a).toNat≠j:=by
   rintro rfl
   rw[a1] at ht
   cases ht
   omega
  rw[List.getElem?_set_ne hne,ht]
theorem PInv.give {N:Nat}{S:PoolS}{own:List Int}{G:Int}{a:Int}(h:PInv N S (a :: own) G):
  ∃S',S.give a=some S'∧PInv N S' own (G+1)∧∀b,b≠a→∀t,S.at b=some t→S'.at b=some t:=by
 obtain⟨F,hF,hd,he,hl⟩:=h.free
 obtain⟨s,ha⟩:=h.alive a (by simp)
 obtain⟨a1,a2,a3,a4⟩:=at_some.1 ha
 have hlt:=(List.getElem?_eq_some_iff.1 a1).1
 have hr:=idx_range a
 have hsg:=h.gens s (List.mem_of_getElem? a1)
 have hfi:(Qo a).toNat∉F:=by
  intro hm
  obtain⟨t,ht,hte⟩:=he _ hm
  rw[a1] at ht
  cases ht
  omega
 have ht:=tag_range S.head
 have ht2:0≤(tagW S.head+1) % T40∧(tagW S.head+1) % T40<1099511627776:=by rw[T40];omega
 have hnl:(Qo a).toNat<S.next.length:=by rw[h.next,←h.slots];exact hlt
 have hother:∀b,b≠a→∀t,S.at b=some t→(S.slots.set (Qo a).toNat ⟨s.gen+1,poison,poison,poisoned⟩)[(Qo b).toNat]?=some t:=by
  intro b hb t hbt
  have hne:(Qo a).toNat≠(Qo b).toNat:=fun e=>hb (at_inj hbt ha (idx_toNat_inj e.symm))
  rw[List.getElem?_set_ne hne]
  exact (at_some.1 hbt).1
 refine⟨{S with slots:=S.slots.set (Qo a).toNat ⟨s.gen+1,poison,poison,poisoned⟩,next:=S.next.set (Qo a).toNat (Qo S.head),head:=Za (Qo a) ((tagW S.head+1) % T40)},?_,?_,?_⟩
 ·unfold PoolS.give
  simp only[ha,Option.bind_eq_bind,Option.bind_some]
  unfold PoolS.push PoolS.put
  rw[if_pos]
  exact⟨a2,by show Qo a<((S.next.length:Nat):Int);omega,by rw[T20];omega,h.word⟩
 ·refine⟨by simp[h.slots],by simp[h.next],h.big,word_pack hr.1 hr.2 ht2.1 ht2.2,h.faults,?_,(List.nodup_cons.1 h.nodup).2,?_,(Qo a).toNat :: F,?_,List.nodup_cons.2 ⟨hfi,hd⟩,?_,?_⟩
  ·intro t ht
   rcases List.mem_or_eq_of_mem_set ht with ht|rfl
   ·have:=h.gens t ht
    omega
   ·dsimp only
    omega
  ·intro b hb
   obtain⟨t,hbt⟩:=h.alive b (List.mem_cons_of_mem _ hb)
   have hne:b≠a:=fun e=>(List.nodup_cons.1 h.nodup).1 (e ▸ hb)
   refine⟨t,at_some.2 ⟨hother b hne t hbt,(at_some.1 hbt).2⟩⟩
  ·refine⟨?_,by omega,by simpa using hnl,Qo S.head,?_,hF.set _ hfi⟩
   ·show Qo (Za _ _)=_
    rw[idx_pack hr.1 hr.2 ht2.1 ht2.2]
    omega
   ·show (S.next.set _ _)[_]?=_
    rw[List.getElem?_set_self hnl]
  ·intro j hj
   rcases List.mem_cons.1 hj with rfl|hj
   ·refine⟨⟨s.gen+1,poison,poison,poisoned⟩,?_,by dsimp only;omega⟩
    show (S.slots.set _ _)[_]?=_
    rw[List.getElem?_set_self hlt]
   ·obtain⟨t,ht,hte⟩:=he j hj
    refine⟨t,?_,hte⟩
    show (S.slots.set _ _)[j]?=_
    have hne:(Qo a).toNat≠j:=fun e=>hfi (e ▸ hj)
    rw[List.getElem?_set_ne hne,ht]
  ·simp only[List.length_cons] at hl ⊢
   omega
 ·intro b hb t hbt
  exact at_some.2 ⟨hother b hb t hbt,(at_some.1 hbt).2⟩
theorem FreeFrom.range_new (n:Nat)(next:List Int)(hn:next.length=n+1)(hx:∀i,i≤n→next[i]?=some (if 1≤i∧i<n then (i:Int)+1 else 0)):
  ∀k i,i+k=n+1→1≤i→FreeFrom next (if i≤n then (i:Int) else 0) (List.range' i k)
 |0,i,h,_=>by
  rw[if_neg (by omega)]
  rfl
 |k+1,i,h,hi=>by
  rw[if_pos (by omega),List.range'_succ]
  refine⟨rfl,hi,by omega,_,hx i (by omega),?_⟩
  have:=FreeFrom.range_new n next hn hx k (i+1) (by omega) (by omega)
  by_cases e:i<n
  ·rw[if_pos ⟨hi,e⟩]
   rw[if_pos (by omega)] at this
   exact_mod_cast this
  ·rw[if_neg (by omega)]
   rw[if_neg (by omega)] at this
   exact this
theorem PInv.new (n:Nat)(h1:1≤n)(h2:n<1048576):PInv n (PoolS.new n) [] 0:=by
 have hx:∀i,i≤n→(PoolS.new n).next[i]?=some (if 1≤i∧i<n then (i:Int)+1 else 0):=by
  intro i hi
  show ((List.range (n+1)).map _)[i]?=_
  rw[List.getElem?_map,List.getElem?_range (by omega)]
  rfl
 have hl:(PoolS.new n).next.length=n+1:=by simp[PoolS.new]
 refine⟨by simp[PoolS.new],hl,h2,word_pack (by omega) (by omega) (by omega) (by omega),rfl,?_,List.nodup_nil,(fun _ h=>by cases h),List.range' 1 n,?_,List.nodup_range',?_,by simp⟩
 ·intro s hs
  have:=List.eq_of_mem_replicate hs
  subst this
  simp
 ·show FreeFrom _ (Qo (Za 1 0)) _
  rw[idx_pack (by omega) (by omega) (by omega) (by omega)]
  have:=FreeFrom.range_new n _ hl hx n 1 (by omega) (by omega)
  rw[if_pos h1] at this
  exact this
 ·intro i hi
  rw[List.mem_range'_1] at hi
  refine⟨⟨0,0,0,⟨0,0,0,0⟩⟩,?_,rfl⟩
  show (List.replicate _ _)[i]?=_
  rw[List.getElem?_replicate,if_pos (by omega)]
end
end Go.Proofs.YteeefedoffplmaaGreat
namespace Go.Proofs.YteeefedoffplmaaGreat
open Lib Go.Proofs.Tryz
theorem pow2_pos (n:Nat):1≤Qi n:=by
 have:=Nat.two_pow_pos n
 unfold Qi
 omega
theorem pow2_succ (n:Nat):Qi (n+1)=2*Qi n:=by
 unfold Qi
 rw[Nat.pow_succ]
 omega
theorem pow2_le {a b:Nat}(h:a≤b):Qi a≤Qi b:=by
 have:=Nat.pow_le_pow_right (n:=2) (by omega) h
 unfold Qi
 omega
theorem pow2_32:Qi 32=4294967296:=rfl
inductive Tr where
 |leaf (h k v:Int)
 |node (h:Int) (p:Nat) (f c:Int) (l r:Tr)
namespace Tr
def h:Tr→Int
 |.leaf a _ _=>a
 |.node a _ _ _ _ _=>a
def shape:Tr→Shape
 |.leaf _ k v=>.leaf k v
 |.node _ p f c l r=>.inner p f l.h r.h c
def cell:Tr→NodeS
 |.leaf _ k v=>⟨0,k,v,1⟩
 |.node _ p f c l r=>⟨f*64+p+1,l.h,r.h,c⟩
def hs:Tr→List Int
 |.leaf a _ _=>[a]
 |.node a _ _ _ l r=>a :: (l.hs ++ r.hs)
def leaves:Tr→Nat
 |.leaf _ _ _=>1
 |.node _ _ _ _ l r=>l.leaves+r.leaves
def find (k:Int):Tr→Option Int
 |.leaf _ k' v=>if k'=k then some v else none
 |.node _ p f _ l r=>if f≤k∧k<f+Qi (p+1) then (if f+Qi p≤k then r.find k else l.find k) else none
def Ok:Int→Nat→Tr→Prop
 |L,d,.leaf _ k _=>L≤k∧k<L+Qi d
 |L,d,.node _ p f c l r=>p<d∧f % Qi (p+1)=0∧L≤f∧f+Qi (p+1)≤L+Qi d∧l.Ok f p∧r.Ok (f+Qi p) p∧c=((l.leaves+r.leaves:Nat):Int)
def In (S:PoolS):Tr→Prop
 |.leaf a k v=>S.read a=some ⟨0,k,v,1⟩
 |.node a p f c l r=>S.read a=some ⟨f*64+p+1,l.h,r.h,c⟩∧l.In S∧r.In S
theorem h_mem (T:Tr):T.h∈T.hs:=by
 cases T <;> simp[h,hs]
theorem In.read {S:PoolS}{T:Tr}(h:T.In S):S.read T.h=some T.cell:=by
 cases T with
 |leaf a k v=>exact h
 |node a p f c l r=>exact h.1
theorem In.of {S S':PoolS}:∀{T:Tr},T.In S→(∀a∈T.hs,∀n,S.read a=some n→S'.read a=some n)→T.In S'
 |.leaf a k v,h,e=>e a (by simp[hs]) _ h
 |.node a p f c l r,h,e=>⟨e a (by simp[hs]) _ h.1,h.2.1.of fun b hb=>e b (by simp[hs,hb]),h.2.2.of fun b hb=>e b (by simp[hs,hb])⟩
theorem In.keep {S S':PoolS}{T:Tr}(h:T.In S)(k:Keep S S'):T.In S':=h.of fun _ _ _ e=>k.read e
theorem In.alive {S:PoolS}:∀{T:Tr},T.In S→∀a∈T.hs,∃s,S.at a=some s
 |.leaf a k v,h,b,hb=>by
  obtain rfl:=List.mem_singleton.1 hb
  obtain⟨s,hs,_⟩:=Ze.1 h
  exact⟨s,hs⟩
 |.node a p f c l r,h,b,hb=>by
  rcases List.mem_cons.1 hb with rfl|hb
  ·obtain⟨s,hs,_⟩:=Ze.1 h.1
   exact⟨s,hs⟩
  ·rcases List.mem_append.1 hb with hb|hb
   ·exact h.2.1.alive b hb
   ·exact h.2.2.alive b hb
theorem leaves_pos:∀T:Tr,1≤T.leaves
 |.leaf _ _ _=>Nat.le_refl 1
 |.node _ _ _ _ l r=>by
  have:=l.leaves_pos
  unfold leaves
  omega
theorem hs_len:∀T:Tr,T.hs.length+1=2*T.leaves
 |.leaf _ _ _=>rfl
 |.node _ _ _ _ l r=>by
  have:=l.hs_len;have:=r.hs_len
  simp only[hs,leaves,List.length_cons,List.length_append]
  omega
theorem find_out {k:Int}:∀{T:Tr} {L:Int} {d:Nat},T.Ok L d→(k<L∨L+Qi d≤k)→T.find k=none
 |.leaf a k' v,L,d,h,hk=>by
  have:=h.1;have:=h.2
  unfold find
  rw[if_neg (by omega)]
 |.node a p f c l r,L,d,h,hk=>by
  have h1:=h.2.2.1;have h2:=h.2.2.2.1
  unfold find
  rw[if_neg (by omega)]
theorem shape_of {S:PoolS}{T:Tr}{L:Int}{d:Nat}(hi:T.In S)(ho:T.Ok L d)(h0:0≤L)(h1:L+Qi d≤4294967296)(hd:d≤32):
  S.shape T.h L (L+Qi d-1)=some T.shape:=by
 unfold PoolS.shape
 rw[hi.read]
 cases T with
 |leaf a k v=>
  have a1:=ho.1;have a2:=ho.2
  have hk:Qt k=true:=by
   unfold Qt K32
   simp only[Bool.and_eq_true,decide_eq_true_eq]
   omega
  simp only[cell,shaped,Option.bind_eq_bind,Option.bind_some,hk,Shape.lo,Shape.hi,shape]
  have:L≤k∧k≤L+Qi d-1:=by omega
  simp[this]
 |node a p f c l r=>
  obtain⟨a1,a2,a3,a4,_,_,_⟩:=ho
  have hp:=pow2_pos (p+1)
  have e1:(f*64+p+1-1) / 64=f:=by omega
  have e2:((f*64+p+1-1) % 64).toNat=p:=by omega
  have hf:Qt f=true:=by
   unfold Qt K32
   simp only[Bool.and_eq_true,decide_eq_true_eq]
   omega
  simp only[cell,shaped,Option.bind_eq_bind,Option.bind_some,e1,e2]
  rw[if_neg (by omega),if_neg (by omega),if_pos ⟨by omega,hf,a2⟩]
  have:L≤f∧f+Qi (p+1)-1≤L+Qi d-1:=by omega
  simp[Shape.lo,Shape.hi,shape,this]
end Tr
structure Sp where
 h:Int
 p:Nat
 f:Int
 c:Int
 right:Bool
 sib:Tr
def Sp.put (s:Sp)(t:Tr):Tr:=if s.right then .node s.h s.p s.f s.c s.sib t else .node s.h s.p s.f s.c t s.sib
def Sp.step (s:Sp)(t:Tr):StepS:=⟨s.p,s.f,if s.right then s.sib.h else t.h,if s.right then t.h else s.sib.h,s.c,s.h,s.right⟩
def plug:List Sp→Tr→Tr
 |[],t=>t
 |s :: l,t=>plug l (s.put t)
def steps:List Sp→Tr→List StepS
 |[],_=>[]
 |s :: l,t=>s.step t :: steps l (s.put t)
def Tr.split (k:Int):Tr→List Sp→List Sp × Tr
 |.leaf a k' v,w=>(w,.leaf a k' v)
 |.node a p f c l r,w=>if f≤k∧k<f+Qi (p+1) then (if f+Qi p≤k then r.split k (⟨a,p,f,c,true,l⟩ :: w) else l.split k (⟨a,p,f,c,false,r⟩ :: w)) else (w,.node a p f c l r)
theorem Sp.put_hs (s:Sp)(t:Tr):(s.put t).hs.Perm (t.hs ++ (s.h :: s.sib.hs)):=by
 unfold Sp.put
 split <;>
 ·simp only[Tr.hs]
  refine List.perm_iff_count.2 fun x=>?_
  simp only[List.count_append,List.count_cons]
  omega
theorem Sp.put_leaves (s:Sp)(t:Tr):(s.put t).leaves=t.leaves+s.sib.leaves:=by
 unfold Sp.put
 split <;> simp only[Tr.leaves]
 omega
theorem Sp.put_h (s:Sp)(t:Tr):(s.put t).h=s.h:=by
 unfold Sp.put
 split <;> rfl
def sibs (w:List Sp):List Int:=w.flatMap fun s=>s.sib.hs
theorem plug_hs:∀(w:List Sp) (t:Tr),(plug w t).hs.Perm (t.hs ++ (w.map Sp.h ++ sibs w))
 |[],t=>by simp[plug,sibs]
 |s :: l,t=>by
  have h1:=plug_hs l (s.put t)
  have h2:=s.put_hs t
  refine List.perm_iff_count.2 fun x=>?_
  have c1:=List.perm_iff_count.1 h1 x
  have c2:=List.perm_iff_count.1 h2 x
  simp only[plug,sibs,List.map_cons,List.flatMap_cons,List.count_append,List.count_cons] at c1 c2 ⊢
  omega
def Along (k:Int):List Sp→Prop
 |[]=>True
 |s :: l=>s.f≤k∧k<s.f+Qi (s.p+1)∧(s.right=true↔s.f+Qi s.p≤k)∧Along k l
def Way:List Sp→Int→Nat→Int→Prop
 |[],L,d,_=>L=0∧d=32
 |s :: l,L,d,n=>d=s.p∧s.f % Qi (s.p+1)=0∧L=(if s.right then s.f+Qi s.p else s.f)∧s.sib.Ok (if s.right then s.f else s.f+Qi s.p) s.p∧s.c=n+s.sib.leaves ∧
  ∃L' d',s.p<d'∧L'≤s.f∧s.f+Qi (s.p+1)≤L'+Qi d'∧Way l L' d' (n+s.sib.leaves)
theorem Way.plug:∀{w:List Sp} {L:Int} {d:Nat} {t:Tr},Way w L d t.leaves→t.Ok L d→(plug w t).Ok 0 32
 |[],L,d,t,h,ht=>by
  obtain⟨rfl,rfl⟩:=h
  exact ht
 |s :: l,L,d,t,h,ht=>by
  obtain⟨h1,h2,h3,h4,h5,L',d',h6,h7,h8,h9⟩:=h
  refine Way.plug (w:=l) (L:=L') (d:=d') (t:=s.put t) ?_ ?_
  ·rw[s.put_leaves]
   exact_mod_cast h9
  ·unfold Sp.put
   subst h1 h3
   split
   ·next hr=>
    rw[if_pos hr] at ht h4
    exact⟨h6,h2,h7,h8,h4,ht,by rw[h5];omega⟩
   ·next hr=>
    rw[if_neg hr] at ht h4
    exact⟨h6,h2,h7,h8,ht,h4,by rw[h5];omega⟩
theorem Way.low:∀{w:List Sp} {L:Int} {d:Nat} {n:Int},Way w L d n→0≤L∧L+Qi d≤4294967296∧d≤32∧L % Qi d=0
 |[],L,d,n,h=>by
  obtain⟨rfl,rfl⟩:=h
  decide
 |s :: l,L,d,n,h=>by
  obtain⟨rfl,h2,h3,h4,h5,L',d',h6,h7,h8,h9⟩:=h
  have ih:=h9.low
  have hp:=pow2_succ s.p
  have hq:=pow2_pos s.p
  have hm:s.f % Qi s.p=0:=by
   have:Qi s.p ∣ s.f:=Int.dvd_trans ⟨2,by rw[hp];omega⟩ (Int.dvd_of_emod_eq_zero h2)
   exact Int.emod_eq_zero_of_dvd this
  subst h3
  split
  ·refine⟨by omega,by omega,by omega,?_⟩
   rw[Int.add_emod_right,hm]
  ·refine⟨by omega,by omega,by omega,hm⟩
structure Split (k:Int)(T:Tr)(w:List Sp)(u:Tr)(L:Int)(d:Nat):Prop where
 is:plug w u=T
 along:Along k w
 way:Way w L d u.leaves
 ok:u.Ok L d
 lo:L≤k
 hi:k<L+Qi d
 ends:∀a p f c l r,u=.node a p f c l r→¬(f≤k∧k<f+Qi (p+1))
 len:w.length+d≤32
theorem Tr.split_is (k:Int):∀(t T:Tr) (w:List Sp) (L:Int) (d:Nat),Tr.Ok L d t→Along k w→Way w L d t.leaves→L≤k→k<L+Qi d→w.length+d≤32→_root_.Go.Proofs.YteeefedoffplmaaGreat.plug w t=T →
  ∃L' d',Split k T (t.split k w).1 (t.split k w).2 L' d'
 |.leaf a k' v,T,w,L,d,ho,ha,hw,h1,h2,hl,hT=>⟨L,d,hT,ha,hw,ho,h1,h2,(fun _ _ _ _ _ _ e=>by cases e),hl⟩
 |.node a p f c l r,T,w,L,d,ho,ha,hw,h1,h2,hl,hT=>by
  unfold Tr.split
  obtain⟨o1,o2,o3,o4,o5,o6,o7⟩:=ho
  have hp:=pow2_succ p
  split
  ·next hin=>
   split
   ·next hh=>
    refine Tr.split_is k r T _ (f+Qi p) p o6 ⟨hin.1,hin.2,by simp[hh],ha⟩ ?_ hh (by omega) (by simp only[List.length_cons];omega) (by simpa [_root_.Go.Proofs.YteeefedoffplmaaGreat.plug,Sp.put] using hT)
    refine⟨rfl,o2,by simp,by simpa using o5,by rw[o7];dsimp only;omega,L,d,o1,o3,o4,?_⟩
    have:((Tr.node a p f c l r).leaves:Int)=r.leaves+l.leaves:=by simp only[Tr.leaves];omega
    rw[←this]
    exact hw
   ·next hh=>
    refine Tr.split_is k l T _ f p o5 ⟨hin.1,hin.2,by simp;omega,ha⟩ ?_ hin.1 (by omega) (by simp only[List.length_cons];omega) (by simpa [_root_.Go.Proofs.YteeefedoffplmaaGreat.plug,Sp.put] using hT)
    refine⟨rfl,o2,by simp,by simpa using o6,by rw[o7];dsimp only;omega,L,d,o1,o3,o4,?_⟩
    have:((Tr.node a p f c l r).leaves:Int)=l.leaves+r.leaves:=by simp only[Tr.leaves];omega
    rw[←this]
    exact hw
  ·next hin=>
   exact⟨L,d,hT,ha,hw,⟨o1,o2,o3,o4,o5,o6,o7⟩,h1,h2,(fun a' p' f' c' l' r' e=>by cases e;exact hin),hl⟩
def Tr.depth:Tr→Nat
 |.leaf _ _ _=>0
 |.node _ _ _ _ l r=>1+max l.depth r.depth
theorem Tr.Ok.depth_le:∀{T:Tr} {L:Int} {d:Nat},T.Ok L d→T.depth≤d
 |.leaf _ _ _,_,_,_=>Nat.zero_le _
 |.node a p f c l r,L,d,h=>by
  have h1:=h.2.2.2.2.1.depth_le
  have h2:=h.2.2.2.2.2.1.depth_le
  have h3:=h.1
  unfold depth
  omega
theorem down_is {S:PoolS}(k:Int):∀(t:Tr) (w:List Sp) (n:Nat) (L:Int) (d:Nat),t.In S→t.Ok L d→0≤L→L+Qi d≤4294967296→d≤32→t.depth<n →
  S.downFrom k n (steps w t).reverse t.h t.shape=some ((steps (t.split k w).1 (t.split k w).2).reverse,(t.split k w).2.h,(t.split k w).2.shape)
 |.leaf a k' v,w,0,L,d,hi,ho,h0,h1,hd,hn=>by omega
 |.leaf a k' v,w,n+1,L,d,hi,ho,h0,h1,hd,hn=>rfl
 |.node a p f c l r,w,0,L,d,hi,ho,h0,h1,hd,hn=>by omega
 |.node a p f c l r,w,n+1,L,d,hi,ho,h0,h1,hd,hn=>by
  obtain⟨o1,o2,o3,o4,o5,o6,o7⟩:=ho
  have hp:=pow2_succ p
  have hq:=pow2_pos p
  have hdp:max l.depth r.depth<n:=by unfold Tr.depth at hn;omega
  unfold Tr.split PoolS.downFrom
  show (if f≤k∧k≤f+Qi (p+1)-1 then (if f+Qi p≤k then _ else _) else _)=_
  by_cases hin:f≤k∧k<f+Qi (p+1)
  ·rw[if_pos (show f≤k∧k≤f+Qi (p+1)-1 from ⟨hin.1,by omega⟩),if_pos hin]
   by_cases hh:f+Qi p≤k
   ·rw[if_pos hh,if_pos hh]
    have e1:S.shape r.h (f+Qi p) (f+Qi (p+1)-1)=some r.shape:=by
     have:=Tr.shape_of hi.2.2 o6 (by omega) (by omega) (by omega)
     rw[show f+Qi p+Qi p-1=f+Qi (p+1)-1 by omega] at this
     exact this
    rw[show (Tr.node a p f c l r).shape.hi=f+Qi (p+1)-1 from rfl,e1]
    have:=down_is k r (⟨a,p,f,c,true,l⟩ :: w) n (f+Qi p) p hi.2.2 o6 (by omega) (by omega) (by omega) (by omega)
    rw[←this]
    simp only[steps,List.reverse_cons,Option.bind_eq_bind,Option.bind_some]
    rfl
   ·rw[if_neg hh,if_neg hh]
    have e1:S.shape l.h f (f+Qi p-1)=some l.shape:=Tr.shape_of hi.2.1 o5 (by omega) (by omega) (by omega)
    rw[e1]
    have:=down_is k l (⟨a,p,f,c,false,r⟩ :: w) n f p hi.2.1 o5 (by omega) (by omega) (by omega) (by omega)
    rw[←this]
    simp only[steps,List.reverse_cons,Option.bind_eq_bind,Option.bind_some]
    rfl
  ·rw[if_neg (show ¬(f≤k∧k≤f+Qi (p+1)-1) by omega),if_neg hin]
theorem depth_32 {T:Tr}(h:T.Ok 0 32):T.depth<40:=by
 have:=h.depth_le
 omega
theorem down_root {S:PoolS}{T:Tr}(k:Int)(hi:T.In S)(ho:T.Ok 0 32)(h0:0≤k)(h1:k≤4294967295):
  ∃w u L d,Split k T w u L d∧S.down T.h k=some ((steps w u).reverse,u.h,u.shape):=by
 obtain⟨L,d,hs⟩:=Tr.split_is k T T [] 0 32 ho trivial ⟨rfl,rfl⟩ h0 (by rw[pow2_32];omega) (by simp) rfl
 refine⟨_,_,L,d,hs,?_⟩
 unfold PoolS.down
 have h32:(0:Int)+Qi 32≤4294967296:=by rw[pow2_32];omega
 have:=Tr.shape_of hi ho (by omega) h32 (by omega)
 rw[show (0:Int)+Qi 32-1=K32-1 by rw[pow2_32,K32];omega] at this
 rw[this,Option.bind_eq_bind,Option.bind_some]
 have h:=down_is k T [] 40 0 32 hi ho (by omega) h32 (by omega) (depth_32 ho)
 generalize (40:Nat)=n at h ⊢
 exact h
theorem Sp.put_find (s:Sp)(t:Tr)(k:Int):(s.put t).find k=if s.f≤k∧k<s.f+Qi (s.p+1) then (if s.f+Qi s.p≤k then (if s.right then t.find k else s.sib.find k) else (if s.right then s.sib.find k else t.find k)) else none:=by
 unfold Sp.put
 split <;> rfl
theorem plug_find {k:Int}:∀{w:List Sp} {t:Tr},Along k w→(plug w t).find k=t.find k
 |[],t,_=>rfl
 |s :: l,t,h=>by
  obtain⟨h1,h2,h3,h4⟩:=h
  show (plug l (s.put t)).find k=_
  rw[plug_find h4,s.put_find,if_pos ⟨h1,h2⟩]
  by_cases hr:s.right=true
  ·rw[if_pos (h3.1 hr),if_pos hr]
  ·rw[if_neg (fun e=>hr (h3.2 e)),if_neg hr]
def Tr.ends (k:Int):Tr→Option Int
 |.leaf _ k' v=>if k'=k then some v else none
 |.node ..=>none
theorem Split.find {k:Int}{T:Tr}{w:List Sp}{u:Tr}{L:Int}{d:Nat}(h:Split k T w u L d):T.find k=Tr.ends k u:=by
 rw[←h.is,plug_find h.along]
 cases u with
 |leaf a k' v=>rfl
 |node a p f c l r=>exact if_neg (h.ends _ _ _ _ _ _ rfl)
theorem find_root {S:PoolS}{T:Tr}(k:Int)(hi:T.In S)(ho:T.Ok 0 32)(h0:0≤k)(h1:k≤4294967295)(hn:T.h≠0):S.find T.h k=some ((T.find k).getD 0,(T.find k).isSome):=by
 obtain⟨w,u,L,d,hs,hd⟩:=down_root k hi ho h0 h1
 have hf:=hs.find
 unfold PoolS.find
 rw[if_neg hn,hd]
 cases u with
 |leaf a k' v=>
  simp only[Tr.shape,Option.bind_eq_bind,Option.bind_some]
  rw[hf]
  unfold Tr.ends
  dsimp only
  split <;> rfl
 |node a p f c l r=>
  simp only[Tr.shape,Option.bind_eq_bind,Option.bind_some]
  rw[hf]
  rfl
def again (more:Int):List Sp→List Int→List Sp
 |s :: l,a :: xs''=>{s with h:=a,c:=s.c+more} :: again more l xs''
 |_,_=>[]
theorem again_h (more:Int):∀(w:List Sp) (xs'':List Int),w.length=xs''.length→(again more w xs'').map Sp.h=xs''
 |[],[],_=>rfl
 |[],_ :: _,h=>by cases h
 |_ :: _,[],h=>by cases h
 |s :: l,a :: xs'',h=>by
  simp only[again,List.map_cons]
  rw[again_h more l xs'' (by simpa using h)]
theorem again_sibs (more:Int):∀(w:List Sp) (xs'':List Int),w.length=xs''.length→sibs (again more w xs'')=sibs w
 |[],[],_=>rfl
 |[],_ :: _,h=>by cases h
 |_ :: _,[],h=>by cases h
 |s :: l,a :: xs'',h=>by
  have:=again_sibs more l xs'' (by simpa using h)
  simp only[sibs] at this
  simp only[again,sibs,List.flatMap_cons,this]
theorem again_way (more:Int):∀(w:List Sp) (xs'':List Int) (L:Int) (d:Nat) (n:Int),w.length=xs''.length→Way w L d n→Way (again more w xs'') L d (n+more)
 |[],[],_,_,_,_,hw=>hw
 |[],_ :: _,_,_,_,h,_=>by cases h
 |_ :: _,[],_,_,_,h,_=>by cases h
 |s :: l,a :: xs'',L,d,n,h,hw=>by
  obtain⟨h1,h2,h3,h4,h5,L',d',h6,h7,h8,h9⟩:=hw
  refine⟨h1,h2,h3,h4,?_,L',d',h6,h7,h8,?_⟩
  ·show s.c+more=_
   dsimp only
   omega
  ·have:=again_way more l xs'' L' d' _ (by simpa using h) h9
   rw[show n+more+(s.sib.leaves:Int)=n+s.sib.leaves+more by omega]
   exact this
theorem again_find {k:Int}{X:Option Int}(more:Int):∀(w:List Sp) (xs'':List Int) (t t':Tr),w.length=xs''.length→Along k w→(∀k',t'.find k'=if k'=k then X else t.find k')→∀k',(plug (again more w xs'') t').find k'=if k'=k then X else (plug w t).find k'
 |[],[],t,t',_,_,h=>h
 |[],_ :: _,_,_,h,_,_=>by cases h
 |_ :: _,[],_,_,h,_,_=>by cases h
 |s :: l,a :: xs'',t,t',h,ha,hf=>by
  obtain⟨h1,h2,h3,h4⟩:=ha
  refine again_find more l xs'' (s.put t) _ (by simpa using h) h4 fun k'=>?_
  rw[Sp.put_find,Sp.put_find]
  dsimp only
  by_cases e:k'=k
  ·subst e
   rw[if_pos rfl,if_pos ⟨h1,h2⟩]
   by_cases hr:s.right=true
   ·rw[if_pos (h3.1 hr),if_pos hr,hf,if_pos rfl]
   ·rw[if_neg (fun e=>hr (h3.2 e)),if_neg hr,hf,if_pos rfl]
  ·rw[if_neg e]
   have:=hf k'
   rw[if_neg e] at this
   rw[this]
structure Mk (N:Nat)(S S':PoolS)(own:List Int)(G:Int)(new:List Int):Prop where
 inv:PInv N S' (new ++ own) (G+new.length)
 keep:Keep S S'
 fresh:∀a∈new,∀o,S.at a=some o→False
 nz:∀a∈new,a≠0
theorem Mk.none {N:Nat}{S:PoolS}{own:List Int}{G:Int}(h:PInv N S own G):Mk N S S own G []:=
 ⟨by simpa using h,Keep.refl S,(fun _ h=>by cases h),(fun _ h=>by cases h)⟩
theorem Mk.trans {N:Nat}{A B C:PoolS}{own l m:List Int}{G:Int}(h:Mk N A B own G l)(k:Mk N B C (l ++ own) (G+l.length) m):Mk N A C own G (l ++ m):=by
 refine⟨?_,h.keep.trans k.keep,?_,?_⟩
 ·have e:G+(l.length:Int)+m.length=G+((l ++ m).length:Nat):=by
   simp only[List.length_append]
   omega
  rw[←e]
  refine k.inv.perm (List.perm_iff_count.2 fun x=>?_)
  simp only[List.count_append]
  omega
 ·intro a ha o ho
  rcases List.mem_append.1 ha with ha|ha
  ·exact h.fresh a ha o ho
  ·exact k.fresh a ha o (h.keep _ _ ho)
 ·intro a ha
  rcases List.mem_append.1 ha with ha|ha
  ·exact h.nz a ha
  ·exact k.nz a ha
theorem makes_is {N:Nat}{S:PoolS}{own:List Int}{G:Int}(h:PInv N S own G)(hn:own.length<N)(hG:G<MaxTag)(x:NodeS)(m:EditS):
  ∃a S',makes x (m,S)=some ({m with root:=a,made:=m.made ++ [a]},S')∧Mk N S S' own G [a]∧S'.read a=some x:=by
 obtain⟨a,S',h1,h2,h3,h4,h5,h6,⟨g,h7⟩,h8⟩:=h.take hn hG x 0
 refine⟨a,S',?_,⟨by simpa using h2,h3,?_,?_⟩,Ze.2 ⟨_,h7,rfl⟩⟩
 ·show (do let __discr ←S.take x 0;_)=_
  rw[h1]
  rfl
 ·intro b hb
  obtain rfl:=List.mem_singleton.1 hb
  exact h8
 ·intro b hb
  obtain rfl:=List.mem_singleton.1 hb
  exact h5
theorem upwards_is {N:Nat}(more:Int):∀(w:List Sp) (u t:Tr) (m:EditS) (S:PoolS) (own:List Int) (G:Int),PInv N S own G→own.length+w.length≤N→G+w.length≤MaxTag →
  (∀s∈w,s.sib.In S)→t.In S→m.root=t.h →
  ∃xs'' S',xs''.length=w.length∧Zl more (steps w u) (m,S)=some ({m with root:=(plug (again more w xs'') t).h,gone:=m.gone ++ w.map Sp.h,made:=m.made ++ xs''},S')∧Mk N S S' own G xs''∧(plug (again more w xs'') t).In S'
 |[],u,t,m,S,own,G,h,hn,hG,hs,ht,hm=>by
  refine⟨[],S,rfl,?_,Mk.none h,ht⟩
  simp only[steps,Zl,again,plug,List.map_nil,List.append_nil]
  rw[←hm]
 |s :: l,u,t,m,S,own,G,h,hn,hG,hs,ht,hm=>by
  simp only[List.length_cons] at hn hG
  obtain⟨a,S1,e1,k1,r1⟩:=makes_is h (by omega) (by omega) ⟨s.f*64+s.p+1,if s.right then s.sib.h else t.h,if s.right then t.h else s.sib.h,s.c+more⟩ m
  have ht1:({s with h:=a,c:=s.c+more}:Sp).put t |>.In S1:=by
   unfold Sp.put
   dsimp only
   by_cases hr:s.right=true
   ·rw[if_pos hr]
    rw[if_pos hr,if_pos hr] at r1
    exact⟨r1,(hs s (by simp)).keep k1.keep,ht.keep k1.keep⟩
   ·rw[if_neg hr]
    rw[if_neg hr,if_neg hr] at r1
    exact⟨r1,ht.keep k1.keep,(hs s (by simp)).keep k1.keep⟩
  obtain⟨xs'',S2,e2,e3,k2,r2⟩:=upwards_is more l (s.put u) _ {m with root:=a,gone:=m.gone ++ [s.h],made:=m.made ++ [a]} S1 (a :: own) (G+1) (by simpa using k1.inv) (by simp only[List.length_cons];omega) (by omega)
   (fun x hx=>(hs x (by simp[hx])).keep k1.keep) ht1 (by rw[Sp.put_h])
  refine⟨a :: xs'',S2,by simp[e2],?_,?_,r2⟩
  ·unfold steps Zl mkFork
   have e4:(if (s.step u).isRight then (s.step u).left else m.root)=if s.right then s.sib.h else t.h:=by
    unfold Sp.step
    dsimp only
    by_cases hr:s.right=true
    ·rw[if_pos hr,if_pos hr,if_pos hr]
    ·rw[if_neg hr,if_neg hr,hm]
   have e5:(if (s.step u).isRight then m.root else (s.step u).right)=if s.right then t.h else s.sib.h:=by
    unfold Sp.step
    dsimp only
    by_cases hr:s.right=true
    ·rw[if_pos hr,if_pos hr,hm]
    ·rw[if_neg hr,if_neg hr,if_neg hr]
   rw[e4,e5]
   show (makes ⟨s.f*64+s.p+1,_,_,s.c+more⟩ (m,S)).bind _=_
   rw[e1,Option.bind_some]
   dsimp only
   rw[show (s.step u).h=s.h from rfl,e3]
   simp only[again,plug,List.map_cons,List.append_assoc,List.singleton_append]
  ·have:=k1.trans (m:=xs'') (by simpa using k2)
   simpa using this
end Go.Proofs.YteeefedoffplmaaGreat
namespace Go.Proofs.YteeefedoffplmaaGreat
open Go.RowKit Lib Go.Proofs.Tryz
end Go.Proofs.YteeefedoffplmaaGreat
