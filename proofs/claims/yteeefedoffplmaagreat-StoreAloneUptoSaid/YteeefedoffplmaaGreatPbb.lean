/- StoreAlone, part Pbb: MadeK, LawG, Board1. -/
import Derived.Test.YteeefedoffplmaaGreatPba
import Derived.Test.YteeefedoffplmaaGreatPao
import Derived.Test.YteeefedoffplmaaGreatPad
import Derived.Test.YteeefedoffplmaaGreatPaq
import Derived.Test.YteeefedoffplmaaGreatPaw
import Derived.BigRegion
import Derived.Test.YteeefedoffplmaaGreatPat
import Derived.Lib.Builder
import Derived.LaidEql
set_option linter.unusedSimpArgs false
set_option linter.unusedVariables false
set_option maxRecDepth 100000
set_option maxHeartbeats 51200000
namespace Go.Proofs.YteeefedoffplmaaGreat
open Go.RowKit Lib Go.Proofs.Tryz
theorem own_growK {w wr wa w8:World}{e s n:Nat}{v:Value}{xs:List Value}(h:wr.ownsRow w.heap.size e s v n xs)(ho:Only [] w wr)(ha:Only [] wr wa)(hg:wa.grownBy w8 v.ownBlock):Only [] w w8:=by
 refine (((ho.trans ha).mono (Y:=v.ownBlock.toList) (by simp)).grown hg (fun k hk=>.inr (by rw[hk];simp))).fresh (fun k hk hl=>?_)
 have:=(h.lt k (by simpa using hk)).1
 omega
theorem getLoad (w:World)(Y:StoreL)(hf:Fixed w Y):Calls prog 89 #[ptr Y.sb] w fun e w'=>e=.returned (ptr Y.ld)∧w'=w:=by
 obtain⟨A,c,hsb,_⟩:=hf.sb
 have c0:=hsb.cell (i:=3) rfl
 unfold ptr at *
 clear hf hsb
 go_enter func89,ntmps89
 go_wp2_with fail
 go_ret
 exact⟨rfl,rfl⟩
theorem getFaults (w:World)(L:PoolL)(S:PoolS)(hp:PoolAt w L S):Calls prog 17 #[ptr L.pb] w fun e w'=>e=.returned (.int .i64 S.faults)∧w'=w:=by
 have c0:=hp.p.cell (i:=2) rfl
 have ha:=Zf L.pb 2 _ w c0
 unfold ptr at *
 clear hp
 go_enter func17,ntmps17
 go_wp2_with (go_at_call 51;refine ha.mono ?_;rintro e w1 ⟨rfl,rfl⟩)
 go_ret
 exact⟨rfl,rfl⟩
theorem getNow (w:World)(eb pb base:Nat)(ed:Option Nat)(E:EpochS)(h:EpochAt w eb pb base ed E):Calls prog 92 #[ptr eb] w fun e w'=>e=.returned (.int .i64 E.now)∧w'=w:=by
 obtain⟨lv,hb,_⟩:=h.ex
 have c0:w.cell? ⟨eb,2,none⟩=some (.int .i64 E.now):=hb.cell rfl
 have ha:=Zf eb 2 _ w c0
 unfold ptr at *
 clear h hb
 go_enter func92,ntmps92
 go_wp2_with (go_at_call 51;refine ha.mono ?_;rintro e w1 ⟨rfl,rfl⟩)
 go_ret
 exact⟨rfl,rfl⟩
theorem getChainNo (w:World)(Y:StoreL)(hf:Fixed w Y)(k:Int)(hk:k<0∨(0≤k∧(Y.n:Int)≤k)):Calls prog 63 #[ptr Y.sb,.int .i64 k] w fun e w'=>e=.returned (.pointer none)∧w'=w:=by
 obtain⟨A,c,hsb,hrow⟩:=hf.sb
 have c0:=hsb.cell (i:=6) rfl
 unfold ptr at *
 clear hf hsb hrow
 generalize Y.n=n at *
 rcases hk with h1|⟨h0,h1⟩
 ·go_enter func63,ntmps63
  go_wp2_with fail
  go_ret
  exact⟨rfl,rfl⟩
 ·have h2:¬k<0:=by omega
  go_enter func63,ntmps63
  go_wp2_with fail
  go_ret
  exact⟨rfl,rfl⟩
theorem ints2_any (w:World)(x y:Int)(A B:Option Addr)(ac bc:Nat)(ha:Row w A (Zc [x,y]))(hb:Row w B (Zc [x,y])):Calls prog 90 #[.slice A 2 ac,.slice B 2 bc] w fun e w'=>e=.returned (.bool true)∧Only [] w w':=by
 obtain⟨a,oa,rfl,a0⟩:=ha 0 _ rfl
 obtain⟨_,_,e,a1⟩:=ha 1 _ rfl
 injection e with e
 injection e with e1 e2
 subst e1 e2
 obtain⟨b,ob,rfl,b0⟩:=hb 0 _ rfl
 obtain⟨_,_,e,b1⟩:=hb 1 _ rfl
 injection e with e
 injection e with e1 e2
 subst e1 e2
 clear ha hb
 rw[Nat.add_zero] at a0 b0
 go_enter func90,ntmps90
 go_wp2_with fail
 refine wp_loop_rounds 3 ?_
 rw[rounds_succ]
 go_wp2_with fail
 go_quiet (fail)
 go_wp2_with fail
 rw[rounds_succ]
 go_wp2_with fail
 go_quiet (fail)
 go_wp2_with fail
 rw[rounds_succ]
 go_wp2_with fail
 go_ret
 exact⟨rfl,(Only.refl [] w).drewN _⟩
theorem states2 (w:World)(Y:StoreL)(ed:Option Nat)(D:Nat→List Nat)(X:StoreS)(h:StoreIn w Y ed D X)(hn:Y.n=2)(x y:Int)(hx:X.loads.map (·.state)=[x,y]):Calls prog 91 #[ptr Y.ld] w (NewInts [x,y] w):=by
 obtain⟨A,c,hld,hrow⟩:=h.fixed.ld
 rw[hn] at hld hrow
 have c2:=hld.cell (i:=2) rfl
 obtain⟨g,rfl,_,r0⟩:=hrow 0 (ptr (Y.lp 0)) rfl
 obtain⟨g',e,_,r1⟩:=hrow 1 (ptr (Y.lp 1)) rfl
 injection e with e
 injection e with e
 subst e
 obtain⟨a0,ha0,hx0⟩:∃a,X.loads[0]?=some a∧a.state=x:=by
  have:=congrArg (·[0]?) hx
  simp only[List.getElem?_map,List.getElem?_cons_zero] at this
  obtain⟨a,q1,q2⟩:=Option.map_eq_some_iff.1 this
  exact⟨a,q1,q2⟩
 obtain⟨a1,ha1,hx1⟩:∃a,X.loads[1]?=some a∧a.state=y:=by
  have:=congrArg (·[1]?) hx
  simp only[List.getElem?_map,List.getElem?_cons_succ,List.getElem?_cons_zero] at this
  obtain⟨a,q1,q2⟩:=Option.map_eq_some_iff.1 this
  exact⟨a,q1,q2⟩
 obtain⟨_,_,b0,_⟩:=h.load 0 a0 ha0
 obtain⟨_,_,b1,_⟩:=h.load 1 a1 ha1
 have s0:=b0.cell (i:=0) rfl
 have s1:=b1.cell (i:=0) rfl
 rw[hx0] at s0
 rw[hx1] at s1
 have HA:=hid (fun W b v (hc:W.cell? ⟨b,0,none⟩=some (.int .i64 v))=>Zf b 0 v W hc)
 have S0:=hid s0;have S1:=hid s1;have R1:=hid r1;have C2:=hid c2
 have HA0:=hid (Zf (Y.lp 0) 0 x w s0)
 unfold ptr at *
 clear h hn hx hld hrow ha0 hx0 ha1 hx1 b0 b1
 go_enter func91,ntmps91
 go_wp2_with fail
 refine wp_loop_rounds 3 ?_
 rw[rounds_succ]
 go_wp2_with (first|(go_at_call 51;refine HA0.out.mono ?_;rintro e w1 ⟨rfl,rfl⟩)|(at_builtin;refine Qj rfl (.tmp 15) (.tmp 20) rfl elemInt rfl (World.ownsRow_nil _ w.heap.size 3 1) _ 1 1 [.int .i64 x] rfl (Zg w [.int .i64 x] 3) rfl (by simp[Value.oneCell']) (by unfold maxLen;omega) (by omega) (Qg w _) (fun e=>by cases e) ?_;intro v2 w2 hown2 hg2 hat2;rw[Nat.zero_add,List.nil_append] at hown2;obtain⟨g2,c2',rfl⟩:=own_some hown2 (by decide);have ho2:Only [] w w2:=((Only.refl [] w).alloc _).grown hg2 (fun k hk=>by cases hk);have r1':=Qa ho2 R1.out (by simp);have s1':=Qa ho2 S1.out (by simp);have HA1:=hid (HA.out w2 _ _ s1');have HOWN2:=hid hown2;have HO2:=hid ho2;clear hown2 hg2 hat2 ho2))
 rw[rounds_succ]
 go_wp2_with (first|(go_at_call 51;refine HA1.out.mono ?_;rintro e w3 ⟨rfl,rfl⟩)|(at_builtin;refine Qj rfl (.tmp 15) (.tmp 20) rfl elemInt rfl (HOWN2.out.alloc (.cells #[.int .i64 y] 3)) _ 1 1 [.int .i64 y] rfl (Zg w2 [.int .i64 y] 3) rfl (by simp[Value.oneCell']) (by unfold maxLen;omega) (by omega) (Nat.le_trans HO2.out.size (Qg w2 _)) (fun e=>by cases e) ?_;intro v4 w4 hown4 hg4 hat4;have ho4:Only [] w w4:=own_growK HOWN2.out HO2.out ((Only.refl [] w2).alloc _) hg4;obtain⟨A4,c4',rfl,_,_⟩:=Qc hown4;have HOWN4:=hid hown4;have HO4:=hid ho4;clear hown4 hg4 hat4 ho4))
 rw[rounds_succ]
 go_wp2_with fail
 go_ret
 exact⟨_,rfl,HOWN4.out,HO4.out⟩
theorem kVers0:∃C,kS5.chains[0]?=some C∧(C.versions kS5.pool).length=2:=⟨kS5.chains.headD ⟨0,[]⟩,by decide +kernel,by decide +kernel⟩
theorem kVers1:∃C,kS5.chains[1]?=some C∧(C.versions kS5.pool).length=0:=⟨(kS5.chains[1]?).getD ⟨0,[]⟩,by decide +kernel,by decide +kernel⟩
theorem kFree:∃res,kS5.pool.places=some res∧res.length=36:=⟨(kS5.pool.places).getD [],by decide +kernel,by decide +kernel⟩
theorem kSlots:1≤kS5.pool.slots.length:=by decide +kernel
theorem made_any (w:World)(Y:StoreL)(ed:Option Nat)(D:Nat→List Nat)(h:StoreIn w Y ed D kS5)(hn:Y.n=2):Calls prog 34 #[ptr Y.sb] w fun e w'=>e=.returned (.bool true)∧Only [] w w':=by
 obtain⟨C0,hC0,hv0⟩:=kVers0
 obtain⟨C1,hC1,hv1⟩:=kVers1
 obtain⟨res,hres,hrl⟩:=kFree
 have HP:=hid (fun W (ho:Only [] w W)=>getPool W Y (h.new ho).fixed)
 have HE:=hid (fun W (ho:Only [] w W)=>getEpoch W Y (h.new ho).fixed)
 have HK:=hid (fun W (ho:Only [] w W)=>getClock W Y (h.new ho).fixed)
 have HL:=hid (fun W (ho:Only [] w W)=>getLoad W Y (h.new ho).fixed)
 have HX0:=hid (fun W (ho:Only [] w W)=>getChain W Y (h.new ho).fixed 0 (by omega))
 have HX1:=hid (fun W (ho:Only [] w W)=>getChain W Y (h.new ho).fixed 1 (by omega))
 have HX2:=hid (fun W (ho:Only [] w W)=>getChainNo W Y (h.new ho).fixed 2 (.inr ⟨by omega,by omega⟩))
 have HX3:=hid (fun W (ho:Only [] w W)=>getChainNo W Y (h.new ho).fixed (-1) (.inl (by omega)))
 have HY0:=hid (fun W ho=>HX0.out W ho)
 have HY1:=hid (fun W ho=>HX1.out W ho)
 have HS:=hid (fun W (ho:Only [] w W)=>states2 W Y ed D kS5 (h.new ho) hn 2 0 kMade.1)
 have HNW:=hid (fun W (ho:Only [] w W)=>getNow W Y.eb Y.pool.pb Y.base ed kS5.epoch (h.new ho).epoch)
 have HLE:=hid (fun W (ho:Only [] w W)=>clockLeases W Y.clock kS5.clock (h.new ho).clock)
 have HV0:=hid (fun W (ho:Only [] w W)=>versions_any W (Y.chain 0) Y.pool kS5.pool Y.clock.cb Y.base (D 0) C0 (h.new ho).pool ((h.new ho).chain 0 C0 hC0) kSlots)
 have HV1:=hid (fun W (ho:Only [] w W)=>versions_any W (Y.chain 1) Y.pool kS5.pool Y.clock.cb Y.base (D 1) C1 (h.new ho).pool ((h.new ho).chain 1 C1 hC1) kSlots)
 have HFR:=hid (fun W (ho:Only [] w W)=>free_any W Y.pool kS5.pool (h.new ho).pool res hres)
 rw[kMade.2.1] at HNW
 rw[kMade.2.2] at HLE
 unfold NewInts at HS HLE HV0 HV1 HFR
 rw[hv0] at HV0
 rw[hv1] at HV1
 rw[hrl] at HFR
 have HI:=hid (fun W A B ac bc ha hb=>ints2_any W 2 0 A B ac bc ha hb)
 have hoA:=Only.refl [] w
 unfold ptr at *
 clear h hC0 hv0 hC1 hv1 hres hrl
 go_enter func34,ntmps34
 go_wp2_with (first|(go_at_call 16;refine (HP.out _ hoA).mono ?_;rintro e w1 ⟨rfl,hw⟩;obtain rfl:=hw.symm)|(go_at_call 65;refine (HE.out _ hoA).mono ?_;rintro e w1 ⟨rfl,hw⟩;obtain rfl:=hw.symm)|(go_at_call 59;refine (HK.out _ hoA).mono ?_;rintro e w1 ⟨rfl,hw⟩;obtain rfl:=hw.symm)|(go_at_call 89;refine (HL.out _ hoA).mono ?_;rintro e w1 ⟨rfl,hw⟩;obtain rfl:=hw.symm)|(go_at_call 63;refine (HX0.out _ hoA).mono ?_;rintro e w1 ⟨rfl,hw⟩;obtain rfl:=hw.symm;clear HX0)|(go_at_call 63;refine (HX1.out _ hoA).mono ?_;rintro e w1 ⟨rfl,hw⟩;obtain rfl:=hw.symm;clear HX1)|(go_at_call 63;refine (HX2.out _ hoA).mono ?_;rintro e w1 ⟨rfl,hw⟩;obtain rfl:=hw.symm;clear HX2)|(go_at_call 63;refine (HX3.out _ hoA).mono ?_;rintro e w1 ⟨rfl,hw⟩;obtain rfl:=hw.symm;clear HX3)|(go_at_call 63;refine (HY0.out _ hoA).mono ?_;rintro e w1 ⟨rfl,hw⟩;obtain rfl:=hw.symm;clear HY0)|(go_at_call 63;refine (HY1.out _ hoA).mono ?_;rintro e w1 ⟨rfl,hw⟩;obtain rfl:=hw.symm;clear HY1)|(go_at_call 92;refine (HNW.out _ hoA).mono ?_;rintro e w1 ⟨rfl,hw⟩;obtain rfl:=hw.symm)|(go_at_call 91;refine (HS.out _ hoA).mono ?_;rintro e w2 ⟨v,rfl,hown,ho2⟩;obtain⟨A2,c2,rfl,hr2,_⟩:=Qc hown;replace hoA:=hoA.trans ho2;clear hown ho2)|(go_at_call 61;refine (HLE.out _ hoA).mono ?_;rintro e w2 ⟨v,rfl,hown,ho2⟩;obtain⟨A2,c2,rfl,hr2,_⟩:=Qc hown;replace hoA:=hoA.trans ho2;clear hown ho2)|(go_at_call 90;refine (HI.out _ A2 _ c2 2 (hr2.alloc _) (Zg w2 [.int .i64 2,.int .i64 0] 3)).mono ?_;rintro e w3 ⟨rfl,ho3⟩;replace hoA:=(hoA.alloc _).trans ho3;clear hr2 ho3)|(go_at_call 70;refine (HV0.out _ hoA).mono ?_;rintro e w2 ⟨v,rfl,hown,ho2⟩;obtain⟨A2,c2,rfl,hr2,_⟩:=Qc hown;replace hoA:=hoA.trans ho2;clear hown ho2 hr2;clear HV0)|(go_at_call 70;refine (HV1.out _ hoA).mono ?_;rintro e w2 ⟨v,rfl,hown,ho2⟩;obtain⟨A2,c2,rfl,hr2,_⟩:=Qc hown;replace hoA:=hoA.trans ho2;clear hown ho2 hr2;clear HV1)|(go_at_call 57;refine (HFR.out _ hoA).mono ?_;rintro e w2 ⟨v,rfl,hown,ho2⟩;obtain⟨A2,c2,rfl,hr2,_⟩:=Qc hown;replace hoA:=hoA.trans ho2;clear hown ho2))
 go_ret
 exact⟨rfl,hoA⟩
theorem setCell_eq {w:World}{b i:Nat}{v:Value}(h:w.cell? ⟨b,i,none⟩=some v):w.setCell ⟨b,i,none⟩ v=w:=by
 have hh:(w.setCell ⟨b,i,none⟩ v).heap=w.heap:=by
  apply Array.ext_getElem?
  intro j
  simp only[World.setCell,Array.getElem?_modify]
  by_cases hj:b=j
  ·subst hj
   unfold World.cell? at h
   dsimp only at h
   cases hb:w.heap[b]? with
   |none=>simp
   |some o=>
    rw[hb] at h
    cases o with
    |cells c t z=>
     have h:c[i]?=some v:=by simpa using h
     have hc:c.setIfInBounds i v=c:=by
      apply Array.ext_getElem?
      intro j
      by_cases hj:i=j
      ·subst hj
       have hl:=(Array.getElem?_eq_some_iff.1 h).1
       rw[h]
       simp[hl]
      ·simp[Array.getElem?_setIfInBounds_ne hj]
     simp[hc]
    |_=>simp
  ·simp[hj]
 unfold World.setCell at hh ⊢
 dsimp only at hh
 rw[hh]
def nilEl (num:Int):PlEl:=(.slice none 0 0,([],num))
theorem make_plain (n:Nat)(hn:n≤4097):∃Z:Array Value,Z.toList=(List.replicate n (nilEl 0)).flatMap PlEl.cells∧∀w:World,(Instr.makeSlice 44 (.int .i64 (n:Int)) (.int .i64 (n:Int))).run prog w=.ok (.slice (some ⟨w.heap.size,0,none⟩) n n) (w.alloc (.cells Z 49)):=by
 obtain⟨ht,hs,i,z,hi,hz,h2,h3,h4⟩:=elemPl
 have hz':z=.agg #[.slice none 0 0,.int .i64 0,.bool false]:=by
  have h:(prog.info? 49).bind (fun i=>i.zero)=some (.agg #[.slice none 0 0,.int .i64 0,.bool false]):=by kernel_rfl
  rw[hi] at h
  simp only[Option.bind_some] at h
  rw[hz] at h
  injection h
 subst hz'
 refine⟨madeCells #[.slice none 0 0,.int .i64 0,.bool false] (n*3),?_,fun w=>?_⟩
 ·exact (made_rows #[.slice none 0 0,.int .i64 0,.bool false] n).trans (flat_rep (nilEl 0) PlEl.cells n)
 ·have:=run_makeSlice (P:=prog) (w:=w) 44 49 i (.agg #[.slice none 0 0,.int .i64 0,.bool false]) ht hi hz .i64 .i64 (n:Int) (n:Int) (by omega) (Int.le_refl _) (by rw[h2];simp;omega) (by rw[h3];omega) (by omega)
  rw[h2] at this
  have hc:(Value.agg #[.slice none 0 0,.int .i64 0,.bool false]).cells=#[.slice none 0 0,.int .i64 0,.bool false]:=rfl
  rw[hc] at this
  simpa using this
theorem alone_bad (hkn:∀W,Calls prog 9 #[] W fun e w'=>e=.returned (.bool true)∧Only [] W w')(w:World)(pn pm ps le f:Int)(sA A:Option Addr)(sl sc ol oc:Nat)(h:(60:Int)<ol∨¬(60:Int)<ol∧((40:Int)<sl∨¬(40:Int)<sl∧(pn<1∨¬pn<1∧(64<pn∨¬64<pn∧(le<1∨¬le<1∧(64<le∨¬64<le∧0<f)))))):
  Calls prog 4 #[.agg #[.int .i64 pn,.int .i64 pm,.int .i64 ps,.int .i64 le,.slice sA sl sc,.int .i64 f],.slice A ol oc] w fun e w'=>e=.returned (.bool true)∧Only [] w w':=by
 obtain⟨w0,hw0⟩:∃w0,w.alloc (.cells #[.int .i64 pn,.int .i64 pm,.int .i64 ps,.int .i64 le,.slice sA sl sc,.int .i64 f] 31)=w0:=⟨_,rfl⟩
 have ho0:Only [] w w0:=by rw[←hw0];exact (Only.refl _ _).alloc _
 have hb2:Blk w0 w.heap.size [.int .i64 pn,.int .i64 pm,.int .i64 ps,.int .i64 le,.slice sA sl sc,.int .i64 f] 31:=by rw[←hw0];exact Blk.new w _ 31
 have HKN:=hid hkn;have HO0:=hid ho0;have HB2:=hid hb2
 clear hkn ho0 hb2
 rcases h with h1|⟨n1,h2|⟨n2,h3|⟨n3,h4|⟨n4,h5|⟨n5,h6|⟨n6,h7⟩⟩⟩⟩⟩⟩
 all_goals
  go_enter func4,ntmps4
  go_wp2_with (go_at_call 9;refine (HKN.out _).mono ?_;rintro e w1 ⟨rfl,ho1⟩;have hb1:=HB2.out.only ho1 (by simp);have e0:=hb1.cell (i:=0) rfl;have e3:=hb1.cell (i:=3) rfl;have e4:=hb1.cell (i:=4) rfl;have e5:=hb1.cell (i:=5) rfl;have HO1:=hid ho1;clear hb1 ho1)
  go_ret
  exact⟨rfl,HO0.out.trans HO1.out⟩
def CostRel (ops:List OpS)(s:Nat)(W:World)(k:Nat)(s5 s6:Value)(wr:World):Prop:=
 ∃j:Nat,j≤ops.length∧s5=.int .i64 (200+3*(s:Int)+(costs (ops.take j):Nat))∧s6=.int .i64 (j:Int)∧k=ops.length-j∧W=wr
def NumRel (n lb:Nat)(W:World)(k:Nat)(s11:Value)(wr:World):Prop:=
 ∃j:Nat,j≤n∧s11=.int .i64 (j:Int)∧k=n-j∧Blk wr lb ((List.replicate j (nilEl 1) ++ List.replicate (n-j) (nilEl 0)).flatMap PlEl.cells) 49∧Only [lb] W wr
def SrcRel (src:List (Int × Int))(Y:StoreL)(X:StoreS)(mb lb:Nat)(W:World)(k:Nat)(s12:Value)(wr:World):Prop:=
 ∃(j:Nat) (els:List PlEl),j≤src.length∧s12=.int .i64 (j:Int)∧k=src.length-j∧StoreIn wr Y none (fun _=>[]) X∧LawM wr Y none (fun _=>[]) mb lb els (.slice none 0 0) []∧els.map (·.2)=newPs (src.take j) Y.n∧KeepB Y W wr
def OpsRel (ops:List OpS)(Y:StoreL)(le mb lb B:Nat)(W:World)(k:Nat)(s14:Value)(wr:World):Prop:=
 ∃(j:Nat) (ps:List PlainS) (sn:List SnapL),j≤ops.length∧s14=.int .i64 (j:Int)∧k=ops.length-j∧LawIn wr Y le mb lb ps sn (B+costs (ops.take j)) j∧KeepB Y W wr
theorem srcL_snoc (l:List (Int × Int))(p:Int × Int):srcL (l ++ [p])=putL (srcL l) p.1 p.2:=by
 unfold srcL
 rw[List.foldl_append]
 rfl
theorem newPs_snoc {src:List (Int × Int)}{n j i:Nat}{p:Int × Int}(h:src[j]?=some p)(hi:i<n)(hp:Qu p.1 n=(i:Int)):
  newPs (src.take (j+1)) n=(newPs (src.take j) n).set i (putL (srcL (Qq (src.take j) n i)) p.1 p.2,1):=by
 apply List.ext_getElem?
 intro x
 by_cases hx:x=i
 ·subst hx
  rw[List.getElem?_set_self (by simpa using hi)]
  simp only[newPs,List.getElem?_map,List.getElem?_range hi,Option.map_some]
  rw[partSrc_snoc _ _ _ _ _ h,if_pos hp,srcL_snoc]
 ·rw[List.getElem?_set_ne (Ne.symm hx)]
  simp only[newPs,List.getElem?_map]
  by_cases hxn:x<n
  ·simp only[List.getElem?_range hxn,Option.map_some]
   rw[partSrc_snoc _ _ _ _ _ h,if_neg (by rw[hp];omega),List.append_nil]
  ·rw[List.getElem?_eq_none (by simpa using hxn)]
   rfl
def KeysRel (src:List (Int × Int))(W:World)(k:Nat)(s7:Value)(wr:World):Prop:=
 ∃j:Nat,j≤src.length∧s7=.int .i64 (j:Int)∧k=src.length-j∧(∀p∈src.take j,Qt p.1=true)∧W=wr
theorem rep_get {α:Type}(a b:α){n j:Nat}(h:j<n):(List.replicate j a ++ List.replicate (n-j) b)[j]?=some b:=by
 rw[List.getElem?_append_right (by simp),List.length_replicate,Nat.sub_self,List.getElem?_replicate,if_pos (by omega)]
theorem rep_set {α:Type}(a b:α){n j:Nat}(h:j<n):(List.replicate j a ++ List.replicate (n-j) b).set j a=List.replicate (j+1) a ++ List.replicate (n-(j+1)) b:=by
 obtain⟨m,hm⟩:∃m,n-j=m+1:=⟨n-j-1,by omega⟩
 have h2:n-(j+1)=m:=by omega
 rw[hm,h2,List.set_append_right _ _ (by simp),List.length_replicate,Nat.sub_self,List.replicate_succ,List.set_cons_zero,List.replicate_succ']
 simp
theorem num_step {w:World}{n j lb:Nat}(h:j<n)(hb:Blk w lb ((List.replicate j (nilEl 1) ++ List.replicate (n-j) (nilEl 0)).flatMap PlEl.cells) 49):
  w.cell? ⟨lb,j*3+1,none⟩=some (.int .i64 0)∧Blk (w.setCell ⟨lb,j*3+1,none⟩ (.int .i64 1)) lb ((List.replicate (j+1) (nilEl 1) ++ List.replicate (n-(j+1)) (nilEl 0)).flatMap PlEl.cells) 49:=by
 have hg:=rep_get (nilEl 1) (nilEl 0) h
 refine⟨hb.cell (i:=j*3+1) (by rw[Qz PlEl.cells 3 (fun _=>rfl) _ j _ hg 1 (by decide)];rfl),?_⟩
 have h1:=hb.set (j*3+1) (.int .i64 1)
 rw[flatMap_set PlEl.cells 3 (fun _=>rfl) _ j _ hg 1 (.int .i64 1) (nilEl 1) (by decide) rfl,rep_set _ _ h] at h1
 exact h1
theorem LawIn.new {w w':World}{Y:StoreL}{le mb lb B j:Nat}{ps:List PlainS}{sn:List SnapL}(h:LawIn w Y le mb lb ps sn B j)(ho:Only [] w w'):LawIn w' Y le mb lb ps sn B j:=by
 obtain⟨ed,D,X,els,sv,sns,h1,h2,h3,h4,h5⟩:=h
 exact⟨ed,D,X,els,sv,sns,h1.new ho,h2,h3.new ho,h4,h5⟩
theorem LawIn.parts {w:World}{Y:StoreL}{le mb lb B j:Nat}{ps:List PlainS}{sn:List SnapL}(h:LawIn w Y le mb lb ps sn B j):∃X:StoreS,Fixed w Y∧PoolAt w Y.pool X.pool∧X.pool.faults=0:=by
 obtain⟨ed,D,X,els,sv,sns,h1,h2,h3,h4,h5⟩:=h
 obtain⟨V,hV,_⟩:=h2.ex
 exact⟨X,h1.fixed,h1.pool,hV.inv.faults⟩
theorem KeepB.onlyNil {Y:StoreL}{w w1 w':World}(h:KeepB Y w1 w')(ho:Only [] w w1)(hb:w.heap.size≤Y.base)(hc:∀k,k<w.heap.size→Y.col k=0):Only [] w w':=
 ⟨h.os.trans ho.os,h.tape.trans ho.tape,h.output.trans ho.output,Nat.le_trans ho.size h.size,fun k hk hn=>(h.block k (by omega) (hc k hk) (Nat.lt_of_lt_of_le hk ho.size)).trans (ho.block k hk hn)⟩
theorem not_dyn {Y:StoreL}{k:Nat}:¬Qw Y none (fun _=>[]) k:=fun h=>by simp[Qw] at h
theorem law_start {w:World}{Y:StoreL}{n mb lb:Nat}{X:StoreS}(hs:StoreIn w Y none (fun _=>[]) X)(hm:Blk w mb [ptr Y.sb,.slice (some ⟨lb,0,none⟩) n n,.slice none 0 0] 47)(hl:Blk w lb ((List.replicate n (nilEl 1)).flatMap PlEl.cells) 49)(hmb:Y.base≤mb)(hlb:Y.base≤lb)(hne:mb≠lb):LawM w Y none (fun _=>[]) mb lb (List.replicate n (nilEl 1)) (.slice none 0 0) []:=by
 refine⟨by rw[List.length_replicate];exact hm,hl,⟨hm.lt,hmb,not_dyn⟩,⟨hl.lt,hlb,not_dyn⟩,hne,fun e he=>?_,World.ownsRow_nil _ _ 115 4,fun k e=>by (cases e),fun s hs=>by (cases hs)⟩
 rw[List.eq_of_mem_replicate he]
 exact⟨none,0,rfl,(fun j u hu=>by simp[nilEl,Qd] at hu),(fun a e=>by cases e),fun _=>rfl⟩
theorem newPs_nil (n:Nat):(List.replicate n (nilEl 1)).map (·.2)=newPs [] n:=by
 apply List.ext_getElem?
 intro i
 by_cases h:i<n
 ·simp[newPs,Qq,srcL,nilEl,List.getElem?_replicate,h]
 ·simp[newPs,List.getElem?_replicate,h]
theorem src_step {w8 w9:World}{Y:StoreL}{X:StoreS}{mb lb i:Nat}{els:List PlEl}{u0 u:Value}{L L':List (Int × Int)}(hs:StoreIn w8 Y none (fun _=>[]) X)(hm:LawM w8 Y none (fun _=>[]) mb lb els (.slice none 0 0) [])(he:els[i]?=some (u0,(L,1)))(ho:Only [] w8 w9)(hown:w9.ownsRow w8.heap.size 36 2 u L'.length (Qd L')):
  StoreIn (w9.setCell ⟨lb,i*3,none⟩ u) Y none (fun _=>[]) X∧LawM (w9.setCell ⟨lb,i*3,none⟩ u) Y none (fun _=>[]) mb lb (els.set i (u,(L',1))) (.slice none 0 0) []∧KeepB Y w8 (w9.setCell ⟨lb,i*3,none⟩ u):=by
 have hm9:=hm.new ho
 have hs9:=hs.new ho
 have h1:w9.cell? ⟨lb,i*3+1,none⟩=some (.int .i64 1):=hm9.l.cell (i:=i*3+1) (by rw[Qz PlEl.cells 3 (fun _=>rfl) els i _ he 1 (by decide)];rfl)
 have hr:RowE w9 (RO w9 Y none (fun _=>[]) mb lb (.slice none 0 0)) u L':=by
  obtain⟨A,c,rfl,h2,h3⟩:=Qc hown
  refine⟨A,c,rfl,h2,fun a ea=>?_,h3⟩
  subst ea
  have h4:=row_block hown
  exact⟨Safe.fresh hs h4.1 h4.2,fun e=>by have:=hm.ms.1;omega,fun e=>by have:=hm.ls.1;omega,fun e=>by cases e⟩
 have h5:=hm9.setPart he hr (num:=1)
 rw[setCell_eq h1] at h5
 have h6:Only [lb] w9 (w9.setCell ⟨lb,i*3,none⟩ u):=(Only.refl _ _).setCell (.inl (by simp)) _
 exact⟨hs9.only h6 (fun k hk=>by obtain rfl:=List.mem_singleton.1 hk;exact hm.ls.2),h5,(KeepB.only ho (by simp)).trans (KeepB.only h6 (fun k hk=>by obtain rfl:=List.mem_singleton.1 hk;exact hm.ls.2.1))⟩
theorem alone_main (hkn:∀W,Calls prog 9 #[] W fun e w'=>e=.returned (.bool true)∧Only [] W w')(w:World)(n le:Nat)(hn:1≤n∧n≤64)(hle:1≤le∧le≤64)(pm ps f:Int)(hf:f≤0)(sA:Option Addr)(src:List (Int × Int))(sc:Nat)(A:Option Addr)(ops:List OpS)(oc:Nat)
  (hs40:src.length≤40) (ho60:ops.length≤60) (hsr:Row w sA (Qd src)) (hsn:sA=none→src.length=0) (hsv:∀p∈src,Ql p.2) (hr:Row w A (ops.flatMap OpS.cells)) (hops:∀o∈ops,OpIn w o):
  Calls prog 4 #[.agg #[.int .i64 (n:Int),.int .i64 pm,.int .i64 ps,.int .i64 (le:Int),.slice sA src.length sc,.int .i64 f],.slice A ops.length oc] w fun e w'=>e=.returned (.bool true)∧Only [] w w':=by
 obtain⟨w0,hw0⟩:∃w0,w.alloc (.cells #[.int .i64 (n:Int),.int .i64 pm,.int .i64 ps,.int .i64 (le:Int),.slice sA src.length sc,.int .i64 f] 31)=w0:=⟨_,rfl⟩
 have ho0:Only [] w w0:=by rw[←hw0];exact (Only.refl _ _).alloc _
 have hb2:Blk w0 w.heap.size [.int .i64 (n:Int),.int .i64 pm,.int .i64 ps,.int .i64 (le:Int),.slice sA src.length sc,.int .i64 f] 31:=by rw[←hw0];exact Blk.new w _ 31
 have HKN:=hid hkn;have HO0:=hid ho0;have HB2:=hid hb2;have HN:=hid hn;have HLE:=hid hle;have HF:=hid hf;have HS40:=hid hs40;have HO60:=hid ho60;have HSR:=hid hsr;have HSN:=hid hsn;have HSV:=hid hsv;have HR:=hid hr;have HOPS:=hid hops
 have HCF:=hid (costs_few hops)
 have n1:¬(60:Int)<ops.length:=by omega
 have n2:¬(40:Int)<src.length:=by omega
 have n3:¬(n:Int)<1:=by omega
 have n4:¬(64:Int)<n:=by omega
 have n5:¬(le:Int)<1:=by omega
 have n6:¬(64:Int)<le:=by omega
 have n7:¬0<f:=by omega
 have q1:wrap64 (3*(src.length:Int))=3*(src.length:Int):=IntWalk.wrap64_in _ (by omega)
 have q2:wrap64 (200+3*(src.length:Int))=200+3*(src.length:Int):=IntWalk.wrap64_in _ (by omega)
 have Q1:=hid q1;have Q2:=hid q2
 clear hkn ho0 hb2 hn hle hf hs40 ho60 hsr hsn hsv hr hops q1 q2
 go_enter func4,ntmps4
 go_wp2_with (go_at_call 9;refine (HKN.out _).mono ?_;rintro e w1 ⟨rfl,ho1⟩;have hb1:=HB2.out.only ho1 (by simp);have e0:=hb1.cell (i:=0) rfl;have e1:=hb1.cell (i:=1) rfl;have e2:=hb1.cell (i:=2) rfl;have e3:=hb1.cell (i:=3) rfl;have e4:=hb1.cell (i:=4) rfl;have e5:=hb1.cell (i:=5) rfl;have ef:=hb1.frozen;have HO1:=hid (HO0.out.trans ho1);have HB1:=hid hb1;clear hb1 ho1)
 go_loopg [5,6] ops.length (fun k s5 s6 wr=>CostRel ops src.length w1 k s5 s6 wr)
 case atStart=>exact⟨0,Nat.zero_le _,by first|(rw[Q1.out,Q2.out];simp[costs])|simp[costs,Q1.out,Q2.out],rfl,rfl,rfl⟩
 case round=>
  obtain⟨j,hj,rfl,rfl,rfl,rfl⟩:=hrel
  by_cases hlt:j<ops.length
  ·have hlt':(j:Int)<ops.length:=by omega
   have hj0:(0:Int)≤(j:Int):=by omega
   obtain⟨o,hx⟩:∃o,ops[j]?=some o:=⟨_,List.getElem?_eq_getElem hlt⟩
   obtain⟨b,off,rfl,_,_,_,_,c4⟩:=op_cells (HR.out.below HO1.out.below) hx
   have hfw:=(HOPS.out o (List.mem_of_getElem? hx)).few
   have hcs:=costs_le ops j
   have hcf:=HCF.out
   have h60:=HO60.out
   have h40:=HS40.out
   have H1:=hid (show wrap64 (1+(o.L.length:Int))=1+(o.L.length:Int) from IntWalk.wrap64_in _ (by omega))
   have H2:=hid (show wrap64 (36*(1+(o.L.length:Int)))=36*(1+(o.L.length:Int)) from IntWalk.wrap64_in _ (by omega))
   have H3:=hid (show wrap64 (200+3*(src.length:Int)+(costs (ops.take j):Nat)+36*(1+(o.L.length:Int)))=200+3*(src.length:Int)+(costs (ops.take j):Nat)+36*(1+(o.L.length:Int)) from IntWalk.wrap64_in _ (by omega))
   have H4:=hid (show wrap64 ((j:Int)+1)=(j:Int)+1 from IntWalk.wrap64_in _ (by omega))
   have HX:=hid hx
   clear hx hfw hcs hcf h60 h40
   go_wp2_with fail
   go_roundg (ops.length-(j+1))
   case measure=>omega
   case rel=>
    refine⟨j+1,by omega,?_,by first|(rw[H4.out];simp)|simp,rfl,rfl⟩
    rw[H1.out,H2.out,H3.out,costs_snoc HX.out]
    congr 1
    omega
  ·have hjl:j=ops.length:=by omega
   subst hjl
   rw[List.take_length] at *
   clear hj hlt
   by_cases hc:(4096:Int)<200+3*(src.length:Int)+(costs ops:Nat)
   ·go_wp2_with fail
    go_ret
    exact⟨rfl,HO1.out⟩
   ·have HC:=hid hc
    go_wp2_with fail
    generalize hw2:World.setCell (World.setCell w1 _ _) _ _=w2
    have hb2:Blk w2 w.heap.size [.int .i64 (n:Int),.int .i64 1,.int .i64 4096,.int .i64 (le:Int),.slice sA src.length sc,.int .i64 f] 31:=by rw[←hw2];exact (HB1.out.set 2 _).set 1 _
    have ho2:Only [] w w2:=by rw[←hw2];exact (HO1.out.setCell (.inr (Nat.le_refl _)) _).setCell (.inr (Nat.le_refl _)) _
    have HB2:=hid hb2;have HO2:=hid ho2
    clear hw2 e0 e1 e2 e3 e4 e5 ef hc
    have e0:=hb2.cell (i:=0) rfl
    have e1:=hb2.cell (i:=1) rfl
    have e2:=hb2.cell (i:=2) rfl
    have e3:=hb2.cell (i:=3) rfl
    have e4:=hb2.cell (i:=4) rfl
    have e5:=hb2.cell (i:=5) rfl
    clear hb2 ho2
    go_loopg [7] src.length (fun k s7 wr=>KeysRel src w2 k s7 wr)
    case atStart=>exact⟨0,Nat.zero_le _,rfl,rfl,by simp,rfl⟩
    case round=>
     obtain⟨j,hj,rfl,rfl,hg,rfl⟩:=hrel
     by_cases hlt:j<src.length
     ·have hlt':(j:Int)<src.length:=by omega
      have hj0:(0:Int)≤(j:Int):=by omega
      obtain⟨⟨k,v⟩,hx⟩:∃o,src[j]?=some o:=⟨_,List.getElem?_eq_getElem hlt⟩
      obtain⟨b,off,rfl,c0,c1⟩:=pair_cells (HSR.out.below HO2.out.below) hx
      have h40:=HS40.out
      have H4:=hid (show wrap64 ((j:Int)+1)=(j:Int)+1 from IntWalk.wrap64_in _ (by omega))
      have HX:=hid hx;have HG:=hid hg
      clear hx hg h40
      by_cases hk0:k<0
      ·go_wp2_with fail
       go_ret
       exact⟨rfl,HO2.out⟩
      ·by_cases hk1:(4294967295:Int)<k
       ·go_wp2_with fail
        go_ret
        exact⟨rfl,HO2.out⟩
       ·go_wp2_with fail
        go_roundg (src.length-(j+1))
        case measure=>omega
        case rel=>
         refine⟨j+1,by omega,by first|(rw[H4.out];simp)|simp,rfl,fun p hp=>?_,rfl⟩
         rw[Zd HX.out] at hp
         rcases List.mem_append.1 hp with hp|hp
         ·exact HG.out p hp
         ·obtain rfl:=List.mem_singleton.1 hp
          unfold Qt K32
          simp
          omega
     ·have hjl:j=src.length:=by omega
      subst hjl
      rw[List.take_length] at hg
      have HG:=hid hg
      clear hj hlt hg
      have hok:SetupOk n 1 4096 le src:=⟨HN.out,by decide,by decide,HLE.out,by have:=HS40.out;omega,HG.out⟩
      have hle:=lawLent_any w2 n 1 4096 le f sA sc src (by have:=HS40.out;omega) HSN.out (HSR.out.below HO2.out.below)
      have hnw:=fun W A c (hr:Row W A (Qd src))=>storeNewG_any W n 1 4096 le A src c f HF.out hok hr
      have HLT:=hid hle;have HNW:=hid hnw;have HOK:=hid hok
      clear hle hnw hok
      go_wp2_with (first|(go_at_call 11;refine HLT.out.mono ?_;rintro en w3 ⟨v3,rfl,hown3,ho3⟩;obtain⟨A3,c3,rfl,hr3,_⟩:=Qc hown3;have HR3:=hid hr3;have HO3:=hid ho3;clear hown3 hr3 ho3)|(go_at_call 10;refine (HNW.out _ _ _ HR3.out).mono ?_;rintro en w4 ⟨Y,bt,rfl,hs4,hYn,hbase,ho4,hcol,hhi,_,_,_,_,_,_,_,_⟩;have ho4:=HO3.out.trans ho4;have hb4:=HB2.out.only ho4 (by simp);have e0:=hb4.cell (i:=0) rfl;have e1:=hb4.cell (i:=1) rfl;have e2:=hb4.cell (i:=2) rfl;have e3:=hb4.cell (i:=3) rfl;have e4:=hb4.cell (i:=4) rfl;have e5:=hb4.cell (i:=5) rfl;have HS4:=hid hs4;have HYN:=hid hYn;have HBS:=hid hbase;have HO4:=hid ho4;have HB4:=hid hb4;have HCOL:=hid hcol;have HHI:=hid hhi;unfold ptr;clear hs4 hYn hbase ho4 hb4 hcol hhi))
      have hz3:w.heap.size<w3.heap.size:=(HB2.out.only HO3.out (by simp)).lt
      have HC0:=hid (show ∀k,k≤w.heap.size→Y.col k=0 from fun k hk=>HCOL.out k (by omega))
      have HBB:=hid (show w.heap.size<Y.base by have:=HBS.out;omega)
      clear hz3 HCOL HBS
      have hgp:=fun W (ho:Only [] w4 W)=>getParts W Y (HS4.out.new ho).fixed
      have hyn:=HYN.out
      rw[hyn] at hgp
      unfold ptr at hgp
      have HGP:=hid hgp
      clear hgp hyn
      go_quiet ((go_at_call 12;exact Calls.quiet_of_same ((HGP.out _ ((Only.refl [] w4).drewN _)).mono fun _ _ h=>h)))
      obtain⟨Z,hZ,hmk⟩:=make_plain n (by have:=HN.out;omega)
      have HZ:=hid hZ
      clear hZ
      go_wp2_with fail
      generalize hw6:World.alloc (World.alloc (World.drewN w4 nq) _) _=w6
      have hoz:Only [] w4 (w4.drewN nq):=(Only.refl [] w4).drewN nq
      have ho6:Only [] w4 w6:=by rw[←hw6];exact (hoz.alloc _).alloc _
      have hl6:Blk w6 w4.heap.size ((List.replicate n (nilEl 0)).flatMap PlEl.cells) 49:=by
       have:=Blk.new (w4.drewN nq) Z.toList 49
       rw[HZ.out] at this
       rw[←hw6,←Array.toArray_toList (xs:=Z),HZ.out]
       exact this.alloc _
      have hm6:Blk w6 (w4.heap.size+1) [ptr Y.sb,.slice (some ⟨w4.heap.size,0,none⟩) n n,.slice none 0 0] 47:=by
       have:=Blk.new ((w4.drewN nq).alloc (.cells Z 49)) [ptr Y.sb,.slice (some ⟨w4.heap.size,0,none⟩) n n,.slice none 0 0] 47
       rw[World.size_alloc] at this
       rw[←hw6]
       exact this
      have hs6:=HS4.out.new ho6
      have HOW:=hid (HO2.out.trans HO4.out)
      have hb6:=HB4.out.only ho6 (by simp)
      have hne:w.heap.size≠w4.heap.size:=by have:=HB4.out.lt;omega
      have hne1:w4.heap.size+1≠w4.heap.size:=by omega
      have hbl:Y.base≤w4.heap.size:=HS4.out.room
      have HS6:=hid hs6;have HB6:=hid hb6;have HL6:=hid hl6;have HM6:=hid hm6;have HO6:=hid ho6;have HBL:=hid hbl;have HNE:=hid hne;have HNE1:=hid hne1
      clear hw6 hs6 hb6 hl6 hm6 ho6 hbl hoz hmk HZ HGP HLT HNW e0 e1 e2 e3 e4 e5 HB2 HR3 HO3
      clear HO2 HO1 HB1
      generalize hlb:w4.heap.size=lb at *
      go_loopg [11] n (fun k s11 wr=>NumRel n lb w6 k s11 wr)
      case atStart=>exact⟨0,Nat.zero_le _,rfl,rfl,HL6.out,Only.refl _ _⟩
      case round=>
       obtain⟨j,hj,rfl,rfl,hl,ho⟩:=hrel
       have e0:=Qa ho (HB6.out.cell (i:=0) rfl) (by simpa using hne)
       have e4:=Qa ho (HB6.out.cell (i:=4) rfl) (by simpa using hne)
       have e3:=Qa ho (HB6.out.cell (i:=3) rfl) (by simpa using hne)
       have m1:=Qa ho (HM6.out.cell (i:=1) rfl) (by simp)
       have lf:=hl.frozen
       by_cases hlt:j<n
       ·have hlt':(j:Int)<n:=by omega
        have hj0:(0:Int)≤(j:Int):=by omega
        have hn64:=HN.out
        obtain⟨c1,hl'⟩:=num_step hlt hl
        have H4:=hid (show wrap64 ((j:Int)+1)=(j:Int)+1 from IntWalk.wrap64_in _ (by omega))
        have HL':=hid hl';have HO:=hid ho
        clear hl hl' ho hn64
        go_wp2_with fail
        go_roundg (n-(j+1))
        case measure=>omega
        case rel=>exact⟨j+1,by omega,by first|(rw[H4.out];simp)|simp,rfl,HL'.out,HO.out.setCell (.inl (by simp)) _⟩
       ·have hjl:n=j:=by omega
        subst hjl
        rw[Nat.sub_self,List.replicate_zero,List.append_nil] at hl
        have hs7:=HS6.out.only ho (fun k hk=>by obtain rfl:=List.mem_singleton.1 hk;exact⟨HBL.out,not_dyn⟩)
        have hmm:=law_start hs7 (HM6.out.only ho (by simp)) hl (by have:=HBL.out;omega) HBL.out hne1
        have hk7:=(KeepB.only (Y:=Y) HO6.out (by simp)).trans (KeepB.only ho (fun k hk=>by obtain rfl:=List.mem_singleton.1 hk;exact HBL.out))
        have HS7:=hid hs7;have HMM:=hid hmm;have HK7:=hid hk7
        clear hs7 hmm hk7 hj hlt hl ho lf m1 e3 e4
        go_wp2_with fail
        clear e0
        obtain⟨w7,rfl⟩:∃w7,w7=wr:=⟨_,rfl⟩
        go_loopg [12] src.length (fun k s12 wx=>SrcRel src Y (StoreS.new n 1 4096 le src f) (lb+1) lb w7 k s12 wx)
        case atStart=>exact⟨0,_,Nat.zero_le _,rfl,rfl,HS7.out,HMM.out,(newPs_nil n).trans (by rw[List.take_zero,HYN.out]),KeepB.refl _ _⟩
        case round=>
         obtain⟨j,els,hj,rfl,rfl,hs8,hm8,hel8,hk8⟩:=hrel
         obtain⟨w8,rfl⟩:∃w8,w8=wr:=⟨_,rfl⟩
         have hlen:els.length=n:=by have:=congrArg List.length hel8;simpa [newPs,HYN.out] using this
         have hk:=HK7.out.trans hk8
         have hb8:Blk w8 w.heap.size [.int .i64 (n:Int),.int .i64 1,.int .i64 4096,.int .i64 (le:Int),.slice sA src.length sc,.int .i64 f] 31:=HB4.out.heap (hk.block _ HBB.out (HC0.out _ (Nat.le_refl _)) HB4.out.lt)
         have e0:=hb8.cell (i:=0) rfl
         have e3:=hb8.cell (i:=3) rfl
         have e4:=hb8.cell (i:=4) rfl
         by_cases hlt:j<src.length
         ·have hlt':(j:Int)<src.length:=by omega
          have hj0:(0:Int)≤(j:Int):=by omega
          obtain⟨⟨k,v⟩,hx⟩:∃o,src[j]?=some o:=⟨_,List.getElem?_eq_getElem hlt⟩
          have hkey:=HG.out _ (List.mem_of_getElem? hx)
          dsimp only at hkey
          have hn64:=HN.out
          have hpr:=partOf_range hkey n hn64.1
          obtain⟨i,hi⟩:∃i:Nat,Qu k n=(i:Int):=⟨(Qu k n).toNat,by omega⟩
          have hin:i<n:=by omega
          have hpi:(newPs (src.take j) Y.n)[i]?=some (srcL (Qq (src.take j) n i),1):=by
           rw[HYN.out]
           simp only[newPs,List.getElem?_map,List.getElem?_range hin,Option.map_some]
          obtain⟨e,he,he2⟩:∃e,els[i]?=some e∧e.2=(srcL (Qq (src.take j) n i),1):=by
           rw[←hel8,List.getElem?_map] at hpi
           cases q:els[i]? with
           |none=>rw[q] at hpi;cases hpi
           |some e=>rw[q] at hpi;exact⟨e,rfl,Option.some.inj hpi⟩
          obtain⟨u0,p0⟩:=e
          dsimp only at he2
          subst he2
          obtain⟨b,off,rfl,c0w,c1w⟩:=pair_cells HSR.out hx
          have hbw:b<w.heap.size:=block_lt_of_cell c0w
          have hbb:=HBB.out
          have hbl:w8.heap[b]?=w.heap[b]?:=(hk.block b (by omega) (HC0.out b (by omega)) (Nat.lt_of_lt_of_le hbw HOW.out.size)).trans (HOW.out.block b hbw (by simp))
          have c0:=Qp c0w hbl
          have c1:=Qp c1w hbl
          have hof:=lawOf_any w8 (lb+1) (ptr Y.sb) (.slice none 0 0) (some ⟨lb,0,none⟩) els.length els.length (by rw[hlen];exact hn64) hm8.m k
          unfold ofI at hof
          rw[if_pos hkey,hlen,hi] at hof
          obtain⟨Ae,ce,hu0,hrow,_,_⟩:=hm8.rows _ (List.mem_of_getElem? he)
          dsimp only at hu0 hrow
          subst hu0
          have hsz:(srcL (Qq (src.take j) n i)).length≤40:=by
           have q1:=srcL_len (Qq (src.take j) n i)
           have q2:=partSrc_len (src.take j) n i
           have q3:=HS40.out
           rw[List.length_take] at q2
           omega
          generalize hL:srcL (Qq (src.take j) n i)=L at *
          have hlp:=fun W (ho:Only [] w8 W)=>lawPut_any W Ae ce L (by omega) (hrow.below ho.below) k v
          have m1:=hm8.m.cell (i:=1) rfl
          rw[hlen] at m1
          obtain⟨_,_,p0,p1,_,_,_,_⟩:=hm8.plAt i (L,1) (by rw[List.getElem?_map,he];rfl)
          have p0:=hm8.l.cell (i:=i*3) (by have:=Qz PlEl.cells 3 (fun _=>rfl) els i _ he 0 (by decide);rw[Nat.add_zero] at this;rw[this];rfl)
          rw[Nat.zero_add] at p1
          dsimp only at p1
          have hi0:¬(i:Int)<0:=by omega
          have hi1:(i:Int)<n:=by omega
          have hi2:(0:Int)≤i:=by omega
          have H4:=hid (show wrap64 ((j:Int)+1)=(j:Int)+1 from IntWalk.wrap64_in _ (by have:=HS40.out;omega))
          have hb0:b≠lb:=by have:=HBL.out;omega
          have hwn:w.heap.size≠lb:=by have:=HBL.out;omega
          have HLP:=hid hlp;have HX:=hid hx;have HI:=hid hi;have HIN:=hid hin;have HL:=hid hL;have HE:=hid he;have HS8:=hid hs8;have HM8:=hid hm8;have HEL8:=hid hel8;have HK8:=hid hk8;have HP1:=hid p1
          clear hlp hx hi hin hL he hs8 hm8 hel8 hk8 p1 hkey hn64 hpr hpi c0w c1w hbl hbw hbb hrow hsz hlen hk hb8 e3
          unfold ptr at hof
          go_wp2_with (go_at_call 13;refine hof.mono ?_;rintro en w9 ⟨rfl,hw9⟩;obtain rfl:w8=w9:=hw9.symm)
          refine wp_region_held_drew (S:=(fun W=>W.cell? ⟨lb+1,1,none⟩=some (.slice (some ⟨lb,0,none⟩) n n)∧W.cell? ⟨w.heap.size,4,none⟩=some (.slice (some ⟨b,off,none⟩) src.length sc)∧W.cell? ⟨b,off+j*2,none⟩=some (.int .i64 k)∧W.cell? ⟨b,off+j*2+1,none⟩=some (.int .i64 v))) (by kernel_rfl) ?_ (fun hHeld=>?_)
          ·exact⟨m1,e4,c0,c1⟩
          refine tk 0 ?_
          refine tk 1 ?_
          refine tk 2 ?_
          refine tk 3 ?_
          refine tk 4 ?_
          refine tk 5 ?_
          refine tk 6 ?_
          refine tk 7 ?_
          refine tk 8 ?_
          refine tk 9 ?_
          refine tk 10 ?_
          refine tk 11 ?_
          refine tk 13 ?_
          refine tk 14 ?_
          refine tk 15 ?_
          refine tk 16 ?_
          refine tk 17 ?_
          refine tk 18 ?_
          refine tk 19 ?_
          refine tk 20 ?_
          refine tk 21 ?_
          refine tk 22 ?_
          refine tk 23 ?_
          refine tk 24 ?_
          refine on1 12 (fun K hK=>?_)
          go_simp
          refine hK.out _ _ (⟨m1,e4,c0,c1⟩) (fun hHeld=>?_)
          clear hK K
          try simp only[sp]
          refine on1 25 (fun K hK=>?_)
          go_simp;go_at_call 14;refine (HLP.out _ (Only.refl [] w8).drew').mono ?_;rintro en w9 ⟨u,rfl,hown,ho9⟩;have ho9:Only [] w8 w9:=(Only.refl [] w8).drew'.trans ho9;obtain⟨A5,c5,rfl,hr5,hn5⟩:=Qc hown;have HOWN:=hid hown;have HR5:=hid hr5;have HN5:=hid hn5;have HO9:=hid ho9;have x0:=Qa ho9 m1 (by simp);have x1:=Qa ho9 e4 (by simp);have x2:=Qa ho9 c0 (by simp);have x3:=Qa ho9 c1 (by simp);have y0:=Qa ho9 p0 (by simp);have yf:=(HM8.out.l.only ho9 (by simp)).frozen;clear hown hr5 hn5 ho9
          refine hK.out _ _ (⟨x0,x1,x2,x3⟩) (fun hHeld=>?_)
          clear hK K
          try simp only[sp]
          refine tk 26 ?_
          refine tk 27 ?_
          refine on1 28 (fun K hK=>?_)
          go_simp
          refine hK.out _ _ ?_ (fun hHeld=>?_)
          ·have h6:Only [lb] w9 (w9.setCell ⟨lb,i*3,none⟩ (.slice A5 (putL L k v).length c5)):=(Only.refl _ _).setCell (.inl (by simp)) _
           exact⟨Qa h6 x0 (by simp),Qa h6 x1 (by simpa using hwn),Qa h6 x2 (by simpa using hb0),Qa h6 x3 (by simpa using hb0)⟩
          clear hK K
          try simp only[sp]
          refine wpAnyH_done (by kernel_rfl) ?_ _
          go_wp2_with fail
          go_roundg (src.length-(j+1))
          case measure=>omega
          case rel=>
           obtain⟨r1,r2,r3⟩:=src_step HS8.out HM8.out HE.out HO9.out HOWN.out
           refine⟨j+1,_,by omega,by first|(rw[H4.out];simp)|simp,rfl,r1,r2,?_,HK8.out.trans r3⟩
           rw[List.map_set,HEL8.out,HYN.out,newPs_snoc HX.out HIN.out HI.out,HL.out]
         ·have hjl:j=src.length:=by omega
          subst hjl
          rw[List.take_length] at hel8
          have hlaw:LawIn w8 Y le (lb+1) lb (newPs src Y.n) [] (2*src.length+n+costs (ops.take 0)) 0:=by
           refine⟨none,fun _=>[],StoreS.new n 1 4096 le src f,els,.slice none 0 0,[],hs8,?_,hm8,hel8,rfl⟩
           rw[HYN.out]
           exact LawR.new (f:=0) HOK.out HF.out HS40.out HSV.out
          have HLAW:=hid hlaw;have HK8:=hid hk;have HB8:=hid hb8
          clear hlaw hs8 hm8 hel8 hk8 hj hlt hlen hk hb8
          go_wp2_with fail
          clear e0 e3 e4
          go_loopg [14] ops.length (fun k s14 wx=>OpsRel ops Y le (lb+1) lb (2*src.length+n) w8 k s14 wx)
          case atStart=>exact⟨0,_,_,Nat.zero_le _,rfl,rfl,HLAW.out,KeepB.refl _ _⟩
          case round=>
           obtain⟨j,ps,sn,hj,rfl,rfl,hl,hk9⟩:=hrel
           obtain⟨w9,rfl⟩:∃w9,w9=wr:=⟨_,rfl⟩
           by_cases hlt:j<ops.length
           ·have hlt':(j:Int)<ops.length:=by omega
            have hj0:(0:Int)≤(j:Int):=by omega
            obtain⟨o,hx⟩:∃o,ops[j]?=some o:=⟨_,List.getElem?_eq_getElem hlt⟩
            have ho:=HOPS.out o (List.mem_of_getElem? hx)
            have hk:=HK8.out.trans hk9
            have hbb:=HBB.out
            have hfar:∀b,b<w.heap.size→w9.heap[b]?=w.heap[b]?:=fun b hbw=>(hk.block b (by omega) (HC0.out b (by omega)) (Nat.lt_of_lt_of_le hbw HOW.out.size)).trans (HOW.out.block b hbw (by simp))
            obtain⟨b,off,rfl,c0,c1,c2,c3,c4⟩:=op_cells HR.out hx
            have hbw:b<w.heap.size:=block_lt_of_cell c0
            have c0:=Qp c0 (hfar b hbw)
            have c1:=Qp c1 (hfar b hbw)
            have c2:=Qp c2 (hfar b hbw)
            have c3:=Qp c3 (hfar b hbw)
            have c4:=Qp c4 (hfar b hbw)
            have e3:w9.cell? ⟨w.heap.size,3,none⟩=some (.int .i64 (le:Int)):=Qp (HB8.out.cell (i:=3) rfl) (hk9.block _ HBB.out (HC0.out _ (Nat.le_refl _)) HB8.out.lt)
            by_cases h20:(20:Int)<o.L.length
            ·have HON:=hid (hk.onlyNil HOW.out (by omega) (fun k hk=>HC0.out k (by omega)))
             clear hl hk9 hk hfar ho
             go_wp2_with fail
             go_ret
             exact⟨rfl,HON.out⟩
            ·have hkw:=(KeepB.only (Y:=Y) HOW.out (by simp)).trans hk
             have harg:ArgL w Y o.LA o.L:=⟨ho.row,fun a ea hne=>by
              obtain⟨p,l,hpl⟩:=List.exists_cons_of_ne_nil hne
              obtain⟨b',off',e',hc'⟩:=ho.row 0 (.int .i64 p.1) (by rw[hpl];simp[Qd])
              have hb':b'<w.heap.size:=block_lt_of_cell hc'
              rw[ea] at e'
              injection e' with e'
              subst e'
              exact⟨by dsimp only;omega,HC0.out _ (by dsimp only;omega)⟩,ho.nil,by omega⟩
             have hst:=fun W (ho':Only [] w9 W)=>does_step (hl.new ho') (by have:=HO60.out;omega) o.k o.a o.b o.c ho.b ho.c o.LA o.L o.lc ((harg.keep hkw).keep (KeepB.only ho' (by simp))) ho.vals (by
              have q1:=costs_snoc hx
              have q2:=costs_le ops (j+1)
              have q3:=HC.out
              have q4:=HN.out
              omega)
             have H4:=hid (show wrap64 ((j:Int)+1)=(j:Int)+1 from IntWalk.wrap64_in _ (by have:=HO60.out;omega))
             have hkeep:∀W' i u,KeepB Y w9 W'→w9.cell? ⟨b,i,none⟩=some u→W'.cell? ⟨b,i,none⟩=some u:=fun W' i u hK h=>Qp h (hK.block b (by omega) (HC0.out b (by omega)) (block_lt_of_cell h))
             have hkeep3:∀W' i u,KeepB Y w9 W'→w9.cell? ⟨w.heap.size,i,none⟩=some u→W'.cell? ⟨w.heap.size,i,none⟩=some u:=fun W' i u hK h=>Qp h (hK.block _ HBB.out (HC0.out _ (Nat.le_refl _)) (block_lt_of_cell h))
             have HST:=hid hst;have HX:=hid hx;have HK9:=hid hk9;have HKP:=hid hkeep;have HKP3:=hid hkeep3
             unfold ptr at HST
             clear hst hx hk9 hkeep hkeep3 harg hkw ho hk hl hfar hbw hbb
             go_wp2_with fail
             refine wp_region_held_drew (S:=(fun W=>W.cell? ⟨b,off+j*5,none⟩=some (.int .i64 o.k)∧W.cell? ⟨b,off+j*5+1,none⟩=some (.int .i64 o.a)∧W.cell? ⟨b,off+j*5+2,none⟩=some (.int .i64 o.b)∧W.cell? ⟨b,off+j*5+3,none⟩=some (.int .i64 o.c)∧W.cell? ⟨b,off+j*5+4,none⟩=some (.slice o.LA o.L.length o.lc)∧W.cell? ⟨w.heap.size,3,none⟩=some (.int .i64 (le:Int)))) (by kernel_rfl) ?_ (fun hHeld=>?_)
             ·exact⟨c0,c1,c2,c3,c4,e3⟩
             refine tk 0 ?_
             refine tk 1 ?_
             refine tk 2 ?_
             refine tk 3 ?_
             refine tk 4 ?_
             refine tk 5 ?_
             refine tk 6 ?_
             refine on1 7 (fun K hK=>?_)
             go_simp;go_at_call 15;refine (HST.out _ (Only.refl [] w9).drew').mono ?_;rintro en wx ⟨rfl,ps',sn',hl',hk'⟩;have hk':KeepB Y w9 wx:=(KeepB.only (Only.refl [] w9).drew' (by simp)).trans hk';have HL':=hid hl';have HK':=hid hk';have x0:=HKP.out _ _ _ hk' c0;have x1:=HKP.out _ _ _ hk' c1;have x2:=HKP.out _ _ _ hk' c2;have x3:=HKP.out _ _ _ hk' c3;have x4:=HKP.out _ _ _ hk' c4;have x5:=HKP3.out _ _ _ hk' e3;clear hl' hk'
             refine hK.out _ _ (⟨x0,x1,x2,x3,x4,x5⟩) (fun hHeld=>?_)
             clear hK K
             try simp only[sp]
             refine tk 8 ?_
             refine wpAnyH_done (by kernel_rfl) ?_ _
             go_wp2_with fail
             go_roundg (ops.length-(j+1))
             case measure=>omega
             case rel=>
              refine⟨j+1,ps',sn',by omega,by first|(rw[H4.out];simp)|simp,rfl,?_,HK9.out.trans HK'.out⟩
              have:=HL'.out
              rw[Nat.add_assoc,←costs_snoc HX.out] at this
              exact this
           ·have hjl:j=ops.length:=by omega
            subst hjl
            have hon:=(HK8.out.trans hk9).onlyNil HOW.out (by have:=HBB.out;omega) (fun k hk=>HC0.out k (by omega))
            obtain⟨X9,hf9,hp9,hz9⟩:=hl.parts
            have hgp:=getPool w9 Y hf9
            have hgf:=getFaults w9 Y.pool X9.pool hp9
            rw[hz9] at hgf
            have HON:=hid hon
            unfold ptr at hgp hgf
            clear hon hf9 hp9 hl hk9 hj hlt
            go_wp2_with (first|(go_at_call 16;refine hgp.mono ?_;rintro en w10 ⟨rfl,hw10⟩;obtain rfl:w9=w10:=hw10.symm)|(go_at_call 17;refine hgf.mono ?_;rintro en w11 ⟨rfl,hw11⟩;obtain rfl:w9=w11:=hw11.symm))
            go_ret
            exact⟨rfl,HON.out⟩
theorem run_call_loadP {P : Program}{f : FuncId}{fn : Func}(hf : P.funcs[f]? = some fn)(hname : (fn.name == "runtime.NumGoroutine") = false)(hb : fn.body.isNone = true)(hn : Extern.findNext fn = none)
  (he:Extern.find fn=some (Extern.Atomic.loadT .ptr)) {a:Addr} {p:Option Addr} {w:World} (hc:w.cell? a=some (.pointer p)):
  (callFunc f #[.pointer (some a)]).run P w=.ok (.value (.pointer p)) w:=by
 rw[run_callFunc_extern hf hname hb hn he]
 change (Sem.run P (do Extern.Atomic.read .ptr (←asAddr (.pointer (some a)))) w).andThen _=_
 simp[Extern.Atomic.read,asAddr,hc,Result.andThen]
theorem run_call_casP {P : Program}{f : FuncId}{fn : Func}(hf : P.funcs[f]? = some fn)(hname : (fn.name == "runtime.NumGoroutine") = false)(hb : fn.body.isNone = true)(hn : Extern.findNext fn = none)
  (he:Extern.find fn=some (Extern.Atomic.casT .ptr)) {a p:Addr} {q:Option Addr} {w:World} (hc:w.cell? a=some (.pointer (some p))) (hz:w.frozen? a=false):
  (callFunc f #[.pointer (some a),.pointer (some p),.pointer q]).run P w=.ok (.value (.bool true)) (w.setCell a (.pointer q)):=by
 rw[run_callFunc_extern hf hname hb hn he]
 change (Sem.run P (do
  let a' ←asAddr (.pointer (some a))
  if ← Extern.Atomic.touchesFrozen a' then unsupported (.unsafePointer "a write to bytes that a string shares")
  let eq ←match Extern.Atomic.T.ptr,←Extern.Atomic.read .ptr a',Value.pointer (some p) with
   |_,.int _ x,.int _ y=>pure (x == y)
   |.ptr,.pointer x,.pointer y=>samePointer x y
   |.int _,.pointer (some _),.int _ 0 | .int _,.int _ 0,.pointer (some _)=>pure false
   |.int _,.pointer (some _),_ | .int _,_,.pointer (some _)=>unsupported .addressObserved
   |_, _, _ => stuck "atomic.CompareAndSwap: old is no T"
  if eq then store a' (.pointer q) .atomic
  pure (Value.bool eq)) w).andThen _=_
 simp[Extern.Atomic.touchesFrozen,Extern.Atomic.read,asAddr,viewAt,World.shape?_isSome_of_cell? hc,hc,hz,samePointer,run_sameAddr_same,run_store P w a (.pointer q) .atomic rfl,Result.andThen]
theorem Blk.shape {w:World}{b:Nat}{cs:List Value}{t:TypeId}(h:Blk w b cs t):w.shape? b=some (t,cs.length):=by
 have h:w.heap[b]?=some (.cells cs.toArray t):=h
 simp[World.shape?,h]
theorem loadP_any (b:Nat)(t:Nat)(v:Value)(w:World)(hc:w.cell? ⟨b,0,none⟩=some (ptr t))(ht:Blk w t [v] 170):
  Calls prog 201 #[ptr b] w fun e w'=>e=.returned (ptr t)∧w=w':=by
 unfold ptr at *
 have hl:=run_call_loadP (P:=prog) func226 (by kernel_rfl) (by kernel_rfl) (by kernel_rfl) (by kernel_rfl) hc
 have hcv:(convert 173 168 (.pointer (some ⟨t,0,none⟩))).run prog w=.ok (.pointer (some ⟨t,0,none⟩)) w:=by
  obtain⟨j,hj⟩:∃j,prog.info? 170=some j:=⟨_,rfl⟩
  exact Lib.run_from_unsafe (u:=170) w ⟨t,0,none⟩ (by kernel_rfl) (by kernel_rfl) hj ht.shape (by kernel_rfl)
 go_enter func201,ntmps201
 go_wp2
 go_ret
 exact⟨rfl,rfl⟩
theorem casP_any (b t t2:Nat)(v v2:Value)(w:World)(hc:w.cell? ⟨b,0,none⟩=some (ptr t))(hf:w.frozen? ⟨b,0,none⟩=false)(ht:Blk w t [v] 170)(ht2:Blk w t2 [v2] 170):
  Calls prog 203 #[ptr b,ptr t,ptr t2] w fun e w'=>e=.returned (.bool true)∧w.setCell ⟨b,0,none⟩ (ptr t2)=w':=by
 unfold ptr at *
 have hl:=run_call_casP (P:=prog) func228 (by kernel_rfl) (by kernel_rfl) (by kernel_rfl) (by kernel_rfl) (q:=some ⟨t2,0,none⟩) hc hf
 have hcv1:(convert 168 173 (.pointer (some ⟨t,0,none⟩))).run prog w=.ok (.pointer (some ⟨t,0,none⟩)) w:=run_convert_to_unsafe (t:=170) (by kernel_rfl) (by kernel_rfl) (by kernel_rfl) (ht.cell (i:=0) rfl)
 have hcv2:(convert 168 173 (.pointer (some ⟨t2,0,none⟩))).run prog w=.ok (.pointer (some ⟨t2,0,none⟩)) w:=run_convert_to_unsafe (t:=170) (by kernel_rfl) (by kernel_rfl) (by kernel_rfl) (ht2.cell (i:=0) rfl)
 go_enter func203,ntmps203
 go_wp2
 go_ret
 exact⟨rfl,rfl⟩
theorem boardLoad_any (b t:Nat)(v:Value)(w:World)(hb:Blk w b [ptr t] 177)(ht:Blk w t [v] 170):
  Calls prog 155 #[ptr b,.pointer none] w fun e w'=>e=.returned (ptr t)∧w=w':=by
 have hl:=loadP_any b t v w (hb.cell rfl) ht
 have hst:=Qx w
 have c0:=hb.cell (i:=0) rfl
 unfold ptr at *
 clear hb ht
 go_enter func155,ntmps155
 go_wp2_with (first|(go_at_call 71;refine hst.mono ?_;rintro e w' ⟨rfl,rfl⟩)|(go_at_call 201;refine hl.mono ?_;rintro e w' ⟨rfl,rfl⟩))
 go_ret
 exact⟨rfl,rfl⟩
theorem boardSwap_any (b t t2:Nat)(v v2:Value)(w:World)(hb:Blk w b [ptr t] 177)(ht:Blk w t [v] 170)(ht2:Blk w t2 [v2] 170):
  Calls prog 160 #[ptr b,.pointer none,ptr t,ptr t2] w fun e w'=>e=.returned (.bool true)∧w.setCell ⟨b,0,none⟩ (ptr t2)=w':=by
 have hl:=casP_any b t t2 v v2 w (hb.cell rfl) (hb.frozen 0) ht ht2
 have hst:=Qx w
 have c0:=hb.cell (i:=0) rfl
 unfold ptr at *
 clear hb ht ht2
 go_enter func160,ntmps160
 go_wp2_with (first|(go_at_call 71;refine hst.mono ?_;rintro e w' ⟨rfl,rfl⟩)|(go_at_call 203;refine hl.mono ?_;rintro e w' ⟨rfl,rfl⟩))
 go_ret
 exact⟨rfl,rfl⟩
theorem isNaN_any (x:Int)(w:World):Calls prog 225 #[.int .i64 x] w fun e w'=>e=.returned (.bool false)∧w=w':=by
 go_enter func225,ntmps225
 go_wp2_with fail
 go_ret
 exact⟨by simp,rfl⟩
theorem compare_same (x:Int)(w:World):Calls prog 200 #[.int .i64 x,.int .i64 x] w fun e w'=>e=.returned (.int .i64 0)∧w=w':=by
 have hn:=isNaN_any x w
 have hlt:¬x<x:=by omega
 go_enter func200,ntmps200
 go_wp2_with (go_at_call 225;refine hn.mono ?_;rintro e w' ⟨rfl,rfl⟩)
 go_ret
 exact⟨rfl,rfl⟩
theorem place1_same (x v:Int)(w:World):Calls prog 199 #[.agg #[.int .i64 x,.int .i64 v],.int .i64 x] w fun e w'=>e=.returned (.int .i64 0)∧Only [] w w':=by
 have hb:=Blk.new w [.int .i64 x,.int .i64 v] 36
 have hc:=compare_same x (w.alloc (.cells #[.int .i64 x,.int .i64 v] 36))
 have c0:=hb.cell (i:=0) rfl
 clear hb
 go_enter func199,ntmps199
 go_wp2_with (go_at_call 200;refine hc.mono ?_;rintro e w' ⟨rfl,rfl⟩)
 go_ret
 exact⟨rfl,(Only.refl _ _).alloc _⟩
end Go.Proofs.YteeefedoffplmaaGreat
