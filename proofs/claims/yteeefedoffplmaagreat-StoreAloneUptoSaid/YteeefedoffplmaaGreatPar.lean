/- StoreAlone, part Par: TrimG, TrimH, PartOps, ManySt. -/
import Derived.Test.YteeefedoffplmaaGreatPao
import Derived.Test.YteeefedoffplmaaGreatPaq
import Derived.Test.YteeefedoffplmaaGreatPak
import Derived.Test.YteeefedoffplmaaGreatPan
import Derived.Test.YteeefedoffplmaaGreatPap
set_option linter.unusedSimpArgs false
set_option linter.unusedVariables false
set_option maxRecDepth 100000
set_option maxHeartbeats 51200000
namespace Go.Proofs.YteeefedoffplmaaGreat
open Go.RowKit Lib Go.Proofs.Tryz
def TrimW:Nat→Int→Int→ChainS × EpochS × PoolS→Int × ChainS × EpochS × PoolS→Prop
 |0,_,_,_,_=>False
 |f+1,n,v,(C,e,S),r=>∃older l C' S',C.cut S v=some (older,l,C',S')∧S'.slots.length=S.slots.length∧C'.sets.length=C.sets.length∧l.length≤10000∧(∀h∈l,Ql h)∧e.list.length+l.length≤90000∧0≤n∧n≤1000000 ∧
   (older=0∧r=(n,C',e,S')∨older≠0∧Ql older∧TrimW f (n+l.length+1) older (C',Zk e (l ++ [older]),S') r)
theorem TrimW.is:∀{f:Nat} {n v:Int} {x:ChainS × EpochS × PoolS} {r:Int × ChainS × EpochS × PoolS},TrimW f n v x r→trimFrom f n v x=some r
 |0,_,_,_,_,h=>h.elim
 |f+1,n,v,(C,e,S),r,h=>by
  obtain⟨older,l,C',S',h1,_,_,_,_,_,_,_,h2⟩:=h
  unfold trimFrom
  rw[h1,Zj]
  dsimp only
  rcases h2 with ⟨h2,rfl⟩|⟨h2,_,h3⟩
  ·rw[if_pos h2]
  ·rw[if_neg h2]
   exact h3.is
def cutX (X:StoreS)(i:Nat)(C:ChainS)(e:EpochS)(S:PoolS):StoreS:={X with pool:=S,epoch:=e,chains:=X.chains.set i C}
theorem retireAll_snoc (e:EpochS)(l:List Int)(x:Int):Zk e (l ++ [x])=(Zk e l).retire x:=by rw[retireAll_app];rfl
theorem retireAll_list (l:List Int):∀e:EpochS,(Zk e l).list.length=e.list.length+l.length∧(Zk e l).deep=e.deep:=by
 induction l with
 |nil=>intro e;exact⟨rfl,rfl⟩
 |cons x l ih=>
  intro e
  obtain⟨h1,h2⟩:=ih (e.retire x)
  refine⟨?_,?_⟩
  ·show (Zk (e.retire x) l).list.length=_
   rw[h1]
   simp[EpochS.retire]
   omega
  ·show (Zk (e.retire x) l).deep=_
   rw[h2]
   rfl
def TgRel (Y:StoreL)(ed:Option Nat)(D:Nat→List Nat)(X:StoreS)(i:Nat)(r:Int × ChainS × EpochS × PoolS)(w:World)(k:Nat)(s8 s9 s11:Value)(wr:World):Prop:=
 ∃(n v:Int) (C:ChainS) (e:EpochS) (S:PoolS) (ed':Option Nat) (D':Nat→List Nat),s8=.int .i64 n∧s9=.int .i64 0∧s11=.int .i64 v∧TrimW k n v (C,e,S) r∧e.deep=1∧C.sets.length=X.pool.slots.length∧S.slots.length=X.pool.slots.length∧StoreIn wr Y ed' D' (cutX X i C e S)∧Moves Y (Qw Y ed D) (Qw Y ed' D') w wr
def TiRel (Y:StoreL)(ed:Option Nat)(D:Nat→List Nat)(X:StoreS)(i:Nat)(C:ChainS)(e:EpochS)(S:PoolS)(n:Int)(l:List Int)(rb:Nat)(D':Nat→List Nat)(w:World)(k:Nat)(s8 s54:Value)(wr:World):Prop:=
 ∃(j:Nat) (ed':Option Nat),j≤l.length∧s8=.int .i64 (n+j)∧s54=.int .i64 (j:Int)∧k=l.length-j∧StoreIn wr Y ed' D' (cutX X i C (Zk e (l.take j)) S)∧Moves Y (Qw Y ed D) (Qw Y ed' D') w wr∧Row wr (some ⟨rb,0,none⟩) (Zc l)∧Y.base≤rb∧¬Qw Y ed' D' rb∧rb<wr.heap.size
theorem trimS_any (w:World)(Y:StoreL)(ed:Option Nat)(D:Nat→List Nat)(X:StoreS)(h:StoreIn w Y ed D X)(h0:X.epoch.deep=0)(i:Nat)(C:ChainS)(hC:X.chains[i]?=some C)(v:Int)(S1:PoolS)(hat:C.atStamp X.clock.now X.pool X.clock.least=some (some v,S1))(hl1:S1.slots.length=X.pool.slots.length)
  (f:Nat) (n:Int) (C2:ChainS) (e2:EpochS) (S2:PoolS) (hT:TrimW f 0 v (C,X.epoch.enter,S1) (n,C2,e2,S2)):
  Calls prog 72 #[.pointer none,ptr (Y.chain i).xb,ptr Y.eb,ptr Y.clock.cb] w fun e w'=>∃ed' D',e=.returned (.tuple #[.int .i64 n,.int .i64 0])∧StoreIn w' Y ed' D' (cutX X i C2 e2.leave S2)∧Moves Y (Qw Y ed D) (Qw Y ed' D') w w':=by
 have hi:i<Y.n:=by rw[←h.chains];exact (List.getElem?_eq_some_iff.1 hC).1
 have hil:i<X.chains.length:=(List.getElem?_eq_some_iff.1 hC).1
 have hent:=enter_any w Y.eb Y.pool.pb Y.base ed X.epoch h.epoch h0
 have hat':=fun W (hs:StoreIn W Y ed D {X with epoch:=X.epoch.enter})=>at_chain W (Y.chain i) Y.pool X.pool Y.clock X.clock Y.base (D i) C hs.pool hs.clock (hs.chain i C hC) (hs.far hi) X.clock.least (some v) S1 hat
 have hls:=fun W (hs:StoreIn W Y ed D {X with epoch:=X.epoch.enter})=>clockLeast W Y.clock X.clock hs.clock
 have hst:∀W,StoreIn W Y ed D {{X with epoch:=X.epoch.enter} with pool:=S1}→Moves Y (Qw Y ed D) (Qw Y ed D) w W→TgRel Y ed D X i (n,C2,e2,S2) w f (.int .i64 0) (.int .i64 0) (.int .i64 v) W:=fun W hs hm=>by
  refine⟨0,v,C,X.epoch.enter,S1,ed,D,rfl,rfl,rfl,hT,by simp[EpochS.enter,h0],?_,hl1,?_,hm⟩
  ·exact h.sets C (List.mem_of_getElem? hC)
  ·unfold cutX
   rw[set_same hC]
   exact hs
 have H:=hid h;have HI:=hid hi;have HAT:=hid hat';have HLS:=hid hls;have HL1:=hid hl1;have HIL:=hid hil;have HST:=hid hst
 unfold Epoched at hent
 unfold Settled atAns I2 at HAT
 dsimp only at HAT HLS
 unfold ptr at *
 clear h h0 hC hat hl1 hT hi hil hat' hls hst
 go_enter_defers func72,ntmps72
 go_wp2_with (first|(go_at_call 85;refine hent.mono ?_;rintro e w1 ⟨rfl,he1,ho1⟩;obtain⟨hs1,hm1⟩:=epochEd H.out he1 ho1;have HS1:=hid hs1;have HM1:=hid hm1;clear he1 ho1 hs1 hm1)|(go_at_call 129;refine (HLS.out _ HS1.out).mono ?_;rintro e w' ⟨rfl,rfl⟩)|(go_at_call 128;refine (HAT.out _ HS1.out).mono ?_;rintro e w2 ⟨rfl,hp2,ho2⟩;have hs2:=HS1.out.poolStep ho2 hp2 HL1.out;have hm2:=HS1.out.poolMoves ho2;have HTG:=hid (HST.out _ hs2 (HM1.out.trans hm2));clear hp2 ho2 hs2 hm2))
 clear hent
 go_loopg [8,9,11] f (fun k s8 s9 s11 wr=>TgRel Y ed D X i (n,C2,e2,S2) w k s8 s9 s11 wr)
 case atStart=>exact HTG.out
 case round=>
  clear HTG
  obtain⟨m,v',C',e',S',ed',D',rfl,rfl,rfl,htw,hdp,hcs,hss,hsi,hmv⟩:=hrel
  cases gk with
  |zero=>exact htw.elim
  |succ g=>
   obtain⟨wo,rfl⟩:∃wo,wo=wr:=⟨wr,rfl⟩
   obtain⟨older,l,C3,S3,hcut,q1,q2,q3,q4,q5,q6,q7,hor⟩:=htw
   have hcc:=cut_any wo (Y.chain i) Y.pool S' Y.clock.cb Y.base (D' i) C' hsi.pool (hsi.chain i C' (by simp[cutX,HIL.out])) (hsi.far HI.out) v' older l C3 S3 hcut
   have HSI:=hid hsi;have HMV:=hid hmv;have HDP:=hid hdp;have HCS:=hid hcs;have HSS:=hid hss
   have Q1:=hid q1;have Q2:=hid q2;have Q3:=hid q3;have Q4:=hid q4;have Q5:=hid q5;have Q6:=hid q6;have Q7:=hid q7
   unfold CutPost ptr at hcc
   clear hsi hmv hdp hcs hss q1 q2 q3 q4 q5 q6 q7 hcut
   rcases hor with ⟨rfl,hr⟩|⟨hne,ho64,htw⟩
   ·have HR:=hid hr
    clear hr
    go_wp2_with (go_at_call 130;refine hcc.mono ?_;rintro e w3 ⟨sv,D3,rfl,hown3,_,hsv,hDs,hp3,hc3,ho3⟩;obtain⟨sA,sc,rfl,_,_⟩:=Qc hown3;have hs3:=HSI.out.chainStep HI.out ho3 hp3 hc3 (fun k hk=>.inl (hDs k hk)) Q1.out (Q2.out.trans (HCS.out.trans HSS.out.symm));have hm3:=HSI.out.chainMoves HI.out ho3 (fun k hk=>.inl (hDs k hk));have HS3:=hid hs3;have HM3:=hid (HMV.out.trans hm3);clear hown3 hsv hDs hp3 hc3 ho3 hs3 hm3)
    have hs3:=HS3.out
    simp only[cutX,List.set_set] at hs3
    have HS3':=hid hs3
    cases HR.out
    refine leaves_cons (f:=86) (args:=#[.pointer (some ⟨Y.eb,0,none⟩),.pointer none]) (by simp) (by simp[go_sem]) ?_
    refine (leave_d w3 Y.eb Y.pool.pb Y.base ed' e2 hs3.epoch HDP.out .returning).mono ?_
    rintro e u' w9 ⟨rfl,rfl,he9,ho9⟩
    obtain⟨hs9,hm9⟩:=epochEd HS3'.out he9 ho9
    exact⟨.tuple #[.int .i64 n,.int .i64 0],by simp[results,Tryz.results72,go_sem],ed',_,rfl,hs9,HM3.out.trans hm9⟩
   ·have hq:(older == 0)=false:=by simp[hne]
    have HO64:=hid ho64;have HTW:=hid htw
    have HMX:=hid (show l.length+1≤maxLen from by have:=Q3.out;unfold maxLen;omega)
    have HMY:=hid (show (l.length+1)*8≤140737488355328 from by have:=Q3.out;omega)
    clear ho64 htw
    go_wp2_with (first|(go_at_call 130;refine hcc.mono ?_;rintro e w3 ⟨sv,D3,rfl,hown3,_,hsv,hDs,hp3,hc3,ho3⟩;obtain⟨sA,sc,rfl,_,_⟩:=Qc hown3;have hs3:=HSI.out.chainStep HI.out ho3 hp3 hc3 (fun k hk=>.inl (hDs k hk)) Q1.out (Q2.out.trans (HCS.out.trans HSS.out.symm));have hm3:=HSI.out.chainMoves HI.out ho3 (fun k hk=>.inl (hDs k hk));have HS3:=hid hs3;have HM3:=hid hm3;have HOWN3:=hid hown3;have HSV:=hid hsv;have HDS:=hid hDs;have HO3:=hid ho3;clear hown3 hsv hDs hp3 hc3 ho3 hs3 hm3;have HRN:=hid (Zg w3 [.int .i64 older] 3);have HBS:=hid (show Y.base≤(w3.alloc (.cells #[.int .i64 older] 3)).heap.size from by have:=HS3.out.room;simp;omega))|(at_builtin;refine Qj rfl (.tmp 49) (.tmp 51) rfl elemInt rfl (HOWN3.out.alloc (.cells #[.int .i64 older] 3)) _ 1 _ [.int .i64 older] rfl HRN.out rfl (by simp[Value.oneCell']) HMX.out HMY.out HBS.out (fun e=>by cases e) ?_;intro v2 w5 hown5 hg5 hat5;obtain⟨A5,c5,rfl,hr5,_⟩:=Qc hown5;have HR5:=hid hr5;have HOWN5:=hid hown5;have HG5:=hid (show (w3.alloc (.cells #[.int .i64 older] 3)).grownBy w5 (Value.slice sA l.length sc).ownBlock from hg5);have HAT5:=hid (show (Value.slice A5 (l.length+1) c5).ownBlock=(Value.slice sA l.length sc).ownBlock∨(Value.slice A5 (l.length+1) c5).ownBlock=some (w3.alloc (.cells #[.int .i64 older] 3)).heap.size from hat5);clear hr5 hown5 hg5 hat5))
    obtain⟨rb,rfl⟩:∃rb,A5=some ⟨rb,0,none⟩:=by
     obtain⟨g,c,hv⟩:=own_some HOWN5.out (by omega)
     injection hv with hv
     exact⟨g,hv⟩
    have hzr:∀k,(Value.slice sA l.length sc).ownBlock=some k→Y.base≤k∧k<w3.heap.size∧k∈D' i∧¬Qw Y ed' (fun j=>if j=i then D3 else D' j) k:=fun k hk=>by
     obtain⟨d1,d2⟩:=HSV.out k hk
     obtain⟨l1,l2⟩:=HOWN3.out.lt k hk
     refine⟨l1,l2,d1,fun e=>?_⟩
     rcases e with e|⟨j,hj,e⟩
     ·exact HSI.out.edD i HI.out k d1 e
     ·replace e:k∈(if j=i then D3 else D' j):=e
      by_cases hji:j=i
      ·rw[if_pos hji] at e
       exact d2 e
      ·rw[if_neg hji] at e
       exact HSI.out.apart i j HI.out hj (fun x=>hji x.symm) k d1 e
    have ho35:Only (Value.slice sA l.length sc).ownBlock.toList w3 w5:=(((Only.refl [] w3).alloc (.cells #[.int .i64 older] 3)).mono (by simp)).grown HG5.out (fun k hk=>.inr (by rw[hk];simp))
    have hs5:=HS3.out.only ho35 (fun k hk=>by have:=hzr k (by simpa using hk);exact⟨this.1,this.2.2.2⟩)
    have hm5:Moves Y (Qw Y ed' D') (Qw Y ed' (fun j=>if j=i then D3 else D' j)) wo w5:=by
     have ho25:Only (chX (Y.chain i) Y.pool ++ (Value.slice sA l.length sc).ownBlock.toList) wo w5:=(HO3.out.mono (by intro k hk;simp[hk])).trans (ho35.mono (by intro k hk;simp at hk;simp[hk]))
     have hmc:=HM3.out
     refine⟨ho25.os,ho25.tape,ho25.output,ho25.size,fun k h1 h2 h3=>ho25.block k h1 (fun e=>?_),hmc.dyn⟩
     rcases List.mem_append.1 e with e|e
     ·simp only[chX,List.mem_cons] at e
      rcases e with rfl|rfl|e
      ·exact h2 ⟨(H.out.ok.xb i HI.out).1,by rw[(H.out.ok.xb i HI.out).2];omega⟩
      ·exact h2 ⟨(H.out.ok.sets i HI.out).1,by rw[(H.out.ok.sets i HI.out).2];omega⟩
      ·have:=H.out.ok.pool k (Qf e)
       exact h2 ⟨this.1,by rw[this.2];decide⟩
     ·exact h3 (.inr ⟨i,HI.out,(hzr k (by simpa using e)).2.2.1⟩)
    have hrb:Y.base≤rb∧¬Qw Y ed' (fun j=>if j=i then D3 else D' j) rb:=by
     rcases HAT5.out with e|e
     ·have:=hzr rb e.symm
      exact⟨this.1,this.2.2.2⟩
     ·injection e with e
      have h1:=HS3.out.room
      have h2:rb=w3.heap.size+1:=by simpa using e
      exact⟨by omega,fun e=>by have:=(HS3.out.dyn_lt e).2;omega⟩
    have hrl:rb<w5.heap.size:=(HOWN5.out.lt rb rfl).2
    have hr5':Row w5 (some ⟨rb,0,none⟩) (Zc (l ++ [older])):=by
     rw[ints_snoc]
     exact HR5.out
    simp only[cutX,List.set_set] at hs5
    have hstI:TiRel Y ed D X i C3 e' S3 m (l ++ [older]) rb (fun j=>if j=i then D3 else D' j) w (l.length+1) (.int .i64 m) (.int .i64 0) w5:=
     ⟨0,ed',Nat.zero_le _,by simp,rfl,by simp,hs5,HMV.out.trans hm5,hr5',hrb.1,hrb.2,hrl⟩
    have HSTI:=hid hstI
    have hll:((l ++ [older]).length:Int)=(l.length:Int)+1:=by simp
    clear hzr ho35 hs5 hm5 hrb hrl hr5' hstI hcc HS3 HM3 HOWN3 HSV HDS HO3 HRN HBS HR5 HOWN5 HG5 HAT5 HMX HMY
    go_loopg [8,54] (l.length+1) (fun k s8 s54 wi=>TiRel Y ed D X i C3 e' S3 m (l ++ [older]) rb (fun j=>if j=i then D3 else D' j) w k s8 s54 wi)
    case atStart=>exact HSTI.out
    case round=>
     clear HSTI
     obtain⟨jj,ed2,hjj,rfl,rfl,rfl,hsj,hmj,hrow,hrb1,hrb2,hrl⟩:=hrel
     have HSJ:=hid hsj;have HMJ:=hid hmj;have HROW:=hid hrow;have HRB1:=hid hrb1;have HRB2:=hid hrb2;have HRL:=hid hrl;have HJJ:=hid hjj
     have hlen:(l ++ [older]).length=l.length+1:=by simp
     have hn1:=Q6.out
     have hn2:=Q7.out
     have hn3:=Q3.out
     by_cases hlt:jj<l.length+1
     ·have hlt':(jj:Int)<(l.length:Int)+1:=by omega
      obtain⟨x,hx⟩:∃x,(l ++ [older])[jj]?=some x:=⟨_,List.getElem?_eq_getElem (by rw[hlen];exact hlt)⟩
      obtain⟨b',o',hb',hc'⟩:=hrow jj _ (ints_get hx)
      injection hb' with hb'
      injection hb' with hb1 hb2
      subst hb1 hb2
      have hx64:Ql x:=by
       rcases List.mem_append.1 (List.mem_of_getElem? hx) with hm|hm
       ·exact Q4.out x hm
       ·obtain rfl:=List.mem_singleton.1 hm
        exact HO64.out
      have hrt:=retire_any wr Y.eb Y.pool.pb Y.base ed2 (Zk e' ((l ++ [older]).take jj)) hsj.epoch x hx64 (by
       rw[(retireAll_list _ e').1,List.length_take]
       have:=Q5.out
       omega)
      have hw1:IntKind.i64.wrap (m+(jj:Int)+1)=m+(jj:Int)+1:=IntWalk.i64_in _ (by omega)
      have hw2:wrap64 (m+(jj:Int)+1)=m+(jj:Int)+1:=IntWalk.wrap64_in _ (by omega)
      have HW2:=hid hw2
      have hw3:wrap64 ((jj:Int)+1)=(jj:Int)+1:=IntWalk.wrap64_in _ (by omega)
      have HW3:=hid hw3
      have HX:=hid hx
      unfold Retired ptr at hrt
      rw[Nat.zero_add] at hc'
      clear hsj hmj hrow hrb1 hrb2 hrl hjj hx hx64 hlen
      go_wp2_with (go_at_call 131;refine hrt.mono ?_;rintro e w6 ⟨ed6,rfl,he6,ho6,hd6⟩;obtain⟨hs6,hm6⟩:=retiredStep HSJ.out he6 ho6 hd6;have HO6:=hid ho6;have HD6:=hid hd6;have HS6:=hid hs6;have HM6:=hid hm6;clear he6 ho6 hd6 hs6 hm6)
      go_roundg (l.length+1-(jj+1))
      case measure=>have:=HJJ.out;simp at this ⊢;omega
      case rel=>
       have hbz:rb∉Y.eb :: ed2.toList:=fun m=>by
        rcases List.mem_cons.1 m with e|e
        ·have:=HRB1.out;have:=H.out.ok.eb.1;omega
        ·exact HRB2.out (.inl (by simpa using e))
       refine⟨jj+1,ed6,by simp;omega,by first|(rw[HW2.out];push_cast;rw[Int.add_assoc])|(push_cast;rw[Int.add_assoc]),by first|(rw[HW3.out];rfl)|go_num,by simp,?_,HMJ.out.trans HM6.out,HROW.out.only HO6.out (fun b hb=>by injection hb with hb;subst hb;exact hbz),HRB1.out,fun e=>?_,Nat.lt_of_lt_of_le HRL.out HO6.out.size⟩
       ·rw[Zd HX.out,retireAll_snoc]
        exact HS6.out
       ·rcases e with e|e
        ·rcases HD6.out with h|⟨g,h,hg⟩
         ·rw[h] at e;exact HRB2.out (.inl e)
         ·rw[h] at e;injection e with e;have:=HRL.out;omega
        ·exact HRB2.out (.inr e)
     ·have hjl:jj=l.length+1:=by have:=HJJ.out;simp at this;omega
      have HJL:=hid hjl
      clear hsj hmj hrow hrb1 hrb2 hrl hjj hjl
      go_wp2_with fail
      go_roundg g
      case measure=>omega
      case rel=>
       have hs:=HSJ.out
       rw[HJL.out,List.take_of_length_le (by simp)] at hs
       have e1:m+(l.length:Int)+1=m+((jj:Nat):Int):=by rw[HJL.out];push_cast;omega
       refine⟨m+(jj:Int),older,C3,_,S3,ed2,_,rfl,rfl,rfl,by rw[←e1];exact HTW.out,by rw[(retireAll_list _ e').2];exact HDP.out,Q2.out.trans HCS.out,Q1.out.trans HSS.out,hs,HMJ.out⟩
theorem trimN_any (w:World)(Y:StoreL)(ed:Option Nat)(D:Nat→List Nat)(X:StoreS)(h:StoreIn w Y ed D X)(h0:X.epoch.deep=0)(i:Nat)(C:ChainS)(hC:X.chains[i]?=some C)(S1:PoolS)(hat:C.atStamp X.clock.now X.pool X.clock.least=some (none,S1))(hl1:S1.slots.length=X.pool.slots.length):
  Calls prog 72 #[.pointer none,ptr (Y.chain i).xb,ptr Y.eb,ptr Y.clock.cb] w fun e w'=>∃ed' D',e=.returned (.tuple #[.int .i64 0,.int .i64 0])∧StoreIn w' Y ed' D' {X with pool:=S1,epoch:=X.epoch.enter.leave}∧Moves Y (Qw Y ed D) (Qw Y ed' D') w w':=by
 have hi:i<Y.n:=by rw[←h.chains];exact (List.getElem?_eq_some_iff.1 hC).1
 have hd1:X.epoch.enter.deep=1:=by simp[EpochS.enter,h0]
 have hent:=enter_any w Y.eb Y.pool.pb Y.base ed X.epoch h.epoch h0
 have hat':=fun W (hs:StoreIn W Y ed D {X with epoch:=X.epoch.enter})=>at_chain W (Y.chain i) Y.pool X.pool Y.clock X.clock Y.base (D i) C hs.pool hs.clock (hs.chain i C hC) (hs.far hi) X.clock.least none S1 hat
 have hls:=fun W (hs:StoreIn W Y ed D {X with epoch:=X.epoch.enter})=>clockLeast W Y.clock X.clock hs.clock
 have H:=hid h;have HAT:=hid hat';have HLS:=hid hls;have HL1:=hid hl1;have HD1:=hid hd1
 unfold Epoched at hent
 unfold Settled atAns E2 at HAT
 dsimp only at HAT HLS
 unfold ptr at *
 clear h h0 hC hat hl1 hi hat' hls hd1
 go_enter_defers func72,ntmps72
 go_wp2_with (first|(go_at_call 85;refine hent.mono ?_;rintro e w1 ⟨rfl,he1,ho1⟩;obtain⟨hs1,hm1⟩:=epochEd H.out he1 ho1;have HS1:=hid hs1;have HM1:=hid hm1;clear he1 ho1 hs1 hm1)|(go_at_call 129;refine (HLS.out _ HS1.out).mono ?_;rintro e w' ⟨rfl,rfl⟩)|(go_at_call 128;refine (HAT.out _ HS1.out).mono ?_;rintro e w2 ⟨rfl,hp2,ho2⟩;have hs2:=HS1.out.poolStep ho2 hp2 HL1.out;have hm2:=HS1.out.poolMoves ho2;have HS2:=hid hs2;have HM2:=hid (HM1.out.trans hm2);clear hp2 ho2 hs2 hm2))
 refine wp_loop_rounds 1 ?_
 rw[rounds_succ]
 go_wp2_with fail
 refine leaves_cons (f:=86) (args:=#[.pointer (some ⟨Y.eb,0,none⟩),.pointer none]) (by simp) (by simp[go_sem]) ?_
 refine (leave_d w2 Y.eb Y.pool.pb Y.base ed X.epoch.enter HS2.out.epoch HD1.out .returning).mono ?_
 rintro e u' w9 ⟨rfl,rfl,he9,ho9⟩
 obtain⟨hs9,hm9⟩:=epochEd HS2.out he9 ho9
 exact⟨.tuple #[.int .i64 0,.int .i64 0],by simp[results,Tryz.results72,go_sem],ed,D,rfl,hs9,HM2.out.trans hm9⟩
def TrimP (X:StoreS)(i:Nat)(n:Int)(X2:StoreS):Prop:=
 X.epoch.deep=0∧∃C S1,X.chains[i]?=some C∧S1.slots.length=X.pool.slots.length ∧
  (C.atStamp X.clock.now X.pool X.clock.least=some (none,S1)∧n=0∧X2={X with pool:=S1,epoch:=X.epoch.enter.leave} ∨
  ∃v f C2 e2 S2,C.atStamp X.clock.now X.pool X.clock.least=some (some v,S1)∧TrimW f 0 v (C,X.epoch.enter,S1) (n,C2,e2,S2)∧X2=cutX X i C2 e2.leave S2)
theorem trimP_any (w:World)(Y:StoreL)(ed:Option Nat)(D:Nat→List Nat)(X X2:StoreS)(h:StoreIn w Y ed D X)(i:Nat)(n:Int)(ht:TrimP X i n X2):
  Calls prog 72 #[.pointer none,ptr (Y.chain i).xb,ptr Y.eb,ptr Y.clock.cb] w fun e w'=>∃ed' D',e=.returned (.tuple #[.int .i64 n,.int .i64 0])∧StoreIn w' Y ed' D' X2∧Moves Y (Qw Y ed D) (Qw Y ed' D') w w':=by
 obtain⟨h0,C,S1,hC,hl,⟨hat,rfl,rfl⟩|⟨v,f,C2,e2,S2,hat,hT,rfl⟩⟩:=ht
 ·exact trimN_any w Y ed D X h h0 i C hC S1 hat hl
 ·exact trimS_any w Y ed D X h h0 i C hC v S1 hat hl f n C2 e2 S2 hT
theorem storeTrimP_any (w:World)(Y:StoreL)(ed:Option Nat)(D:Nat→List Nat)(X X2:StoreS)(h:StoreIn w Y ed D X)(i:Nat)(n:Int)(ht:TrimP X i n X2):
  Calls prog 24 #[ptr Y.sb,.pointer none,.int .i64 (i:Int)] w fun e w'=>∃ed' D',e=.returned (.tuple #[.int .i64 n,.int .i64 0])∧StoreIn w' Y ed' D' X2∧Moves Y (Qw Y ed D) (Qw Y ed' D') w w':=by
 have hi:i<Y.n:=by
  obtain⟨_,C,_,hC,_⟩:=ht
  rw[←h.chains]
  exact (List.getElem?_eq_some_iff.1 hC).1
 obtain⟨A,c,hsb,hrow⟩:=h.fixed.sb
 obtain⟨pb,rfl,hpb,hc⟩:=hrow i (ptr (Y.pt i)) (by simp[hi])
 have s6:=hsb.cell (i:=6) rfl
 have s2:=hsb.cell (i:=2) rfl
 have s1:=hsb.cell (i:=1) rfl
 have p0:=(h.fixed.pt i hi).cell (i:=0) rfl
 have htr:=trimP_any w.drew Y ed D X X2 (h.new (Only.drew [] _)) i n ht
 have HM:=hid (Moves.of_new (Y:=Y) (dy:=Qw Y ed D) (Only.drew [] w))
 have HDB:=hid (fun k (e:Qw Y ed D k)=>(h.dyn_lt e).1)
 have HSB:=hid h.ok.sb
 have HPT:=hid (h.ok.pt i hi)
 have HPB:=hid hpb
 have hn:=h.ok.n
 have h1:(0:Int)≤(i:Int):=by omega
 have h2:(i:Int)<(Y.n:Int):=by omega
 unfold ptr at *
 clear h hsb hrow ht hi
 generalize Y.n=yn at *
 go_enter func24,ntmps24
 go_wp2_with fail
 all_goals (try (exfalso;omega))
 go_region_held3 (fun W=>W.cell? ⟨Y.sb,6,none⟩=some (.slice (some ⟨pb,0,none⟩) yn c)∧W.cell? ⟨Y.sb,2,none⟩=some (.pointer (some ⟨Y.eb,0,none⟩))∧W.cell? ⟨Y.sb,1,none⟩=some (.pointer (some ⟨Y.clock.cb,0,none⟩))∧W.cell? ⟨pb,i,none⟩=some (.pointer (some ⟨Y.pt i,0,none⟩))∧W.cell? ⟨Y.pt i,0,none⟩=some (.pointer (some ⟨(Y.chain i).xb,0,none⟩)))
  (first|with_reducible exact⟨hm.fix HDB.out s6 HSB.out,hm.fix HDB.out s2 HSB.out,hm.fix HDB.out s1 HSB.out,hm.fix HDB.out hc HPB.out,hm.fix HDB.out p0 HPT.out⟩|(go_keep;done))
  (first|(go_simp;go_at_call 72;refine htr.mono ?_;rintro e w1 ⟨ed',D',rfl,hs,hm⟩;have HS:=hid hs;have hm:=HM.out.trans hm;have HMM:=hid hm;clear hs))
 all_goals
  go_wp2_with fail
  go_ret2
  exact⟨_,_,rfl,HS.out,HMM.out⟩
theorem storeTrimNo_any (w:World)(Y:StoreL)(hf:Fixed w Y)(k:Int)(hk:k<0∨(Y.n:Int)≤k):
  Calls prog 24 #[ptr Y.sb,.pointer none,.int .i64 k] w fun e w'=>e=.returned (.tuple #[.int .i64 0,.int .i64 151])∧w'=w:=by
 obtain⟨A,c,hsb,hrow⟩:=hf.sb
 have s6:=hsb.cell (i:=6) rfl
 unfold ptr at *
 clear hf hsb hrow
 generalize Y.n=yn at *
 by_cases h0:k<0
 ·clear hk
  go_enter func24,ntmps24
  go_wp2_with (go_at_call 71;refine (Qx _).mono ?_;rintro e w' ⟨rfl,rfl⟩)
  go_ret2
  exact⟨rfl,rfl⟩
 ·have h1:k≥(yn:Int):=by omega
  clear hk
  go_enter func24,ntmps24
  go_wp2_with (go_at_call 71;refine (Qx _).mono ?_;rintro e w' ⟨rfl,rfl⟩)
  go_ret2
  exact⟨rfl,rfl⟩
theorem row_one {w:World}{b:Nat}{k:Int}(h:Blk w b [.int .i64 k] 3):Row w (some ⟨b,0,none⟩) (Zc [k]):=fun j u hu=>by
 refine⟨b,0,rfl,?_⟩
 rw[Nat.zero_add]
 exact h.cell (by simpa [Zc] using hu)
theorem any_one {k:Int}{n i:Nat}(hk:Qt k=true)(hp:Qu k n=(i:Int)):([k].any fun k=>!hasB k n i)=false:=by simp[hasB,hk,hp]
section
variable (w:World)(Y:StoreL)(ed:Option Nat)(D:Nat→List Nat)(X X':StoreS)(h:StoreIn w Y ed D X)(i:Nat)
include w Y ed D X X' h i
theorem partOps_all:(∀(k v:Int) (told:ToldS) (err:Int) (hk:Qt k=true) (hpk:Qu k Y.n=(i:Int)) (hp:WriteP Y X i (putE k v) (PutOk k v) told err X'),Calls prog 54 #[ptr (Y.pt i),.pointer none,.int .i64 k,.int .i64 v] w (Qh Y ed D told err X' w)) ∧
  (∀(k:Int) (told:ToldS) (err:Int) (hk:Qt k=true) (hpk:Qu k Y.n=(i:Int)) (hp:WriteP Y X i (dropE k) (DropOk k) told err X'),Calls prog 174 #[ptr (Y.pt i),.pointer none,.int .i64 k] w (Qh Y ed D told err X' w)) ∧
  (∀(k o v:Int) (told:ToldS) (err:Int) (hk:Qt k=true) (hpk:Qu k Y.n=(i:Int)) (hp:WriteP Y X i (swapE k o v) (PutOk k v) told err X'),Calls prog 176 #[ptr (Y.pt i),.pointer none,.int .i64 k,.int .i64 o,.int .i64 v] w (Qh Y ed D told err X' w)):=by
 refine⟨?_,?_,?_⟩
 intro k v told err hk hpk hp;have tg1:=0;rotate_left
 intro k told err hk hpk hp;have tg2:=0;rotate_left
 intro k o v told err hk hpk hp;rotate_left
 all_goals
  have hi:=hp.lt h
  obtain⟨X1,C,hd,S1,n,r,S2,X2,hrd,hdp,hn,hf,ho,hl,he,rfl⟩:=hp
  have hmf:∀(fn:Fn) (first cap:Array Value) (w:World),(Instr.makeFunc fn first cap).run prog w=.ok (.func fn first cap) w:=fun _ _ _ _=>rfl
  first|(have _:=tg1;obtain⟨w0,hw0⟩:∃w0,((((w.alloc (.cells #[ptr (Y.pt i)] 107)).alloc (.cells #[.int .i64 k] 3)).alloc (.cells #[.int .i64 v] 3)).alloc (.cells #[.int .i64 0,.bool false,.int .i64 0,.bool false,.int .i64 0] 57)).alloc (.cells #[.int .i64 k] 3)=w0:=⟨_,rfl⟩;have ho0:Only [] w w0:=by rw[←hw0];exact ((((((Only.refl _ _)).alloc _).alloc _).alloc _).alloc _).alloc _)|(have _:=tg2;obtain⟨w0,hw0⟩:∃w0,(((w.alloc (.cells #[ptr (Y.pt i)] 107)).alloc (.cells #[.int .i64 k] 3)).alloc (.cells #[.int .i64 0,.bool false,.int .i64 0,.bool false,.int .i64 0] 57)).alloc (.cells #[.int .i64 k] 3)=w0:=⟨_,rfl⟩;have ho0:Only [] w w0:=by rw[←hw0];exact (((((Only.refl _ _)).alloc _).alloc _).alloc _).alloc _)|(obtain⟨w0,hw0⟩:∃w0,(((((w.alloc (.cells #[ptr (Y.pt i)] 107)).alloc (.cells #[.int .i64 k] 3)).alloc (.cells #[.int .i64 o] 3)).alloc (.cells #[.int .i64 v] 3)).alloc (.cells #[.int .i64 0,.bool false,.int .i64 0,.bool false,.int .i64 0] 57)).alloc (.cells #[.int .i64 k] 3)=w0:=⟨_,rfl⟩;have ho0:Only [] w w0:=by rw[←hw0];exact (((((((Only.refl _ _)).alloc _).alloc _).alloc _).alloc _).alloc _).alloc _)
  have hb4:Blk w0 (w.heap.size) [ptr (Y.pt i)] 107:=by
   have:=Blk.new (w) [ptr (Y.pt i)] 107
   rw[←hw0]
   first|(have _:=tg1;exact ((((this).alloc _).alloc _).alloc _).alloc _)|(have _:=tg2;exact (((this).alloc _).alloc _).alloc _)|(exact (((((this).alloc _).alloc _).alloc _).alloc _).alloc _)
  have hb6:Blk w0 (w.heap.size+1) [.int .i64 k] 3:=by
   have:=Blk.new (w.alloc (.cells #[ptr (Y.pt i)] 107)) [.int .i64 k] 3
   rw[World.size_alloc] at this
   rw[←hw0]
   first|(have _:=tg1;exact (((this).alloc _).alloc _).alloc _)|(have _:=tg2;exact ((this).alloc _).alloc _)|(exact ((((this).alloc _).alloc _).alloc _).alloc _)
  first
  |have _:=tg1
   have hb7:Blk w0 (w.heap.size+1+1) [.int .i64 v] 3:=by
    have:=Blk.new ((w.alloc (.cells #[ptr (Y.pt i)] 107)).alloc (.cells #[.int .i64 k] 3)) [.int .i64 v] 3
    rw[World.size_alloc,World.size_alloc] at this
    rw[←hw0]
    exact ((this).alloc _).alloc _
   have hbR:Blk w0 (w.heap.size+1+1+1) [.int .i64 0,.bool false,.int .i64 0,.bool false,.int .i64 0] 57:=by
    have:=Blk.new (((w.alloc (.cells #[ptr (Y.pt i)] 107)).alloc (.cells #[.int .i64 k] 3)).alloc (.cells #[.int .i64 v] 3)) [.int .i64 0,.bool false,.int .i64 0,.bool false,.int .i64 0] 57
    rw[World.size_alloc,World.size_alloc,World.size_alloc] at this
    rw[←hw0]
    exact (this).alloc _
   have hbK:Blk w0 (w.heap.size+1+1+1+1) [.int .i64 k] 3:=by
    have:=Blk.new ((((w.alloc (.cells #[ptr (Y.pt i)] 107)).alloc (.cells #[.int .i64 k] 3)).alloc (.cells #[.int .i64 v] 3)).alloc (.cells #[.int .i64 0,.bool false,.int .i64 0,.bool false,.int .i64 0] 57)) [.int .i64 k] 3
    rw[World.size_alloc,World.size_alloc,World.size_alloc,World.size_alloc] at this
    rw[←hw0]
    exact this
  |have _:=tg2
   have hbR:Blk w0 (w.heap.size+1+1) [.int .i64 0,.bool false,.int .i64 0,.bool false,.int .i64 0] 57:=by
    have:=Blk.new ((w.alloc (.cells #[ptr (Y.pt i)] 107)).alloc (.cells #[.int .i64 k] 3)) [.int .i64 0,.bool false,.int .i64 0,.bool false,.int .i64 0] 57
    rw[World.size_alloc,World.size_alloc] at this
    rw[←hw0]
    exact (this).alloc _
   have hbK:Blk w0 (w.heap.size+1+1+1) [.int .i64 k] 3:=by
    have:=Blk.new (((w.alloc (.cells #[ptr (Y.pt i)] 107)).alloc (.cells #[.int .i64 k] 3)).alloc (.cells #[.int .i64 0,.bool false,.int .i64 0,.bool false,.int .i64 0] 57)) [.int .i64 k] 3
    rw[World.size_alloc,World.size_alloc,World.size_alloc] at this
    rw[←hw0]
    exact this
  |have hb7:Blk w0 (w.heap.size+1+1) [.int .i64 o] 3:=by
    have:=Blk.new ((w.alloc (.cells #[ptr (Y.pt i)] 107)).alloc (.cells #[.int .i64 k] 3)) [.int .i64 o] 3
    rw[World.size_alloc,World.size_alloc] at this
    rw[←hw0]
    exact (((this).alloc _).alloc _).alloc _
   have hb8:Blk w0 (w.heap.size+1+1+1) [.int .i64 v] 3:=by
    have:=Blk.new (((w.alloc (.cells #[ptr (Y.pt i)] 107)).alloc (.cells #[.int .i64 k] 3)).alloc (.cells #[.int .i64 o] 3)) [.int .i64 v] 3
    rw[World.size_alloc,World.size_alloc,World.size_alloc] at this
    rw[←hw0]
    exact ((this).alloc _).alloc _
   have hbR:Blk w0 (w.heap.size+1+1+1+1) [.int .i64 0,.bool false,.int .i64 0,.bool false,.int .i64 0] 57:=by
    have:=Blk.new ((((w.alloc (.cells #[ptr (Y.pt i)] 107)).alloc (.cells #[.int .i64 k] 3)).alloc (.cells #[.int .i64 o] 3)).alloc (.cells #[.int .i64 v] 3)) [.int .i64 0,.bool false,.int .i64 0,.bool false,.int .i64 0] 57
    rw[World.size_alloc,World.size_alloc,World.size_alloc,World.size_alloc] at this
    rw[←hw0]
    exact (this).alloc _
   have hbK:Blk w0 (w.heap.size+1+1+1+1+1) [.int .i64 k] 3:=by
    have:=Blk.new (((((w.alloc (.cells #[ptr (Y.pt i)] 107)).alloc (.cells #[.int .i64 k] 3)).alloc (.cells #[.int .i64 o] 3)).alloc (.cells #[.int .i64 v] 3)).alloc (.cells #[.int .i64 0,.bool false,.int .i64 0,.bool false,.int .i64 0] 57)) [.int .i64 k] 3
    rw[World.size_alloc,World.size_alloc,World.size_alloc,World.size_alloc,World.size_alloc] at this
    rw[←hw0]
    exact this
  have hnd:∀b,w.heap.size≤b→Y.base≤b∧¬Qw Y ed D b:=fun b hb=>⟨Nat.le_trans h.room hb,fun e=>by have:=(h.dyn_lt e).2;omega⟩
  first
  |have _:=tg1
   have hway:=wayPut w0 Y ed D {X1 with epoch:=X1.epoch.enter} i hi k v C hd S1 n hn r S2 hf ho hl told err X2 he (w.heap.size) (w.heap.size+1) (w.heap.size+1+1) ⟨hb4.cell rfl,(hnd _ (by omega)).1,(hnd _ (by omega)).2⟩ ⟨hb6.cell rfl,(hnd _ (by omega)).1,(hnd _ (by omega)).2⟩ ⟨hb7.cell rfl,(hnd _ (by omega)).1,(hnd _ (by omega)).2⟩
   have hdo:Calls prog 114 #[ptr (Y.pt i),.pointer none,.agg #[.slice (some ⟨(w.heap.size+1+1+1+1),0,none⟩) 1 1,.func (.func 115) #[] #[ptr (w.heap.size),ptr (w.heap.size+1),ptr (w.heap.size+1+1)]]] w0 (Qh Y ed D told err {X2 with epoch:=X2.epoch.leave} w0):=
    doesE_any w0 Y ed D X X1 X2 (h.new ho0) i hi hrd hdp _ 1 [k] (by simp) (row_one hbK) (any_one hk hpk) 115 _ told err he.zero hway he.epoch
  |have _:=tg2
   have hway:=wayDrop w0 Y ed D {X1 with epoch:=X1.epoch.enter} i hi k C hd S1 n hn r S2 hf ho hl told err X2 he (w.heap.size) (w.heap.size+1) ⟨hb4.cell rfl,(hnd _ (by omega)).1,(hnd _ (by omega)).2⟩ ⟨hb6.cell rfl,(hnd _ (by omega)).1,(hnd _ (by omega)).2⟩
   have hdo:Calls prog 114 #[ptr (Y.pt i),.pointer none,.agg #[.slice (some ⟨(w.heap.size+1+1+1),0,none⟩) 1 1,.func (.func 211) #[] #[ptr (w.heap.size),ptr (w.heap.size+1)]]] w0 (Qh Y ed D told err {X2 with epoch:=X2.epoch.leave} w0):=
    doesE_any w0 Y ed D X X1 X2 (h.new ho0) i hi hrd hdp _ 1 [k] (by simp) (row_one hbK) (any_one hk hpk) 211 _ told err he.zero hway he.epoch
  |have hway:=waySwap w0 Y ed D {X1 with epoch:=X1.epoch.enter} i hi k o v C hd S1 n hn r S2 hf ho hl told err X2 he (w.heap.size) (w.heap.size+1) (w.heap.size+1+1) (w.heap.size+1+1+1) ⟨hb4.cell rfl,(hnd _ (by omega)).1,(hnd _ (by omega)).2⟩ ⟨hb6.cell rfl,(hnd _ (by omega)).1,(hnd _ (by omega)).2⟩ ⟨hb7.cell rfl,(hnd _ (by omega)).1,(hnd _ (by omega)).2⟩ ⟨hb8.cell rfl,(hnd _ (by omega)).1,(hnd _ (by omega)).2⟩
   have hdo:Calls prog 114 #[ptr (Y.pt i),.pointer none,.agg #[.slice (some ⟨(w.heap.size+1+1+1+1+1),0,none⟩) 1 1,.func (.func 213) #[] #[ptr (w.heap.size),ptr (w.heap.size+1),ptr (w.heap.size+1+1),ptr (w.heap.size+1+1+1)]]] w0 (Qh Y ed D told err {X2 with epoch:=X2.epoch.leave} w0):=
    doesE_any w0 Y ed D X X1 X2 (h.new ho0) i hi hrd hdp _ 1 [k] (by simp) (row_one hbK) (any_one hk hpk) 213 _ told err he.zero hway he.epoch
  have HDO:=hid hdo
  have HB8:=hid hbR
  have H:=hid h
  have HO0:=hid ho0
  generalize ({X2 with epoch:=X2.epoch.leave}:StoreS)=X3 at *
  obtain⟨t0,t1,t2,t3,t4⟩:=told
  unfold Qh ToldS.val ptr at HDO
  unfold Qh ToldS.val
  unfold ptr at *
  dsimp only at HDO ⊢
  have p4:=hb4.cell (i:=0) rfl
  have p6:=hb6.cell (i:=0) rfl
  first|(have _:=tg1;have p7:=hb7.cell (i:=0) rfl;clear h hrd hdp hn hf ho hl he hk hpk hway hdo ho0 hnd hb4 hb6 hb7 hbR hbK;go_enter func54,ntmps54)|(have _:=tg2;clear h hrd hdp hn hf ho hl he hk hpk hway hdo ho0 hnd hb4 hb6 hbR hbK;go_enter func174,ntmps174)|(have p7:=hb7.cell (i:=0) rfl;have p8:=hb8.cell (i:=0) rfl;clear h hrd hdp hn hf ho hl he hk hpk hway hdo ho0 hnd hb4 hb6 hb7 hb8 hbR hbK;go_enter func176,ntmps176)
  go_wp2_with (go_at_call 114;refine HDO.out.mono ?_;rintro e w2 ⟨D',rfl,hs2,hm2⟩;have hbr2:=wrote_blk H.out hm2 (by omega) HB8.out;have rf:=hbr2.frozen;have r0:=hbr2.cell (i:=0) rfl;have r1:=hbr2.cell (i:=1) rfl;have r2:=hbr2.cell (i:=2) rfl;have r3:=hbr2.cell (i:=3) rfl;have r4:=hbr2.cell (i:=4) rfl;have HFIN:=hid (wrote_fin H.out hs2 HO0.out hm2 (by omega) HB8.out.lt);clear hs2 hm2 hbr2)
  first|(have _:=tg1;exact bodyPost_ret (v:=.tuple #[.agg #[.int .i64 t0,.bool t1,.int .i64 t2,.bool t3,.int .i64 t4],.int .i64 err]) (by simp[results,Tryz.results54,go_sem,r0,r1,r2,r3,r4]) rfl ⟨D',rfl,HFIN.out _ (only5 _ _ _ _ _ _ _)⟩)|(have _:=tg2;exact bodyPost_ret (v:=.tuple #[.agg #[.int .i64 t0,.bool t1,.int .i64 t2,.bool t3,.int .i64 t4],.int .i64 err]) (by simp[results,Tryz.results174,go_sem,r0,r1,r2,r3,r4]) rfl ⟨D',rfl,HFIN.out _ (only5 _ _ _ _ _ _ _)⟩)|(exact bodyPost_ret (v:=.tuple #[.agg #[.int .i64 t0,.bool t1,.int .i64 t2,.bool t3,.int .i64 t4],.int .i64 err]) (by simp[results,Tryz.results176,go_sem,r0,r1,r2,r3,r4]) rfl ⟨D',rfl,HFIN.out _ (only5 _ _ _ _ _ _ _)⟩)
abbrev partPutOp_any:=(partOps_all w Y ed D X X' h i).1
abbrev partDropOp_any:=(partOps_all w Y ed D X X' h i).2.1
abbrev partSwapOp_any:=(partOps_all w Y ed D X X' h i).2.2
end
def z8:List Value:=[.int .i64 0,.slice none 0 0,.slice none 0 0,.int .i64 0,.bool false,.int .i64 0,.bool false,.int .i64 0]
def ChangeS.cs (c:ChangeS)(gv mv:Value):List Value:=[.int .i64 c.root,gv,mv,.int .i64 c.told.value,.bool c.told.had,.int .i64 c.told.number,.bool c.told.new,.int .i64 c.told.many]
structure MgSt (w0:World)(L:PoolL)(S:PoolS)(c:ChangeS)(gv mv:Value)(w:World):Prop where
 p:PoolAt w L S
 r:Blk w w0.heap.size z8 209
 b:Blk w (w0.heap.size+1) (c.cs gv mv) 209
 g:w.ownsRow (w0.heap.size+2) 3 1 gv c.gone.length (Zc c.gone)
 m:w.ownsRow (w0.heap.size+2) 3 1 mv c.made.length (Zc c.made)
 apart:∀k,gv.ownBlock=some k→mv.ownBlock≠some k
 room:w0.heap.size+2≤w.heap.size
 low:∀k∈L.all,k<w0.heap.size
 only:Only L.blocks w0 w
def Aside (w0:World)(b:Nat)(gv mv:Value)(w:World):Prop:=w0.heap.size+2≤b∧b<w.heap.size∧gv.ownBlock≠some b∧mv.ownBlock≠some b
section
variable {w0 w w' w2:World}{L:PoolL}{S S':PoolS}{c:ChangeS}{gv mv v2:Value}{X:List Nat}
theorem MgSt.step (h:MgSt w0 L S c gv mv w)(ho:Only X w w')(hp:PoolAt w' L S')(hx:∀k∈X,k<w0.heap.size∧k∈L.blocks):MgSt w0 L S' c gv mv w':=by
 refine⟨hp,h.r.only ho (fun e=>by have:=(hx _ e).1;omega),h.b.only ho (fun e=>by have:=(hx _ e).1;omega),Qe h.g ho (fun k hk e=>by have:=(hx _ e).1;have:=(h.g.lt k hk).1;omega),
  Qe h.m ho (fun k hk e=>by have:=(hx _ e).1;have:=(h.m.lt k hk).1;omega),h.apart,Nat.le_trans h.room ho.size,h.low,h.only.trans (ho.mono (fun k hk=>(hx k hk).2))⟩
theorem MgSt.new (h:MgSt w0 L S c gv mv w)(ho:Only [] w w'):MgSt w0 L S c gv mv w':=h.step ho (h.p.only ho (by simp)) (by simp)
theorem MgSt.pool (h:MgSt w0 L S c gv mv w)(ho:Only L.blocks w w')(hp:PoolAt w' L S'):MgSt w0 L S' c gv mv w':=h.step ho hp (fun k hk=>⟨h.low k (Qf hk),hk⟩)
theorem MgSt.own (h:MgSt w0 L S c gv mv w){i:Nat}{v:Value}{c':ChangeS}(hc:c'.cs gv mv=(c.cs gv mv).set i v)(hg:c'.gone=c.gone)(hm:c'.made=c.made):MgSt w0 L S c' gv mv (w.setCell ⟨w0.heap.size+1,i,none⟩ v):=by
 have ho:Only [w0.heap.size+1] w (w.setCell ⟨w0.heap.size+1,i,none⟩ v):=(Only.refl _ _).setCell (.inl (by simp)) _
 refine⟨h.p.only ho (fun k hk e=>by have:=h.low k hk;simp at e;omega),h.r.only ho (by simp),by rw[hc];exact h.b.set i v,?_,?_,h.apart,Nat.le_trans h.room ho.size,h.low,(h.only.mono (Y:=(w0.heap.size+1) :: L.blocks) (by intro k hk;simp[hk])).trans (ho.mono (by simp)) |>.fresh (fun k hk hl=>by
  rcases List.mem_cons.1 hk with rfl|hk
  ·omega
  ·exact hk)⟩
 ·rw[hg];exact Qe h.g ho (fun k hk e=>by have:=(h.g.lt k hk).1;simp at e;omega)
 ·rw[hm];exact Qe h.m ho (fun k hk e=>by have:=(h.m.lt k hk).1;simp at e;omega)
theorem MgSt.setMade (h:MgSt w0 L S c gv mv w){made:List Int}(hg:w.grownBy w2 mv.ownBlock)(hv:w2.ownsRow (w0.heap.size+2) 3 1 v2 made.length (Zc made))(ha:v2.ownBlock=mv.ownBlock∨∃k,v2.ownBlock=some k∧w.heap.size≤k):
  MgSt w0 L S {c with made:=made} gv v2 (w2.setCell ⟨w0.heap.size+1,2,none⟩ v2)∧Only ((w0.heap.size+1) :: mv.ownBlock.toList) w (w2.setCell ⟨w0.heap.size+1,2,none⟩ v2):=by
 have hlt:∀k,mv.ownBlock=some k→w0.heap.size+2≤k:=fun k hk=>(h.m.lt k hk).1
 have ho1:Only mv.ownBlock.toList w w2:=(Only.refl _ _).grown hg (fun k hk=>.inr (by rw[hk];simp))
 have ho2:Only [w0.heap.size+1] w2 (w2.setCell ⟨w0.heap.size+1,2,none⟩ v2):=(Only.refl _ _).setCell (.inl (by simp)) _
 have ho:Only ((w0.heap.size+1) :: mv.ownBlock.toList) w (w2.setCell ⟨w0.heap.size+1,2,none⟩ v2):=(ho1.mono (by intro k hk;simp[hk])).trans (ho2.mono (by simp))
 have hmem:∀k∈(w0.heap.size+1) :: mv.ownBlock.toList,w0.heap.size+1≤k:=fun k hk=>by
  rcases List.mem_cons.1 hk with rfl|hk
  ·omega
  ·have:=hlt k (by simpa using hk);omega
 refine⟨⟨h.p.only ho (fun k hk e=>by have:=h.low k hk;have:=hmem k e;omega),h.r.only ho (fun e=>by have:=hmem _ e;omega),?_,?_,?_,?_,Nat.le_trans h.room ho.size,h.low,?_⟩,ho⟩
 ·exact (Qm h.b hg (fun e=>by have:=hlt _ e;omega)).set 2 v2
 ·refine Qe h.g ho (fun k hk e=>?_)
  rcases List.mem_cons.1 e with rfl|e
  ·have:=(h.g.lt _ hk).1;omega
  ·exact h.apart k hk (by simpa using e)
 ·exact Qe hv ho2 (fun k hk e=>by have:=(hv.lt k hk).1;simp at e;omega)
 ·intro k hk e
  rcases ha with ha|⟨k',ha,hk'⟩
  ·rw[ha] at e;exact h.apart k hk e
  ·rw[ha] at e
   cases e
   have:=(h.g.lt k hk).2
   omega
 ·refine (h.only.mono (Y:=((w0.heap.size+1) :: mv.ownBlock.toList) ++ L.blocks) (by intro k hk;simp[hk])).trans (ho.mono (by intro k hk;simp only[List.mem_append];exact .inl hk)) |>.fresh (fun k hk hl=>?_)
  rcases List.mem_append.1 hk with hk|hk
  ·have:=hmem k hk;omega
  ·exact hk
theorem MgSt.setGone (h:MgSt w0 L S c gv mv w){gone:List Int}(hg:w.grownBy w2 gv.ownBlock)(hv:w2.ownsRow (w0.heap.size+2) 3 1 v2 gone.length (Zc gone))(ha:v2.ownBlock=gv.ownBlock∨∃k,v2.ownBlock=some k∧w.heap.size≤k):
  MgSt w0 L S {c with gone:=gone} v2 mv (w2.setCell ⟨w0.heap.size+1,1,none⟩ v2)∧Only ((w0.heap.size+1) :: gv.ownBlock.toList) w (w2.setCell ⟨w0.heap.size+1,1,none⟩ v2):=by
 have hlt:∀k,gv.ownBlock=some k→w0.heap.size+2≤k:=fun k hk=>(h.g.lt k hk).1
 have ho1:Only gv.ownBlock.toList w w2:=(Only.refl _ _).grown hg (fun k hk=>.inr (by rw[hk];simp))
 have ho2:Only [w0.heap.size+1] w2 (w2.setCell ⟨w0.heap.size+1,1,none⟩ v2):=(Only.refl _ _).setCell (.inl (by simp)) _
 have ho:Only ((w0.heap.size+1) :: gv.ownBlock.toList) w (w2.setCell ⟨w0.heap.size+1,1,none⟩ v2):=(ho1.mono (by intro k hk;simp[hk])).trans (ho2.mono (by simp))
 have hmem:∀k∈(w0.heap.size+1) :: gv.ownBlock.toList,w0.heap.size+1≤k:=fun k hk=>by
  rcases List.mem_cons.1 hk with rfl|hk
  ·omega
  ·have:=hlt k (by simpa using hk);omega
 refine⟨⟨h.p.only ho (fun k hk e=>by have:=h.low k hk;have:=hmem k e;omega),h.r.only ho (fun e=>by have:=hmem _ e;omega),?_,?_,?_,?_,Nat.le_trans h.room ho.size,h.low,?_⟩,ho⟩
 ·exact (Qm h.b hg (fun e=>by have:=hlt _ e;omega)).set 1 v2
 ·exact Qe hv ho2 (fun k hk e=>by have:=(hv.lt k hk).1;simp at e;omega)
 ·refine Qe h.m ho (fun k hk e=>?_)
  rcases List.mem_cons.1 e with rfl|e
  ·have:=(h.m.lt _ hk).1;omega
  ·exact h.apart k (by simpa using e) hk
 ·intro k hk e
  rcases ha with ha|⟨k',ha,hk'⟩
  ·rw[ha] at hk;exact h.apart k hk e
  ·rw[ha] at hk
   cases hk
   have:=(h.m.lt k e).2
   omega
 ·refine (h.only.mono (Y:=((w0.heap.size+1) :: gv.ownBlock.toList) ++ L.blocks) (by intro k hk;simp[hk])).trans (ho.mono (by intro k hk;simp only[List.mem_append];exact .inl hk)) |>.fresh (fun k hk hl=>?_)
  rcases List.mem_append.1 hk with hk|hk
  ·have:=hmem k hk;omega
  ·exact hk
structure EdSt (w0:World)(eb:Nat)(m:EditS)(gA mA:Option Addr)(gc mc:Nat)(gv mv:Value)(w:World):Prop where
 b:Blk w eb [.int .i64 m.root,.int .i64 m.old,.bool m.had,.slice gA m.gone.length gc,.slice mA m.made.length mc] 264
 eb:Aside w0 eb gv mv w
 gr:Row w gA (Zc m.gone)
 mr:Row w mA (Zc m.made)
 ga:∀b,gA=some b→Aside w0 b.block gv mv w
 ma:∀b,mA=some b→Aside w0 b.block gv mv w
 gn:gA=none→m.gone.length=0
 mn:mA=none→m.made.length=0
variable {eb:Nat}{me:EditS}{gA mA:Option Addr}{gc mc:Nat}
theorem EdSt.step {gv' mv':Value}(h:EdSt w0 eb me gA mA gc mc gv mv w)(ho:Only X w w')(hx:∀b,Aside w0 b gv mv w→b∉X)(hg:gv'.ownBlock=gv.ownBlock∨∃k,gv'.ownBlock=some k∧w.heap.size≤k)(hm:mv'.ownBlock=mv.ownBlock∨∃k,mv'.ownBlock=some k∧w.heap.size≤k):EdSt w0 eb me gA mA gc mc gv' mv' w':=by
 have ha:∀b,Aside w0 b gv mv w→Aside w0 b gv' mv' w':=fun b hb=>by
  refine⟨hb.1,Nat.lt_of_lt_of_le hb.2.1 ho.size,fun e=>?_,fun e=>?_⟩
  ·rcases hg with hg|⟨k,hg,hk⟩
   ·rw[hg] at e;exact hb.2.2.1 e
   ·rw[hg] at e;cases e;have:=hb.2.1;omega
  ·rcases hm with hm|⟨k,hm,hk⟩
   ·rw[hm] at e;exact hb.2.2.2 e
   ·rw[hm] at e;cases e;have:=hb.2.1;omega
 exact⟨h.b.only ho (hx _ h.eb),ha _ h.eb,h.gr.only ho (fun b hb=>hx _ (h.ga b hb)),h.mr.only ho (fun b hb=>hx _ (h.ma b hb)),fun b hb=>ha _ (h.ga b hb),fun b hb=>ha _ (h.ma b hb),h.gn,h.mn⟩
theorem Aside.low {b:Nat}(hb:Aside w0 b gv mv w)(hx:∀k∈X,k<w0.heap.size+2):b∉X:=fun e=>by have:=hx b e;have:=hb.1;omega
theorem Aside.made {b:Nat}(hb:Aside w0 b gv mv w):b∉(w0.heap.size+1) :: mv.ownBlock.toList:=fun e=>by
 rcases List.mem_cons.1 e with rfl|e
 ·have:=hb.1;omega
 ·exact hb.2.2.2 (by simpa using e)
theorem Aside.gone {b:Nat}(hb:Aside w0 b gv mv w):b∉(w0.heap.size+1) :: gv.ownBlock.toList:=fun e=>by
 rcases List.mem_cons.1 e with rfl|e
 ·have:=hb.1;omega
 ·exact hb.2.2.1 (by simpa using e)
def MgRel (L:PoolL)(pairs:List (Int × Int))(fin:ChangeS × PoolS)(w:World)(k:Nat)(s20:Value)(wr:World):Prop:=
 ∃(j:Nat) (c:ChangeS) (S:PoolS) (gv mv:Value),j≤pairs.length∧s20=.int .i64 (j:Int)∧k=pairs.length-j∧ManyW (pairs.drop j) (c,S) fin∧MgSt w L S c gv mv wr
def MiRel (L:PoolL)(eb:Nat)(m:EditS)(gA mA:Option Addr)(gc mc:Nat)(fin:ChangeS × PoolS)(w:World)(k:Nat)(s65:Value)(wr:World):Prop:=
 ∃(j:Nat) (c:ChangeS) (S:PoolS) (gv mv:Value),j≤m.gone.length∧s65=.int .i64 (j:Int)∧k=m.gone.length-j∧goneBack (m.gone.drop j) (c,S)=some fin∧c.made.length≤10000∧c.gone.length≤10000+j∧MgSt w L S c gv mv wr∧EdSt w eb m gA mA gc mc gv mv wr
theorem goneBack_cons {h:Int}{l:List Int}{y:ChangeS × PoolS}(e:goneBack (h :: l) (c,S)=some y):
  (c.made.findIdx? (fun x=>decide (x=h))=none∧goneBack l ({c with gone:=c.gone ++ [h]},S)=some y)∨∃i S1,c.made.findIdx? (fun x=>decide (x=h))=some i∧i<c.made.length∧S.give h=some S1∧goneBack l ({c with made:=c.made.eraseIdx i},S1)=some y:=by
 unfold goneBack at e
 cases hf:c.made.findIdx? (fun x=>decide (x=h)) with
 |none=>
  rw[hf] at e
  exact .inl ⟨rfl,e⟩
 |some i=>
  rw[hf] at e
  simp only[bind,Option.bind_eq_some_iff] at e
  obtain⟨S1,h1,h2⟩:=e
  exact .inr ⟨i,S1,rfl,(List.findIdx?_eq_some_iff_getElem.1 hf).1,h1,h2⟩
theorem ints_erase (l:List Int)(i:Nat):(Zc l).take (i*1) ++ (Zc l).drop ((i+1)*1)=Zc (l.eraseIdx i):=by
 unfold Zc
 rw[List.eraseIdx_eq_take_drop_succ,List.map_append,List.map_take,List.map_drop,Nat.mul_one,Nat.mul_one]
end
end Go.Proofs.YteeefedoffplmaaGreat
