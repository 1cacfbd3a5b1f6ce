/- StoreAlone, part Pba: LawE, LawF, OpsD, RunS. -/
import Derived.Test.YteeefedoffplmaaGreatPaz
import Derived.Test.YteeefedoffplmaaGreatPar
import Derived.Test.YteeefedoffplmaaGreatPao
import Derived.Test.YteeefedoffplmaaGreatPah
import Derived.Test.YteeefedoffplmaaGreatPaq
import Derived.Test.YteeefedoffplmaaGreatPak
set_option linter.unusedSimpArgs false
set_option linter.unusedVariables false
set_option maxRecDepth 100000
set_option maxHeartbeats 51200000
namespace Go.Proofs.YteeefedoffplmaaGreat
open Go.RowKit Lib Go.Proofs.Tryz
theorem doesPeek_low (w:World)(Y:StoreL)(ed:Option Nat)(D:Nat→List Nat)(X X':StoreS)(mb lb:Nat)(els:List PlEl)(sv:Value)(sns:List (SnapL × Value))(hs:StoreIn w Y ed D X)(hm:LawM w Y ed D mb lb els sv sns)(hn:els.length=Y.n)(a b c:Int)(LA:Option Addr)(ln lc le:Nat)(hj:a<0):
  Calls prog 15 #[ptr mb,.agg #[.int .i64 8,.int .i64 a,.int .i64 b,.int .i64 c,.slice LA ln lc],.int .i64 (le:Int)] w (LawStep Y mb lb X (els.map (·.2)) (sns.map (·.1)) w):=by
 obtain⟨w0,hw0⟩:∃w0,w.alloc (.cells #[.int .i64 8,.int .i64 a,.int .i64 b,.int .i64 c,.slice LA ln lc] 34)=w0:=⟨_,rfl⟩
 have ho0:Only [] w w0:=by rw[←hw0];exact (Only.refl _ _).alloc _
 have hb4:Blk w0 w.heap.size [.int .i64 8,.int .i64 a,.int .i64 b,.int .i64 c,.slice LA ln lc] 34:=by rw[←hw0];exact Blk.new w _ 34
 have hm0:=hm.new ho0
 have m0:=hm0.m.cell (i:=0) rfl
 have c0:=hb4.cell (i:=0) rfl
 have c1:=hb4.cell (i:=1) rfl
 have HS:=hid hs;have HM:=hid hm;have HO0:=hid ho0;have HB4:=hid hb4;have HM0:=hid hm0;have HW0:=hid hw0
 obtain⟨A,sc,rfl,_,_⟩:=Qc hm.snaps
 have m2:=hm0.m.cell (i:=2) rfl
 have hlt:a<0:=hj
 have hd:decide (a<0)=true:=by simpa using hj
 unfold ptr at *
 clear hs hm hm0 ho0 hb4 hn hj
 go_enter func15,ntmps15
 go_wp2_with fail
 go_quiet (fail)
 go_wp2_with fail
 go_ret
 have hoE:=HO0.out.drewN nq
 exact⟨rfl,ed,D,els,_,sns,HS.out.new hoE,HM.out.new hoE,rfl,rfl,KeepB.only hoE (by simp)⟩
theorem doesPeek_high (w:World)(Y:StoreL)(ed:Option Nat)(D:Nat→List Nat)(X X':StoreS)(mb lb:Nat)(els:List PlEl)(sv:Value)(sns:List (SnapL × Value))(hs:StoreIn w Y ed D X)(hm:LawM w Y ed D mb lb els sv sns)(hn:els.length=Y.n)(a b c:Int)(LA:Option Addr)(ln lc le:Nat)(hj:0≤a∧(sns.length:Int)≤a):
  Calls prog 15 #[ptr mb,.agg #[.int .i64 8,.int .i64 a,.int .i64 b,.int .i64 c,.slice LA ln lc],.int .i64 (le:Int)] w (LawStep Y mb lb X (els.map (·.2)) (sns.map (·.1)) w):=by
 obtain⟨w0,hw0⟩:∃w0,w.alloc (.cells #[.int .i64 8,.int .i64 a,.int .i64 b,.int .i64 c,.slice LA ln lc] 34)=w0:=⟨_,rfl⟩
 have ho0:Only [] w w0:=by rw[←hw0];exact (Only.refl _ _).alloc _
 have hb4:Blk w0 w.heap.size [.int .i64 8,.int .i64 a,.int .i64 b,.int .i64 c,.slice LA ln lc] 34:=by rw[←hw0];exact Blk.new w _ 34
 have hm0:=hm.new ho0
 have m0:=hm0.m.cell (i:=0) rfl
 have c0:=hb4.cell (i:=0) rfl
 have c1:=hb4.cell (i:=1) rfl
 have HS:=hid hs;have HM:=hid hm;have HO0:=hid ho0;have HB4:=hid hb4;have HM0:=hid hm0;have HW0:=hid hw0
 obtain⟨A,sc,rfl,_,_⟩:=Qc hm.snaps
 have m2:=hm0.m.cell (i:=2) rfl
 have h1:¬a<0:=by omega
 have h2:(sns.length:Int)≤a:=hj.2
 have hd1:decide (a<0)=false:=by simpa using h1
 have hd2:decide ((sns.length:Int)≤a)=true:=by simpa using h2
 unfold ptr at *
 clear hs hm hm0 ho0 hb4 hn hj
 go_enter func15,ntmps15
 go_wp2_with fail
 go_quiet (fail)
 go_wp2_with fail
 go_ret
 have hoE:=HO0.out.drewN nq
 exact⟨rfl,ed,D,els,_,sns,HS.out.new hoE,HM.out.new hoE,rfl,rfl,KeepB.only hoE (by simp)⟩
theorem doesPeek_any (w:World)(Y:StoreL)(ed:Option Nat)(D:Nat→List Nat)(X X':StoreS)(mb lb:Nat)(els:List PlEl)(sv:Value)(sns:List (SnapL × Value))(hs:StoreIn w Y ed D X)(hm:LawM w Y ed D mb lb els sv sns)(hn:els.length=Y.n)(b c:Int)(LA:Option Addr)(ln lc le:Nat)(j:Nat)(s:SnapL × Value)(hj:sns[j]?=some s)(hnp:s.1.parts.length=els.length)(v num mn err:Int)(had nw:Bool)(hop:∀W,Only [] w W→Calls prog 30 #[ptr Y.sb,.pointer none,snapV s.1.lease s.1.stamp,.int .i64 b] W (Qh Y ed D ⟨v,had,num,nw,mn⟩ err X' W))(hc:(Qt b=false∧v=0∧had=false∧num=0∧nw=false∧mn=0∧err=161)∨(Qt b=true∧s.1.is=false∧v=0∧had=false∧num=0∧nw=false∧mn=0∧err=182)∨(Qt b=true∧s.1.is=true∧∃(i:Nat) (l:List (Int × Int)),Qu b els.length=(i:Int)∧s.1.parts[i]?=some (l,num)∧l.length≤100000∧(Qk l b).getD 0=v∧(Qk l b).isSome=had∧nw=false∧mn=0∧err=0))(hpr:Qt b=true→0≤Qu b els.length):
  Calls prog 15 #[ptr mb,.agg #[.int .i64 8,.int .i64 (j:Int),.int .i64 b,.int .i64 c,.slice LA ln lc],.int .i64 (le:Int)] w (LawStep Y mb lb X' (els.map (·.2)) (sns.map (·.1)) w):=by
 unfold Qh ToldS.val at hop
 unfold snapV at hop
 dsimp only at hop
 obtain⟨w0,hw0⟩:∃w0,w.alloc (.cells #[.int .i64 8,.int .i64 (j:Int),.int .i64 b,.int .i64 c,.slice LA ln lc] 34)=w0:=⟨_,rfl⟩
 have ho0:Only [] w w0:=by rw[←hw0];exact (Only.refl _ _).alloc _
 have hb4:Blk w0 w.heap.size [.int .i64 8,.int .i64 (j:Int),.int .i64 b,.int .i64 c,.slice LA ln lc] 34:=by rw[←hw0];exact Blk.new w _ 34
 have hm0:=hm.new ho0
 have m0:=hm0.m.cell (i:=0) rfl
 have c0:=hb4.cell (i:=0) rfl
 have c1:=hb4.cell (i:=1) rfl
 have c2:=hb4.cell (i:=2) rfl
 have HS:=hid hs;have HM:=hid hm;have HO0:=hid ho0;have HB4:=hid hb4;have HM0:=hid hm0;have HW0:=hid hw0
 obtain⟨A,sc,rfl,_,_⟩:=Qc hm.snaps
 have m2:=hm0.m.cell (i:=2) rfl
 obtain⟨g,rfl,s0,s1,s2,s3⟩:=hm0.sn hj
 have hjl:=(List.getElem?_eq_some_iff.1 hj).1
 have h1:¬((j:Int)<0):=by omega
 have h2:¬((sns.length:Int)≤(j:Int)):=by omega
 have h3:(0:Int)≤j:=by omega
 have h4:(j:Int)<sns.length:=by omega
 have h5:¬(sns.length≤j):=by omega
 have hd2:decide (sns.length≤j)=false:=by simpa using h5
 have HNN:=hid (show 1≤els.length∧els.length≤64 by rw[hn];exact hs.ok.n)
 obtain⟨p,hp⟩:∃p,ofI b els.length=p:=⟨_,rfl⟩
 have HP:=hid hp;have HOP:=hid hop;have HC:=hid hc;have HJ:=hid hj;have HPR:=hid hpr;have HNP:=hid hnp
 have HSF4:=hid (Safe.fresh hs (Nat.le_refl w.heap.size) hb4.lt)
 unfold ptr at *
 clear hs hm hm0 ho0 hb4 hop hn hc hj hp hpr hjl hnp s2 s3
 go_enter func15,ntmps15
 go_wp2_with fail
 clear hw0 HW0
 go_quiet (fail)
 go_wp2_with fail
 have hod:=(Only.refl [] w0).drewN nq
 replace m0:=Qa hod m0 (by simp)
 replace m2:=Qa hod m2 (by simp)
 replace c1:=Qa hod c1 (by simp)
 replace c2:=Qa hod c2 (by simp)
 replace s0:=Qa hod s0 (by simp)
 replace s1:=Qa hod s1 (by simp)
 replace HM0:=hid (HM0.out.new hod)
 replace HO0:=hid (HO0.out.trans hod)
 replace HB4:=hid (HB4.out.only hod (by simp))
 replace HSF4:=hid (Safe.new hod HSF4.out).1
 clear c0 hod
 generalize w0.drewN nq=w0 at *
 go_cut [12,13] (fun s12 s13 wx=>s13=.int .i64 err∧∃b8,s12=.pointer (some ⟨b8,0,none⟩)∧∃wq D1,wq=wx∧StoreIn wq Y ed D1 X'∧LawM wq Y ed D1 mb lb els (.slice (some ⟨g,0,none⟩) sns.length sc) sns∧KeepB Y w wq∧Blk wq w.heap.size [.int .i64 8,.int .i64 (j:Int),.int .i64 b,.int .i64 c,.slice LA ln lc] 34∧Blk wq b8 [.int .i64 v,.bool had,.int .i64 num,.bool nw,.int .i64 mn] 57)
 case first=>
  refine wp_region_held_drew (S:=(fun W=>W.cell? ⟨mb,0,none⟩=some (.pointer (some ⟨Y.sb,0,none⟩))∧W.cell? ⟨mb,2,none⟩=some (.slice (some ⟨g,0,none⟩) sns.length sc)∧W.cell? ⟨w.heap.size,1,none⟩=some (.int .i64 (j:Int))∧W.cell? ⟨w.heap.size,2,none⟩=some (.int .i64 b)∧W.cell? ⟨g,j*4,none⟩=some (.int .i64 (s.1.lease:Int))∧W.cell? ⟨g,j*4+1,none⟩=some (.int .i64 s.1.stamp))) (by kernel_rfl) ?_ (fun hHeld=>?_)
  ·exact⟨m0,m2,c1,c2,s0,s1⟩
  refine tk 0 ?_
  refine tk 1 ?_
  refine tk 2 ?_
  refine tk 3 ?_
  refine tk 4 ?_
  refine tk 5 ?_
  refine tk 6 ?_
  refine tk 7 ?_
  refine tk 8 ?_
  refine tk 9 ?_
  refine tk 10 ?_
  refine tk 11 ?_
  refine tk 12 ?_
  refine tk 13 ?_
  refine tk 14 ?_
  refine on2 15 19 (fun K hK=>?_) (fun K hK=>?_)
  ·go_simp;go_at_call 30;refine (HOP.out _ HO0.out.drew').mono ?_;rintro en wS ⟨D1,rfl,hsS,hmS⟩;have hmS0:Moves Y (Qw Y ed D) (Qw Y ed D1) w0 wS:=⟨hmS.os,hmS.tape,hmS.output,hmS.size,hmS.block,hmS.dyn⟩;have HSS:=hid hsS;have HMS:=hid hmS0;have hbS:=HB4.out.heap (Safe.moves hmS0 HSF4.out).2;have xm0:=Qp m0 (Safe.moves hmS0 HM0.out.ms).2;have xm2:=Qp m2 (Safe.moves hmS0 HM0.out.ms).2;have xc1:=hbS.cell (i:=1) rfl;have xc2:=hbS.cell (i:=2) rfl;have xs0:=Qp s0 (Safe.moves hmS0 (HM0.out.svs g rfl).1).2;have xs1:=Qp s1 (Safe.moves hmS0 (HM0.out.svs g rfl).1).2;have HBS:=hid hbS;clear hsS hmS hmS0 hbS
   refine hK.out _ _ (⟨xm0,xm2,xc1,xc2,xs0,xs1⟩) (fun hHeld=>?_)
   clear hK K
   try simp only[sp]
   refine tk 16 ?_
   refine tk 17 ?_
   refine tk 18 ?_
   refine on1 19 (fun K hK=>?_)
   go_simp
   refine hK.out _ _ (⟨Qb xm0 _,Qb xm2 _,Qb xc1 _,Qb xc2 _,Qb xs0 _,Qb xs1 _⟩) (fun hHeld=>?_)
   clear hK K
   try simp only[sp]
   refine on1 20 (fun K hK=>?_)
   go_simp
   refine hK.out _ _ (⟨Qb xm0 _,Qb xm2 _,Qb xc1 _,Qb xc2 _,Qb xs0 _,Qb xs1 _⟩) (fun hHeld=>?_)
   clear hK K
   try simp only[sp]
   refine tk 21 ?_
   refine wpAnyH_done (by kernel_rfl) ?_ _
   go_wp2_with fail
   go_meet
   have ho:=(Only.refl [] wS).alloc (.cells #[.int .i64 v,.bool had,.int .i64 num,.bool nw,.int .i64 mn] 57)
   exact⟨rfl,_,rfl,_,D1,rfl,HSS.out.new ho,(HM0.out.moves HMS.out).new ho,(KeepB.only HO0.out (by simp)).trans ((KeepB.moves HMS.out (fun k hk=>(HS.out.dyn_lt hk).1)).trans (KeepB.only ho (by simp))),HBS.out.alloc _,Blk.new wS [.int .i64 v,.bool had,.int .i64 num,.bool nw,.int .i64 mn] 57⟩
  ·go_simp
   have hoa:=(Only.refl [] w0).alloc (.cells #[.int .i64 0,.bool false,.int .i64 0,.bool false,.int .i64 0] 57)
   refine hK.out _ _ (⟨Qb m0 _,Qb m2 _,Qb c1 _,Qb c2 _,Qb s0 _,Qb s1 _⟩) (fun hHeld=>?_)
   clear hK K
   try simp only[sp]
   obtain⟨wA,hwA⟩:∃wA,w0.alloc (.cells #[.int .i64 0,.bool false,.int .i64 0,.bool false,.int .i64 0] 57)=wA:=⟨_,rfl⟩
   rw[hwA] at hoa ⊢
   have hb8:Blk wA w0.heap.size [.int .i64 0,.bool false,.int .i64 0,.bool false,.int .i64 0] 57:=by rw[←hwA];exact Blk.new w0 _ 57
   have hmA:=HM0.out.new hoa;have hbA:=HB4.out.only hoa (by simp)
   have am0:=Qa hoa m0 (by simp)
   have am2:=Qa hoa m2 (by simp)
   have ac1:=Qa hoa c1 (by simp)
   have ac2:=Qa hoa c2 (by simp)
   have as0:=Qa hoa s0 (by simp)
   have as1:=Qa hoa s1 (by simp)
   have HOA:=hid (HO0.out.trans hoa);have HMA:=hid hmA;have HBA:=hid hbA;have HB8:=hid hb8;have HSFA:=hid (Safe.new hoa HSF4.out).1;have HSF8:=hid (Safe.fresh HS.out HO0.out.size hb8.lt)
   have hn8:w.heap.size≠w0.heap.size:=by have:=HB4.out.lt;omega
   have hn9:mb≠w0.heap.size:=by have:=HM0.out.ms.1;omega
   have hn7:g≠w0.heap.size:=by have:=(HM0.out.svs g rfl).1.1;omega
   clear hoa hmA hbA hb8 hwA hHeld
   have hHeld:((fun W=>W.cell? ⟨mb,0,none⟩=some (.pointer (some ⟨Y.sb,0,none⟩))∧W.cell? ⟨mb,2,none⟩=some (.slice (some ⟨g,0,none⟩) sns.length sc)∧W.cell? ⟨w.heap.size,1,none⟩=some (.int .i64 (j:Int))∧W.cell? ⟨w.heap.size,2,none⟩=some (.int .i64 b)∧W.cell? ⟨g,j*4,none⟩=some (.int .i64 (s.1.lease:Int))∧W.cell? ⟨g,j*4+1,none⟩=some (.int .i64 s.1.stamp))) wA.drew:=⟨am0,am2,ac1,ac2,as0,as1⟩
   refine on1 15 (fun K hK=>?_)
   go_simp;go_at_call 30;refine (HOP.out _ HOA.out.drew').mono ?_;rintro en wS ⟨D1,rfl,hsS,hmS⟩;have hmS0:Moves Y (Qw Y ed D) (Qw Y ed D1) wA wS:=⟨hmS.os,hmS.tape,hmS.output,hmS.size,hmS.block,hmS.dyn⟩;have HSS:=hid hsS;have HMS:=hid hmS0;have hbS:=HBA.out.heap (Safe.moves hmS0 HSFA.out).2;have xam0:=Qp am0 (Safe.moves hmS0 HMA.out.ms).2;have xam2:=Qp am2 (Safe.moves hmS0 HMA.out.ms).2;have xac1:=hbS.cell (i:=1) rfl;have xac2:=hbS.cell (i:=2) rfl;have xas0:=Qp as0 (Safe.moves hmS0 (HMA.out.svs g rfl).1).2;have xas1:=Qp as1 (Safe.moves hmS0 (HMA.out.svs g rfl).1).2;have hb8S:=HB8.out.heap (Safe.moves hmS0 HSF8.out).2;have y0:=hb8S.cell (i:=0) rfl;have y1:=hb8S.cell (i:=1) rfl;have y2:=hb8S.cell (i:=2) rfl;have y3:=hb8S.cell (i:=3) rfl;have y4:=hb8S.cell (i:=4) rfl;have yf:=hb8S.frozen;have HBS:=hid hbS;have HB8S:=hid hb8S;clear hsS hmS hmS0 hbS hb8S
   refine hK.out _ _ (⟨xam0,xam2,xac1,xac2,xas0,xas1⟩) (fun hHeld=>?_)
   clear hK K
   try simp only[sp]
   refine tk 16 ?_
   refine tk 17 ?_
   refine tk 18 ?_
   refine on1 20 (fun K hK=>?_)
   go_simp
   refine hK.out _ _ (⟨Qa (five _ _ _ _ _ _ _) xam0 (by simpa using hn9),Qa (five _ _ _ _ _ _ _) xam2 (by simpa using hn9),Qa (five _ _ _ _ _ _ _) xac1 (by simpa using hn8),Qa (five _ _ _ _ _ _ _) xac2 (by simpa using hn8),Qa (five _ _ _ _ _ _ _) xas0 (by simpa using hn7),Qa (five _ _ _ _ _ _ _) xas1 (by simpa using hn7)⟩) (fun hHeld=>?_)
   clear hK K
   try simp only[sp]
   refine tk 21 ?_
   refine wpAnyH_done (by kernel_rfl) ?_ _
   go_wp2_with fail
   go_meet
   have ho:=five wS w0.heap.size (.int .i64 v) (.bool had) (.int .i64 num) (.bool nw) (.int .i64 mn)
   have hsf:=Safe.moves HMS.out HSF8.out
   exact⟨rfl,_,rfl,_,D1,rfl,HSS.out.only ho (fun k hk=>by obtain rfl:=List.mem_singleton.1 hk;exact hsf.1.2),HM.out.moves (((Moves.of_new HOA.out).trans HMS.out).fresh ho (fun k hk=>by obtain rfl:=List.mem_singleton.1 hk;exact HO0.out.size)),(KeepB.moves (((Moves.of_new HOA.out).trans HMS.out).fresh ho (fun k hk=>by obtain rfl:=List.mem_singleton.1 hk;exact HO0.out.size)) (fun k hk=>(HS.out.dyn_lt hk).1)),HBS.out.only ho (by simpa using hn8),((((HB8S.out.set 0 _).set 1 _).set 2 _).set 3 _).set 4 _⟩
 case rest=>
  obtain⟨rfl,b8,rfl,wx,D1,rfl,hsx,hmx,hkx,hbx,hb8⟩:=hcut
  have f0:=hb8.cell (i:=0) rfl
  have f1:=hb8.cell (i:=1) rfl
  have f2:=hb8.cell (i:=2) rfl
  have f3:=hb8.cell (i:=3) rfl
  have f4:=hb8.cell (i:=4) rfl
  have d1:=hbx.cell (i:=1) rfl
  have d2:=hbx.cell (i:=2) rfl
  have m1:=hmx.m.cell (i:=1) rfl
  have m2:=hmx.m.cell (i:=2) rfl
  have fin:∀W',Only [] wx W'→LawStep Y mb lb X' (els.map (·.2)) (sns.map (·.1)) w (.returned (.bool true)) W':=fun W' hoE=>⟨rfl,ed,D1,els,_,sns,hsx.new hoE,hmx.new hoE,rfl,rfl,hkx.trans (KeepB.only hoE (by simp))⟩
  have HMX:=hid hmx;have HFIN:=hid fin
  clear hsx hmx hkx hbx hb8 fin
  have hofx:=lawOf_any wx mb (ptr Y.sb) (.slice (some ⟨g,0,none⟩) sns.length sc) (some ⟨lb,0,none⟩) els.length els.length HNN.out HMX.out.m b
  rw[HP.out] at hofx
  unfold ptr at hofx
  obtain⟨g',eg,_,_,t2,t3⟩:=HMX.out.sn HJ.out
  injection eg with eg
  injection eg with eg _
  subst eg
  rcases HC.out with ⟨hk,rfl,rfl,rfl,rfl,rfl,rfl⟩|⟨hk,his,rfl,rfl,rfl,rfl,rfl,rfl⟩|⟨hk,his,i,l,hpk,hl,hsz,hv,hh,rfl,rfl,rfl⟩
  ·obtain rfl:-1=p:=by have:=HP.out;unfold ofI at this;rw[if_neg (by simp[hk])] at this;exact this
   clear hk
   go_wp2_with (go_at_call 13;refine hofx.mono ?_;rintro en w1 ⟨rfl,hw⟩;obtain rfl:wx=w1:=hw.symm)
   go_ret
   exact HFIN.out _ (Only.refl _ _)
  ·obtain rfl:Qu b els.length=p:=by have:=HP.out;unfold ofI at this;rw[if_pos hk] at this;exact this
   have hpn:=HPR.out hk
   have hin:¬(Qu b els.length<0):=by omega
   generalize Qu b els.length=p at *
   rw[his] at t3
   clear hk his
   go_wp2_with (go_at_call 13;refine hofx.mono ?_;rintro en w1 ⟨rfl,hw⟩;obtain rfl:wx=w1:=hw.symm)
   go_quiet (fail)
   go_wp2_with fail
   go_ret
   exact HFIN.out _ ((Only.refl [] wx).drewN _)
  ·obtain rfl:(i:Int)=p:=by have:=HP.out;unfold ofI at this;rw[if_pos hk,hpk] at this;exact this
   obtain⟨pb,pc,e2,_,hpa⟩:=HMX.out.parts s (List.mem_of_getElem? HJ.out)
   rw[e2] at t2
   obtain⟨A0,ac,p0,p1,_,prow,_,_⟩:=hpa i (l,num) hl
   rw[Nat.zero_add] at p0 p1
   dsimp only at p0 p1 prow
   have hfd:=fun W (ho:Only [] wx W)=>lawFind_any W pb (i*3) A0 ac l (by omega) (Qa ho p0 (by simp)) (prow.below ho.below) b
   rw[hv,hh] at hfd
   have HFD:=hid hfd
   have hil:(i:Int)<s.1.parts.length:=by have:=(List.getElem?_eq_some_iff.1 hl).1;omega
   have hi0:(0:Int)≤i:=by omega
   have hin:¬((i:Int)<0):=by omega
   rw[his] at t3
   clear hfd prow hk hpk hl hsz hv hh his hpa e2
   go_wp2_with (go_at_call 13;refine hofx.mono ?_;rintro en w1 ⟨rfl,hw⟩;obtain rfl:wx=w1:=hw.symm)
   go_quiet (fail)
   go_wp2_with fail
   go_quiet ((go_at_call 48;exact (HFD.out _ ((Only.refl [] wx).drewN _)).mono fun _ _ h=>⟨h.1,_,h.2⟩))
   go_wp2_with fail
   go_quiet (fail)
   go_wp2_with fail
   go_ret
   exact HFIN.out _ ((((Only.refl [] wx).drewN _).drewN _).drewN _)
theorem doesTrim_any (w:World)(Y:StoreL)(ed:Option Nat)(D:Nat→List Nat)(X X':StoreS)(mb lb:Nat)(els:List PlEl)(sv:Value)(sns:List (SnapL × Value))(hs:StoreIn w Y ed D X)(hm:LawM w Y ed D mb lb els sv sns)(hn:els.length=Y.n)(a b c:Int)(LA:Option Addr)(ln lc le:Nat)(err:Int)(hop:∀W,Only [] w W→Calls prog 24 #[ptr Y.sb,.pointer none,.int .i64 a] W fun e w'=>∃ed' D' n,e=.returned (.tuple #[.int .i64 n,.int .i64 err])∧StoreIn w' Y ed' D' X'∧Moves Y (Qw Y ed D) (Qw Y ed' D') W w')(hc:(a<0∧err=151)∨(0≤a∧(els.length:Int)≤a∧err=151)∨(0≤a∧a<els.length∧err=0)):
  Calls prog 15 #[ptr mb,.agg #[.int .i64 12,.int .i64 a,.int .i64 b,.int .i64 c,.slice LA ln lc],.int .i64 (le:Int)] w (LawStep Y mb lb X' (els.map (·.2)) (sns.map (·.1)) w):=by
 obtain⟨w0,hw0⟩:∃w0,w.alloc (.cells #[.int .i64 12,.int .i64 a,.int .i64 b,.int .i64 c,.slice LA ln lc] 34)=w0:=⟨_,rfl⟩
 have ho0:Only [] w w0:=by rw[←hw0];exact (Only.refl _ _).alloc _
 have hb4:Blk w0 w.heap.size [.int .i64 12,.int .i64 a,.int .i64 b,.int .i64 c,.slice LA ln lc] 34:=by rw[←hw0];exact Blk.new w _ 34
 have hm0:=hm.new ho0
 have m0:=hm0.m.cell (i:=0) rfl
 have c0:=hb4.cell (i:=0) rfl
 have c1:=hb4.cell (i:=1) rfl
 have HS:=hid hs;have HM:=hid hm;have HO0:=hid ho0;have HB4:=hid hb4;have HM0:=hid hm0;have HW0:=hid hw0
 have HOP:=hid hop;have HC:=hid hc
 have HSF4:=hid (Safe.fresh hs (Nat.le_refl w.heap.size) hb4.lt)
 unfold ptr at *
 clear hs hm hm0 ho0 hb4 hop hn hc
 go_enter func15,ntmps15
 go_wp2_with fail
 clear hw0
 refine wp_region_held_drew (S:=(fun W=>W.cell? ⟨mb,0,none⟩=some (.pointer (some ⟨Y.sb,0,none⟩))∧W.cell? ⟨w.heap.size,1,none⟩=some (.int .i64 a))) (by kernel_rfl) ?_ (fun hHeld=>?_)
 ·exact⟨m0,c1⟩
 refine tk 0 ?_
 refine tk 1 ?_
 refine tk 2 ?_
 refine tk 3 ?_
 refine tk 4 ?_
 refine tk 5 ?_
 refine on1 6 (fun K hK=>?_)
 go_simp;go_at_call 24;refine (HOP.out _ HO0.out.drew').mono ?_;rintro en wS ⟨ed1,D1,n,rfl,hsS,hmS⟩;have hmS0:Moves Y (Qw Y ed D) (Qw Y ed1 D1) w0 wS:=⟨hmS.os,hmS.tape,hmS.output,hmS.size,hmS.block,hmS.dyn⟩;have HSS:=hid hsS;have HMS:=hid hmS0;have hbS:=HB4.out.heap (Safe.moves hmS0 HSF4.out).2;have x0:=Qp m0 (Safe.moves hmS0 HM0.out.ms).2;have x1:=hbS.cell (i:=1) rfl;clear hsS hmS hmS0 hbS
 refine hK.out _ _ (⟨x0,x1⟩) (fun hHeld=>?_)
 clear hK K
 try simp only[sp]
 refine tk 7 ?_
 refine tk 8 ?_
 refine tk 9 ?_
 refine tk 10 ?_
 refine tk 11 ?_
 refine wpAnyH_done (by kernel_rfl) ?_ _
 have hmS:=HM0.out.moves HMS.out
 have m1:=hmS.m.cell (i:=1) rfl
 have fin:∀W',Only [] wS W'→LawStep Y mb lb X' (els.map (·.2)) (sns.map (·.1)) w (.returned (.bool true)) W':=fun W' hoE=>⟨rfl,ed1,D1,els,_,sns,HSS.out.new hoE,hmS.new hoE,rfl,rfl,(KeepB.only HO0.out (by simp)).trans ((KeepB.moves HMS.out (fun k hk=>(HS.out.dyn_lt hk).1)).trans (KeepB.only hoE (by simp)))⟩
 have HFIN:=hid fin
 clear hmS fin m0 c0 c1 hHeld
 rcases HC.out with ⟨h1,rfl⟩|⟨h1,h2,rfl⟩|⟨h1,h2,rfl⟩
 ·have hd:decide (a<0)=true:=by simpa using h1
  go_wp2_with fail
  go_quiet (fail)
  go_wp2_with fail
  go_ret
  exact HFIN.out _ ((Only.refl [] wS).drewN _)
 ·have h3:¬a<0:=by omega
  have hd:decide (a<0)=false:=by simpa using h1
  have hd2:decide ((els.length:Int)≤a)=true:=by simpa using h2
  go_wp2_with fail
  go_quiet (fail)
  go_wp2_with fail
  go_ret
  exact HFIN.out _ ((Only.refl [] wS).drewN _)
 ·have h3:¬a<0:=by omega
  have h4:¬(els.length:Int)≤a:=by omega
  have hd:decide (a<0)=false:=by simpa using h1
  have hd2:decide ((els.length:Int)≤a)=false:=by simpa using h2
  go_wp2_with fail
  go_quiet (fail)
  go_wp2_with fail
  go_ret
  exact HFIN.out _ ((Only.refl [] wS).drewN _)
theorem doesAdvance_any (w:World)(Y:StoreL)(ed:Option Nat)(D:Nat→List Nat)(X X':StoreS)(mb lb:Nat)(els:List PlEl)(sv:Value)(sns:List (SnapL × Value))(hs:StoreIn w Y ed D X)(hm:LawM w Y ed D mb lb els sv sns)(hn:els.length=Y.n)(a b c:Int)(LA:Option Addr)(ln lc le:Nat)(hop:∀W,Only [] w W→Calls prog 25 #[ptr Y.sb,.pointer none] W fun e w'=>e=.returned (.bool true)∧StoreIn w' Y ed D X'∧Moves Y (Qw Y ed D) (Qw Y ed D) W w'):
  Calls prog 15 #[ptr mb,.agg #[.int .i64 13,.int .i64 a,.int .i64 b,.int .i64 c,.slice LA ln lc],.int .i64 (le:Int)] w (LawStep Y mb lb X' (els.map (·.2)) (sns.map (·.1)) w):=by
 obtain⟨w0,hw0⟩:∃w0,w.alloc (.cells #[.int .i64 13,.int .i64 a,.int .i64 b,.int .i64 c,.slice LA ln lc] 34)=w0:=⟨_,rfl⟩
 have ho0:Only [] w w0:=by rw[←hw0];exact (Only.refl _ _).alloc _
 have hb4:Blk w0 w.heap.size [.int .i64 13,.int .i64 a,.int .i64 b,.int .i64 c,.slice LA ln lc] 34:=by rw[←hw0];exact Blk.new w _ 34
 have hm0:=hm.new ho0
 have m0:=hm0.m.cell (i:=0) rfl
 have c0:=hb4.cell (i:=0) rfl
 have HS:=hid hs;have HM:=hid hm;have HO0:=hid ho0;have HB4:=hid hb4;have HM0:=hid hm0;have HW0:=hid hw0
 have HOP:=hid hop
 unfold ptr at *
 clear hs hm hm0 ho0 hb4 hop hn
 go_enter func15,ntmps15
 go_wp2_with (go_at_call 25;refine (HOP.out _ HO0.out).mono ?_;rintro en wS ⟨rfl,hsS,hmS⟩;have hmS0:Moves Y (Qw Y ed D) (Qw Y ed D) w0 wS:=⟨hmS.os,hmS.tape,hmS.output,hmS.size,hmS.block,hmS.dyn⟩;have HSS:=hid hsS;have HMS:=hid hmS0;clear hsS hmS hmS0)
 go_ret
 exact⟨rfl,ed,D,els,_,sns,HSS.out,HM0.out.moves HMS.out,rfl,rfl,(KeepB.only HO0.out (by simp)).trans (KeepB.moves HMS.out (fun k hk=>(HS.out.dyn_lt hk).1))⟩
theorem doesCollect_any (w:World)(Y:StoreL)(ed:Option Nat)(D:Nat→List Nat)(X X':StoreS)(mb lb:Nat)(els:List PlEl)(sv:Value)(sns:List (SnapL × Value))(hs:StoreIn w Y ed D X)(hm:LawM w Y ed D mb lb els sv sns)(hn:els.length=Y.n)(a b c:Int)(LA:Option Addr)(ln lc le:Nat)(hop:∀W,Only [] w W→Calls prog 26 #[ptr Y.sb,.pointer none] W fun e w'=>∃n,e=.returned (.tuple #[.int .i64 n,.int .i64 0])∧StoreIn w' Y ed D X'∧Moves Y (Qw Y ed D) (Qw Y ed D) W w'):
  Calls prog 15 #[ptr mb,.agg #[.int .i64 14,.int .i64 a,.int .i64 b,.int .i64 c,.slice LA ln lc],.int .i64 (le:Int)] w (LawStep Y mb lb X' (els.map (·.2)) (sns.map (·.1)) w):=by
 obtain⟨w0,hw0⟩:∃w0,w.alloc (.cells #[.int .i64 14,.int .i64 a,.int .i64 b,.int .i64 c,.slice LA ln lc] 34)=w0:=⟨_,rfl⟩
 have ho0:Only [] w w0:=by rw[←hw0];exact (Only.refl _ _).alloc _
 have hb4:Blk w0 w.heap.size [.int .i64 14,.int .i64 a,.int .i64 b,.int .i64 c,.slice LA ln lc] 34:=by rw[←hw0];exact Blk.new w _ 34
 have hm0:=hm.new ho0
 have m0:=hm0.m.cell (i:=0) rfl
 have c0:=hb4.cell (i:=0) rfl
 have HS:=hid hs;have HM:=hid hm;have HO0:=hid ho0;have HB4:=hid hb4;have HM0:=hid hm0;have HW0:=hid hw0
 have HOP:=hid hop
 unfold ptr at *
 clear hs hm hm0 ho0 hb4 hop hn
 go_enter func15,ntmps15
 go_wp2_with (go_at_call 26;refine (HOP.out _ HO0.out).mono ?_;rintro en wS ⟨n,rfl,hsS,hmS⟩;have hmS0:Moves Y (Qw Y ed D) (Qw Y ed D) w0 wS:=⟨hmS.os,hmS.tape,hmS.output,hmS.size,hmS.block,hmS.dyn⟩;have HSS:=hid hsS;have HMS:=hid hmS0;clear hsS hmS hmS0)
 go_ret
 exact⟨rfl,ed,D,els,_,sns,HSS.out,HM0.out.moves HMS.out,rfl,rfl,(KeepB.only HO0.out (by simp)).trans (KeepB.moves HMS.out (fun k hk=>(HS.out.dyn_lt hk).1))⟩
theorem doesOther_any (w:World)(Y:StoreL)(ed:Option Nat)(D:Nat→List Nat)(X X':StoreS)(mb lb:Nat)(els:List PlEl)(sv:Value)(sns:List (SnapL × Value))(hs:StoreIn w Y ed D X)(hm:LawM w Y ed D mb lb els sv sns)(hn:els.length=Y.n)(k a b c:Int)(LA:Option Addr)(ln lc le:Nat)(h1:k≠1)(h2:k<2∨5<k)(h6:k≠6)(h7:k≠7)(h8:k≠8)(h12:k≠12)(h13:k≠13)(h14:k≠14):
  Calls prog 15 #[ptr mb,.agg #[.int .i64 k,.int .i64 a,.int .i64 b,.int .i64 c,.slice LA ln lc],.int .i64 (le:Int)] w (LawStep Y mb lb X (els.map (·.2)) (sns.map (·.1)) w):=by
 obtain⟨w0,hw0⟩:∃w0,w.alloc (.cells #[.int .i64 k,.int .i64 a,.int .i64 b,.int .i64 c,.slice LA ln lc] 34)=w0:=⟨_,rfl⟩
 have ho0:Only [] w w0:=by rw[←hw0];exact (Only.refl _ _).alloc _
 have hb4:Blk w0 w.heap.size [.int .i64 k,.int .i64 a,.int .i64 b,.int .i64 c,.slice LA ln lc] 34:=by rw[←hw0];exact Blk.new w _ 34
 have hm0:=hm.new ho0
 have m0:=hm0.m.cell (i:=0) rfl
 have c0:=hb4.cell (i:=0) rfl
 have HS:=hid hs;have HM:=hid hm;have HO0:=hid ho0;have HB4:=hid hb4;have HM0:=hid hm0;have HW0:=hid hw0
 have e1:(k == 1)=false:=by simpa using h1
 have e6:(k == 6)=false:=by simpa using h6
 have e7:(k == 7)=false:=by simpa using h7
 have e8:(k == 8)=false:=by simpa using h8
 have e12:(k == 12)=false:=by simpa using h12
 have e13:(k == 13)=false:=by simpa using h13
 have e14:(k == 14)=false:=by simpa using h14
 unfold ptr at *
 clear hs hm hm0 ho0 hb4 hn
 by_cases hk:2≤k
 ·have hk5:¬k≤5:=by omega
  clear h2
  go_enter func15,ntmps15
  go_wp2_with fail
  go_ret
  exact⟨rfl,ed,D,els,_,sns,HS.out.new HO0.out,HM0.out,rfl,rfl,KeepB.only HO0.out (by simp)⟩
 ·clear h2
  go_enter func15,ntmps15
  go_wp2_with fail
  go_ret
  exact⟨rfl,ed,D,els,_,sns,HS.out.new HO0.out,HM0.out,rfl,rfl,KeepB.only HO0.out (by simp)⟩
theorem LawStep.next {Y:StoreL}{mb lb le B j:Nat}{X':StoreS}{ps:List PlainS}{sn:List SnapL}{w w':World}{en:Ending}(h:LawStep Y mb lb X' ps sn w en w')(hr:LawR X' Y.n le ps sn B j):LawNext Y le mb lb B j w en w':=by
 obtain⟨he,ed',D',els',sv',sns',h1,h2,h3,h4,h5⟩:=h
 exact⟨he,ps,sn,⟨ed',D',X',els',sv',sns',h1,hr,h2,h3,h4⟩,h5⟩
theorem Moves.coF {w w':World}{Y:StoreL}{ed:Option Nat}{D:Nat→List Nat}(hk:Y.Ok)(ho:Only (coX Y.eb ed Y.pool) w w'):Moves Y (Qw Y ed D) (Qw Y ed D) w w':=
 .of_only ho (fun k m=>by
  simp only[coX,List.mem_cons,List.mem_append] at m
  rcases m with rfl|m|m
  ·exact .inl ⟨hk.eb.1,by rw[hk.eb.2];decide⟩
  ·exact .inr (.inl (by simpa using m))
  ·have:=hk.pool k (Qf m)
   exact .inl ⟨this.1,by rw[this.2];decide⟩) (fun _ h=>.inl h)
theorem wrote_same {w:World}{Y:StoreL}{ed:Option Nat}{D:Nat→List Nat}{X:StoreS}{f:FuncId}{args:Array Value}{told:ToldS}{err:Int}(hs:StoreIn w Y ed D X)(h:Calls prog f args w fun e w'=>e=.returned (.tuple #[told.val,.int .i64 err])∧Only [] w w'):Calls prog f args w (Qh Y ed D told err X w):=
 h.mono fun e w' ⟨he,ho⟩=>⟨D,he,hs.new ho,.of_new ho⟩
theorem wrote_turns {w:World}{Y:StoreL}{ed:Option Nat}{D:Nat→List Nat}{X':StoreS}{f:FuncId}{args:Array Value}{told:ToldS}{err:Int}(h:Calls prog f args w (Turns Y ed D X' (.tuple #[told.val,.int .i64 err]) w)):Calls prog f args w (Qh Y ed D told err X' w):=
 h.mono fun e w' ⟨he,hs,hm⟩=>⟨D,he,hs,hm⟩
section
variable {w:World}{Y:StoreL}{ed:Option Nat}{D:Nat→List Nat}{X:StoreS}{le mb lb B B' j:Nat}{els:List PlEl}{sv:Value}{sns:List (SnapL × Value)}
theorem get_step (hs:StoreIn w Y ed D X)(hr:LawR X Y.n le (els.map (·.2)) (sns.map (·.1)) B j)(hm:LawM w Y ed D mb lb els sv sns)(hj:j≤60)(a b c:Int)(LA:Option Addr)(ln lc:Nat)(hB:B+36≤4096)(hB':B≤B'):
  Calls prog 15 #[ptr mb,.agg #[.int .i64 1,.int .i64 a,.int .i64 b,.int .i64 c,.slice LA ln lc],.int .i64 (le:Int)] w (LawNext Y le mb lb B' (j+1) w):=by
 have hlen:els.length=Y.n:=by have:=hr.len;rwa [List.length_map] at this
 cases hk:Qt a with
 |false=>exact (doesGet_any w Y ed D X X mb lb els sv sns hs hm hlen a b c LA ln lc le 0 0 0 161 false false (fun W ho=>storeGetNo_any W Y ed D X (hs.new ho) a hk) (.inl ⟨hk,rfl,rfl,rfl,rfl,rfl,rfl⟩)).mono fun en w' h=>h.next (hr.later hB')
 |true=>
  obtain⟨i,u0,l,num,hpk,hpk',hi,he,hp,hsz,hnum⟩:=part_el hs hr hj hk
  have hk2:=keyB_in hk
  obtain⟨X',hg,hr'⟩:=hr.get Y hp hk2.1 hk2.2 hB hB' hj
  exact (doesGet_any w Y ed D X X' mb lb els sv sns hs hm hlen a b c LA ln lc le _ num 0 0 _ false (fun W ho=>storeGetOp_any W Y ed D X X' (hs.new ho) i hi _ _ a hk hpk' (fun W' ho' hs'=>partGetOp_any W' Y ed D X X' hs' i a _ hk hpk' hg)) (.inr ⟨hk,i,u0,l,hpk,he,by omega,rfl,rfl,rfl,rfl,rfl⟩)).mono fun en w' h=>h.next hr'
theorem countP_fst (sns:List (SnapL × Value)):sns.countP (·.1.is)=(sns.map (·.1)).countP (·.is):=by rw[List.countP_map];rfl
theorem snap_step (hs:StoreIn w Y ed D X)(hr:LawR X Y.n le (els.map (·.2)) (sns.map (·.1)) B j)(hm:LawM w Y ed D mb lb els sv sns)(hj:j≤60)(hB':B≤B'):
  Calls prog 50 #[ptr mb,.int .i64 (le:Int)] w (LawNext Y le mb lb B' (j+1) w):=by
 have hlen:els.length=Y.n:=by have:=hr.len;rwa [List.length_map] at this
 have hfew:sns.length≤100:=by have:=hr.few;rw[List.length_map] at this;omega
 have hn:=hs.ok.n
 by_cases hc:(sns.map (·.1)).countP (·.is)=le
 ·have:=snapFull_any w Y ed D X mb lb els sv sns hs hm hfew (hr.snapNone hc)
  rw[countP_fst,hc] at this
  exact this.mono fun en w' h=>h.next (hr.later hB')
 ·obtain⟨i,hf,hi,hnow,hr',hlow⟩:=hr.snapSome hc hB'
  have hnow2:=hr.now
  exact (snapNew_any w Y ed D X _ mb lb els sv sns hs hm hfew (by omega) (fun e he=>by have:=hr.size _ (List.mem_map.2 ⟨e,he,rfl⟩);omega) le (by rw[countP_fst];exact hc) i X.clock.now (fun W ho=>snapSome_any W Y ed D X (hs.new ho) i hf (by omega)) (fun s hs=>hlow s.1 (List.mem_map.2 ⟨s,hs,rfl⟩))).mono fun en w' h=>h.next hr'
theorem free_step (hs:StoreIn w Y ed D X)(hr:LawR X Y.n le (els.map (·.2)) (sns.map (·.1)) B j)(hm:LawM w Y ed D mb lb els sv sns)(a b c:Int)(LA:Option Addr)(ln lc:Nat)(hB':B≤B'):
  Calls prog 15 #[ptr mb,.agg #[.int .i64 7,.int .i64 a,.int .i64 b,.int .i64 c,.slice LA ln lc],.int .i64 (le:Int)] w (LawNext Y le mb lb B' (j+1) w):=by
 have hlen:els.length=Y.n:=by have:=hr.len;rwa [List.length_map] at this
 by_cases h0:a<0
 ·exact (doesFree_low w Y ed D X X mb lb els sv sns hs hm hlen a b c LA ln lc le h0).mono fun en w' h=>h.next (hr.later hB')
 ·by_cases h1:(sns.length:Int)≤a
  ·exact (doesFree_high w Y ed D X X mb lb els sv sns hs hm hlen a b c LA ln lc le ⟨by omega,h1⟩).mono fun en w' h=>h.next (hr.later hB')
  ·obtain⟨i,rfl⟩:∃i:Nat,a=(i:Int):=⟨a.toNat,by omega⟩
   obtain⟨s,hx⟩:∃s,sns[i]?=some s:=⟨_,List.getElem?_eq_getElem (by omega)⟩
   cases his:s.1.is with
   |false=>exact (doesFree_gone w Y ed D X X mb lb els sv sns hs hm hlen _ b c LA ln lc le i s hx rfl his).mono fun en w' h=>h.next (hr.later hB')
   |true=>
    have hx':(sns.map (·.1))[i]?=some s.1:=by rw[List.getElem?_map,hx];rfl
    obtain⟨f1,f2,hr'⟩:=hr.free hx' his hB'
    exact (doesFree_any w Y ed D X _ mb lb els sv sns hs hm hlen b c LA ln lc le i s hx his (fun W hsW=>freeOp_any W Y ed D X hsW s.1.lease _ s.1.stamp f1 f2)).mono fun en w' h=>h.next hr'
theorem peek_step (hs:StoreIn w Y ed D X)(hr:LawR X Y.n le (els.map (·.2)) (sns.map (·.1)) B j)(hm:LawM w Y ed D mb lb els sv sns)(hj:j≤60)(a b c:Int)(LA:Option Addr)(ln lc:Nat)(hB:B+36≤4096)(hB':B≤B'):
  Calls prog 15 #[ptr mb,.agg #[.int .i64 8,.int .i64 a,.int .i64 b,.int .i64 c,.slice LA ln lc],.int .i64 (le:Int)] w (LawNext Y le mb lb B' (j+1) w):=by
 have hlen:els.length=Y.n:=by have:=hr.len;rwa [List.length_map] at this
 by_cases h0:a<0
 ·exact (doesPeek_low w Y ed D X X mb lb els sv sns hs hm hlen a b c LA ln lc le h0).mono fun en w' h=>h.next (hr.later hB')
 ·by_cases h1:(sns.length:Int)≤a
  ·exact (doesPeek_high w Y ed D X X mb lb els sv sns hs hm hlen a b c LA ln lc le ⟨by omega,h1⟩).mono fun en w' h=>h.next (hr.later hB')
  ·obtain⟨i,rfl⟩:∃i:Nat,a=(i:Int):=⟨a.toNat,by omega⟩
   obtain⟨s,hx⟩:∃s,sns[i]?=some s:=⟨_,List.getElem?_eq_getElem (by omega)⟩
   have hx':s.1∈sns.map (·.1):=List.mem_map.2 ⟨s,List.mem_of_getElem? hx,rfl⟩
   have hnp:s.1.parts.length=els.length:=by rw[hlen];exact (hr.parts s.1 hx').1
   have hpr:Qt b=true→0≤Qu b els.length:=fun hk=>by
    obtain⟨i,u0,l,num,hpk,_⟩:=part_el hs hr hj hk
    rw[hpk];omega
   have hh:=hr.holds hx'
   cases hk:Qt b with
   |false=>exact (doesPeek_any w Y ed D X X mb lb els sv sns hs hm hlen b c LA ln lc le i s hx hnp 0 0 0 161 false false (fun W ho=>wrote_same (hs.new ho) (peekKey_any W Y ed D X (hs.new ho) s.1.lease s.1.stamp b hk)) (.inl ⟨hk,rfl,rfl,rfl,rfl,rfl,rfl⟩) hpr).mono fun en w' h=>h.next (hr.later hB')
   |true=>
    obtain⟨p,u0,l0,num0,hpk,hpk',hi,_⟩:=part_el hs hr hj hk
    have hk2:=keyB_in hk
    cases his:s.1.is with
    |false=>
     rw[his] at hh
     exact (doesPeek_any w Y ed D X X mb lb els sv sns hs hm hlen b c LA ln lc le i s hx hnp 0 0 0 182 false false (fun W ho=>wrote_same (hs.new ho) (peekNo_any W Y ed D X (hs.new ho) p hi s.1.lease s.1.stamp b hk hpk' hh)) (.inr (.inl ⟨hk,his,rfl,rfl,rfl,rfl,rfl,rfl⟩)) hpr).mono fun en w' h=>h.next (hr.later hB')
    |true=>
     rw[his] at hh
     have hpl:p<s.1.parts.length:=by omega
     have hp:s.1.parts[p]?=some (s.1.parts[p].1,s.1.parts[p].2):=List.getElem?_eq_getElem hpl
     obtain⟨X',nd,hse,hfi,hnb,hr'⟩:=hr.see Y hx' his hp hk2.1 hk2.2 hB hB' hj
     have hsz:=(hr.parts s.1 hx').2 _ (List.mem_of_getElem? hp)
     exact (doesPeek_any w Y ed D X X' mb lb els sv sns hs hm hlen b c LA ln lc le i s hx hnp _ s.1.parts[p].2 0 0 _ false (fun W ho=>by
      have:=wrote_turns (peekYes_any W Y ed D X X' (hs.new ho) p hi s.1.lease s.1.stamp b _ _ hk hpk' hh nd hse hfi)
      rw[hnb] at this
      exact this) (.inr (.inr ⟨hk,his,p,s.1.parts[p].1,hpk,hp,by dsimp only at hsz ⊢;omega,rfl,rfl,rfl,rfl,rfl⟩)) hpr).mono fun en w' h=>h.next hr'
theorem trim_step (hs:StoreIn w Y ed D X)(hr:LawR X Y.n le (els.map (·.2)) (sns.map (·.1)) B j)(hm:LawM w Y ed D mb lb els sv sns)(a b c:Int)(LA:Option Addr)(ln lc:Nat)(hB':B≤B'):
  Calls prog 15 #[ptr mb,.agg #[.int .i64 12,.int .i64 a,.int .i64 b,.int .i64 c,.slice LA ln lc],.int .i64 (le:Int)] w (LawNext Y le mb lb B' (j+1) w):=by
 have hlen:els.length=Y.n:=by have:=hr.len;rwa [List.length_map] at this
 by_cases hin:0≤a∧a<Y.n
 ·obtain⟨i,rfl⟩:∃i:Nat,a=(i:Int):=⟨a.toNat,by omega⟩
  obtain⟨n,X',ht,hr'⟩:=hr.trim (i:=i) (by omega) hB'
  exact (doesTrim_any w Y ed D X X' mb lb els sv sns hs hm hlen _ b c LA ln lc le 0 (fun W ho=>(storeTrimP_any W Y ed D X X' (hs.new ho) i n ht).mono fun e w' ⟨ed',D',h1,h2,h3⟩=>⟨ed',D',n,h1,h2,h3⟩) (.inr (.inr ⟨by omega,by omega,rfl⟩))).mono fun en w' h=>h.next hr'
 ·exact (doesTrim_any w Y ed D X X mb lb els sv sns hs hm hlen a b c LA ln lc le 151 (fun W ho=>(storeTrimNo_any W Y (hs.new ho).fixed a (by omega)).mono fun e w' ⟨h1,h2⟩=>⟨ed,D,0,h1,by rw[h2];exact hs.new ho,by rw[h2];exact Moves.of_new (Only.refl _ _)⟩) (by by_cases h:a<0;exact .inl ⟨h,rfl⟩;exact .inr (.inl ⟨by omega,by omega,rfl⟩))).mono fun en w' h=>h.next (hr.later hB')
theorem advance_step (hs:StoreIn w Y ed D X)(hr:LawR X Y.n le (els.map (·.2)) (sns.map (·.1)) B j)(hm:LawM w Y ed D mb lb els sv sns)(hj:j≤60)(a b c:Int)(LA:Option Addr)(ln lc:Nat)(hB':B≤B'):
  Calls prog 15 #[ptr mb,.agg #[.int .i64 13,.int .i64 a,.int .i64 b,.int .i64 c,.slice LA ln lc],.int .i64 (le:Int)] w (LawNext Y le mb lb B' (j+1) w):=by
 have hlen:els.length=Y.n:=by have:=hr.len;rwa [List.length_map] at this
 have ht:=hr.time
 exact (doesAdvance_any w Y ed D X _ mb lb els sv sns hs hm hlen a b c LA ln lc le (fun W ho=>(storeAdvance_any W Y ed D X (hs.new ho) hr.at0 (by omega)).mono fun e w' ⟨h1,h2,h3⟩=>⟨h1,h2,Moves.coF hs.ok (h3.mono (fun k m=>by simp at m;subst m;simp[coX]))⟩)).mono fun en w' h=>h.next (hr.advance hB')
theorem collect_step (hs:StoreIn w Y ed D X)(hr:LawR X Y.n le (els.map (·.2)) (sns.map (·.1)) B j)(hm:LawM w Y ed D mb lb els sv sns)(a b c:Int)(LA:Option Addr)(ln lc:Nat)(hB':B≤B'):
  Calls prog 15 #[ptr mb,.agg #[.int .i64 14,.int .i64 a,.int .i64 b,.int .i64 c,.slice LA ln lc],.int .i64 (le:Int)] w (LawNext Y le mb lb B' (j+1) w):=by
 have hlen:els.length=Y.n:=by have:=hr.len;rwa [List.length_map] at this
 obtain⟨r,h1,h2,h3,hr'⟩:=hr.collect hB'
 exact (doesCollect_any w Y ed D X _ mb lb els sv sns hs hm hlen a b c LA ln lc le (fun W ho=>(storeCollect_any W Y ed D X (hs.new ho) r h1 h2 h3).mono fun e w' ⟨q1,q2,q3⟩=>⟨r.1,q1,q2,Moves.coF hs.ok q3⟩)).mono fun en w' h=>h.next hr'
end
theorem does_step {w:World}{Y:StoreL}{le mb lb B j:Nat}{ps:List PlainS}{sn:List SnapL}(h:LawIn w Y le mb lb ps sn B j)(hj:j≤60)(k a b c:Int)(hb:Ql b)(hc:Ql c)(LA:Option Addr)(L:List (Int × Int))(lc:Nat)(hL:ArgL w Y LA L)(hLv:∀p∈L,Ql p.2)(hB:B+36*(1+L.length)+36≤4096):
  Calls prog 15 #[ptr mb,.agg #[.int .i64 k,.int .i64 a,.int .i64 b,.int .i64 c,.slice LA L.length lc],.int .i64 (le:Int)] w (LawNext Y le mb lb (B+36*(1+L.length)) (j+1) w):=by
 obtain⟨ed,D,X,els,sv,sns,hs,hr,hm,rfl,rfl⟩:=h
 have hlen:els.length=Y.n:=by have:=hr.len;rwa [List.length_map] at this
 have hB':B≤B+36*(1+L.length):=by omega
 have hk (W:World) (ho:Only [] w W):=hL.keep (KeepB.only (Y:=Y) ho (by simp))
 by_cases e1:k=1
 ·subst e1
  exact get_step hs hr hm hj a b c LA _ lc (by omega) hB'
 by_cases e2:k=2
 ·subst e2
  exact doesWrite_any w Y ed D X X mb lb els sv sns hs hm hlen 2 a b c LA _ lc le (by omega) le _ _ (fun W ho=>write_put (hs.new ho) hr (hm.new ho) hj a b c hb hc LA L lc (hk W ho) hB)
 by_cases e3:k=3
 ·subst e3
  exact doesWrite_any w Y ed D X X mb lb els sv sns hs hm hlen 3 a b c LA _ lc le (by omega) le _ _ (fun W ho=>write_drop (hs.new ho) hr (hm.new ho) hj a b c hb hc LA L lc (hk W ho) hB)
 by_cases e4:k=4
 ·subst e4
  exact doesWrite_any w Y ed D X X mb lb els sv sns hs hm hlen 4 a b c LA _ lc le (by omega) le _ _ (fun W ho=>write_swap (hs.new ho) hr (hm.new ho) hj a b c hb hc LA L lc (hk W ho) hB)
 by_cases e5:k=5
 ·subst e5
  exact doesWrite_any w Y ed D X X mb lb els sv sns hs hm hlen 5 a b c LA _ lc le (by omega) le _ _ (fun W ho=>write_many (hs.new ho) hr (hm.new ho) hj a b c LA L lc (hk W ho) hLv hB)
 by_cases e6:k=6
 ·subst e6
  exact doesSnap_any w Y ed D X X mb lb els sv sns hs hm hlen a b c LA _ lc le le _ _ (fun W ho=>snap_step (hs.new ho) hr (hm.new ho) hj hB')
 by_cases e7:k=7
 ·subst e7
  exact free_step hs hr hm a b c LA _ lc hB'
 by_cases e8:k=8
 ·subst e8
  exact peek_step hs hr hm hj a b c LA _ lc (by omega) hB'
 by_cases e12:k=12
 ·subst e12
  exact trim_step hs hr hm a b c LA _ lc hB'
 by_cases e13:k=13
 ·subst e13
  exact advance_step hs hr hm hj a b c LA _ lc hB'
 by_cases e14:k=14
 ·subst e14
  exact collect_step hs hr hm a b c LA _ lc hB'
 exact (doesOther_any w Y ed D X X mb lb els sv sns hs hm hlen k a b c LA _ lc le e1 (by omega) e6 e7 e8 e12 e13 e14).mono fun en w' h=>h.next (hr.later hB')
structure OpS where
 k:Int
 a:Int
 b:Int
 c:Int
 L:List (Int × Int)
 LA:Option Addr
 lc:Nat
abbrev OpS.cells (o:OpS):List Value:=[.int .i64 o.k,.int .i64 o.a,.int .i64 o.b,.int .i64 o.c,.slice o.LA o.L.length o.lc]
structure OpIn (w:World)(o:OpS):Prop where
 row:Row w o.LA (Qd o.L)
 nil:o.LA=none→o.L.length=0
 few:o.L.length≤1048576
 b:Ql o.b
 c:Ql o.c
 vals:∀p∈o.L,Ql p.2
def costs (l:List OpS):Nat:=(l.map fun o=>36*(1+o.L.length)).sum
theorem costs_snoc {l:List OpS}{j:Nat}{o:OpS}(h:l[j]?=some o):costs (l.take (j+1))=costs (l.take j)+36*(1+o.L.length):=by
 unfold costs
 rw[Zd h]
 simp
theorem costs_le (l:List OpS)(j:Nat):costs (l.take j)≤costs l:=by
 unfold costs
 conv=>rhs;rw[←List.take_append_drop j l]
 rw[List.map_append,List.sum_append]
 omega
theorem costs_few {w:World}{l:List OpS}(h:∀o∈l,OpIn w o):costs l≤l.length*37748772:=by
 induction l with
 |nil=>simp[costs]
 |cons o l ih=>
  have h1:=ih (fun x hx=>h x (by simp[hx]))
  have h2:=(h o (by simp)).few
  unfold costs at *
  simp only[List.map_cons,List.sum_cons,List.length_cons]
  omega
theorem op_cells {w:World}{A:Option Addr}{ops:List OpS}(h:Row w A (ops.flatMap OpS.cells)){j:Nat}{o:OpS}(hj:ops[j]?=some o):
  ∃b off,A=some ⟨b,off,none⟩∧w.cell? ⟨b,off+j*5,none⟩=some (.int .i64 o.k)∧w.cell? ⟨b,off+j*5+1,none⟩=some (.int .i64 o.a)∧w.cell? ⟨b,off+j*5+2,none⟩=some (.int .i64 o.b)∧w.cell? ⟨b,off+j*5+3,none⟩=some (.int .i64 o.c)∧w.cell? ⟨b,off+j*5+4,none⟩=some (.slice o.LA o.L.length o.lc):=by
 have hg:=Qz OpS.cells 5 (fun _=>rfl) ops j o hj
 obtain⟨b,off,e,h0⟩:=h (j*5) (.int .i64 o.k) (by have:=hg 0 (by decide);rw[Nat.add_zero] at this;rw[this];rfl)
 have hc:∀k v,k<5→o.cells[k]?=some v→w.cell? ⟨b,off+j*5+k,none⟩=some v:=fun k v hk hv=>by
  obtain⟨b',off',e',hcc⟩:=h (j*5+k) v (by rw[hg k hk];exact hv)
  rw[e] at e'
  injection e' with e'
  injection e' with e1 e2
  subst e1 e2
  rw[Nat.add_assoc]
  exact hcc
 exact⟨b,off,e,h0,hc 1 _ (by decide) rfl,hc 2 _ (by decide) rfl,hc 3 _ (by decide) rfl,hc 4 _ (by decide) rfl⟩
def i64B (x:Int):Bool:=decide (-9223372036854775808≤x) && decide (x≤9223372036854775807)
theorem i64B_yes {x:Int}(h:i64B x=true):Ql x:=by
 simp only[i64B,Bool.and_eq_true,decide_eq_true_eq] at h
 exact h
def stepB (s:StepS):Bool:=decide (s.place<32) && decide (0≤s.first) && decide (s.first<4294967296) && i64B s.left && i64B s.right && decide (-4000000000≤s.count) && decide (s.count≤4000000000)
def shB:Shape→Bool
 |.leaf k _=>decide (0≤k) && decide (k≤4294967295)
 |.inner p f _ _ c=>decide (p<32) && decide (0≤f) && decide (f≤4294967295) && decide (-4000000000≤c) && decide (c≤4000000000)
def wayB (S:PoolS)(root k:Int):Bool:=decide (root=0) || match S.down root k with
 |some (way,h,s)=>way.all stepB && decide (way.length≤64) && i64B h && shB s
 |none=>false
theorem wayB_yes {S:PoolS}{root k:Int}(h:wayB S root k=true):WayIn S root k:=by
 intro hr
 simp only[wayB,hr,decide_false,Bool.false_or] at h
 split at h
 ·next way hh s he=>
  simp only[Bool.and_eq_true,decide_eq_true_eq] at h
  obtain⟨⟨⟨h1,h2⟩,h3⟩,h4⟩:=h
  refine⟨way,hh,s,he,fun x hx=>?_,h2,i64B_yes h3,?_⟩
  ·have:=List.all_eq_true.1 h1 x hx
   simp only[stepB,Bool.and_eq_true,decide_eq_true_eq] at this
   obtain⟨⟨⟨⟨⟨⟨a1,a2⟩,a3⟩,a4⟩,a5⟩,a6⟩,a7⟩:=this
   exact⟨a1,a2,a3,i64B_yes a4,i64B_yes a5,a6,a7⟩
  ·cases s with
   |leaf k v=>simpa [shB,ShIn] using h4
   |inner p f l r c=>
    simp only[shB,Bool.and_eq_true,decide_eq_true_eq] at h4
    obtain⟨⟨⟨⟨a1,a2⟩,a3⟩,a4⟩,a5⟩:=h4
    exact⟨a1,⟨a2,a3⟩,a4,a5⟩
 ·cases h
def loadR:List (Int × Int)→LoadingS × PoolS→Option (LoadingS × PoolS)
 |[],x=>some x
 |p :: l,(m,S)=>
  if Qt p.1 && i64B p.2 && wayB S m.root p.1 && decide (m.nodes.length≤10000) then
   match S.trieput m.root p.1 p.2 with
   |none=>none
   |some (e,S1)=>match S1.giveAll e.gone with
    |none=>none
    |some S2=>if decide (e.made.length≤1000) && decide (e.gone.length≤1000) && decide (S2.slots.length=S.slots.length) then loadR l (⟨e.root,notIn (m.nodes ++ e.made) e.gone⟩,S2) else none
  else none
theorem loadR_is:∀{l:List (Int × Int)} {x y:LoadingS × PoolS},loadR l x=some y→LoadW l x y
 |[],x,y,h=>by injection h
 |p :: l,(m,S),y,h=>by
  unfold loadR at h
  split at h
  ·next hc=>
   simp only[Bool.and_eq_true,decide_eq_true_eq] at hc
   split at h
   ·cases h
   ·next e S1 he=>
    split at h
    ·cases h
    ·next S2 hg=>
     split at h
     ·next hd=>
      simp only[Bool.and_eq_true,decide_eq_true_eq] at hd
      exact⟨hc.1.1.1,i64B_yes hc.1.1.2,wayB_yes hc.1.2,hc.2,e,S1,S2,he,hg,hd.1.1,hd.1.2,hd.2,loadR_is h⟩
     ·cases h
  ·cases h
def readyR (X:StoreS)(i:Nat):Option StoreS:=
 match X.loads[i]?,X.chains[i]? with
 |some a,some C=>
  if a.state=2 then some X
  else if decide (a.state=0) && decide (a.fails≤0) && decide (a.pairs.length≤1000) then
   match loadR a.pairs (⟨0,[]⟩,X.pool) with
   |none=>none
   |some (m,S1)=>match C.first S1 ⟨m.root,1,0,0⟩ with
    |none=>none
    |some (_,C',S2)=>if i64B m.root then some {fillX X i C' S2 with loads:=X.loads.set i {a with state:=2}} else none
  else none
 |_,_=>none
theorem readyR_is (Y:StoreL){X X':StoreS}{i:Nat}(h:readyR X i=some X'):ReadyP Y X i X':=by
 unfold readyR at h
 split at h
 ·next a C ha hC=>
  refine⟨a,C,ha,hC,?_⟩
  split at h
  ·next h2=>
   injection h with h
   exact .inl ⟨h2,h.symm⟩
  ·split at h
   ·next hc=>
    simp only[Bool.and_eq_true,decide_eq_true_eq] at hc
    split at h
    ·cases h
    ·next m S1 hl=>
     split at h
     ·cases h
     ·next hd C' S2 hf=>
      split at h
      ·next hr=>
       injection h with h
       exact .inr ⟨C',S2,hc.1.1,⟨ha,hC,hc.1.2,hc.2,m,S1,hd,loadR_is hl,hf,i64B_yes hr⟩,h.symm⟩
      ·cases h
   ·cases h
 ·cases h
def newestR (X:StoreS)(i:Nat):Option (ChainS × Int × PoolS × NodeS):=
 match X.chains[i]? with
 |none=>none
 |some C=>match C.top X.clock.now X.pool with
  |none=>none
  |some (hd,_,S1)=>match S1.read hd with
   |none=>none
   |some n=>some (C,hd,S1,n)
theorem newestR_is {X:StoreS}{i:Nat}{C:ChainS}{hd:Int}{S1:PoolS}{n:NodeS}(h:newestR X i=some (C,hd,S1,n)):NewestP X i C hd S1 n:=by
 unfold newestR at h
 split at h
 ·cases h
 ·next C' hC=>
  split at h
  ·cases h
  ·next hd' s S' ht=>
   split at h
   ·cases h
   ·next n' hn=>
    injection h with h
    injection h with e1 h
    injection h with e2 h
    injection h with e3 e4
    subst e1 e2 e3 e4
    exact⟨hC,⟨s,ht⟩,hn⟩
def getR (X:StoreS)(i:Nat)(k:Int):Option (ToldS × StoreS):=
 match readyR X i with
 |none=>none
 |some X1=>if X1.epoch.deep=0 then match newestR {X1 with epoch:=X1.epoch.enter} i with
  |none=>none
  |some (_,_,S1,n)=>match S1.find n.a k with
   |none=>none
   |some (v,had)=>some (⟨v,had,n.b,false,0⟩,{X1 with pool:=S1,epoch:=X1.epoch.enter.leave})
  else none
theorem getR_is (Y:StoreL){X X':StoreS}{i:Nat}{k:Int}{told:ToldS}(h:getR X i k=some (told,X')):GetP Y X i k told X':=by
 unfold getR at h
 split at h
 ·cases h
 ·next X1 h1=>
  split at h
  ·next h2=>
   split at h
   ·cases h
   ·next C hd S1 n h3=>
    split at h
    ·cases h
    ·next v had h4=>
     injection h with h
     injection h with e1 e2
     exact⟨X1,C,hd,S1,n,v,had,readyR_is Y h1,h2,newestR_is h3,h4,e1.symm,e2.symm⟩
  ·cases h
def seeR (X:StoreS)(i:Nat)(t:Int):Option (NodeS × StoreS):=
 match readyR X i with
 |none=>none
 |some X1=>match X1.chains[i]? with
  |none=>none
  |some C=>match C.atStamp X1.clock.now X1.pool t with
   |some (some hd,S1)=>match S1.read hd with
    |some n=>if S1.slots.length=X1.pool.slots.length then some (n,{X1 with pool:=S1}) else none
    |none=>none
   |_=>none
theorem seeR_is (Y:StoreL){X X':StoreS}{i:Nat}{t:Int}{n:NodeS}(h:seeR X i t=some (n,X')):SeeP Y X i t n X':=by
 unfold seeR at h
 split at h
 ·cases h
 ·next X1 h1=>
  split at h
  ·cases h
  ·next C hC=>
   split at h
   ·next hd S1 h2=>
    split at h
    ·next n' h3=>
     split at h
     ·next h4=>
      injection h with h
      injection h with e1 e2
      subst e1
      exact⟨X1,C,hd,S1,readyR_is Y h1,hC,h2,h3,h4,e2.symm⟩
     ·cases h
    ·cases h
   ·cases h
def manyR:List (Int × Int)→ChangeS × PoolS→Option (ChangeS × PoolS)
 |[],x=>some x
 |p :: l,(c,S)=>
  if Qt p.1 && i64B p.2 && wayB S c.root p.1 && decide (c.made.length≤10000) && decide (c.gone.length≤10000) && decide (0≤c.told.many) && decide (c.told.many≤1000000) then
   match S.trieput c.root p.1 p.2 with
   |none=>none
   |some (e,S1)=>match goneBack e.gone ({c with root:=e.root,told:={c.told with many:=c.told.many+(if e.root≠c.root then 1 else 0)}},S1) with
    |none=>none
    |some (c2,S2)=>if decide (e.made.length≤1000) && decide (e.gone.length≤10000) && decide (S2.slots.length=S.slots.length) && i64B e.root then manyR l ({c2 with made:=c2.made ++ e.made},S2) else none
  else none
theorem manyR_is:∀{l:List (Int × Int)} {x y:ChangeS × PoolS},manyR l x=some y→ManyW l x y
 |[],x,y,h=>by injection h
 |p :: l,(c,S),y,h=>by
  unfold manyR at h
  split at h
  ·next hc=>
   simp only[Bool.and_eq_true,decide_eq_true_eq] at hc
   obtain⟨⟨⟨⟨⟨⟨a1,a2⟩,a3⟩,a4⟩,a5⟩,a6⟩,a7⟩:=hc
   split at h
   ·cases h
   ·next e S1 he=>
    split at h
    ·cases h
    ·next c2 S2 hg=>
     split at h
     ·next hd=>
      simp only[Bool.and_eq_true,decide_eq_true_eq] at hd
      exact⟨a1,i64B_yes a2,wayB_yes a3,a4,a5,a6,a7,e,S1,c2,S2,he,hg,hd.1.1.1,hd.1.1.2,hd.1.2,i64B_yes hd.2,manyR_is h⟩
     ·cases h
  ·cases h
def putOkB (k v root:Int)(S:PoolS):Bool:=Qt k && i64B v && wayB S root k
theorem putOkB_yes {k v root:Int}{S:PoolS}(h:putOkB k v root S=true):PutOk k v root S:=by
 simp only[putOkB,Bool.and_eq_true] at h
 exact⟨h.1.1,i64B_yes h.1.2,wayB_yes h.2⟩
def manyOkB (l:List (Int × Int))(root:Int)(S:PoolS):Bool:=decide (l.length≤1000) && (manyR l (⟨root,[],[],ToldS.zero⟩,S)).isSome
theorem manyOkB_yes {l:List (Int × Int)}{root:Int}{S:PoolS}(h:manyOkB l root S=true):ManyOk l root S:=by
 simp only[manyOkB,Bool.and_eq_true,decide_eq_true_eq] at h
 obtain⟨y,hy⟩:=Option.isSome_iff_exists.1 h.2
 exact⟨h.1,y,manyR_is hy⟩
def writeR (X:StoreS)(i:Nat)(f:Int→PoolS→Option ((Int ⊕ ChangeS) × PoolS))(okB:Int→PoolS→Bool):Option (ToldS × StoreS):=
 match readyR X i with
 |none=>none
 |some X1=>match newestR {X1 with epoch:=X1.epoch.enter} i with
  |none=>none
  |some (C,hd,S1,n)=>match f n.a S1 with
   |some (.inr c,S2)=>if decide (X1.epoch.deep=0) && okB n.a S1 && decide (S2.slots.length=X1.pool.slots.length) && c.told.new && i64B hd && i64B c.root && decide (0≤n.b) && decide (n.b<1000000000) && decide (c.gone.length≤100000) then
     match C.push X1.clock.now S2 hd ⟨c.root,n.b+1,0,0⟩ c.gone with
     |none=>none
     |some (_,C',S3)=>some ({c.told with number:=n.b+1},{fillX {X1 with epoch:=X1.epoch.enter} i C' S3 with epoch:=X1.epoch.enter.leave})
    else none
   |_=>none
theorem writeR_is (Y:StoreL){X X':StoreS}{i:Nat}{f:Int→PoolS→Option ((Int ⊕ ChangeS) × PoolS)}{okB:Int→PoolS→Bool}{ok:Int→PoolS→Prop}(hok:∀r S,okB r S=true→ok r S){told:ToldS}(h:writeR X i f okB=some (told,X')):WriteP Y X i f ok told 0 X':=by
 unfold writeR at h
 split at h
 ·cases h
 ·next X1 h1=>
  split at h
  ·cases h
  ·next C hd S1 n h2=>
   split at h
   ·next c S2 h3=>
    split at h
    ·next hc=>
     simp only[Bool.and_eq_true,decide_eq_true_eq] at hc
     obtain⟨⟨⟨⟨⟨⟨⟨⟨a1,a2⟩,a3⟩,a4⟩,a5⟩,a6⟩,a7⟩,a8⟩,a9⟩:=hc
     split at h
     ·cases h
     ·next h2' C' S3 hp=>
      injection h with h
      injection h with e1 e2
      exact⟨X1,C,hd,S1,n,.inr c,S2,fillX {X1 with epoch:=X1.epoch.enter} i C' S3,readyR_is Y h1,a1,newestR_is h2,h3,hok _ _ a2,a3,⟨rfl,.inr ⟨a4,e1.symm,C',S3,⟨⟨_,hp⟩,i64B_yes a5,i64B_yes a6,⟨a7,a8⟩,a9⟩,rfl⟩⟩,e2.symm⟩
    ·cases h
   ·cases h
/- the store that known() builds. -/
def kS0:StoreS:=StoreS.new 2 1 40 2 [(1,10),(4000000000,20)] 0
def kS1:StoreS:=((getR kS0 0 1).map (·.2)).getD kS0
def kS2:StoreS:={kS1 with clock:=⟨2,[2,0]⟩}
def kS3:StoreS:=((writeR kS2 0 (putE 1 11) (putOkB 1 11)).map (·.2)).getD kS0
def kS4:StoreS:=((seeR kS3 0 1).map (·.2)).getD kS0
def kS5:StoreS:=((getR kS4 0 1).map (·.2)).getD kS0
def kS6:StoreS:=((seeR {kS5 with epoch:=kS5.epoch.enter} 0 1).map (·.2)).getD kS0
def kS7:StoreS:={kS6 with epoch:=kS6.epoch.leave,clock:=⟨2,[0,0]⟩}
def kS8:StoreS:=((writeR kS7 0 (manyE [(1,5),(2,6)]) (manyOkB [(1,5),(2,6)])).map (·.2)).getD kS0
theorem k1:getR kS0 0 1=some (⟨10,true,1,false,0⟩,kS1):=by decide +kernel
theorem k2:kS1.clock=⟨1,[0,0]⟩:=by decide +kernel
theorem k3:writeR kS2 0 (putE 1 11) (putOkB 1 11)=some (⟨10,true,2,true,0⟩,kS3):=by decide +kernel
theorem k4:∃a,seeR kS3 0 1=some (⟨a,1,0,0⟩,kS4)∧kS4.pool.find a 1=some (10,true):=⟨((seeR kS3 0 1).map (·.1.a)).getD 0,by decide +kernel,by decide +kernel⟩
theorem k5:getR kS4 0 1=some (⟨11,true,2,false,0⟩,kS5):=by decide +kernel
theorem k6:∃a,seeR {kS5 with epoch:=kS5.epoch.enter} 0 1=some (⟨a,1,0,0⟩,kS6)∧kS6.pool.find a 1=some (10,true):=⟨((seeR {kS5 with epoch:=kS5.epoch.enter} 0 1).map (·.1.a)).getD 0,by decide +kernel,by decide +kernel⟩
theorem k8:writeR kS7 0 (manyE [(1,5),(2,6)]) (manyOkB [(1,5),(2,6)])=some (⟨0,false,3,true,2⟩,kS8):=by decide +kernel
theorem kMade:kS5.loads.map (·.state)=[2,0]∧kS5.epoch.now=1∧kS5.clock.leases=[2,0]:=by decide +kernel
end Go.Proofs.YteeefedoffplmaaGreat
