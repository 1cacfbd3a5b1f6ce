/- StoreAlone, part Paq: PeekW, StP, GetW, Look, VersionsOf, NewLoad, SlicesI. -/
import Derived.Test.YteeefedoffplmaaGreatPao
import Derived.Test.YteeefedoffplmaaGreatPal
import Derived.Test.YteeefedoffplmaaGreatPap
import Derived.Test.YteeefedoffplmaaGreatPak
import Derived.Test.YteeefedoffplmaaGreatPan
import Derived.Test.YteeefedoffplmaaGreatPad
import Derived.Deep.RegionHeld3
import Derived.Test.YteeefedoffplmaaGreatPaa
import Derived.LoopN
import Derived.Test.YteeefedoffplmaaGreatPac
import Derived.Lib.SliceRun
set_option linter.unusedSimpArgs false
set_option linter.unusedVariables false
set_option maxRecDepth 100000
set_option maxHeartbeats 51200000
namespace Go.Proofs.YteeefedoffplmaaGreat
open Go.RowKit Lib Go.Proofs.Tryz
theorem StoreIn.clockStep {Y:StoreL}{w w':World}{ed:Option Nat}{D:Nat→List Nat}{X:StoreS}(h:StoreIn w Y ed D X){C':ClockS}(ho:Only [Y.clock.cb,Y.clock.lb] w w')(hc:ClockAt w' Y.clock C'):StoreIn w' Y ed D {X with clock:=C'}:=by
 have hk:=h.ok
 have hb:∀k c,Y.is k c→c≠2→k∉[Y.clock.cb,Y.clock.lb]:=fun k c e hc m=>by
  simp at m
  rcases m with m|m
  ·exact is_ne e hk.cb hc m
  ·exact is_ne e hk.lb hc m
 have hn:∀k∈[Y.clock.cb,Y.clock.lb],¬Y.is k 0:=fun k m e=>hb k 0 e (by decide) m
 have hd:∀k,Y.base≤k→k∉[Y.clock.cb,Y.clock.lb]:=fun k e m=>by
  have h1:=hk.cb.1
  have h2:=hk.lb.1
  simp at m
  rcases m with m|m <;> omega
 refine⟨hk,h.fixed.only ho hk hn,h.pool.only ho (fun k e=>hb k 1 (hk.pool k e) (by decide)),hc,h.epoch.only ho (hb _ _ hk.eb (by decide)) (fun k e=>hd k (ed_ge h.epoch k e)),fun i C hC=>?_,fun i a ha=>?_,h.chains,h.loads,h.sets,h.slots,h.apart,h.edD,fun k e=>Nat.lt_of_lt_of_le (h.edlt k e) ho.size,Nat.le_trans h.room ho.size⟩
 ·have hi:i<Y.n:=by rw[←h.chains];exact (List.getElem?_eq_some_iff.1 hC).1
  exact (h.chain i C hC).only ho (hb _ _ (hk.xb i hi) (by omega)) (hb _ _ (hk.sets i hi) (by omega)) (fun k e=>hd k ((h.chain i C hC).dlt k e).1)
 ·have hi:i<Y.n:=by rw[←h.loads];exact (List.getElem?_eq_some_iff.1 ha).1
  exact (h.load i a ha).only ho (hb _ _ (hk.lp i hi) (by omega)) hn
theorem StoreIn.clockMoves {Y:StoreL}{w w':World}{ed:Option Nat}{D:Nat→List Nat}{X:StoreS}(h:StoreIn w Y ed D X)(ho:Only [Y.clock.cb,Y.clock.lb] w w'):Moves Y (Qw Y ed D) (Qw Y ed D) w w':=
 .of_only ho (fun k m=>by
  simp at m
  rcases m with rfl|rfl
  ·exact .inl ⟨h.ok.cb.1,by rw[h.ok.cb.2];decide⟩
  ·exact .inl ⟨h.ok.lb.1,by rw[h.ok.lb.2];decide⟩) (fun _ h=>.inl h)
theorem snapNone_any (w:World)(Y:StoreL)(ed:Option Nat)(D:Nat→List Nat)(X:StoreS)(h:StoreIn w Y ed D X)(hn:X.clock.leases.findIdx? (fun x=>decide (x=0))=none):
  Calls prog 29 #[ptr Y.sb,.pointer none] w fun e w'=>e=.returned (.tuple #[snapV 0 0,.int .i64 132])∧Only [] w w':=by
 obtain⟨A,c,hsb,_⟩:=h.fixed.sb
 have ho0:Only [] w (w.alloc (.cells #[.int .i64 0,.int .i64 0] 75)):=(Only.refl _ _).alloc _
 have c1:=(hsb.only ho0 (by simp)).cell (i:=1) rfl
 have htk:=takeNone_any _ Y.clock X.clock (h.new ho0).clock hn
 have HB0:=hid (Blk.new w [.int .i64 0,.int .i64 0] 75)
 have HO0:=hid ho0
 unfold snapV at *
 unfold ptr at *
 clear h hsb hn ho0
 go_enter func29,ntmps29
 go_wp2_with (go_at_call 77;refine htk.mono ?_;rintro e w2 ⟨rfl,ho2⟩;have hb2:=HB0.out.only ho2 (by simp);have hlt2:=hb2.lt;have rf:=hb2.frozen;have r0:=hb2.cell (i:=0) rfl;have r1:=hb2.cell (i:=1) rfl;have HO2:=hid ho2;clear ho2 hb2)
 exact bodyPost_ret (v:=.tuple #[.agg #[.int .i64 0,.int .i64 0],.int .i64 132]) (by simp[results,Tryz.results29,go_sem,r0,r1]) rfl ⟨rfl,(((HO0.out.trans HO2.out).mono (Y:=[w.heap.size]) (by simp)).trans (((Only.refl [w.heap.size] w2).setCell (.inl (by simp)) _).setCell (.inl (by simp)) _)).fresh (fun k hk hl=>by simp at hk;omega)⟩
theorem snapSome_any (w:World)(Y:StoreL)(ed:Option Nat)(D:Nat→List Nat)(X:StoreS)(h:StoreIn w Y ed D X)(i:Nat)(hn:X.clock.leases.findIdx? (fun x=>decide (x=0))=some i)(hs:X.clock.now+1≤1099511627776):
  Calls prog 29 #[ptr Y.sb,.pointer none] w (Turns Y ed D {X with clock:=⟨X.clock.now+1,X.clock.leases.set i (X.clock.now+1)⟩} (.tuple #[snapV i X.clock.now,.int .i64 0]) w):=by
 obtain⟨A,c,hsb,_⟩:=h.fixed.sb
 have ho0:Only [] w (w.alloc (.cells #[.int .i64 0,.int .i64 0] 75)):=(Only.refl _ _).alloc _
 have c1:=(hsb.only ho0 (by simp)).cell (i:=1) rfl
 have htk:=takeSome_any _ Y.clock X.clock (h.new ho0).clock i hn hs
 have HB0:=hid (Blk.new w [.int .i64 0,.int .i64 0] 75)
 have HO0:=hid ho0;have H:=hid h
 have hn1:w.heap.size∉[Y.clock.cb,Y.clock.lb]:=fun m=>by
  have h1:=h.ok.cb.1
  have h2:=h.ok.lb.1
  have h3:=h.room
  simp at m
  rcases m with m|m <;> omega
 have HN1:=hid hn1
 unfold Turns
 unfold snapV at *
 unfold ptr at *
 clear h hsb hn ho0 hn1
 generalize X.clock.now=now at *
 go_enter func29,ntmps29
 go_wp2_with (go_at_call 77;refine htk.mono ?_;rintro e w2 ⟨rfl,hc2,ho2⟩;have hb2:=HB0.out.only ho2 HN1.out;have hlt2:=hb2.lt;have rf:=hb2.frozen;have r0:=hb2.cell (i:=0) rfl;have r1:=hb2.cell (i:=1) rfl;have HO2:=hid ho2;have HC2:=hid hc2;clear ho2 hc2 hb2)
 have hfin:∀W,Only [w.heap.size] w2 W→StoreIn W Y ed D {X with clock:=⟨now+1,X.clock.leases.set i (now+1)⟩}∧Moves Y (Qw Y ed D) (Qw Y ed D) w W:=fun W g=>by
  have hs1:=(H.out.new HO0.out).clockStep HO2.out HC2.out
  refine⟨hs1.only g (fun k hk=>?_),((Moves.of_new HO0.out).trans ((H.out.new HO0.out).clockMoves HO2.out)).fresh g (fun k hk=>by simp at hk;omega)⟩
  simp at hk
  subst hk
  exact⟨H.out.room,fun e=>by have:=(H.out.dyn_lt e).2;omega⟩
 refine bodyPost_ret (v:=.tuple #[.agg #[.int .i64 (i:Int),.int .i64 now],.int .i64 0]) (by simp[results,Tryz.results29,go_sem,r0,r1]) rfl ⟨rfl,hfin _ ?_⟩
 exact ((Only.refl [w.heap.size] w2).setCell (.inl (by simp)) _).setCell (.inl (by simp)) _
theorem freeOp_any (w:World)(Y:StoreL)(ed:Option Nat)(D:Nat→List Nat)(X:StoreS)(h:StoreIn w Y ed D X)(i:Nat)(x t:Int)(hi:X.clock.leases[i]?=some x)(hx:x≠0):
  Calls prog 37 #[ptr Y.sb,.pointer none,snapV i t] w (Turns Y ed D {X with clock:={X.clock with leases:=X.clock.leases.set i 0}} (.int .i64 0) w):=by
 obtain⟨A,c,hsb,_⟩:=h.fixed.sb
 have ho0:Only [] w (w.alloc (.cells #[.int .i64 (i:Int),.int .i64 t] 75)):=(Only.refl _ _).alloc _
 have c1:=(hsb.only ho0 (by simp)).cell (i:=1) rfl
 have hb:=Blk.new w [.int .i64 (i:Int),.int .i64 t] 75
 have d0:=hb.cell (i:=0) rfl
 have hcl:=h.ok.cb.1
 have hll:=h.ok.lb.1
 have hrm:=h.room
 have hsl:Y.sb<w.heap.size:=Nat.lt_of_lt_of_le h.ok.sb.1 h.room
 have hsn:Y.sb∉[Y.clock.cb,Y.clock.lb]:=fun m=>by
  simp at m
  rcases m with m|m
  ·exact is_ne h.ok.sb h.ok.cb (by decide) m
  ·exact is_ne h.ok.sb h.ok.lb (by decide) m
 have hbn:w.heap.size∉[Y.clock.cb,Y.clock.lb]:=fun m=>by
  simp at m
  rcases m with m|m <;> omega
 have hre:=fun W (ho:Only [] w W)=>release_any W Y.clock X.clock (h.new ho).clock i x hi hx
 have HRE:=hid hre;have HO0:=hid ho0;have H:=hid h;have HSN:=hid hsn;have HBN:=hid hbn
 unfold Turns
 unfold snapV at *
 unfold ptr at *
 clear h hsb hi hx ho0 hb hre hcl hll hrm hsl hsn hbn
 go_enter func37,ntmps37
 go_wp2_with fail
 go_region_held3 (fun W=>W.cell? ⟨Y.sb,1,none⟩=some (.pointer (some ⟨Y.clock.cb,0,none⟩))∧W.cell? ⟨w.heap.size,0,none⟩=some (.int .i64 (i:Int)))
  (first|with_reducible exact⟨Qa ho2 c1 HSN.out,Qa ho2 d0 HBN.out⟩|(go_keep;done))
  (first|(go_simp;go_at_call 94;refine (HRE.out _ HO0.out.drew').mono ?_;rintro e w2 ⟨rfl,hc2,ho2'⟩;have ho2:Only [Y.clock.cb,Y.clock.lb] (w.alloc (.cells #[.int .i64 (i:Int),.int .i64 t] 75)) w2:=⟨ho2'.os,ho2'.tape,ho2'.output,ho2'.size,ho2'.block⟩;have HO2:=hid ho2;have HC2:=hid hc2;clear ho2' hc2))
 all_goals
  try go_wp2_with fail
  go_ret
  exact⟨rfl,(H.out.new HO0.out).clockStep HO2.out HC2.out,(Moves.of_new HO0.out).trans ((H.out.new HO0.out).clockMoves HO2.out)⟩
def SeeP (Y:StoreL)(X:StoreS)(i:Nat)(t:Int)(n:NodeS)(X2:StoreS):Prop:=
 ∃X1 C hd S1,ReadyP Y X i X1∧X1.chains[i]?=some C∧C.atStamp X1.clock.now X1.pool t=some (some hd,S1)∧S1.read hd=some n∧S1.slots.length=X1.pool.slots.length∧X2={X1 with pool:=S1}
theorem ReadyP.lt {w:World}{Y:StoreL}{ed:Option Nat}{D:Nat→List Nat}{X X1:StoreS}{i:Nat}(hp:ReadyP Y X i X1)(h:StoreIn w Y ed D X):i<Y.n:=by
 obtain⟨a,_,ha,_⟩:=hp
 rw[←h.loads]
 exact (List.getElem?_eq_some_iff.1 ha).1
theorem reads_any (w:World)(Y:StoreL)(ed:Option Nat)(D:Nat→List Nat)(X X2:StoreS)(h:StoreIn w Y ed D X)(i:Nat)(t:Int)(n:NodeS)(hp:SeeP Y X i t n X2):
  Calls prog 88 #[ptr Y.sb,.pointer none,.int .i64 (i:Int),.int .i64 t] w (Turns Y ed D X2 (.tuple #[.int .i64 n.a,.int .i64 n.b,.int .i64 0]) w):=by
 obtain⟨X1,C,hd,S1,hrd,hC,hat,hn,hl,rfl⟩:=hp
 have hi:=hrd.lt h
 obtain⟨A,c,hsb,_⟩:=h.fixed.sb
 have c3:=hsb.cell (i:=3) rfl
 have hre:=readyP_any w Y ed D X X1 h i hrd
 have hch:=fun W (hs:StoreIn W Y ed D X1)=>at_chain W (Y.chain i) Y.pool X1.pool Y.clock X1.clock Y.base (D i) C hs.pool hs.clock (hs.chain i C hC) (hs.far hi) t (some hd) S1 hat
 have hread:=fun W (hp:PoolAt W Y.pool S1)=>read_any W Y.pool S1 hp hd n hn
 have hk:=h.ok
 have h0i:(0:Int)≤(i:Int):=by omega
 have hin:(i:Int)<(Y.n:Int):=by omega
 have HCH:=hid hch;have HRD:=hid hread;have HL:=hid hl;have HI:=hid hi;have H:=hid h
 unfold Turns at hre ⊢
 unfold Settled atAns I2 at HCH
 unfold NodeS.val at HRD
 unfold ptr at *
 dsimp only at HCH
 clear h hsb hrd hC hat hn hl hch hread hk hi
 obtain⟨na,nb,nc,nd⟩:=n
 generalize hYn:Y.n=yn at *
 have HYN:=hid hYn
 clear hYn
 go_enter func88,ntmps88
 go_wp2_with (first|(go_at_call 141;refine hre.mono ?_;rintro e w1 ⟨rfl,hs1,hm1⟩;obtain⟨A1,c1,hsb1,hrow1⟩:=hs1.fixed.sb;have d6:=hsb1.cell (i:=6) rfl;obtain⟨pb,rfl,_,hcp⟩:=hrow1 i (.pointer (some ⟨Y.pt i,0,none⟩)) (by simp[HI.out,HYN.out,ptr]);have d0:=(hs1.fixed.pt i (by rw[HYN.out];exact HI.out)).cell (i:=0) rfl;have HS1:=hid hs1;have HM1:=hid hm1;rw[HYN.out] at d6;clear hsb1 hrow1 hs1 hm1)|(go_at_call 128;refine (HCH.out _ HS1.out).mono ?_;rintro e w2 ⟨rfl,hp2,ho2⟩;have hs2:=HS1.out.poolStep ho2 hp2 HL.out;obtain⟨A2,c2,hsb2,_⟩:=hs2.fixed.sb;have e0:=hsb2.cell (i:=0) rfl;have HP2:=hid hp2;have HS2:=hid hs2;have HM2:=hid (HM1.out.trans (HS1.out.poolMoves ho2));clear hp2 ho2 hs2 hsb2)|(go_at_call 159;refine (HRD.out _ HP2.out).mono ?_;rintro e w3 ⟨rfl,hb3⟩;have ho3:Only [] w2 w3:=Only.of_below (X:=[]) hb3;have HO3:=hid ho3;clear hb3 ho3))
 have hbn:=Blk.new w3 [.int .i64 na,.int .i64 nb,.int .i64 nc,.int .i64 nd] 218
 have g0:=hbn.cell (i:=0) rfl
 have g1:=hbn.cell (i:=1) rfl
 have hoA:Only [] w2 (w3.alloc (.cells #[.int .i64 na,.int .i64 nb,.int .i64 nc,.int .i64 nd] 218)):=HO3.out.alloc _
 have HOA:=hid hoA
 clear hbn hoA
 go_quiet (fail)
 try go_wp2_with fail
 go_ret3
 exact⟨rfl,HS2.out.new (HOA.out.drewN _),HM2.out.trans (.of_new (HOA.out.drewN _))⟩
theorem viewNo_any (w:World)(Y:StoreL)(ed:Option Nat)(D:Nat→List Nat)(X:StoreS)(h:StoreIn w Y ed D X)(i:Nat)(hi:i<Y.n)(l t:Int)(hh:holdsB X.clock l t=false):
  Calls prog 79 #[ptr Y.sb,.pointer none,snapV l t,.int .i64 (i:Int)] w fun e w'=>e=.returned (.tuple #[.int .i64 0,.int .i64 0,.int .i64 182])∧Only [] w w':=by
 obtain⟨A,c,hsb,_⟩:=h.fixed.sb
 have ho0:Only [] w (w.alloc (.cells #[.int .i64 l,.int .i64 t] 75)):=(Only.refl _ _).alloc _
 have c1:=(hsb.only ho0 (by simp)).cell (i:=1) rfl
 have c6:=(hsb.only ho0 (by simp)).cell (i:=6) rfl
 have hb:=Blk.new w [.int .i64 l,.int .i64 t] 75
 have d0:=hb.cell (i:=0) rfl
 have d1:=hb.cell (i:=1) rfl
 have hho:=fun W (ho:Only [] w W)=>holdsC_any W Y.clock X.clock (h.new ho).clock l t
 rw[hh] at hho
 have HH:=hid hho;have HO0:=hid ho0
 have h1:¬(i:Int)<0:=by omega
 have h2:¬(i:Int)≥(Y.n:Int):=by omega
 unfold snapV at *
 unfold ptr at *
 clear h hsb hh ho0 hb hho hi
 generalize Y.n=n at *
 go_enter func79,ntmps79
 go_wp2_with fail
 go_region_held3 (fun W=>W.cell? ⟨Y.sb,1,none⟩=some (.pointer (some ⟨Y.clock.cb,0,none⟩))∧W.cell? ⟨w.heap.size,0,none⟩=some (.int .i64 l)∧W.cell? ⟨w.heap.size,1,none⟩=some (.int .i64 t))
  (first|with_reducible exact⟨Qa ho2 c1 (by simp),Qa ho2 d0 (by simp),Qa ho2 d1 (by simp)⟩|(go_keep;done))
  (first|(go_simp;go_at_call 147;refine (HH.out _ HO0.out.drew').mono ?_;rintro e w2 ⟨rfl,ho2'⟩;have ho2:Only [] (w.alloc (.cells #[.int .i64 l,.int .i64 t] 75)) w2:=⟨ho2'.os,ho2'.tape,ho2'.output,ho2'.size,ho2'.block⟩;have HO2:=hid (HO0.out.trans ho2);clear ho2'))
 all_goals
  try go_wp2_with fail
  go_ret3
  exact⟨rfl,HO2.out⟩
theorem viewYes_any (w:World)(Y:StoreL)(ed:Option Nat)(D:Nat→List Nat)(X X2:StoreS)(h:StoreIn w Y ed D X)(i:Nat)(hi:i<Y.n)(l t:Int)(hh:holdsB X.clock l t=true)(n:NodeS)(hp:SeeP Y X i t n X2):
  Calls prog 79 #[ptr Y.sb,.pointer none,snapV l t,.int .i64 (i:Int)] w (Turns Y ed D X2 (.tuple #[.int .i64 n.a,.int .i64 n.b,.int .i64 0]) w):=by
 obtain⟨A,c,hsb,_⟩:=h.fixed.sb
 have ho0:Only [] w (w.alloc (.cells #[.int .i64 l,.int .i64 t] 75)):=(Only.refl _ _).alloc _
 have c1:=(hsb.only ho0 (by simp)).cell (i:=1) rfl
 have c6:=(hsb.only ho0 (by simp)).cell (i:=6) rfl
 have hb:=Blk.new w [.int .i64 l,.int .i64 t] 75
 have d0:=hb.cell (i:=0) rfl
 have d1:=hb.cell (i:=1) rfl
 have hho:=fun W (ho:Only [] w W)=>holdsC_any W Y.clock X.clock (h.new ho).clock l t
 rw[hh] at hho
 have hrd:=fun W (ho:Only [] w W)=>reads_any W Y ed D X X2 (h.new ho) i t n hp
 have HH:=hid hho;have HO0:=hid ho0;have HRD:=hid hrd
 have h1:¬(i:Int)<0:=by omega
 have h2:¬(i:Int)≥(Y.n:Int):=by omega
 unfold Turns at HRD ⊢
 unfold snapV at *
 unfold ptr at *
 clear h hsb hh ho0 hb hho hi hrd hp
 obtain⟨na,nb,nc,nd⟩:=n
 dsimp only at HRD ⊢
 generalize Y.n=yn at *
 go_enter func79,ntmps79
 go_wp2_with fail
 go_region_held3 (fun W=>W.cell? ⟨Y.sb,1,none⟩=some (.pointer (some ⟨Y.clock.cb,0,none⟩))∧W.cell? ⟨w.heap.size,0,none⟩=some (.int .i64 l)∧W.cell? ⟨w.heap.size,1,none⟩=some (.int .i64 t))
  (first|with_reducible exact⟨Qa ho2 c1 (by simp),Qa ho2 d0 (by simp),Qa ho2 d1 (by simp)⟩|(go_keep;done))
  (first|(go_simp;go_at_call 147;refine (HH.out _ HO0.out.drew').mono ?_;rintro e w2 ⟨rfl,ho2'⟩;have ho2:Only [] (w.alloc (.cells #[.int .i64 l,.int .i64 t] 75)) w2:=⟨ho2'.os,ho2'.tape,ho2'.output,ho2'.size,ho2'.block⟩;have HO2:=hid (HO0.out.trans ho2);have g1:=Qa ho2 d1 (by simp);clear ho2'))
 all_goals
  try go_wp2_with (go_at_call 88;refine (HRD.out _ HO2.out).mono ?_;rintro e w3 ⟨rfl,hs3,hm3⟩;have HS3:=hid hs3;have HM3:=hid ((Moves.of_new HO2.out).trans hm3);clear hs3 hm3)
  go_ret3
  exact⟨rfl,HS3.out,HM3.out⟩
theorem finds_any (w:World)(Y:StoreL)(ed:Option Nat)(D:Nat→List Nat)(X:StoreS)(h:StoreIn w Y ed D X)(root num k v:Int)(had:Bool)(hk:Qt k=true)(hf:X.pool.find root k=some (v,had)):
  Calls prog 80 #[ptr Y.sb,.pointer none,.int .i64 root,.int .i64 num,.int .i64 k] w fun e w'=>e=.returned (.tuple #[(ToldS.mk v had num false 0).val,.int .i64 0])∧Only [] w w':=by
 obtain⟨A,c,hsb,_⟩:=h.fixed.sb
 have ho0:Only [] w (w.alloc (.cells #[.int .i64 0,.bool false,.int .i64 0,.bool false,.int .i64 0] 57)):=(Only.refl _ _).alloc _
 have c5:=(hsb.only ho0 (by simp)).cell (i:=5) rfl
 have hfi:=fun W (ho:Only [] w W)=>find_any W Y.ts Y.pool X.pool (h.new ho).pool (h.new ho).fixed.ts root k v had hk hf
 have HFI:=hid hfi;have HO0:=hid ho0
 have HB0:=hid (Blk.new w [.int .i64 0,.bool false,.int .i64 0,.bool false,.int .i64 0] 57)
 unfold ToldS.val
 unfold ptr at *
 clear h hsb hk hf ho0 hfi
 go_enter func80,ntmps80
 go_wp2_with (go_at_call 145;refine (HFI.out _ HO0.out).mono ?_;rintro e w2 ⟨rfl,ho2⟩;have hb2:=HB0.out.only ho2 (by simp);have hlt2:=hb2.lt;have rf:=hb2.frozen;have r0:=hb2.cell (i:=0) rfl;have r1:=hb2.cell (i:=1) rfl;have r2:=hb2.cell (i:=2) rfl;have r3:=hb2.cell (i:=3) rfl;have r4:=hb2.cell (i:=4) rfl;have HO2:=hid (HO0.out.trans ho2);clear ho2 hb2)
 exact bodyPost_ret (v:=.tuple #[.agg #[.int .i64 v,.bool had,.int .i64 num,.bool false,.int .i64 0],.int .i64 0]) (by simp[results,Tryz.results80,go_sem,r0,r1,r2,r3,r4]) rfl ⟨rfl,((HO2.out.mono (Y:=[w.heap.size]) (by simp)).trans (only5 _ _ _ _ _ _ _)).fresh (fun k hk hl=>by simp at hk;omega)⟩
theorem peekKey_any (w:World)(Y:StoreL)(ed:Option Nat)(D:Nat→List Nat)(X:StoreS)(h:StoreIn w Y ed D X)(l t k:Int)(hk:Qt k=false):
  Calls prog 30 #[ptr Y.sb,.pointer none,snapV l t,.int .i64 k] w fun e w'=>e=.returned (.tuple #[ToldS.zero.val,.int .i64 161])∧Only [] w w':=by
 obtain⟨w0,hw0⟩:∃w0,(w.alloc (.cells #[.int .i64 l,.int .i64 t] 75)).alloc (.cells #[.int .i64 0,.bool false,.int .i64 0,.bool false,.int .i64 0] 57)=w0:=⟨_,rfl⟩
 have ho0:Only [] w w0:=by rw[←hw0];exact ((Only.refl _ _).alloc _).alloc _
 have hbR:Blk w0 (w.heap.size+1) [.int .i64 0,.bool false,.int .i64 0,.bool false,.int .i64 0] 57:=by
  have:=Blk.new (w.alloc (.cells #[.int .i64 l,.int .i64 t] 75)) [.int .i64 0,.bool false,.int .i64 0,.bool false,.int .i64 0] 57
  rw[World.size_alloc] at this
  rw[←hw0]
  exact this
 have HOF:=hid (storeOfNo_any w0 Y (h.new ho0).fixed k hk)
 have HBR:=hid hbR;have HO0:=hid ho0
 unfold ToldS.val
 dsimp only [ToldS.zero]
 unfold snapV
 unfold ptr at *
 clear h hk ho0 hbR
 go_enter func30,ntmps30
 go_wp2_with (first|(go_at_call 78;refine HOF.out.mono ?_;rintro e w2 ⟨rfl,ho2⟩;have hb2:=HBR.out.only ho2 (by simp);have hlt2:=hb2.lt;have rf:=hb2.frozen;have r0:=hb2.cell (i:=0) rfl;have r1:=hb2.cell (i:=1) rfl;have r2:=hb2.cell (i:=2) rfl;have r3:=hb2.cell (i:=3) rfl;have r4:=hb2.cell (i:=4) rfl;have HO2:=hid (HO0.out.trans ho2);clear ho2 hb2)|(go_at_call 71;refine (Qx _).mono ?_;rintro e w' ⟨rfl,rfl⟩))
 exact bodyPost_ret (v:=.tuple #[.agg #[.int .i64 0,.bool false,.int .i64 0,.bool false,.int .i64 0],.int .i64 161]) (by simp[results,Tryz.results30,go_sem,r0,r1,r2,r3,r4]) rfl ⟨rfl,((HO2.out.mono (Y:=[w.heap.size+1]) (by simp)).trans (only5 _ _ _ _ _ _ _)).fresh (fun k hk hl=>by simp at hk;omega)⟩
theorem peekNo_any (w:World)(Y:StoreL)(ed:Option Nat)(D:Nat→List Nat)(X:StoreS)(h:StoreIn w Y ed D X)(i:Nat)(hi:i<Y.n)(l t k:Int)(hk:Qt k=true)(hpk:Qu k Y.n=(i:Int))(hh:holdsB X.clock l t=false):
  Calls prog 30 #[ptr Y.sb,.pointer none,snapV l t,.int .i64 k] w fun e w'=>e=.returned (.tuple #[ToldS.zero.val,.int .i64 182])∧Only [] w w':=by
 obtain⟨w0,hw0⟩:∃w0,(w.alloc (.cells #[.int .i64 l,.int .i64 t] 75)).alloc (.cells #[.int .i64 0,.bool false,.int .i64 0,.bool false,.int .i64 0] 57)=w0:=⟨_,rfl⟩
 have ho0:Only [] w w0:=by rw[←hw0];exact ((Only.refl _ _).alloc _).alloc _
 have hbR:Blk w0 (w.heap.size+1) [.int .i64 0,.bool false,.int .i64 0,.bool false,.int .i64 0] 57:=by
  have:=Blk.new (w.alloc (.cells #[.int .i64 l,.int .i64 t] 75)) [.int .i64 0,.bool false,.int .i64 0,.bool false,.int .i64 0] 57
  rw[World.size_alloc] at this
  rw[←hw0]
  exact this
 have hb0:Blk w0 w.heap.size [.int .i64 l,.int .i64 t] 75:=by rw[←hw0];exact (Blk.new w _ 75).alloc _
 have hof:=storeOf_any w0 Y (h.new ho0).fixed (by have:=h.ok.n;omega) k hk
 rw[hpk] at hof
 have hvw:=fun W (ho:Only [] w W)=>viewNo_any W Y ed D X (h.new ho) i hi l t hh
 have HOF:=hid hof;have HVW:=hid hvw
 have HBR:=hid hbR;have HO0:=hid ho0;have HB0:=hid hb0
 unfold ToldS.val
 dsimp only [ToldS.zero]
 unfold snapV at *
 unfold ptr at *
 clear h hk ho0 hbR hof hvw hh hi hpk hb0
 go_enter func30,ntmps30
 go_wp2_with (first|(go_at_call 78;refine HOF.out.mono ?_;rintro e w1 ⟨rfl,ho1⟩;have s0:=(HB0.out.only ho1 (by simp)).cell (i:=0) rfl;have s1:=(HB0.out.only ho1 (by simp)).cell (i:=1) rfl;have HO1:=hid ho1;clear ho1)|(go_at_call 79;refine (HVW.out _ (HO0.out.trans HO1.out)).mono ?_;rintro e w2 ⟨rfl,ho2⟩;have hb2:=HBR.out.only (HO1.out.trans ho2) (by simp);have hlt2:=hb2.lt;have rf:=hb2.frozen;have r0:=hb2.cell (i:=0) rfl;have r1:=hb2.cell (i:=1) rfl;have r2:=hb2.cell (i:=2) rfl;have r3:=hb2.cell (i:=3) rfl;have r4:=hb2.cell (i:=4) rfl;have HO2:=hid ((HO0.out.trans HO1.out).trans ho2);clear ho2 hb2))
 exact bodyPost_ret (v:=.tuple #[.agg #[.int .i64 0,.bool false,.int .i64 0,.bool false,.int .i64 0],.int .i64 182]) (by simp[results,Tryz.results30,go_sem,r0,r1,r2,r3,r4]) rfl ⟨rfl,((HO2.out.mono (Y:=[w.heap.size+1]) (by simp)).trans (only5 _ _ _ _ _ _ _)).fresh (fun k hk hl=>by simp at hk;omega)⟩
theorem peekYes_any (w:World)(Y:StoreL)(ed:Option Nat)(D:Nat→List Nat)(X X2:StoreS)(h:StoreIn w Y ed D X)(i:Nat)(hi:i<Y.n)(l t k v:Int)(had:Bool)(hk:Qt k=true)(hpk:Qu k Y.n=(i:Int))(hh:holdsB X.clock l t=true)(n:NodeS)(hp:SeeP Y X i t n X2)(hf:X2.pool.find n.a k=some (v,had)):
  Calls prog 30 #[ptr Y.sb,.pointer none,snapV l t,.int .i64 k] w (Turns Y ed D X2 (.tuple #[(ToldS.mk v had n.b false 0).val,.int .i64 0]) w):=by
 obtain⟨w0,hw0⟩:∃w0,(w.alloc (.cells #[.int .i64 l,.int .i64 t] 75)).alloc (.cells #[.int .i64 0,.bool false,.int .i64 0,.bool false,.int .i64 0] 57)=w0:=⟨_,rfl⟩
 have ho0:Only [] w w0:=by rw[←hw0];exact ((Only.refl _ _).alloc _).alloc _
 have hbR:Blk w0 (w.heap.size+1) [.int .i64 0,.bool false,.int .i64 0,.bool false,.int .i64 0] 57:=by
  have:=Blk.new (w.alloc (.cells #[.int .i64 l,.int .i64 t] 75)) [.int .i64 0,.bool false,.int .i64 0,.bool false,.int .i64 0] 57
  rw[World.size_alloc] at this
  rw[←hw0]
  exact this
 have hb0:Blk w0 w.heap.size [.int .i64 l,.int .i64 t] 75:=by rw[←hw0];exact (Blk.new w _ 75).alloc _
 have hof:=storeOf_any w0 Y (h.new ho0).fixed (by have:=h.ok.n;omega) k hk
 rw[hpk] at hof
 have hvw:=fun W (ho:Only [] w W)=>viewYes_any W Y ed D X X2 (h.new ho) i hi l t hh n hp
 have hfn:=fun W (hs:StoreIn W Y ed D X2)=>finds_any W Y ed D X2 hs n.a n.b k v had hk hf
 have HOF:=hid hof;have HVW:=hid hvw;have HFN:=hid hfn;have H:=hid h
 have HBR:=hid hbR;have HO0:=hid ho0;have HB0:=hid hb0
 unfold Turns at HVW ⊢
 unfold ToldS.val at HFN ⊢
 unfold snapV at *
 unfold ptr at *
 dsimp only at HFN ⊢
 clear h hk ho0 hbR hof hvw hh hi hpk hp hf hfn hb0
 obtain⟨na,nb,nc,nd⟩:=n
 dsimp only at HVW HFN ⊢
 go_enter func30,ntmps30
 go_wp2_with (first|(go_at_call 78;refine HOF.out.mono ?_;rintro e w1 ⟨rfl,ho1⟩;have s0:=(HB0.out.only ho1 (by simp)).cell (i:=0) rfl;have s1:=(HB0.out.only ho1 (by simp)).cell (i:=1) rfl;have HO1:=hid (HO0.out.trans ho1);have HB1:=hid (HBR.out.only ho1 (by simp));clear ho1)|(go_at_call 79;refine (HVW.out _ HO1.out).mono ?_;rintro e w2 ⟨rfl,hs2,hm2⟩;have HB2:=hid (wrote_blk H.out hm2 (by omega) HB1.out);have HS2:=hid hs2;have HM2:=hid hm2;clear hs2 hm2)|(go_at_call 80;refine (HFN.out _ HS2.out).mono ?_;rintro e w3 ⟨rfl,ho3⟩;have hb3:=HB2.out.only ho3 (by simp);have hlt3:=hb3.lt;have rf:=hb3.frozen;have r0:=hb3.cell (i:=0) rfl;have r1:=hb3.cell (i:=1) rfl;have r2:=hb3.cell (i:=2) rfl;have r3:=hb3.cell (i:=3) rfl;have r4:=hb3.cell (i:=4) rfl;have HO3:=hid ho3;clear ho3 hb3))
 have hfin:=wrote_fin H.out (HS2.out.new HO3.out) HO1.out (HM2.out.trans (.of_new HO3.out)) (b:=w.heap.size+1) (by omega) HB1.out.lt
 exact bodyPost_ret (v:=.tuple #[.agg #[.int .i64 v,.bool had,.int .i64 nb,.bool false,.int .i64 0],.int .i64 0]) (by simp[results,Tryz.results30,go_sem,r0,r1,r2,r3,r4]) rfl ⟨rfl,hfin _ (only5 _ _ _ _ _ _ _)⟩
section
def PairsOk (l:List LPartS):Prop:=∀a∈l,a.pairs.length≤400∧∀p∈a.pairs,Ql p.2
theorem PairsOk.set {l:List LPartS}(h:PairsOk l){i:Nat}{a:LPartS}(ha:l[i]?=some a)(s:Int):PairsOk (l.set i {a with state:=s}):=fun b hb=>by
 rcases List.mem_or_eq_of_mem_set hb with hb|rfl
 ·exact h b hb
 ·exact h a (List.mem_of_getElem? ha)
theorem readyP_is (Y:StoreL){N n:Nat}{X:StoreS}{V:List (List Ver)}{ms:List MapS}{B:Nat}{G:Int}(h:St N n X V ms B G)(hpo:PairsOk X.loads){i:Nat}(hi:i<n)(hB:B+36≤N)(hG:G+5000000≤MaxTag):
  ∃X' V',ReadyP Y X i X'∧St N n X' V' ms B (G+5000000)∧PairsOk X'.loads∧(∃v l,V'[i]?=some (v :: l))∧X'.clock=X.clock∧X'.epoch=X.epoch∧(V'=V∨V[i]?=some []∧∃v,v.stamp=1∧V'=V.set i [v]):=by
 obtain⟨C,a,vs,m,hC,ha,hv,hm,hp⟩:=h.get hi
 cases vs with
 |cons v l=>
  exact⟨X,V,⟨a,C,ha,hC,.inl ⟨hp.1,rfl⟩⟩,{h with inv:=h.inv.later (by omega)},hpo,⟨v,l,hv⟩,rfl,rfl,.inl rfl⟩
 |nil=>
  obtain⟨p1,p2,p3,p4,p5,p6,p7,p8⟩:=hp
  have hsz:=h.size
  have hps:=pend_set {a with state:=2} ha
  rw[if_pos p1,if_neg (show ¬(2:Int)=0 by decide)] at hps
  have hperm:=owns_part X.epoch hv
  have hinv:PInv N X.pool (mhs none ++ restOf V i X.epoch) G:=by
   refine h.inv.perm (hperm.trans ?_)
   exact List.Perm.refl _
  have hlr:(owns V X.epoch).length=(restOf V i X.epoch).length:=by rw[hperm.length_eq];rfl
  obtain⟨hp4,hpv⟩:=hpo a (List.mem_of_getElem? ha)
  obtain⟨nodes',S1,T,e1,g1,g2,g3,g4,g5,g6⟩:=loadW_is a.pairs none [] X.pool (restOf V i X.epoch) G (fun _=>none) hinv (by show _+2*(0+_)+34≤N;omega) h.small (by omega) trivial trivial (fun _=>rfl) p7 hpv (by show 0+_≤_;omega) (by show 0+_≤_;omega)
  have hl:=mhs_len T
  have g6:mleaves T≤0+a.pairs.length:=g6
  obtain⟨b,C',S2,e2,f1,f2,f3,f4,f5⟩:=first_is g3 (by simp only[List.length_append];omega) (by omega) p3 p4 g1 g2
  have hup:=h.upd (B':=B) (G':=G+5000000) (a':={a with state:=2}) (C':=C') (vs':=[⟨b,1,1,T,[]⟩]) (m':=m) (S':=S2) (e':=X.epoch) hC ha hv hm
   ((f1.later (by omega)).perm (by simp[vown,vtop,vgone])) (fun x hx s hs=>f2 _ _ (g4 x hx s hs)) ⟨rfl,f3,f4,f5,p5.symm,fun k=>by rw[p6 k];exact g5 k⟩
   (by simp only[vown,vtop,vgone,List.length_append,List.map_cons,List.map_nil,List.length_cons,List.length_nil,List.flatMap_cons,List.flatMap_nil];omega)
   (fun v hv'=>by
    obtain rfl:=List.mem_singleton.1 hv'
    exact h.now) h.at0 h.deep
  rw[set_same hm] at hup
  exact⟨_,_,⟨a,C,ha,hC,.inr ⟨C',S2,p1,⟨ha,hC,p2,by omega,_,S1,b,e1,e2,g1.rin⟩,rfl⟩⟩,hup,hpo.set ha 2,⟨_,[],List.getElem?_set_self (List.getElem?_eq_some_iff.1 hv).1⟩,rfl,rfl,.inr ⟨hv,_,rfl,rfl⟩⟩
theorem newestP_is {N n:Nat}{X:StoreS}{V:List (List Ver)}{ms:List MapS}{B:Nat}{G:Int}(h:St N n X V ms B G){i:Nat}{v:Ver}{l:List Ver}(hv:V[i]?=some (v :: l))(e:EpochS):
  ∃C a m,X.chains[i]?=some C∧X.loads[i]?=some a∧ms[i]?=some m∧PartIs N X.pool C a m (v :: l)∧NewestP {X with epoch:=e} i C v.h X.pool ⟨Qs v.tree,v.num,0,0⟩:=by
 have hi:i<n:=by rw[←h.nv];exact (List.getElem?_eq_some_iff.1 hv).1
 obtain⟨C,a,vs,m,hC,ha,hv',hm,hp⟩:=h.get hi
 rw[hv] at hv'
 cases hv'
 obtain⟨g,h1⟩:=hp.2.2.2.1.1
 exact⟨C,a,m,hC,ha,hm,hp,hC,⟨_,top_is hp.2.2.2.1 hp.2.1⟩,Ze.2 ⟨_,h1,rfl⟩⟩
def OkAt (ok:Int→PoolS→Prop)(K:Nat)(D:Int)(m:Int→Option Int):Prop:=
 ∀(N:Nat) (S:PoolS) (own:List Int) (G:Int) (T:Option Tr),N≤4096→PInv N S own G→own.length+K≤N→G+D≤MaxTag→MIn S T→MOk T→(mhs T).Nodup→(∀a∈mhs T,a∈own)→(∀k,mfind k T=m k)→ok (Qs T) S
theorem writeP_is (Y:StoreL){N n:Nat}{X X0:StoreS}{V:List (List Ver)}{ms:List MapS}{B K:Nat}{G D:Int}(h:St N n X V ms B G){i:Nat}{v:Ver}{l:List Ver}{m:MapS}(hv:V[i]?=some (v :: l))(hm:ms[i]?=some m)
  {f:Int→PoolS→Option ((Int ⊕ ChangeS) × PoolS)} {ok:Int→PoolS→Prop} {out:Int ⊕ (ToldS × (Int→Option Int))} (hf:Acts f K D m.1 out) (hok:OkAt ok K D m.1) (hB:B+K+1≤N) (hG:G+D+1≤MaxTag) (hr:ReadyP Y X0 i X) (hnum:0≤m.2∧m.2<1000000000) (hK:K≤10000):
  match out with
  |.inl e=>e≠0→∃X',WriteP Y X0 i f ok ToldS.zero e X'∧St N n X' V ms (B+K+1) (G+D+1)∧X'.clock=X.clock∧X'.epoch=X.epoch∧X'.loads=X.loads
  |.inr (told,m')=>∃X',X'.clock=X.clock∧X'.epoch=X.epoch∧X'.loads=X.loads ∧
    (told.new=false∧WriteP Y X0 i f ok {told with number:=m.2} 0 X'∧St N n X' V ms (B+K+1) (G+D+1)∧(∀k,m' k=m.1 k) ∨
    told.new=true∧WriteP Y X0 i f ok {told with number:=m.2+1} 0 X'∧∃w,w.stamp=X.clock.now∧St N n X' (V.set i (w :: v :: l)) (ms.set i (m',m.2+1)) (B+K+1) (G+D+1)):=by
 have hi:i<n:=by rw[←h.nv];exact (List.getElem?_eq_some_iff.1 hv).1
 obtain⟨C,a,m0,hC,ha,hm',hp,hnew⟩:=newestP_is h hv X.epoch.enter
 rw[hm] at hm'
 cases hm'
 obtain⟨p1,p2,p3,p4,p5,p6⟩:=hp
 have hperm:=owns_part X.epoch hv
 have hsz:=h.size
 have hinv:PInv N X.pool (vown (v :: l) ++ restOf V i X.epoch) G:=h.inv.perm hperm
 have hlen:=hperm.length_eq
 have hnd:=(List.nodup_append.1 hinv.nodup).1
 have hst:v.stamp≤X.clock.now:=h.stamps _ (List.mem_of_getElem? hv) v (by simp)
 have hel:=enter_leave h.at0 h.deep
 have hself:∀S',({X with pool:=S',chains:=X.chains.set i C,loads:=X.loads.set i a,epoch:=X.epoch}:StoreS)={X with pool:=S'}:=by
  intro S'
  rw[set_same hC,set_same ha]
 have hps:=pend_set a ha
 have hmid:=hf N X.pool (vown (v :: l) ++ restOf V i X.epoch) G v.tree h.small hinv (by omega) (by omega) p4.tops.1 p4.tops.2 (vown_nodup_top hnd) (fun b hb=>List.mem_append_left _ (vown_top hb)) p6
 have hokk:=hok N X.pool (vown (v :: l) ++ restOf V i X.epoch) G v.tree h.small hinv (by omega) (by omega) p4.tops.1 p4.tops.2 (vown_nodup_top hnd) (fun b hb=>List.mem_append_left _ (vown_top hb)) p6
 cases out with
 |inl e=>
  intro he
  obtain⟨S',f1,f2,f3⟩:=hmid
  have hup:=h.upd (B':=B+K+1) (G':=G+D+1) (a':=a) (C':=C) (vs':=v :: l) (m':=m) (S':=S') (e':=X.epoch) hC ha hv hm (f2.later (by omega)) (fun b hb s hs=>f3 b (List.mem_append_right _ hb) s hs)
   ⟨p1,p2,p3,p4.keep (fun b hb s hs=>f3 b (List.mem_append_left _ hb) s hs),p5,p6⟩ (by omega) (fun u hu=>h.stamps _ (List.mem_of_getElem? hv) u hu) h.at0 h.deep
  rw[hself,set_same hv,set_same hm] at hup
  exact⟨{X with pool:=S'},⟨X,C,v.h,X.pool,_,.inl e,S',{X with pool:=S',epoch:=X.epoch.enter},hr,h.deep,hnew,f1,hokk,by rw[f2.slots,h.inv.slots],⟨he,rfl,rfl,rfl⟩,by show _=({X with pool:=S',epoch:=X.epoch.enter.leave}:StoreS);rw[hel]⟩,hup,rfl,rfl,rfl⟩
 |inr x=>
  obtain⟨told,m'⟩:=x
  obtain⟨c,S',T',f1,f2,f3⟩:=hmid
  have hkeep1:∀b∈vown (v :: l),∀s,X.pool.at b=some s→S'.at b=some s:=fun b hb s hs=>f3.keep b (List.mem_append_left _ hb) s hs
  have hsl:S'.slots.length=X.pool.slots.length:=by rw[f3.inv.slots,h.inv.slots]
  cases hn:told.new with
  |false=>
   obtain⟨s1,s2⟩:=f3.same (by rw[f2];exact hn)
   have hinv2:=f3.inv
   rw[s1,List.nil_append] at hinv2
   have hup:=h.upd (B':=B+K+1) (G':=G+D+1) (a':=a) (C':=C) (vs':=v :: l) (m':=m) (S':=S') (e':=X.epoch) hC ha hv hm (hinv2.later (by omega)) (fun b hb s hs=>f3.keep b (List.mem_append_right _ hb) s hs)
    ⟨p1,p2,p3,p4.keep hkeep1,p5,p6⟩ (by omega) (fun u hu=>h.stamps _ (List.mem_of_getElem? hv) u hu) h.at0 h.deep
   rw[hself,set_same hv,set_same hm] at hup
   refine⟨{X with pool:=S'},rfl,rfl,rfl,.inl ⟨hn,⟨X,C,v.h,X.pool,_,.inr c,S',{X with pool:=S',epoch:=X.epoch.enter},hr,h.deep,hnew,f1,hokk,hsl,⟨rfl,.inl ⟨by rw[f2];exact hn,?_,rfl⟩⟩,by show _=({X with pool:=S',epoch:=X.epoch.enter.leave}:StoreS);rw[hel]⟩,hup,s2⟩⟩
   rw[f2]
   dsimp only
   rw[p5]
  |true=>
   have hg1:=f3.perm.length_eq
   have hg2:(mhs v.tree).length≤(vown (v :: l) ++ restOf V i X.epoch).length:=List.Nodup.length_le_of_subset (vown_nodup_top hnd) (fun b hb=>List.mem_append_left _ (vown_top hb))
   have hg3:=hinv.own_le
   have hg4:=f3.len
   have hsm:=h.small
   simp only[List.length_append] at hg1
   obtain⟨b,C',S2,e2,q1,q2,q3,q4,q5⟩:=push_is (num:=v.num+1) f3.inv (by simp only[List.length_append] at hlen ⊢;have:=f3.len;omega) (by omega) (p4.keep hkeep1) p2 p3 f3.tin f3.tok hst
    (fun x hx=>by
     have:x∈mhs T' ++ c.gone:=f3.perm.mem_iff.1 (List.mem_append_left _ hx)
     exact List.mem_append.1 this)
   have hup:=h.upd (B':=B+K+1) (G':=G+D+1) (a':=a) (C':=C') (vs':=⟨b,v.num+1,X.clock.now,T',c.gone⟩ :: v :: l) (m':=(m',m.2+1)) (S':=S2) (e':=X.epoch) hC ha hv hm
    (q1.perm (List.perm_iff_count.2 fun x=>by
     have cc:=List.perm_iff_count.1 f3.perm x
     simp only[vown,vtop,vgone,List.map_cons,List.flatMap_cons,List.count_append,List.count_cons] at cc ⊢
     omega)) (fun x hx s hs=>q2 _ _ (f3.keep x (List.mem_append_right _ hx) s hs)) ⟨p1,q3,q4,q5,by show v.num+1=_;rw[p5],f3.find⟩
    (by
     have c1:=f3.perm.length_eq
     have c2:=f3.len
     simp only[vown,vtop,vgone,List.map_cons,List.flatMap_cons,List.length_append,List.length_cons] at c1 hlen ⊢
     omega)
    (fun u hu=>by
     rcases List.mem_cons.1 hu with rfl|hu
     ·exact Int.le_refl _
     ·exact h.stamps _ (List.mem_of_getElem? hv) u hu) h.at0 h.deep
   rw[set_same ha] at hup
   obtain⟨gg,hgg⟩:=p4.1
   refine⟨{X with pool:=S2,chains:=X.chains.set i C'},rfl,rfl,rfl,.inr ⟨hn,⟨X,C,v.h,X.pool,_,.inr c,S',{X with pool:=S2,chains:=X.chains.set i C',epoch:=X.epoch.enter},hr,h.deep,hnew,f1,hokk,hsl,⟨rfl,.inr ⟨by rw[f2];exact hn,?_,C',S2,⟨⟨b,?_⟩,alive_in hgg,by rw[f3.root];exact f3.tin.rin,by dsimp only;rw[p5];exact hnum,by omega⟩,rfl⟩⟩,by show _=({X with pool:=S2,chains:=X.chains.set i C',epoch:=X.epoch.enter.leave}:StoreS);rw[hel]⟩,⟨b,v.num+1,X.clock.now,T',c.gone⟩,rfl,hup⟩⟩
   ·rw[f2]
    dsimp only
    rw[p5]
   ·dsimp only
    rw[f3.root,←p2]
    exact e2
end
theorem getCl_any (w:World)(Y:StoreL)(ed:Option Nat)(D:Nat→List Nat)(X:StoreS)(h:StoreIn w Y ed D X)(i:Nat)(C:ChainS)(hd:Int)(S1:PoolS)(n:NodeS)(hnp:NewestP X i C hd S1 n)(k v:Int)(had:Bool)(hk:Qt k=true)(hf:S1.find n.a k=some (v,had))(b0 b1 b2:Nat)
  (h0:BoxV w Y ed D b0 (ptr (Y.pt i))) (h1:BoxV w Y ed D b1 (.pointer none)) (h2:BoxV w Y ed D b2 (.int .i64 k)):
  Calls prog 143 #[ptr b0,ptr b1,ptr b2] w (Qh Y ed D ⟨v,had,n.b,false,0⟩ 0 {X with pool:=S1} w):=by
 obtain⟨hC,⟨s,ht⟩,hn⟩:=hnp
 have hi:i<Y.n:=by rw[←h.chains];exact (List.getElem?_eq_some_iff.1 hC).1
 have hr0:¬Qw Y ed D w.heap.size:=fun e=>by have:=(h.dyn_lt e).2;omega
 have hm0:Moves Y (Qw Y ed D) (Qw Y ed D) w (w.alloc (.cells #[.int .i64 0,.bool false,.int .i64 0,.bool false,.int .i64 0] 57)):=.of_new ((Only.refl [] w).alloc _)
 have hs0:=h.new (w':=w.alloc (.cells #[.int .i64 0,.bool false,.int .i64 0,.bool false,.int .i64 0] 57)) ((Only.refl [] w).alloc _)
 have a0:=h0.moves hm0
 have a1:=h1.moves hm0
 have HNEW:=hid (newest_any _ Y ed D X hs0 i C hC hd s S1 ht n hn)
 have HB0:=hid (Blk.new w [.int .i64 0,.bool false,.int .i64 0,.bool false,.int .i64 0] 57)
 have H:=hid h;have HI:=hid hi;have HR0:=hid hr0;have HM0:=hid hm0
 have HRB:=hid h.room
 have HBX0:=hid h0;have HBX1:=hid h1;have HBX2:=hid h2
 have HF:=hid hf;have HK:=hid hk
 unfold Qh ToldS.val
 unfold NodeS.val ptr at HNEW
 unfold ptr at *
 clear h hs0 hi hr0 hm0 hC ht hn h0 h1 h2 hf hk
 obtain⟨na,nb,nc,nd⟩:=n
 dsimp only at *
 go_enter func143,ntmps143
 go_wp2_with (go_at_call 144;refine HNEW.out.mono ?_;rintro e w1 ⟨rfl,hs1,hm1⟩;have hma:Moves Y (Qw Y ed D) (Qw Y ed D) w1 (w1.alloc (.cells #[.int .i64 na,.int .i64 nb,.int .i64 nc,.int .i64 nd] 218)):=.of_new ((Only.refl [] w1).alloc _);have hs1a:=hs1.new (w':=(w1.alloc (.cells #[.int .i64 na,.int .i64 nb,.int .i64 nc,.int .i64 nd] 218))) ((Only.refl [] w1).alloc _);have hM:=HM0.out.trans (hm1.trans hma);have HBR1:=hid ((hm1.trans hma).blk HB0.out (fun e=>by have:=HRB.out;omega) HR0.out);have hnk:=Blk.new w1 [.int .i64 na,.int .i64 nb,.int .i64 nc,.int .i64 nd] 218;have u0:=HBX0.out.moves hM;have u1:=HBX1.out.moves hM;have u2:=HBX2.out.moves hM;have u4:=(hs1a.fixed.pt i HI.out).cell (i:=4) rfl;have un:=hnk.cell (i:=0) rfl;have HNK:=hid hnk;have HS1:=hid hs1a;have HMM:=hid hM;unfold ptr at u0 u1 u4;clear hs1 hm1 hs1a hma hM hnk)
 clear a0 a1
 obtain⟨W1,hW1⟩:∃W1,w1.alloc (.cells #[.int .i64 na,.int .i64 nb,.int .i64 nc,.int .i64 nd] 218)=W1:=⟨_,rfl⟩
 simp only[hW1] at *
 have HPO:=hid (fun W (ho:Only [] W1 W)=>find_any W (Y.pg i) Y.pool S1 (HS1.out.pool.only ho (by simp)) ((HS1.out.fixed.pg i HI.out).only ho (by simp)) na k v had HK.out HF.out)
 unfold ptr at HPO
 go_region_held3 (fun W=>W.cell? ⟨b0,0,none⟩=some (.pointer (some ⟨Y.pt i,0,none⟩))∧W.cell? ⟨b1,0,none⟩=some (.pointer none)∧W.cell? ⟨b2,0,none⟩=some (.int .i64 k)∧W.cell? ⟨Y.pt i,4,none⟩=some (.pointer (some ⟨Y.pg i,0,none⟩))∧W.cell? ⟨w1.heap.size,0,none⟩=some (.int .i64 na))
  (first|with_reducible exact⟨Qa ho2 u0 (by simp),Qa ho2 u1 (by simp),Qa ho2 u2 (by simp),Qa ho2 u4 (by simp),Qa ho2 un (by simp)⟩|(go_keep;done))
  (first|(go_simp;go_at_call 145;refine (HPO.out _ (Only.drew [] _)).mono ?_;rintro e w2 ⟨rfl,ho2'⟩;have ho2:Only [] W1 w2:=⟨ho2'.os,ho2'.tape,ho2'.output,ho2'.size,ho2'.block⟩;have HO2:=hid ho2;clear ho2'))
 have hnk2:=HNK.out.only HO2.out (by simp)
 have hrk2:=HBR1.out.only HO2.out (by simp)
 have n1:=hnk2.cell (i:=1) rfl
 have rf:=hrk2.frozen
 have hlt2:=hrk2.lt
 have r0:=hrk2.cell (i:=0) rfl
 have r1:=hrk2.cell (i:=1) rfl
 have r2:=hrk2.cell (i:=2) rfl
 have r3:=hrk2.cell (i:=3) rfl
 have r4:=hrk2.cell (i:=4) rfl
 have HS2:=hid (HS1.out.new HO2.out);have HM2:=hid (HMM.out.trans (.of_new HO2.out))
 clear hnk2 hrk2 u0 u1 u2 u4 un ho2
 go_wp2_with fail
 have hfin:∀W,Only [w.heap.size] w2 W→StoreIn W Y ed D {X with pool:=S1}∧Moves Y (Qw Y ed D) (Qw Y ed D) w W:=fun W g=>by
  refine⟨HS2.out.only g (fun k hk=>?_),HM2.out.fresh g (fun k hk=>?_)⟩
  ·simp at hk
   subst hk
   exact⟨HRB.out,HR0.out⟩
  ·simp at hk
   omega
 refine bodyPost_ret (v:=.tuple #[.agg #[.int .i64 v,.bool had,.int .i64 nb,.bool false,.int .i64 0],.int .i64 0]) (by simp[results,Tryz.results143,go_sem,r0,r1,r2,r3,r4]) rfl ⟨D,rfl,hfin _ ?_⟩
 exact only5' _ _ _ _ _ _ _
def GetP (Y:StoreL)(X:StoreS)(i:Nat)(k:Int)(told:ToldS)(X':StoreS):Prop:=
 ∃X1 C hd S1 n v had,ReadyP Y X i X1∧X1.epoch.deep=0∧NewestP {X1 with epoch:=X1.epoch.enter} i C hd S1 n∧S1.find n.a k=some (v,had)∧told=⟨v,had,n.b,false,0⟩∧X'={X1 with pool:=S1,epoch:=X1.epoch.enter.leave}
theorem GetP.lt {w:World}{Y:StoreL}{ed:Option Nat}{D:Nat→List Nat}{X X':StoreS}{i:Nat}{k:Int}{told:ToldS}(hp:GetP Y X i k told X')(h:StoreIn w Y ed D X):i<Y.n:=by
 obtain⟨X1,C,hd,S1,n,v,had,⟨a,_,ha,_⟩,_⟩:=hp
 rw[←h.loads]
 exact (List.getElem?_eq_some_iff.1 ha).1
theorem partGetOp_any (w:World)(Y:StoreL)(ed:Option Nat)(D:Nat→List Nat)(X X':StoreS)(h:StoreIn w Y ed D X)(i:Nat)(k:Int)(told:ToldS)(hk:Qt k=true)(hpk:Qu k Y.n=(i:Int))(hp:GetP Y X i k told X'):
  Calls prog 76 #[ptr (Y.pt i),.pointer none,.int .i64 k] w (Qh Y ed D told 0 X' w):=by
 have hi:=hp.lt h
 obtain⟨X1,C,hd,S1,n,v,had,hrd,hdp,hn,hf,rfl,rfl⟩:=hp
 have hmf:∀(fn:Fn) (first cap:Array Value) (w:World),(Instr.makeFunc fn first cap).run prog w=.ok (.func fn first cap) w:=fun _ _ _ _=>rfl
 obtain⟨w0,hw0⟩:∃w0,(((w.alloc (.cells #[ptr (Y.pt i)] 107)).alloc (.cells #[.pointer none] 126)).alloc (.cells #[.int .i64 k] 3)).alloc (.cells #[.int .i64 0,.bool false,.int .i64 0,.bool false,.int .i64 0] 57)=w0:=⟨_,rfl⟩
 have ho0:Only [] w w0:=by rw[←hw0];exact (((((Only.refl _ _)).alloc _).alloc _).alloc _).alloc _
 have hb3:Blk w0 (w.heap.size) [ptr (Y.pt i)] 107:=by
  have:=Blk.new (w) [ptr (Y.pt i)] 107
  rw[←hw0]
  exact (((this).alloc _).alloc _).alloc _
 have hb4:Blk w0 (w.heap.size+1) [.pointer none] 126:=by
  have:=Blk.new (w.alloc (.cells #[ptr (Y.pt i)] 107)) [.pointer none] 126
  rw[World.size_alloc] at this
  rw[←hw0]
  exact ((this).alloc _).alloc _
 have hb5:Blk w0 (w.heap.size+1+1) [.int .i64 k] 3:=by
  have:=Blk.new ((w.alloc (.cells #[ptr (Y.pt i)] 107)).alloc (.cells #[.pointer none] 126)) [.int .i64 k] 3
  rw[World.size_alloc,World.size_alloc] at this
  rw[←hw0]
  exact (this).alloc _
 have hb6:Blk w0 (w.heap.size+1+1+1) [.int .i64 0,.bool false,.int .i64 0,.bool false,.int .i64 0] 57:=by
  have:=Blk.new (((w.alloc (.cells #[ptr (Y.pt i)] 107)).alloc (.cells #[.pointer none] 126)).alloc (.cells #[.int .i64 k] 3)) [.int .i64 0,.bool false,.int .i64 0,.bool false,.int .i64 0] 57
  rw[World.size_alloc,World.size_alloc,World.size_alloc] at this
  rw[←hw0]
  exact this
 have hs0:=h.new ho0
 have hm0:Moves Y (Qw Y ed D) (Qw Y ed D) w w0:=.of_new ho0
 have hnd:∀b,w.heap.size≤b→Y.base≤b∧¬Qw Y ed D b:=fun b hb=>⟨Nat.le_trans h.room hb,fun e=>by have:=(h.dyn_lt e).2;omega⟩
 have hha:=has_yes w0 Y h.ok hs0.fixed i hi k hk hpk
 have hwt:=readyP_any w0.drew Y ed D X X1 (hs0.new (Only.drew [] _)) i hrd
 have g0:BoxV w0 Y ed D w.heap.size (ptr (Y.pt i)):=⟨hb3.cell rfl,(hnd _ (by omega)).1,(hnd _ (by omega)).2⟩
 have g1:BoxV w0 Y ed D (w.heap.size+1) (.pointer none):=⟨hb4.cell rfl,(hnd _ (by omega)).1,(hnd _ (by omega)).2⟩
 have g2:BoxV w0 Y ed D (w.heap.size+1+1) (.int .i64 k):=⟨hb5.cell rfl,(hnd _ (by omega)).1,(hnd _ (by omega)).2⟩
 have hin:∀w1,StoreIn w1 Y ed D X1→Moves Y (Qw Y ed D) (Qw Y ed D) w0.drew w1→Calls prog 142 #[ptr (Y.pt i),.pointer none,.func (.func 143) #[] #[ptr w.heap.size,ptr (w.heap.size+1),ptr (w.heap.size+1+1)]] w1 (Qh Y ed D ⟨v,had,n.b,false,0⟩ 0 {X1 with pool:=S1,epoch:=X1.epoch.enter.leave} w1):=fun w1 hs1 hm1=>
  within_143 w1 Y ed D X1 {X1 with epoch:=X1.epoch.enter,pool:=S1} hs1 i hi hdp ⟨v,had,n.b,false,0⟩ _ _ _ (fun W hsW hmW=>by
   have hmm:=(Moves.of_new (Y:=Y) (dy:=Qw Y ed D) (Only.drew [] w0)).trans (hm1.trans hmW)
   exact getCl_any W Y ed D _ hsW i C hd S1 n hn k v had hk hf _ _ _ ⟨g0.moves hmm,g0.ge,g0.dy⟩ ⟨g1.moves hmm,g1.ge,g1.dy⟩ ⟨g2.moves hmm,g2.ge,g2.dy⟩) rfl
 have p0:=hb3.cell (i:=0) rfl
 have p1:=hb4.cell (i:=0) rfl
 have p2:=hb5.cell (i:=0) rfl
 have u6:=(hs0.fixed.pt i hi).cell (i:=6) rfl
 have u1:=(hs0.fixed.pt i hi).cell (i:=1) rfl
 have HIN:=hid hin;have HWT:=hid hwt;have HB6:=hid hb6;have HM0:=hid hm0;have H:=hid h;have HND:=hid hnd;have HO0:=hid ho0;have HI:=hid hi
 have HHA:=hid hha;have G0:=hid g0;have G1:=hid g1
 generalize ({X1 with pool:=S1,epoch:=X1.epoch.enter.leave}:StoreS)=X3 at *
 unfold Qh ToldS.val ptr at HIN
 unfold Turns ptr at HWT
 unfold Qh ToldS.val
 unfold ptr at *
 dsimp only at HIN ⊢
 clear h hrd hdp hn hf hk hpk hb3 hb4 hb5 hb6 hs0 hm0 hnd hwt hin ho0 hha g0 g1 g2
 go_enter func76,ntmps76
 go_wp2_with (go_at_call 140;refine HHA.out.mono ?_;rintro e w0 ⟨rfl,rfl⟩)
 clear hw0
 go_region_held3 (fun W=>W.cell? ⟨w.heap.size,0,none⟩=some (.pointer (some ⟨Y.pt i,0,none⟩))∧W.cell? ⟨w.heap.size+1,0,none⟩=some (.pointer none)∧W.cell? ⟨Y.pt i,6,none⟩=some (.pointer (some ⟨Y.ld,0,none⟩))∧W.cell? ⟨Y.pt i,1,none⟩=some (.int .i64 (i:Int)))
  (first|with_reducible exact⟨a3,a4,a6,a1⟩|(go_keep;done))
  (first|(go_simp;go_at_call 141;refine HWT.out.mono ?_;rintro e w1 ⟨rfl,hs1,hm1⟩;have hmd:=(Moves.of_new (Y:=Y) (dy:=Qw Y ed D) (Only.drew [] w0)).trans hm1;have a3:=G0.out.moves hmd;have a4:=G1.out.moves hmd;have a6:=(hs1.fixed.pt i HI.out).cell (i:=6) rfl;have a1:=(hs1.fixed.pt i HI.out).cell (i:=1) rfl;have hb6:=hm1.blk HB6.out.drew (fun e=>by have:=(HND.out (w.heap.size+1+1+1) (by omega)).1;omega) (HND.out _ (by omega)).2;unfold ptr at a3 a6;have HB61:=hid hb6;have HS1:=hid hs1;have HM1:=hid hm1;clear hs1 hm1 hb6 hmd))
 clear p0 p1 p2 u6 u1
 go_wp2_with (go_at_call 142;refine (HIN.out _ HS1.out HM1.out).mono ?_;rintro e w2 ⟨D',rfl,hs2,hm2⟩;have hbr2:=hm2.blk HB61.out (fun e=>by have:=(HND.out (w.heap.size+1+1+1) (by omega)).1;omega) (HND.out _ (by omega)).2;have hlt2:=hbr2.lt;have rf:=hbr2.frozen;have r0:=hbr2.cell (i:=0) rfl;have r1:=hbr2.cell (i:=1) rfl;have r2:=hbr2.cell (i:=2) rfl;have r3:=hbr2.cell (i:=3) rfl;have r4:=hbr2.cell (i:=4) rfl;have HS2:=hid hs2;have HM2:=hid hm2;clear hs2 hm2 hbr2)
 have hlow:w.heap.size+1+1+1<w1.heap.size:=HB61.out.lt
 have hfin:∀W,Only [w.heap.size+1+1+1] w2 W→StoreIn W Y ed D' X3∧Moves Y (Qw Y ed D) (Qw Y ed D') w W:=fun W g=>by
  have hm0:Moves Y (Qw Y ed D) (Qw Y ed D) w w0.drew:=HM0.out.trans (.of_new (Only.drew [] _))
  refine⟨HS2.out.only g (fun k hk=>by
   simp at hk
   subst hk
   refine⟨(HND.out _ (by omega)).1,fun e=>?_⟩
   rcases HM2.out.dyn _ e with e|e
   ·exact (HND.out _ (by omega)).2 e
   ·omega),((hm0.trans HM1.out).trans HM2.out).fresh g (fun k hk=>by simp at hk;omega)⟩
 refine bodyPost_ret (v:=.tuple #[.agg #[.int .i64 v,.bool had,.int .i64 n.b,.bool false,.int .i64 0],.int .i64 0]) (by simp[results,Tryz.results76,go_sem,r0,r1,r2,r3,r4]) rfl ⟨D',rfl,hfin _ ?_⟩
 exact only5' _ _ _ _ _ _ _
theorem row_new1 (W:World)(o:Obj)(cs:List Value)(t:TypeId):Row ((W.alloc o).alloc (.cells cs.toArray t)) (some ⟨W.heap.size+1,0,none⟩) cs:=by
 have:=Zg (W.alloc o) cs t
 rwa [World.size_alloc] at this
theorem cell_far5 {w w5:World}{row:Option Nat}{b i:Nat}{v:Value}(h:w.cell? ⟨b,i,none⟩=some v)(hg:w.grownBy w5 row)(hne:row≠some b):w5.cell? ⟨b,i,none⟩=some v:=by
 have:=hg.block b (cell_lt h) (fun e=>hne e.symm)
 simp only[World.cell?] at h ⊢
 rw[this]
 exact h
theorem inRange_any (n m:Int)(h1:1≤n)(h2:n≤m)(w:World):Calls prog 98 #[.int .i64 n,.int .i64 m] w fun e w'=>e=.returned (.bool true)∧w'=w:=by
 go_enter func98,ntmps98
 go_wp2_with fail
 go_ret
 exact⟨by simp,rfl⟩
theorem elemLp:ElemOk prog 192 195 1 8:=elemOk_of (by kernel_rfl) (by decide) (.pointer none) (by kernel_rfl) rfl
theorem elemPair:ElemOk prog 29 36 2 16:=elemOk_of (by kernel_rfl) (by decide) (.agg #[.int .i64 0,.int .i64 0]) (by kernel_rfl) rfl
theorem own_cell {w:World}{base e n s:Nat}{g c:Nat}{xs:List Value}(h:w.ownsRow base e s (.slice (some ⟨g,0,none⟩) n c) n xs){j:Nat}{u:Value}(hu:xs[j]?=some u):w.cell? ⟨g,j,none⟩=some u:=by
 have:=h.cells (g:=g) rfl j u hu
 rwa [addr_add,Nat.zero_add] at this
theorem own_some {w:World}{base e size n:Nat}{v:Value}{xs:List Value}(h:w.ownsRow base e size v n xs)(hn:0<n):∃g c,v=.slice (some ⟨g,0,none⟩) n c:=by
 rcases h.2 with ⟨_,h0⟩|⟨g,cap,cur,hv,_⟩
 ·omega
 ·exact⟨g,cap,hv⟩
theorem deleteInt_any (w:World)(base:Nat)(v:Value)(n:Nat)(xs:List Value)(hown:w.ownsRow base 3 1 v n xs)(hxs:∀u∈xs,u.oneCell'=true)(i:Nat)(hi:i<n)(hn:n≤200000):
  Calls prog 168 #[v,.int .i64 (i:Int),.int .i64 ((i:Int)+1)] w (Deleted base 3 1 v n xs i w):=by
 have hnil:¬(v=.slice none 0 0∧n=0):=by intro h;omega
 obtain⟨hxl,hr|⟨g,cap,cur,rfl,hbg,hg,hnc,hcm,hcs,hcur⟩⟩:=hown
 ·exact absurd hr hnil
 have hrow:∀j,j≤n→Row w (some ⟨g,j*1,none⟩) (xs.drop (j*1)):=by
  intro j hj k u hu
  refine⟨g,j*1,rfl,?_⟩
  rw[List.getElem?_drop,←hcur,List.getElem?_take] at hu
  split at hu
  ·simp only[World.cell?,hg]
   simpa using hu
  ·cases hu
 have hdl:(xs.drop ((i+1)*1)).length=(n-(i+1))*1:=by rw[List.length_drop,hxl,Nat.sub_mul]
 have HR:=hid hrow;have HG:=hid hg;have HCS:=hid hcs;have HCUR:=hid hcur;have HXL:=hid hxl;have HXS:=hid hxs;have HBG:=hid hbg;have HDL:=hid hdl
 unfold maxLen at hcm
 clear hrow hg hcs hcur hxl hxs hbg hdl hnil
 have hi1:(i:Int)<n:=by omega
 have h01:(0:Int)≤(i:Int)+1:=by omega
 have e0:((i:Int) == (i:Int)+1)=false:=by simp;omega
 by_cases hcap:cap=i+1
 ·obtain rfl:n=i+1:=by omega
  have HCAP:=hid hcap
  subst hcap
  have hle:(i:Int)≤(i:Int)+1:=by omega
  go_enter func168,ntmps168
  go_wp2_with fail
  refine wp_region_still_tail 6 (by kernel_rfl) (by kernel_rfl) ?_
  simp only[List.take_succ_cons,List.take_zero,List.drop_succ_cons,List.drop_zero]
  change wpStill _ _ (World.drew _) (fun a'=>wpList _ _ _ _ a' (World.drew _)) _ _
  iterate 6 still_step
  refine wpStill_nil ?_
  go_wp2_with (first|(at_builtin;(refine wpList_append_room_is rfl (.tmp 22) (.tmp 25) rfl elemInt rfl HG.out _ 0 _ [] rfl (Row.nil _ _) rfl (by simp) (by omega) (by rw[HCS.out];omega) (fun e=>by first|cases e|omega) ?_);intro w1 hg1 hgr1 hsz1;have HG1:=hid hg1;have HGR1:=hid hgr1;clear hg1 hgr1 hsz1)|((refine wpList_clear_is rfl (.tmp 31) rfl elemInt (zero3 _) rfl one3 rfl HG1.out (by have:=HCS.out;simp;omega) ?_);intro w2 hg2 hgr2;have HG2:=hid hg2;have HGR2:=hid hgr2;clear hg2 hgr2))
  go_ret
  have hd0:xs.drop ((i+1)*1)=[]:=List.eq_nil_of_length_eq_zero (by rw[HDL.out];simp)
  have h2:=HG2.out
  refine⟨_,rfl,deleted_fin (n:=i+1) HBG.out (by omega) HCUR.out HCS.out HDL.out HXL.out (by omega) (by omega) (by rw[hd0];simpa using h2),rfl,grown_trans (grown_undrew HGR1.out) HGR2.out⟩
 ·have hle:(i:Int)≤cap:=by omega
  have hle2:(i:Int)+1≤cap:=by omega
  have hle3:(i:Int)+1≤n:=by omega
  have hnc':(n:Int)≤cap:=by omega
  go_enter func168,ntmps168
  go_wp2_with fail
  refine wp_region_still_tail 6 (by kernel_rfl) (by kernel_rfl) ?_
  simp only[List.take_succ_cons,List.take_zero,List.drop_succ_cons,List.drop_zero]
  change wpStill _ _ (World.drew _) (fun a'=>wpList _ _ _ _ a' (World.drew _)) _ _
  iterate 6 still_step
  refine wpStill_nil ?_
  go_wp2_with (first|(at_builtin;(refine wpList_append_room_is rfl (.tmp 22) (.tmp 25) rfl elemInt rfl HG.out (some ⟨g,i+1,none⟩) (n-(i+1)) _ (xs.drop ((i+1)*1)) rfl (by have h:=(HR.out (i+1) (by omega)).drewN 1;rw[Nat.mul_one] at h ⊢;exact h) HDL.out (fun u hu=>HXS.out u (List.mem_of_mem_drop hu)) (by omega) (by rw[HCS.out];omega) (fun e=>by first|cases e|omega) ?_);intro w1 hg1 hgr1 hsz1;have HG1:=hid hg1;have HGR1:=hid hgr1;clear hg1 hgr1 hsz1)|((refine wpList_clear_is rfl (.tmp 31) rfl elemInt (zero3 _) rfl one3 rfl HG1.out (by rw[row_size HCS.out HDL.out (by omega) (by omega)];omega) ?_);intro w2 hg2 hgr2;have HG2:=hid hg2;have HGR2:=hid hgr2;clear hg2 hgr2))
  go_ret
  have e:i+(n-(i+1))=n-1:=by omega
  have h2:=HG2.out
  rw[e] at h2
  refine⟨_,rfl,?_,rfl,grown_trans (grown_undrew HGR1.out) HGR2.out⟩
  rw[e]
  exact deleted_fin HBG.out (by omega) HCUR.out HCS.out HDL.out HXL.out (by omega) (by omega) (by simpa only [Nat.mul_one,List.toList_toArray] using h2)
theorem indexInt_any (w:World)(A:Option Addr)(cap:Nat)(h:Int)(xs:List Int)(hsm:xs.length≤1000000)(hrow:Row w A (Zc xs)):
  Calls prog 167 #[.slice A xs.length cap,.int .i64 h] w fun e w'=>e=.returned (.int .i64 (idxI (xs.findIdx? fun x=>decide (x=h))))∧w'=w:=by
 have HR:=hid hrow
 clear hrow
 go_enter func167,ntmps167
 go_wp2_with fail
 go_loopg [8] xs.length (fun k i wr=>IxHRel xs h w k i wr)
 case atStart=>exact⟨0,Nat.zero_le _,rfl,rfl,by simp,rfl⟩
 case round=>
  obtain⟨j,hj,rfl,rfl,hno,rfl⟩:=hrel
  have HNO:=hid hno
  clear hno
  by_cases hlt:j<xs.length
  ·have hlt':(j:Int)<xs.length:=by omega
   obtain⟨x,hx⟩:∃x,xs[j]?=some x:=⟨_,List.getElem?_eq_getElem hlt⟩
   obtain⟨b',off,hA,h1⟩:=HR.out j _ (ints_get hx)
   subst hA
   have HX:=hid hx
   clear hx
   by_cases hb:x=h
   ·have HB:=hid hb
    have hq:(h == x)=true:=by simp[hb]
    clear hb
    go_wp2_with fail
    try go_quiet (fail)
    try go_wp2_with fail
    go_ret
    first
     |exact⟨ret_int (by rw[findIdx_some HNO.out HX.out (by simp[HB.out])];rfl),rfl⟩
   ·have HB:=hid hb
    have hq:(h == x)=false:=by simpa using fun e=>hb e.symm
    clear hb
    go_wp2_with fail
    try go_quiet (fail)
    try go_wp2_with fail
    go_roundg (xs.length-(j+1))
    case measure=>omega
    case rel=>exact⟨j+1,by omega,by go_num,rfl,by
     rw[Zd HX.out]
     intro y hy
     rcases List.mem_append.1 hy with hy|hy
     ·exact HNO.out y hy
     ·obtain rfl:=List.mem_singleton.1 hy
      simpa using HB.out,rfl⟩
  ·have hjl:j=xs.length:=by omega
   have HJ:=hid hjl
   clear hjl
   go_wp2_with fail
   go_ret
   have:=HNO.out
   rw[HJ.out,List.take_length] at this
   exact⟨ret_int (by rw[findIdx_none this];rfl),rfl⟩
theorem pairCells_len (l:List (Int × Int)):(Qd l).length=l.length*2:=by
 unfold Qd
 induction l with
 |nil=>rfl
 |cons x l ih=>rw[List.flatMap_cons,List.length_append,ih,List.length_cons];simp;omega
theorem pairCells_one (l:List (Int × Int)):∀u∈Qd l,u.oneCell'=true:=by
 intro u hu
 unfold Qd at hu
 obtain⟨p,_,hu⟩:=List.mem_flatMap.1 hu
 simp at hu
 rcases hu with rfl|rfl <;> rfl
theorem eqNil29 (w:World)(a:Option Addr)(n c:Nat):(binOp .eql 29 (.slice a n c) (.slice none 0 0)).run prog w=.ok (.bool a.isNone) w:=Lib.run_eql_slice_nil w 29 36 a n c 0 0 (by kernel_rfl)
theorem clonePairs_nil (w:World):Calls prog 154 #[.slice none 0 0] w fun e w'=>e=.returned (.slice none 0 0)∧w'=w:=by
 have hq:=eqNil29
 have hn:(none:Option Addr).isNone=true:=rfl
 go_enter func154,ntmps154
 go_wp2_with fail
 go_ret
 exact⟨rfl,rfl⟩
theorem clonePairs_any (w:World)(b off c:Nat)(l:List (Int × Int))(hl0:0<l.length)(hl:l.length≤1000000)(hrow:Row w (some ⟨b,off,none⟩) (Qd l)):
  Calls prog 154 #[.slice (some ⟨b,off,none⟩) l.length c] w fun e w'=>∃v,e=.returned v∧w'.ownsRow w.heap.size 36 2 v l.length (Qd l)∧Only [] w w':=by
 have HR:=hid hrow;have HL:=hid hl;have HL0:=hid hl0
 have hq:=eqNil29
 have hn:(some (⟨b,off,none⟩:Addr)).isNone=false:=rfl
 have hown:(w.alloc (.cells #[] 36)).ownsRow w.heap.size 36 2 (.slice (some ⟨w.heap.size,0,none⟩) 0 0) 0 []:=
  ⟨rfl,.inr ⟨w.heap.size,0,#[],rfl,Nat.le_refl _,heap_alloc_new _ _,Nat.le_refl _,Nat.zero_le _,rfl,rfl⟩⟩
 have HOWN:=hid hown
 have HM1:=hid (show 0+l.length≤maxLen from by unfold maxLen;omega)
 have HM2:=hid (show (0+l.length)*16≤140737488355328 from by omega)
 clear hrow hl hown hl0
 go_enter func154,ntmps154
 go_wp2_with (at_builtin;(refine Qj rfl (.tmp 5) (.tmp 6) rfl elemPair rfl HOWN.out (some ⟨b,off,none⟩) l.length c (Qd l) rfl (HR.out.alloc _) (pairCells_len l) (pairCells_one l) HM1.out HM2.out (by simp) (fun e=>by cases e) ?_);intro v2 w2 hown2 hg2 hat2;have HO2:=hid hown2;have HG2:=hid (show World.grownBy (w.alloc (.cells #[] 36)) w2 (some w.heap.size) from hg2);clear hown2 hg2 hat2)
 go_ret
 have h1:=HO2.out
 have h2:=HG2.out
 rw[Nat.zero_add] at h1
 exact⟨v2,rfl,by simpa using h1,((Only.refl [w.heap.size] w).alloc _ |>.grown h2 (fun k hk=>by injection hk with hk;subst hk;exact .inr (by simp))).fresh (fun k hk hl=>by simp at hk;omega)⟩
end Go.Proofs.YteeefedoffplmaaGreat
