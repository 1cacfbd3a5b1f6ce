/- StoreAlone, part Pan: Does2, Within, WithinE, DoesE, PartW. -/
import Derived.Test.YteeefedoffplmaaGreatPam
import Derived.Defers
import Derived.StillTailTactics
set_option linter.unusedSimpArgs false
set_option linter.unusedVariables false
set_option maxRecDepth 100000
set_option maxHeartbeats 51200000
namespace Go.Proofs.YteeefedoffplmaaGreat
open Go.RowKit Lib Go.Proofs.Tryz
theorem only5' (w:World)(b:Nat)(x0 x1 x2 x3 x4:Value):Only [b] w (((((w.setCell ⟨b,0,none⟩ x0).setCell ⟨b,1,none⟩ x1).setCell ⟨b,2,none⟩ x2).setCell ⟨b,3,none⟩ x3).setCell ⟨b,4,none⟩ x4):=
 ((((((Only.refl [b] w).setCell (.inl (by simp)) _).setCell (.inl (by simp)) _).setCell (.inl (by simp)) _).setCell (.inl (by simp)) _).setCell (.inl (by simp)) _)
def Qh (Y:StoreL)(ed:Option Nat)(D:Nat→List Nat)(told:ToldS)(err:Int)(X':StoreS)(w:World)(e:Ending)(w':World):Prop:=
 ∃D',e=.returned (.tuple #[told.val,.int .i64 err])∧StoreIn w' Y ed D' X'∧Moves Y (Qw Y ed D) (Qw Y ed D') w w'
structure BoxW (w:World)(Y:StoreL)(i:Nat)(fv:Value)(b0 b1 b2:Nat):Prop where
 c0:w.cell? ⟨b0,0,none⟩=some (ptr (Y.pt i))
 c1:w.cell? ⟨b1,0,none⟩=some (.pointer none)
 c2:w.cell? ⟨b2,1,none⟩=some fv
 ge:∀b∈[b0,b1,b2],Y.base≤b
theorem BoxW.moves {w w':World}{Y:StoreL}{i:Nat}{fv:Value}{b0 b1 b2:Nat}(h:BoxW w Y i fv b0 b1 b2){dy dy':Nat→Prop}(hm:Moves Y dy dy' w w')(hd:∀b∈[b0,b1,b2],¬dy b):BoxW w' Y i fv b0 b1 b2:=
 ⟨hm.cell h.c0 (h.ge _ (by simp)) (hd _ (by simp)),hm.cell h.c1 (h.ge _ (by simp)) (hd _ (by simp)),hm.cell h.c2 (h.ge _ (by simp)) (hd _ (by simp)),h.ge⟩
structure NewestP (X:StoreS)(i:Nat)(C:ChainS)(hd:Int)(S1:PoolS)(n:NodeS):Prop where
 hC:X.chains[i]?=some C
 ht:∃s,C.top X.clock.now X.pool=some (hd,s,S1)
 hn:S1.read hd=some n
structure PushP (X:StoreS)(C:ChainS)(hd:Int)(n:NodeS)(c:ChangeS)(S2:PoolS)(C':ChainS)(S3:PoolS):Prop where
 ex:∃h2,C.push X.clock.now S2 hd ⟨c.root,n.b+1,0,0⟩ c.gone=some (h2,C',S3)
 hd:Ql hd
 root:Ql c.root
 nb:0≤n.b∧n.b<1000000000
 gone:c.gone.length≤100000
section
variable (w:World)(Y:StoreL)(ed:Option Nat)(D:Nat→List Nat)(X:StoreS)(h:StoreIn w Y ed D X)(i:Nat)(C:ChainS)(hd:Int)(S1:PoolS)(n:NodeS)(hnp:NewestP X i C hd S1 n)(c:ChangeS)
include w Y ed D X h i C hd S1 n hnp c
theorem does2Stay_all:(∀(S2:PoolS) (hln:S2.slots.length=X.pool.slots.length) (b0 b1 b2 q4 q6 q7:Nat) (hcl:∀W,StoreIn W Y ed D {X with pool:=S1}→Moves Y (Qw Y ed D) (Qw Y ed D) w W→Calls prog 115 #[.pointer none,.int .i64 n.a,ptr q4,ptr q6,ptr q7] W (Zi Y.pool c 0 S2 W)) (hb:BoxW w Y i (.func (.func 115) #[] #[ptr q4,ptr q6,ptr q7]) b0 b1 b2) (hbd:∀b∈[b0,b1,b2],¬Qw Y ed D b) (hnew0:c.told.new=false),Calls prog 179 #[ptr b0,ptr b1,ptr b2] w (Qh Y ed D {c.told with number:=n.b} 0 {X with pool:=S2} w)) ∧
  (∀(S2:PoolS) (hln:S2.slots.length=X.pool.slots.length) (b0 b1 b2 q4 q6:Nat) (hcl:∀W,StoreIn W Y ed D {X with pool:=S1}→Moves Y (Qw Y ed D) (Qw Y ed D) w W→Calls prog 211 #[.pointer none,.int .i64 n.a,ptr q4,ptr q6] W (Zi Y.pool c 0 S2 W)) (hb:BoxW w Y i (.func (.func 211) #[] #[ptr q4,ptr q6]) b0 b1 b2) (hbd:∀b∈[b0,b1,b2],¬Qw Y ed D b) (hnew0:c.told.new=false),Calls prog 179 #[ptr b0,ptr b1,ptr b2] w (Qh Y ed D {c.told with number:=n.b} 0 {X with pool:=S2} w)) ∧
  (∀(S2:PoolS) (hln:S2.slots.length=X.pool.slots.length) (b0 b1 b2 q5 q3:Nat) (hcl:∀W,StoreIn W Y ed D {X with pool:=S1}→Moves Y (Qw Y ed D) (Qw Y ed D) w W→Calls prog 164 #[.pointer none,.int .i64 n.a,ptr q5,ptr q3] W (Zi Y.pool c 0 S2 W)) (hb:BoxW w Y i (.func (.func 164) #[] #[ptr q5,ptr q3]) b0 b1 b2) (hbd:∀b∈[b0,b1,b2],¬Qw Y ed D b) (hnew0:c.told.new=false),Calls prog 179 #[ptr b0,ptr b1,ptr b2] w (Qh Y ed D {c.told with number:=n.b} 0 {X with pool:=S2} w)) ∧
  (∀(S2:PoolS) (hln:S2.slots.length=X.pool.slots.length) (b0 b1 b2 q4 q6 q7 q8:Nat) (hcl:∀W,StoreIn W Y ed D {X with pool:=S1}→Moves Y (Qw Y ed D) (Qw Y ed D) w W→Calls prog 213 #[.pointer none,.int .i64 n.a,ptr q4,ptr q6,ptr q7,ptr q8] W (Zi Y.pool c 0 S2 W)) (hb:BoxW w Y i (.func (.func 213) #[] #[ptr q4,ptr q6,ptr q7,ptr q8]) b0 b1 b2) (hbd:∀b∈[b0,b1,b2],¬Qw Y ed D b) (hnew0:c.told.new=false),Calls prog 179 #[ptr b0,ptr b1,ptr b2] w (Qh Y ed D {c.told with number:=n.b} 0 {X with pool:=S2} w)) ∧
  (∀(err:Int) (S2:PoolS) (hln:S2.slots.length=X.pool.slots.length) (b0 b1 b2 q4 q6 q7 q8:Nat) (hcl:∀W,StoreIn W Y ed D {X with pool:=S1}→Moves Y (Qw Y ed D) (Qw Y ed D) w W→Calls prog 213 #[.pointer none,.int .i64 n.a,ptr q4,ptr q6,ptr q7,ptr q8] W (Zi Y.pool c err S2 W)) (hb:BoxW w Y i (.func (.func 213) #[] #[ptr q4,ptr q6,ptr q7,ptr q8]) b0 b1 b2) (hbd:∀b∈[b0,b1,b2],¬Qw Y ed D b) (he:err≠0),Calls prog 179 #[ptr b0,ptr b1,ptr b2] w (Qh Y ed D ToldS.zero err {X with pool:=S2} w)):=by
 refine⟨?_,?_,?_,?_,?_⟩
 intro S2 hln b0 b1 b2 q4 q6 q7 hcl hb hbd hnew0;have tg1:=0;have tg2:=0;rotate_left
 intro S2 hln b0 b1 b2 q4 q6 hcl hb hbd hnew0;have tg1:=0;have tg3:=0;rotate_left
 intro S2 hln b0 b1 b2 q5 q3 hcl hb hbd hnew0;have tg1:=0;have tg4:=0;rotate_left
 intro S2 hln b0 b1 b2 q4 q6 q7 q8 hcl hb hbd hnew0;have tg1:=0;rotate_left
 intro err S2 hln b0 b1 b2 q4 q6 q7 q8 hcl hb hbd he;rotate_left
 all_goals
  obtain⟨hC,⟨s,ht⟩,hn⟩:=hnp
  have hi:i<Y.n:=by rw[←h.chains];exact (List.getElem?_eq_some_iff.1 hC).1
  have hr0:¬Qw Y ed D w.heap.size:=fun e=>by have:=(h.dyn_lt e).2;omega
  have hm0:Moves Y (Qw Y ed D) (Qw Y ed D) w (w.alloc (.cells #[.int .i64 0,.bool false,.int .i64 0,.bool false,.int .i64 0] 57)):=.of_new ((Only.refl [] w).alloc _)
  have hs0:=h.new (w':=w.alloc (.cells #[.int .i64 0,.bool false,.int .i64 0,.bool false,.int .i64 0] 57)) ((Only.refl [] w).alloc _)
  have hw0:=hb.moves hm0 hbd
  have a0:=hw0.c0
  have a1:=hw0.c1
  have hnew:=newest_any _ Y ed D X hs0 i C hC hd s S1 ht n hn
  have hbr0:=Blk.new w [.int .i64 0,.bool false,.int .i64 0,.bool false,.int .i64 0] 57
  have H:=hid h
  have H0:=hid hs0
  have HW0:=hid hw0
  have HI:=hid hi
  have HB0:=hid hbr0
  have HR0:=hid hr0
  have HBD:=hid hbd
  have HM0:=hid hm0
  have HLN:=hid hln
  have HTL:=hid (top_len ht)
  have hrb:Y.base≤w.heap.size:=h.room
  have HRB:=hid hrb
  have HCL:=hid hcl
  have HC:=hid hC
  unfold Qh ToldS.val
  unfold Zi ChangeS.val ptr at HCL
  unfold NodeS.val ptr at hnew
  unfold ptr at *
  clear h hs0 hb hw0 hi hbr0 hr0 hbd hm0 hrb hcl hC ht hn hln
  obtain⟨na,nb,nc,nd⟩:=n
  obtain⟨cr,cg,cm,t0,t1,t2,t3,t4⟩:=c
  dsimp only at *
  first|(have _:=tg1;subst hnew0)|((have hqe:(err != 0)=true:=by simpa using he);clear he)
  have HNEW:=hid hnew
  clear hnew
  go_enter func179,ntmps179
  go_wp2_with fail
  refine wp_loop_rounds 1 ?_
  rw[rounds_succ]
  go_wp2_with (first|(go_at_call 144;refine HNEW.out.mono ?_;rintro e w1 ⟨rfl,hs1,hm1⟩;have hma:Moves Y (Qw Y ed D) (Qw Y ed D) w1 (w1.alloc (.cells #[.int .i64 na,.int .i64 nb,.int .i64 nc,.int .i64 nd] 218)):=.of_new ((Only.refl [] w1).alloc _);have hw1:=(HW0.out.moves hm1 HBD.out).moves hma HBD.out;have b24:=hw1.c2;have b11:=hw1.c1;have hs1a:=hs1.new (w':=(w1.alloc (.cells #[.int .i64 na,.int .i64 nb,.int .i64 nc,.int .i64 nd] 218))) ((Only.refl [] w1).alloc _);have HPC:=hid (HCL.out _ hs1a (HM0.out.trans (hm1.trans hma)));have hbr1:=(hm1.trans hma).blk HB0.out (fun e=>by have:=HRB.out;omega) HR0.out;have HBR1:=hid hbr1;have HS1:=hid hs1a;have HM1:=hid (hm1.trans hma);have HW1:=hid hw1;clear hs1 hm1 hw1 hs1a hma hbr1)|((first|(have _:=tg2;go_at_call 115)|(have _:=tg3;go_at_call 211)|(have _:=tg4;go_at_call 164)|(go_at_call 213));refine HPC.out.mono ?_;rintro e w2 ⟨gv,mv,rfl,h1,h2,h3,ho2⟩;obtain⟨gA,gc,rfl,hgr,hgn⟩:=Qc h2;obtain⟨mA,mc,rfl,_,_⟩:=Qc h3;have hs2:=HS1.out.poolStep ho2 h1 (HLN.out.trans HTL.out.symm);have hm2:=HS1.out.poolMoves ho2;have hw2:=HW1.out.moves hm2 HBD.out;have hnb2:Blk w2 w1.heap.size [.int .i64 na,.int .i64 nb,.int .i64 nc,.int .i64 nd] 218:=(Blk.new w1 [.int .i64 na,.int .i64 nb,.int .i64 nc,.int .i64 nd] 218).only ho2 (HS1.out.far_pool (Nat.le_trans HRB.out (Nat.le_trans (by have:=HM1.out.size;simp at this;omega) (Nat.le_refl _))));have n1:=hnb2.cell (i:=1) rfl;have hltn:=hnb2.lt;have HNBK:=hid hnb2;have HS2:=hid hs2;have HM2:=hid hm2;have HW2:=hid hw2;have HG2:=hid h2;have HGR:=hid hgr;have HGN2:=hid hgn;have HO2:=hid ho2;have hrk2:=HBR1.out.only ho2 (H.out.far_pool HRB.out);have hlt2:=hrk2.lt;have rf:=hrk2.frozen;have r0:=hrk2.cell (i:=0) rfl;have r1:=hrk2.cell (i:=1) rfl;have r2:=hrk2.cell (i:=2) rfl;have r3:=hrk2.cell (i:=3) rfl;have r4:=hrk2.cell (i:=4) rfl;have HRK2:=hid hrk2;clear hrk2;clear h1 h2 h3 hgr hgn hs2 hm2 hw2 ho2))
  first|(have _:=tg1;obtain⟨W,hW⟩:∃W,(((((w2.setCell ⟨w.heap.size,0,none⟩ (.int .i64 t0)).setCell ⟨w.heap.size,1,none⟩ (.bool t1)).setCell ⟨w.heap.size,2,none⟩ (.int .i64 nb)).setCell ⟨w.heap.size,3,none⟩ (.bool false)).setCell ⟨w.heap.size,4,none⟩ (.int .i64 t4)).alloc (.cells #[.int .i64 cr,.slice gA cg.length gc,.slice mA cm.length mc,.int .i64 t0,.bool t1,.int .i64 nb,.bool false,.int .i64 t4] 209)=W:=⟨_,rfl⟩)|(obtain⟨W,hW⟩:∃W,(((((w2.setCell ⟨w.heap.size,0,none⟩ (.int .i64 0)).setCell ⟨w.heap.size,1,none⟩ (.bool false)).setCell ⟨w.heap.size,2,none⟩ (.int .i64 0)).setCell ⟨w.heap.size,3,none⟩ (.bool false)).setCell ⟨w.heap.size,4,none⟩ (.int .i64 0)).alloc (.cells #[.int .i64 cr,.slice gA cg.length gc,.slice mA cm.length mc,.int .i64 t0,.bool t1,.int .i64 t2,.bool t3,.int .i64 t4] 209)=W:=⟨_,rfl⟩)
  rw[hW]
  first|(have _:=tg1;have hrk:=(((((HRK2.out.set 0 (.int .i64 t0)).set 1 (.bool t1)).set 2 (.int .i64 nb)).set 3 (.bool false)).set 4 (.int .i64 t4)).alloc (.cells #[.int .i64 cr,.slice gA cg.length gc,.slice mA cm.length mc,.int .i64 t0,.bool t1,.int .i64 nb,.bool false,.int .i64 t4] 209))|(have hrk:=(((((HRK2.out.set 0 (.int .i64 0)).set 1 (.bool false)).set 2 (.int .i64 0)).set 3 (.bool false)).set 4 (.int .i64 0)).alloc (.cells #[.int .i64 cr,.slice gA cg.length gc,.slice mA cm.length mc,.int .i64 t0,.bool t1,.int .i64 t2,.bool t3,.int .i64 t4] 209))
  rw[hW] at hrk
  first|(have _:=tg1;have hoW:Only [w.heap.size] w2 W:=hW ▸ (only5' w2 w.heap.size (.int .i64 t0) (.bool t1) (.int .i64 nb) (.bool false) (.int .i64 t4)).alloc _)|(have hoW:Only [w.heap.size] w2 W:=hW ▸ (only5' w2 w.heap.size (.int .i64 0) (.bool false) (.int .i64 0) (.bool false) (.int .i64 0)).alloc _)
  have e0:=hrk.cell (i:=0) rfl
  have e1:=hrk.cell (i:=1) rfl
  have e2:=hrk.cell (i:=2) rfl
  have e3:=hrk.cell (i:=3) rfl
  have e4:=hrk.cell (i:=4) rfl
  have hfin:StoreIn W Y ed D {X with pool:=S2}∧Moves Y (Qw Y ed D) (Qw Y ed D) w W:=by
   refine⟨HS2.out.only hoW (fun k hk=>?_),((HM0.out.trans HM1.out).trans HM2.out).fresh hoW (fun k hk=>?_)⟩
   ·simp at hk
    subst hk
    exact⟨HRB.out,HR0.out⟩
   ·simp at hk
    omega
  first|(have _:=tg1;exact bodyPost_ret (v:=.tuple #[.agg #[(.int .i64 t0),(.bool t1),(.int .i64 nb),(.bool false),(.int .i64 t4)],.int .i64 0]) (by simp[results,Tryz.results179,go_sem,e0,e1,e2,e3,e4]) rfl ⟨D,rfl,hfin⟩)|(exact bodyPost_ret (v:=.tuple #[.agg #[(.int .i64 0),(.bool false),(.int .i64 0),(.bool false),(.int .i64 0)],.int .i64 err]) (by simp[results,Tryz.results179,go_sem,e0,e1,e2,e3,e4]) rfl ⟨D,rfl,hfin⟩)
abbrev does2Stay_115:=(does2Stay_all w Y ed D X h i C hd S1 n hnp c).1
abbrev does2Stay_211:=(does2Stay_all w Y ed D X h i C hd S1 n hnp c).2.1
abbrev does2Stay_164:=(does2Stay_all w Y ed D X h i C hd S1 n hnp c).2.2.1
abbrev does2Stay_213:=(does2Stay_all w Y ed D X h i C hd S1 n hnp c).2.2.2.1
abbrev does2Err_213:=(does2Stay_all w Y ed D X h i C hd S1 n hnp c).2.2.2.2
end
section
variable (w:World)(Y:StoreL)(ed:Option Nat)(D:Nat→List Nat)(X:StoreS)(h:StoreIn w Y ed D X)(i:Nat)(C:ChainS)(hd:Int)(S1:PoolS)(n:NodeS)(hnp:NewestP X i C hd S1 n)(c:ChangeS)(S2:PoolS)(hln:S2.slots.length=X.pool.slots.length)
include w Y ed D X h i C hd S1 n hnp c S2 hln
theorem does2Push_all:(∀(b0 b1 b2 q4 q6 q7:Nat) (hcl:∀W,StoreIn W Y ed D {X with pool:=S1}→Moves Y (Qw Y ed D) (Qw Y ed D) w W→Calls prog 115 #[.pointer none,.int .i64 n.a,ptr q4,ptr q6,ptr q7] W (Zi Y.pool c 0 S2 W)) (hb:BoxW w Y i (.func (.func 115) #[] #[ptr q4,ptr q6,ptr q7]) b0 b1 b2) (hbd:∀b∈[b0,b1,b2],¬Qw Y ed D b) (hnew0:c.told.new=true) (C':ChainS) (S3:PoolS) (hpp:PushP X C hd n c S2 C' S3),Calls prog 179 #[ptr b0,ptr b1,ptr b2] w (Qh Y ed D {c.told with number:=n.b+1} 0 (fillX X i C' S3) w)) ∧
  (∀(b0 b1 b2 q4 q6:Nat) (hcl:∀W,StoreIn W Y ed D {X with pool:=S1}→Moves Y (Qw Y ed D) (Qw Y ed D) w W→Calls prog 211 #[.pointer none,.int .i64 n.a,ptr q4,ptr q6] W (Zi Y.pool c 0 S2 W)) (hb:BoxW w Y i (.func (.func 211) #[] #[ptr q4,ptr q6]) b0 b1 b2) (hbd:∀b∈[b0,b1,b2],¬Qw Y ed D b) (hnew0:c.told.new=true) (C':ChainS) (S3:PoolS) (hpp:PushP X C hd n c S2 C' S3),Calls prog 179 #[ptr b0,ptr b1,ptr b2] w (Qh Y ed D {c.told with number:=n.b+1} 0 (fillX X i C' S3) w)) ∧
  (∀(b0 b1 b2 q5 q3:Nat) (hcl:∀W,StoreIn W Y ed D {X with pool:=S1}→Moves Y (Qw Y ed D) (Qw Y ed D) w W→Calls prog 164 #[.pointer none,.int .i64 n.a,ptr q5,ptr q3] W (Zi Y.pool c 0 S2 W)) (hb:BoxW w Y i (.func (.func 164) #[] #[ptr q5,ptr q3]) b0 b1 b2) (hbd:∀b∈[b0,b1,b2],¬Qw Y ed D b) (hnew0:c.told.new=true) (C':ChainS) (S3:PoolS) (hpp:PushP X C hd n c S2 C' S3),Calls prog 179 #[ptr b0,ptr b1,ptr b2] w (Qh Y ed D {c.told with number:=n.b+1} 0 (fillX X i C' S3) w)) ∧
  (∀(b0 b1 b2 q4 q6 q7 q8:Nat) (hcl:∀W,StoreIn W Y ed D {X with pool:=S1}→Moves Y (Qw Y ed D) (Qw Y ed D) w W→Calls prog 213 #[.pointer none,.int .i64 n.a,ptr q4,ptr q6,ptr q7,ptr q8] W (Zi Y.pool c 0 S2 W)) (hb:BoxW w Y i (.func (.func 213) #[] #[ptr q4,ptr q6,ptr q7,ptr q8]) b0 b1 b2) (hbd:∀b∈[b0,b1,b2],¬Qw Y ed D b) (hnew0:c.told.new=true) (C':ChainS) (S3:PoolS) (hpp:PushP X C hd n c S2 C' S3),Calls prog 179 #[ptr b0,ptr b1,ptr b2] w (Qh Y ed D {c.told with number:=n.b+1} 0 (fillX X i C' S3) w)):=by
 refine⟨?_,?_,?_,?_⟩
 intro b0 b1 b2 q4 q6 q7 hcl hb hbd hnew0 C' S3 hpp;have tg1:=0;rotate_left
 intro b0 b1 b2 q4 q6 hcl hb hbd hnew0 C' S3 hpp;have tg2:=0;rotate_left
 intro b0 b1 b2 q5 q3 hcl hb hbd hnew0 C' S3 hpp;have tg3:=0;rotate_left
 intro b0 b1 b2 q4 q6 q7 q8 hcl hb hbd hnew0 C' S3 hpp;rotate_left
 all_goals
  obtain⟨hC,⟨s,ht⟩,hn⟩:=hnp
  obtain⟨⟨h2,hpu⟩,hhd,hroot,hnb,hgone⟩:=hpp
  have hi:i<Y.n:=by rw[←h.chains];exact (List.getElem?_eq_some_iff.1 hC).1
  have hr0:¬Qw Y ed D w.heap.size:=fun e=>by have:=(h.dyn_lt e).2;omega
  have hm0:Moves Y (Qw Y ed D) (Qw Y ed D) w (w.alloc (.cells #[.int .i64 0,.bool false,.int .i64 0,.bool false,.int .i64 0] 57)):=.of_new ((Only.refl [] w).alloc _)
  have hs0:=h.new (w':=w.alloc (.cells #[.int .i64 0,.bool false,.int .i64 0,.bool false,.int .i64 0] 57)) ((Only.refl [] w).alloc _)
  have hw0:=hb.moves hm0 hbd
  have a0:=hw0.c0
  have a1:=hw0.c1
  have hnew:=newest_any _ Y ed D X hs0 i C hC hd s S1 ht n hn
  have hbr0:=Blk.new w [.int .i64 0,.bool false,.int .i64 0,.bool false,.int .i64 0] 57
  have H:=hid h
  have H0:=hid hs0
  have HW0:=hid hw0
  have HI:=hid hi
  have HB0:=hid hbr0
  have HR0:=hid hr0
  have HBD:=hid hbd
  have HM0:=hid hm0
  have HLN:=hid hln
  have HTL:=hid (top_len ht)
  have hrb:Y.base≤w.heap.size:=h.room
  have HRB:=hid hrb
  have HCL:=hid hcl
  have HC:=hid hC
  unfold Qh ToldS.val
  unfold Zi ChangeS.val ptr at HCL
  unfold NodeS.val ptr at hnew
  unfold ptr at *
  clear h hs0 hb hw0 hi hbr0 hr0 hbd hm0 hrb hcl hC ht hn hln
  obtain⟨na,nb,nc,nd⟩:=n
  obtain⟨cr,cg,cm,t0,t1,t2,t3,t4⟩:=c
  dsimp only at *
  subst hnew0
  have hwn:wrap64 (nb+1)=nb+1:=IntWalk.wrap64_in _ (by omega)
  have HWN:=hid hwn
  have hwn2:IntKind.i64.wrap (nb+1)=nb+1:=IntWalk.i64_in _ (by omega)
  have HWN2:=hid hwn2
  rw[←hwn2] at hpu
  have HNB:=hid hnb
  have HGN:=hid hgone
  have HHD:=hid hhd
  have HRT:=hid hroot
  have HPU:=hid hpu
  clear hwn hwn2 hpu hnb hgone hhd hroot
  have HNEW:=hid hnew
  clear hnew
  go_enter func179,ntmps179
  go_wp2_with fail
  refine wp_loop_rounds 1 ?_
  rw[rounds_succ]
  go_wp2_with (first|(go_at_call 144;refine HNEW.out.mono ?_;rintro e w1 ⟨rfl,hs1,hm1⟩;have hma:Moves Y (Qw Y ed D) (Qw Y ed D) w1 (w1.alloc (.cells #[.int .i64 na,.int .i64 nb,.int .i64 nc,.int .i64 nd] 218)):=.of_new ((Only.refl [] w1).alloc _);have hw1:=(HW0.out.moves hm1 HBD.out).moves hma HBD.out;have b24:=hw1.c2;have b11:=hw1.c1;have hs1a:=hs1.new (w':=(w1.alloc (.cells #[.int .i64 na,.int .i64 nb,.int .i64 nc,.int .i64 nd] 218))) ((Only.refl [] w1).alloc _);have HPC:=hid (HCL.out _ hs1a (HM0.out.trans (hm1.trans hma)));have hbr1:=(hm1.trans hma).blk HB0.out (fun e=>by have:=HRB.out;omega) HR0.out;have HBR1:=hid hbr1;have HS1:=hid hs1a;have HM1:=hid (hm1.trans hma);have HW1:=hid hw1;clear hs1 hm1 hw1 hs1a hma hbr1)|((first|(have _:=tg1;go_at_call 115)|(have _:=tg2;go_at_call 211)|(have _:=tg3;go_at_call 164)|(go_at_call 213));refine HPC.out.mono ?_;rintro e w2 ⟨gv,mv,rfl,h1,h2,h3,ho2⟩;obtain⟨gA,gc,rfl,hgr,hgn⟩:=Qc h2;obtain⟨mA,mc,rfl,_,_⟩:=Qc h3;have hs2:=HS1.out.poolStep ho2 h1 (HLN.out.trans HTL.out.symm);have hm2:=HS1.out.poolMoves ho2;have hw2:=HW1.out.moves hm2 HBD.out;have hnb2:Blk w2 w1.heap.size [.int .i64 na,.int .i64 nb,.int .i64 nc,.int .i64 nd] 218:=(Blk.new w1 [.int .i64 na,.int .i64 nb,.int .i64 nc,.int .i64 nd] 218).only ho2 (HS1.out.far_pool (Nat.le_trans HRB.out (Nat.le_trans (by have:=HM1.out.size;simp at this;omega) (Nat.le_refl _))));have n1:=hnb2.cell (i:=1) rfl;have hltn:=hnb2.lt;have HNBK:=hid hnb2;have HS2:=hid hs2;have HM2:=hid hm2;have HW2:=hid hw2;have HG2:=hid h2;have HGR:=hid hgr;have HGN2:=hid hgn;have HO2:=hid ho2;clear h1 h2 h3 hgr hgn hs2 hm2 hw2 ho2))
  obtain⟨W3,hW3⟩:∃W3,w2.alloc (.cells #[.int .i64 cr,.slice gA cg.length gc,.slice mA cm.length mc,.int .i64 t0,.bool t1,.int .i64 nb,.bool true,.int .i64 t4] 209)=W3:=⟨_,rfl⟩
  rw[hW3]
  have hma3:Only [] w2 W3:=by rw[←hW3];exact (Only.refl [] w2).alloc _
  have hs3:=HS2.out.new hma3
  have hm3:Moves Y (Qw Y ed D) (Qw Y ed D) w2 W3:=.of_new hma3
  have hw3:=HW2.out.moves hm3 HBD.out
  have hcb:Blk W3 w2.heap.size [.int .i64 cr,.slice gA cg.length gc,.slice mA cm.length mc,.int .i64 t0,.bool t1,.int .i64 nb,.bool true,.int .i64 t4] 209:=by rw[←hW3];exact Blk.new w2 _ 209
  have hnk:=HNBK.out.only hma3 (by simp)
  have hrk:=(HBR1.out.only HO2.out (H.out.far_pool HRB.out)).only hma3 (by simp)
  have hgk:=Qe HG2.out hma3 (by simp)
  have hsz2:w.heap.size<w2.heap.size:=by
   have:=HM1.out.size
   have:=HM2.out.size
   simp at *
   omega
  have hr3:¬Qw Y ed D w2.heap.size:=fun e=>by have:=(HS2.out.dyn_lt e).2;omega
  obtain⟨gA',gc',hge,hgrow,hgnil⟩:=Qc hgk
  simp only[Value.slice.injEq,true_and] at hge
  obtain⟨rfl,rfl⟩:=hge
  have hpush:=push_chain W3.drew (Y.chain i) Y.pool S2 Y.clock X.clock Y.base (D i) C hs3.pool.drew (hs3.clock.only (Only.drew [] _) (by simp) (by simp)) ((hs3.chain i C HC.out).below (Only.drew [] _)) (H.out.far HI.out)
   ⟨fun m=>?_,fun m=>?_⟩ hd HHD.out ⟨cr,IntKind.i64.wrap (nb+1),0,0⟩ ⟨HRT.out,by show Ql (IntKind.i64.wrap (nb+1));rw[HWN2.out];have:=HNB.out;unfold Ql;omega,by unfold Ql;simp,by unfold Ql;simp⟩ cg gA gc (hgrow.drewN 1) HGN.out hgnil (fun b off e=>?_) h2 C' S3 HPU.out
  rotate_left
  ·simp only[chX,List.mem_cons] at m
   rcases m with m|m|m
   ·exact is_ne H.out.ok.cb (H.out.ok.xb i HI.out) (by omega) m
   ·exact is_ne H.out.ok.cb (H.out.ok.sets i HI.out) (by omega) m
   ·exact is_ne H.out.ok.cb (H.out.ok.pool _ (Qf m)) (by omega) rfl
  ·simp only[chX,List.mem_cons] at m
   rcases m with m|m|m
   ·exact is_ne H.out.ok.lb (H.out.ok.xb i HI.out) (by omega) m
   ·exact is_ne H.out.ok.lb (H.out.ok.sets i HI.out) (by omega) m
   ·exact is_ne H.out.ok.lb (H.out.ok.pool _ (Qf m)) (by omega) rfl
  ·refine H.out.far_pool ?_
   have:=(hgk.lt b (by rw[e];rfl)).1
   have:=HM1.out.size
   have:=HRB.out
   simp at *
   omega
  have p0:=(hs3.fixed.pt i HI.out).cell (i:=0) rfl
  have z0:=hw3.c0
  have z1:=hw3.c1
  have k0:=hcb.cell (i:=0) rfl
  have k1:=hcb.cell (i:=1) rfl
  have k5:=hcb.cell (i:=5) rfl
  have u1:=hnk.cell (i:=1) rfl
  have HS3:=hid hs3
  have HM3:=hid ((HM1.out.trans HM2.out).trans hm3)
  have HCB:=hid hcb
  have HRK:=hid hrk
  have HR3:=hid hr3
  have HSZ:=hid hsz2
  have hx1:w2.heap.size∉chX (Y.chain i) Y.pool:=H.out.far_chX HI.out (by have:=HRB.out;omega)
  have hx2:w.heap.size∉chX (Y.chain i) Y.pool:=H.out.far_chX HI.out HRB.out
  have hx3:Y.pt i∉chX (Y.chain i) Y.pool:=fun m=>by
   simp only[chX,List.mem_cons] at m
   rcases m with m|m|m
   ·exact is_ne (H.out.ok.pt i HI.out) (H.out.ok.xb i HI.out) (by omega) m
   ·exact is_ne (H.out.ok.pt i HI.out) (H.out.ok.sets i HI.out) (by omega) m
   ·exact is_ne (H.out.ok.pt i HI.out) (H.out.ok.pool _ (Qf m)) (by omega) rfl
  have hx4:b0∉chX (Y.chain i) Y.pool:=H.out.far_chX HI.out (hw3.ge _ (by simp))
  have hx5:b1∉chX (Y.chain i) Y.pool:=H.out.far_chX HI.out (hw3.ge _ (by simp))
  have hx6:w1.heap.size∉chX (Y.chain i) Y.pool:=H.out.far_chX HI.out (by have:=HM1.out.size;have:=HRB.out;simp at *;omega)
  have HX1:=hid hx1
  have HX2:=hid hx2
  have HX3:=hid hx3
  have HX4:=hid hx4
  have HX5:=hid hx5
  have HX6:=hid hx6
  unfold Pushed NodeS.val IBI ptr at hpush
  dsimp only at hpush
  unfold ptr at p0 z0 z1
  clear hma3 hs3 hm3 hw3 hcb hnk hrk hgk hsz2 hr3 hgrow hgnil hx1 hx2 hx3 hx4 hx5 hx6 hW3 a0 a1 b24 b11 n1 hltn
  go_region_held3 (fun W=>W.cell? ⟨b0,0,none⟩=some (.pointer (some ⟨Y.pt i,0,none⟩))∧W.cell? ⟨b1,0,none⟩=some (.pointer none)∧W.cell? ⟨Y.pt i,0,none⟩=some (.pointer (some ⟨(Y.chain i).xb,0,none⟩))∧W.cell? ⟨w2.heap.size,0,none⟩=some (.int .i64 cr)∧W.cell? ⟨w2.heap.size,1,none⟩=some (.slice gA cg.length gc)∧W.cell? ⟨w1.heap.size,1,none⟩=some (.int .i64 nb))
   (first|with_reducible exact⟨Qa ho4 z0 HX4.out,Qa ho4 z1 HX5.out,Qa ho4 p0 HX3.out,Qa ho4 k0 HX1.out,Qa ho4 k1 HX1.out,Qa ho4 u1 HX6.out⟩|(go_keep;done))
   (first|(go_simp;go_at_call 180;refine hpush.mono ?_;rintro e w4 ⟨Di,rfl,hp4,hc4,ho4',hd4⟩;have HP4:=hid hp4;have HC4:=hid hc4;have HD4:=hid hd4;have ho4:Only (chX (Y.chain i) Y.pool) W3 w4:=⟨ho4'.os,ho4'.tape,ho4'.output,ho4'.size,ho4'.block⟩;have HO4:=hid ho4;clear hp4 hc4 hd4 ho4'))
  have hcb4:=HCB.out.only HO4.out HX1.out
  have hrk4:=HRK.out.only HO4.out HX2.out
  have cf:=hcb4.frozen
  have rf:=hrk4.frozen
  have g3:=hcb4.cell (i:=3) rfl
  have g4:=hcb4.cell (i:=4) rfl
  have g5:=hcb4.cell (i:=5) rfl
  have g6:=hcb4.cell (i:=6) rfl
  have g7:=hcb4.cell (i:=7) rfl
  have r0:=hrk4.cell (i:=0) rfl
  have r1:=hrk4.cell (i:=1) rfl
  have r2:=hrk4.cell (i:=2) rfl
  have r3:=hrk4.cell (i:=3) rfl
  have r4:=hrk4.cell (i:=4) rfl
  have hne24:w2.heap.size≠w.heap.size:=by have:=HSZ.out;omega
  have hlt4:=hrk4.lt
  clear hcb4 hrk4 p0 z0 z1 k0 k1 k5 u1
  go_wp2_with fail
  have hfin:∀W,Only [w2.heap.size,w.heap.size] w4 W→StoreIn W Y ed (fun j=>if j=i then Di else D j) (fillX X i C' S3)∧Moves Y (Qw Y ed D) (Qw Y ed (fun j=>if j=i then Di else D j)) w W:=fun W g=>by
   have hl:=push_len HPU.out
   have hs4:=HS3.out.chainStep HI.out HO4.out HP4.out HC4.out HD4.out hl.1 (hl.2.trans (HS3.out.sets C (List.mem_of_getElem? HC.out)))
   have hm4:=HS3.out.chainMoves HI.out HO4.out HD4.out
   have hz:=HSZ.out
   have hd:∀k,k<W3.heap.size→¬Qw Y ed D k→¬Qw Y ed (fun j=>if j=i then Di else D j) k:=fun k h1 h2 e=>by
    rcases hm4.dyn k e with e|e
    ·exact h2 e
    ·omega
   refine⟨hs4.only g (fun k hk=>?_),((HM0.out.trans HM3.out).trans hm4).fresh g (fun k hk=>?_)⟩
   ·simp at hk
    rcases hk with rfl|rfl
    ·exact⟨by have:=HRB.out;omega,hd _ HCB.out.lt HR3.out⟩
    ·exact⟨HRB.out,hd _ HRK.out.lt HR0.out⟩
   ·simp at hk
    rcases hk with rfl|rfl<;>omega
  have hw2:=HWN.out
  refine bodyPost_ret (v:=.tuple #[.agg #[.int .i64 t0,.bool t1,.int .i64 (wrap64 (nb+1)),.bool true,.int .i64 t4],.int .i64 0]) (by simp[results,Tryz.results179,go_sem,r0,r1,r2,r3,r4]) rfl ⟨_,by rw[hw2],hfin _ ?_⟩
  exact (((((((Only.refl [w2.heap.size,w.heap.size] w4).setCell (.inl (by simp)) _).setCell (.inl (by simp)) _).setCell (.inl (by simp)) _).setCell (.inl (by simp)) _).setCell (.inl (by simp)) _).setCell (.inl (by simp)) _)
abbrev does2Push_115:=(does2Push_all w Y ed D X h i C hd S1 n hnp c S2 hln).1
abbrev does2Push_211:=(does2Push_all w Y ed D X h i C hd S1 n hnp c S2 hln).2.1
abbrev does2Push_164:=(does2Push_all w Y ed D X h i C hd S1 n hnp c S2 hln).2.2.1
abbrev does2Push_213:=(does2Push_all w Y ed D X h i C hd S1 n hnp c S2 hln).2.2.2
end
theorem leave_d (w:World)(eb pb base:Nat)(ed:Option Nat)(E:EpochS)(h:EpochAt w eb pb base ed E)(hd:E.deep=1)(u:FrameMode):CallsD prog 86 #[ptr eb,.pointer none] u w fun e u' w'=>u'=u∧Epoched eb pb base [eb] ed E.leave w (.int .i64 0) e w':=by
 have hmine:=mine_any w eb pb base ed E h
 obtain⟨lv,hb,hown,he⟩:=h.ex
 have c11:w.cell? ⟨eb,11,none⟩=some (.int .i64 1):=by rw[←hd];exact hb.cell rfl
 have hnum:=fun W=>calls_rev (number_nil W)
 have hst:=atomStore eb 3 E.at0 w.drew 0 (hb.drew.cell rfl) (hb.frozen _)
 have hb1:=hb.drew.set 3 (.int .i64 0)
 have d11:(w.setCell ⟨eb,3,none⟩ (.int .i64 0)).cell? ⟨eb,11,none⟩=some (.int .i64 1):=by rw[←hd];exact (hb.set 3 (.int .i64 0)).cell rfl
 have f11:=hb.frozen 11
 have hb2:=hb1.set 11 (.int .i64 0)
 have hfin:EpochAt ((w.drew.setCell ⟨eb,3,none⟩ (.int .i64 0)).setCell ⟨eb,11,none⟩ (.int .i64 0)) eb pb base ed E.leave∧Only [eb] w ((w.drew.setCell ⟨eb,3,none⟩ (.int .i64 0)).setCell ⟨eb,11,none⟩ (.int .i64 0)):=by
  have ho:Only [eb] w ((w.drew.setCell ⟨eb,3,none⟩ (.int .i64 0)).setCell ⟨eb,11,none⟩ (.int .i64 0)):=((Only.drew _ _).setCell (.inl (by simp)) _).setCell (.inl (by simp)) _
  have e1:E.leave={E with at0:=0,deep:=0}:=by simp[EpochS.leave,hd]
  rw[e1]
  refine⟨⟨⟨lv,?_,Qe hown ho (fun k hk=>by have:=ed_ge h k (he ▸ hk);have:=h.lt;simp;omega),he⟩,h.lt,Nat.le_trans h.room ho.size,h.workers,h.now,?_,?_,h.ok⟩,ho⟩
  ·exact hb2
  ·simp
  ·simp
 have HF:=hid hfin;have HST:=hid hst;have HN:=hid hnum
 unfold ptr at hmine ⊢
 clear h hb hown hb1 hb2 hfin hst hd hnum
 go_enter_d func86,ntmps86
 go_wp2_with (first|(go_at_call 132;refine hmine.mono ?_;rintro e w' ⟨rfl,rfl⟩)|(go_at_call 71;refine (Qx _).mono ?_;rintro e w' ⟨rfl,rfl⟩))
 refine wp_region_still_tail 6 (by kernel_rfl) (by kernel_rfl) ?_
 simp only[List.take_succ_cons,List.take_zero,List.drop_succ_cons,List.drop_zero]
 change wpStill _ _ (World.drew _) (fun a'=>wpList _ _ _ _ a' (World.drew _)) _ _
 iterate 2 still_step
 still_call (HN.out _)
 iterate 3 still_step
 refine wpStill_nil ?_
 go_wp2_with (go_at_call 100;refine HST.out.mono ?_;rintro e w' ⟨rfl,rfl⟩)
 go_ret
 exact⟨rfl,HF.out⟩
theorem epochEd {w:World}{Y:StoreL}{ed:Option Nat}{D:Nat→List Nat}{X:StoreS}{w':World}{E':EpochS}(h:StoreIn w Y ed D X)(he:EpochAt w' Y.eb Y.pool.pb Y.base ed E')(ho:Only [Y.eb] w w'):StoreIn w' Y ed D {X with epoch:=E'}∧Moves Y (Qw Y ed D) (Qw Y ed D) w w':=by
 have ho':Only (Y.eb :: ed.toList) w w':=ho.mono (by intro k hk;simp at hk;simp[hk])
 exact⟨h.epochStep ho' he (.inl rfl) (fun k e=>Nat.lt_of_lt_of_le (h.edlt k e) ho.size),h.epochMoves ho' (.inl rfl)⟩
def ClosureE (N:Nat)(Y:StoreL)(ed:Option Nat)(D:Nat→List Nat)(b0 b1 b2:Nat)(told:ToldS)(err:Int)(X1 X2:StoreS)(w:World):Prop:=
 ∀W,StoreIn W Y ed D X1→Moves Y (Qw Y ed D) (Qw Y ed D) w W→Calls prog N #[ptr b0,ptr b1,ptr b2] W (Qh Y ed D told err X2 W)
section
variable (w:World)(Y:StoreL)(ed:Option Nat)(D:Nat→List Nat)(X X2:StoreS)(h:StoreIn w Y ed D X)(i:Nat)(hi:i<Y.n)(h0:X.epoch.deep=0)
include w Y ed D X X2 h i hi h0
theorem within_all:(∀(told:ToldS) (b0 b1 b2:Nat) (hcl:ClosureE 179 Y ed D b0 b1 b2 told 0 {X with epoch:=X.epoch.enter} X2 w) (h2:X2.epoch=X.epoch.enter),Calls prog 142 #[ptr (Y.pt i),.pointer none,.func (.func 179) #[] #[ptr b0,ptr b1,ptr b2]] w (Qh Y ed D told 0 {X2 with epoch:=X2.epoch.leave} w)) ∧
  (∀(err:Int) (he:err≠0) (b0 b1 b2:Nat) (hcl:ClosureE 179 Y ed D b0 b1 b2 ToldS.zero err {X with epoch:=X.epoch.enter} X2 w) (h2:X2.epoch=X.epoch.enter),Calls prog 142 #[ptr (Y.pt i),.pointer none,.func (.func 179) #[] #[ptr b0,ptr b1,ptr b2]] w (Qh Y ed D ToldS.zero err {X2 with epoch:=X2.epoch.leave} w)) ∧
  (∀(told:ToldS) (b0 b1 b2:Nat) (hcl:ClosureE 143 Y ed D b0 b1 b2 told 0 {X with epoch:=X.epoch.enter} X2 w) (h2:X2.epoch=X.epoch.enter),Calls prog 142 #[ptr (Y.pt i),.pointer none,.func (.func 143) #[] #[ptr b0,ptr b1,ptr b2]] w (Qh Y ed D told 0 {X2 with epoch:=X2.epoch.leave} w)):=by
 refine⟨?_,?_,?_⟩
 intro told b0 b1 b2 hcl h2;have tg2:=0;have tg3:=0;rotate_left
 intro err he b0 b1 b2 hcl h2;have tg1:=0;have tg3:=0;rotate_left
 intro told b0 b1 b2 hcl h2;have tg2:=0;rotate_left
 all_goals
  first|(have _:=tg1;(have hqe:(err != 0)=true:=by simpa using he);clear he)|(skip)
  have hr0:¬Qw Y ed D w.heap.size:=fun e=>by have:=(h.dyn_lt e).2;omega
  have hm0:Moves Y (Qw Y ed D) (Qw Y ed D) w (w.alloc (.cells #[.int .i64 0,.bool false,.int .i64 0,.bool false,.int .i64 0] 57)):=.of_new ((Only.refl [] w).alloc _)
  have hs0:=h.new (w':=w.alloc (.cells #[.int .i64 0,.bool false,.int .i64 0,.bool false,.int .i64 0] 57)) ((Only.refl [] w).alloc _)
  have c5:=(hs0.fixed.pt i hi).cell (i:=5) rfl
  have hent:=enter_any _ Y.eb Y.pool.pb Y.base ed X.epoch hs0.epoch h0
  have hrb:Y.base≤w.heap.size:=h.room
  have hd1:X2.epoch.deep=1:=by rw[h2];simp[EpochS.enter,h0]
  have hb0:=Blk.new w [.int .i64 0,.bool false,.int .i64 0,.bool false,.int .i64 0] 57
  have H:=hid h
  have H0:=hid hs0
  have HM0:=hid hm0
  have HI:=hid hi
  have HR0:=hid hr0
  have HRB:=hid hrb
  have HCL:=hid hcl
  have HD1:=hid hd1
  have HB0:=hid hb0
  unfold Epoched at hent
  unfold ClosureE Qh ToldS.val at HCL
  unfold Qh ToldS.val ptr at *
  clear h hs0 hm0 hi hr0 hrb hcl hd1 hb0 h0 h2
  first|(have _:=tg2;obtain⟨t0,t1,t2,t3,t4⟩:=told;dsimp only at HCL ⊢)|(dsimp only [ToldS.zero] at HCL ⊢)
  go_enter_defers func142,ntmps142
  go_wp2_with (first|(go_at_call 85;refine hent.mono ?_;rintro e w1 ⟨rfl,he1,ho1⟩;obtain⟨hs1,hm1⟩:=epochEd H0.out he1 ho1;have d5:=(hs1.fixed.pt i HI.out).cell (i:=5) rfl;unfold ptr at d5;have HS1:=hid hs1;have HM1:=hid (HM0.out.trans hm1);have HM1b:=hid hm1;clear he1 ho1 hs1 hm1)|((first|(have _:=tg3;go_at_call 179)|(go_at_call 143));refine (HCL.out _ HS1.out HM1.out).mono ?_;rintro e w2 ⟨D',rfl,hs2,hm2⟩;have hbr2:=hm2.blk (HM1b.out.blk HB0.out (fun e=>by have:=HRB.out;omega) HR0.out) (fun e=>by have:=HRB.out;omega) HR0.out;have hlt2:=hbr2.lt;have rf:=hbr2.frozen;have r0:=hbr2.cell (i:=0) rfl;have r1:=hbr2.cell (i:=1) rfl;have r2:=hbr2.cell (i:=2) rfl;have r3:=hbr2.cell (i:=3) rfl;have r4:=hbr2.cell (i:=4) rfl;have HBR2:=hid hbr2;have HS2:=hid hs2;have HM2:=hid hm2;clear hs2 hm2 hbr2))
  first|(have _:=tg2;obtain⟨W3,hW3⟩:∃W3:World,((((((w2.setCell ⟨w.heap.size,0,none⟩ (.int .i64 t0)).setCell ⟨w.heap.size,1,none⟩ (.bool t1)).setCell ⟨w.heap.size,2,none⟩ (.int .i64 t2)).setCell ⟨w.heap.size,3,none⟩ (.bool t3)).setCell ⟨w.heap.size,4,none⟩ (.int .i64 t4)).alloc (.cells #[.int .i64 t0,.bool t1,.int .i64 t2,.bool t3,.int .i64 t4] 57))=W3:=⟨_,rfl⟩)|(obtain⟨W3,hW3⟩:∃W3:World,((((((w2.setCell ⟨w.heap.size,0,none⟩ (.int .i64 0)).setCell ⟨w.heap.size,1,none⟩ (.bool false)).setCell ⟨w.heap.size,2,none⟩ (.int .i64 0)).setCell ⟨w.heap.size,3,none⟩ (.bool false)).setCell ⟨w.heap.size,4,none⟩ (.int .i64 0)).alloc (.cells #[.int .i64 0,.bool false,.int .i64 0,.bool false,.int .i64 0] 57))=W3:=⟨_,rfl⟩)
  rw[hW3]
  have ho3:Only [w.heap.size] w2 W3:=by
   rw[←hW3]
   exact (((((((Only.refl [w.heap.size] w2).setCell (.inl (by simp)) _).setCell (.inl (by simp)) _).setCell (.inl (by simp)) _).setCell (.inl (by simp)) _).setCell (.inl (by simp)) _).alloc _)
  first
  |have _:=tg2
   have hbr3:Blk W3 w.heap.size [.int .i64 t0,.bool t1,.int .i64 t2,.bool t3,.int .i64 t4] 57:=by
    rw[←hW3]
    exact (((((HBR2.out.set 0 (.int .i64 t0)).set 1 (.bool t1)).set 2 (.int .i64 t2)).set 3 (.bool t3)).set 4 (.int .i64 t4)).alloc _
  |have hbr3:Blk W3 w.heap.size [.int .i64 0,.bool false,.int .i64 0,.bool false,.int .i64 0] 57:=by
    rw[←hW3]
    exact (((((HBR2.out.set 0 (.int .i64 0)).set 1 (.bool false)).set 2 (.int .i64 0)).set 3 (.bool false)).set 4 (.int .i64 0)).alloc _
  have hlow:w.heap.size<w1.heap.size:=by have:=HM1b.out.size;simp at this;omega
  have hr3:¬Qw Y ed D' w.heap.size:=fun e=>by
   rcases HM2.out.dyn _ e with e|e
   ·exact HR0.out e
   ·omega
  have hs3:=HS2.out.only ho3 (fun k hk=>by simp at hk;subst hk;exact⟨HRB.out,hr3⟩)
  have hm3:=(HM1.out.trans HM2.out).fresh ho3 (fun k hk=>by simp at hk;omega)
  refine leaves_cons (f:=86) (args:=#[.pointer (some ⟨Y.eb,0,none⟩),.pointer none]) (by simp) (by simp[go_sem]) ?_
  refine (leave_d W3 Y.eb Y.pool.pb Y.base ed X2.epoch hs3.epoch HD1.out .returning).mono ?_
  rintro e u' w4 ⟨rfl,rfl,he4,ho4⟩
  obtain⟨hs4,hm4⟩:=epochEd hs3 he4 ho4
  have hbr4:=hbr3.only ho4 (by have:=H.out.ok.eb.1;have:=HRB.out;simp;omega)
  have e0:=hbr4.cell (i:=0) rfl
  have e1:=hbr4.cell (i:=1) rfl
  have e2:=hbr4.cell (i:=2) rfl
  have e3:=hbr4.cell (i:=3) rfl
  have e4:=hbr4.cell (i:=4) rfl
  first|(have _:=tg2;exact⟨.tuple #[.agg #[.int .i64 t0,.bool t1,.int .i64 t2,.bool t3,.int .i64 t4],.int .i64 0],by simp[results,Tryz.results142,go_sem,e0,e1,e2,e3,e4],D',rfl,hs4,hm3.trans hm4⟩)|(exact⟨.tuple #[.agg #[.int .i64 0,.bool false,.int .i64 0,.bool false,.int .i64 0],.int .i64 err],by simp[results,Tryz.results142,go_sem,e0,e1,e2,e3,e4],D',rfl,hs4,hm3.trans hm4⟩)
abbrev within_179:=(within_all w Y ed D X X2 h i hi h0).1
abbrev withinErr_179:=(within_all w Y ed D X X2 h i hi h0).2.1
abbrev within_143:=(within_all w Y ed D X X2 h i hi h0).2.2
end
def WayDoes (Y:StoreL)(ed:Option Nat)(D:Nat→List Nat)(i:Nat)(fv:Value)(told:ToldS)(err:Int)(X1 X2:StoreS)(w:World):Prop:=
 ∀W b0 b1 b2,StoreIn W Y ed D X1→Moves Y (Qw Y ed D) (Qw Y ed D) w W→BoxW W Y i fv b0 b1 b2→(∀b∈[b0,b1,b2],¬Qw Y ed D b)→Calls prog 179 #[ptr b0,ptr b1,ptr b2] W (Qh Y ed D told err X2 W)
theorem within179E (w:World)(Y:StoreL)(ed:Option Nat)(D:Nat→List Nat)(X X2:StoreS)(h:StoreIn w Y ed D X)(i:Nat)(hi:i<Y.n)(h0:X.epoch.deep=0)(told:ToldS)(err:Int)(he:err=0∨told=ToldS.zero)(b0 b1 b2:Nat)(hcl:ClosureE 179 Y ed D b0 b1 b2 told err {X with epoch:=X.epoch.enter} X2 w)(h2:X2.epoch=X.epoch.enter):
  Calls prog 142 #[ptr (Y.pt i),.pointer none,.func (.func 179) #[] #[ptr b0,ptr b1,ptr b2]] w (Qh Y ed D told err {X2 with epoch:=X2.epoch.leave} w):=by
 by_cases e:err=0
 ·subst e
  exact within_179 w Y ed D X X2 h i hi h0 told b0 b1 b2 hcl h2
 ·obtain rfl:=he.resolve_left e
  exact withinErr_179 w Y ed D X X2 h i hi h0 err e b0 b1 b2 hcl h2
theorem doesE_any (w:World)(Y:StoreL)(ed:Option Nat)(D:Nat→List Nat)(X X1 X2:StoreS)(h:StoreIn w Y ed D X)(i:Nat)(hi:i<Y.n)(hrd:ReadyP Y X i X1)(hdp:X1.epoch.deep=0)(A:Option Addr)(kc:Nat)(keys:List Int)(hsm:keys.length≤1000000)(hrow:Row w A (Zc keys))(hks:(keys.any fun k=>!hasB k Y.n i)=false)
  (N:Nat) (caps:Array Value) (told:ToldS) (err:Int) (he:err=0∨told=ToldS.zero) (hcl:WayDoes Y ed D i (.func (.func N) #[] caps) told err {X1 with epoch:=X1.epoch.enter} X2 w) (h2:X2.epoch=X1.epoch.enter):
  Calls prog 114 #[ptr (Y.pt i),.pointer none,.agg #[.slice A keys.length kc,.func (.func N) #[] caps]] w (Qh Y ed D told err {X2 with epoch:=X2.epoch.leave} w):=by
 have hmf:∀(fn:Fn) (first cap:Array Value) (w:World),(Instr.makeFunc fn first cap).run prog w=.ok (.func fn first cap) w:=fun _ _ _ _=>rfl
 obtain⟨w0,hw0⟩:∃w0,(((w.alloc (.cells #[ptr (Y.pt i)] 107)).alloc (.cells #[.pointer none] 126)).alloc (.cells #[.slice A keys.length kc,.func (.func N) #[] caps] 214)).alloc (.cells #[.int .i64 0,.bool false,.int .i64 0,.bool false,.int .i64 0] 57)=w0:=⟨_,rfl⟩
 have ho0:Only [] w w0:=by rw[←hw0];exact ((((Only.refl _ _).alloc _).alloc _).alloc _).alloc _
 have hb3:Blk w0 w.heap.size [ptr (Y.pt i)] 107:=by rw[←hw0];exact (((Blk.new w [ptr (Y.pt i)] 107).alloc _).alloc _).alloc _
 have hb4:Blk w0 (w.heap.size+1) [.pointer none] 126:=by
  have:=Blk.new (w.alloc (.cells #[ptr (Y.pt i)] 107)) [.pointer none] 126
  rw[World.size_alloc] at this
  rw[←hw0]
  exact (this.alloc _).alloc _
 have hb5:Blk w0 (w.heap.size+1+1) [.slice A keys.length kc,.func (.func N) #[] caps] 214:=by
  have:=Blk.new ((w.alloc (.cells #[ptr (Y.pt i)] 107)).alloc (.cells #[.pointer none] 126)) [.slice A keys.length kc,.func (.func N) #[] caps] 214
  rw[World.size_alloc,World.size_alloc] at this
  rw[←hw0]
  exact this.alloc _
 have hb6:Blk w0 (w.heap.size+1+1+1) [.int .i64 0,.bool false,.int .i64 0,.bool false,.int .i64 0] 57:=by
  have:=Blk.new (((w.alloc (.cells #[ptr (Y.pt i)] 107)).alloc (.cells #[.pointer none] 126)).alloc (.cells #[.slice A keys.length kc,.func (.func N) #[] caps] 214)) [.int .i64 0,.bool false,.int .i64 0,.bool false,.int .i64 0] 57
  rw[World.size_alloc,World.size_alloc,World.size_alloc] at this
  rw[←hw0]
  exact this
 have hs0:=h.new ho0
 have hm0:Moves Y (Qw Y ed D) (Qw Y ed D) w w0:=.of_new ho0
 have hnd:∀b,w.heap.size≤b→Y.base≤b∧¬Qw Y ed D b:=fun b hb=>⟨Nat.le_trans h.room hb,fun e=>by have:=(h.dyn_lt e).2;omega⟩
 have hct:=containsKeys_any w0 Y h.ok hs0.fixed i hi A kc w.heap.size keys hsm (hrow.only ho0 (fun _ _ e=>by simp at e)) (hb3.cell rfl)
 rw[hks] at hct
 have hwt:=waitP_any w0.drew Y ed D X X1 (hs0.new (Only.drew [] _)) i hrd
 have hwi:BoxW w0 Y i (.func (.func N) #[] caps) w.heap.size (w.heap.size+1) (w.heap.size+1+1):=⟨hb3.cell rfl,hb4.cell rfl,hb5.cell rfl,fun b hb=>by
  simp only[List.mem_cons,List.not_mem_nil,or_false] at hb
  rcases hb with rfl|rfl|rfl
  ·exact (hnd _ (by omega)).1
  ·exact (hnd _ (by omega)).1
  ·exact (hnd _ (by omega)).1⟩
 have hwd:∀b∈[w.heap.size,w.heap.size+1,w.heap.size+1+1],¬Qw Y ed D b:=fun b hb=>by
  simp only[List.mem_cons,List.not_mem_nil,or_false] at hb
  rcases hb with rfl|rfl|rfl
  ·exact (hnd _ (by omega)).2
  ·exact (hnd _ (by omega)).2
  ·exact (hnd _ (by omega)).2
 have hin:∀w1,StoreIn w1 Y ed D X1→Moves Y (Qw Y ed D) (Qw Y ed D) w0.drew w1→Calls prog 142 #[ptr (Y.pt i),.pointer none,.func (.func 179) #[] #[ptr w.heap.size,ptr (w.heap.size+1),ptr (w.heap.size+1+1)]] w1 _:=fun w1 hs1 hm1=>
  within179E w1 Y ed D X1 X2 hs1 i hi hdp told err he _ _ _ (fun W hsW hmW=>hcl W _ _ _ hsW ((hm0.trans (.of_new (Only.drew [] w0))).trans (hm1.trans hmW)) (((hwi.moves (.of_new (Only.drew [] w0)) hwd).moves hm1 hwd).moves hmW hwd) hwd) h2
 have p0:=hb3.cell (i:=0) rfl
 have p1:=hb4.cell (i:=0) rfl
 have p2:=hb5.cell (i:=0) rfl
 have u6:=(hs0.fixed.pt i hi).cell (i:=6) rfl
 have u1:=(hs0.fixed.pt i hi).cell (i:=1) rfl
 have HIN:=hid hin;have HWT:=hid hwt;have HB6:=hid hb6;have HWI:=hid hwi;have HWD:=hid hwd;have HM0:=hid hm0;have H:=hid h;have HND:=hid hnd;have HO0:=hid ho0;have HI:=hid hi
 have HX2:=hid h2
 unfold Qh ToldS.val ptr at HIN
 unfold Turns ptr at HWT
 unfold Qh ToldS.val
 unfold ptr at *
 obtain⟨t0,t1,t2,t3,t4⟩:=told
 dsimp only at HIN ⊢
 clear h hrd hdp hrow hks hcl h2 hb3 hb4 hb5 hb6 hs0 hm0 hnd hwt hwi hwd hin ho0 he hsm
 go_enter func114,ntmps114
 go_wp2_with (go_at_call 68;refine hct.mono ?_;rintro e w0 ⟨rfl,rfl⟩)
 clear hw0
 go_region_held3 (fun W=>W.cell? ⟨w.heap.size,0,none⟩=some (.pointer (some ⟨Y.pt i,0,none⟩))∧W.cell? ⟨w.heap.size+1,0,none⟩=some (.pointer none)∧W.cell? ⟨Y.pt i,6,none⟩=some (.pointer (some ⟨Y.ld,0,none⟩))∧W.cell? ⟨Y.pt i,1,none⟩=some (.int .i64 (i:Int)))
  (first|with_reducible exact⟨a3,a4,a6,a1⟩|(go_keep;done))
  (first|(go_simp;go_at_call 178;refine HWT.out.mono ?_;rintro e w1 ⟨rfl,hs1,hm1⟩;have hwi1:=(HWI.out.moves (.of_new (Only.drew [] _)) HWD.out).moves hm1 HWD.out;have a3:=hwi1.c0;have a4:=hwi1.c1;have a6:=(hs1.fixed.pt i HI.out).cell (i:=6) rfl;have a1:=(hs1.fixed.pt i HI.out).cell (i:=1) rfl;have hb6:=hm1.blk HB6.out.drew (fun e=>by have:=(HND.out (w.heap.size+1+1+1) (by omega)).1;omega) (HND.out _ (by omega)).2;unfold ptr at a3 a6;have HB61:=hid hb6;have HS1:=hid hs1;have HM1:=hid hm1;clear hs1 hm1 hwi1 hb6))
 clear p0 p1 p2 u6 u1 hct
 go_wp2_with (go_at_call 142;refine (HIN.out _ HS1.out HM1.out).mono ?_;rintro e w2 ⟨D',rfl,hs2,hm2⟩;have hbr2:=hm2.blk HB61.out (fun e=>by have:=(HND.out (w.heap.size+1+1+1) (by omega)).1;omega) (HND.out _ (by omega)).2;have hlt2:=hbr2.lt;have rf:=hbr2.frozen;have r0:=hbr2.cell (i:=0) rfl;have r1:=hbr2.cell (i:=1) rfl;have r2:=hbr2.cell (i:=2) rfl;have r3:=hbr2.cell (i:=3) rfl;have r4:=hbr2.cell (i:=4) rfl;have HS2:=hid hs2;have HM2:=hid hm2;clear hs2 hm2 hbr2)
 have hlow:w.heap.size+1+1+1<w1.heap.size:=HB61.out.lt
 have hfin:∀W,Only [w.heap.size+1+1+1] w2 W→StoreIn W Y ed D' {X2 with epoch:=X2.epoch.leave}∧Moves Y (Qw Y ed D) (Qw Y ed D') w W:=fun W g=>by
  have hm0:Moves Y (Qw Y ed D) (Qw Y ed D) w w0.drew:=HM0.out.trans (.of_new (Only.drew [] _))
  refine⟨HS2.out.only g (fun k hk=>by
   simp at hk
   subst hk
   refine⟨(HND.out _ (by omega)).1,fun e=>?_⟩
   rcases HM2.out.dyn _ e with e|e
   ·exact (HND.out _ (by omega)).2 e
   ·omega),((hm0.trans HM1.out).trans HM2.out).fresh g (fun k hk=>by simp at hk;omega)⟩
 refine bodyPost_ret (v:=.tuple #[.agg #[.int .i64 t0,.bool t1,.int .i64 t2,.bool t3,.int .i64 t4],.int .i64 err]) (by simp[results,Tryz.results114,go_sem,r0,r1,r2,r3,r4]) rfl ⟨D',rfl,hfin _ ?_⟩
 exact only5' _ _ _ _ _ _ _
theorem doesNo_any (w:World)(Y:StoreL)(ed:Option Nat)(D:Nat→List Nat)(X:StoreS)(h:StoreIn w Y ed D X)(i:Nat)(hi:i<Y.n)(A:Option Addr)(kc:Nat)(keys:List Int)(hsm:keys.length≤1000000)(hrow:Row w A (Zc keys))(hks:(keys.any fun k=>!hasB k Y.n i)=true)(N:Nat)(caps:Array Value):
  Calls prog 114 #[ptr (Y.pt i),.pointer none,.agg #[.slice A keys.length kc,.func (.func N) #[] caps]] w (Qh Y ed D ToldS.zero 161 X w):=by
 have hmf:∀(fn:Fn) (first cap:Array Value) (w:World),(Instr.makeFunc fn first cap).run prog w=.ok (.func fn first cap) w:=fun _ _ _ _=>rfl
 obtain⟨w0,hw0⟩:∃w0,(((w.alloc (.cells #[ptr (Y.pt i)] 107)).alloc (.cells #[.pointer none] 126)).alloc (.cells #[.slice A keys.length kc,.func (.func N) #[] caps] 214)).alloc (.cells #[.int .i64 0,.bool false,.int .i64 0,.bool false,.int .i64 0] 57)=w0:=⟨_,rfl⟩
 have ho0:Only [] w w0:=by rw[←hw0];exact ((((Only.refl _ _).alloc _).alloc _).alloc _).alloc _
 have hb3:Blk w0 w.heap.size [ptr (Y.pt i)] 107:=by rw[←hw0];exact (((Blk.new w [ptr (Y.pt i)] 107).alloc _).alloc _).alloc _
 have hb4:Blk w0 (w.heap.size+1) [.pointer none] 126:=by
  have:=Blk.new (w.alloc (.cells #[ptr (Y.pt i)] 107)) [.pointer none] 126
  rw[World.size_alloc] at this
  rw[←hw0]
  exact (this.alloc _).alloc _
 have hb5:Blk w0 (w.heap.size+1+1) [.slice A keys.length kc,.func (.func N) #[] caps] 214:=by
  have:=Blk.new ((w.alloc (.cells #[ptr (Y.pt i)] 107)).alloc (.cells #[.pointer none] 126)) [.slice A keys.length kc,.func (.func N) #[] caps] 214
  rw[World.size_alloc,World.size_alloc] at this
  rw[←hw0]
  exact this.alloc _
 have hb6:Blk w0 (w.heap.size+1+1+1) [.int .i64 0,.bool false,.int .i64 0,.bool false,.int .i64 0] 57:=by
  have:=Blk.new (((w.alloc (.cells #[ptr (Y.pt i)] 107)).alloc (.cells #[.pointer none] 126)).alloc (.cells #[.slice A keys.length kc,.func (.func N) #[] caps] 214)) [.int .i64 0,.bool false,.int .i64 0,.bool false,.int .i64 0] 57
  rw[World.size_alloc,World.size_alloc,World.size_alloc] at this
  rw[←hw0]
  exact this
 have hs0:=h.new ho0
 have hct:=containsKeys_any w0 Y h.ok hs0.fixed i hi A kc w.heap.size keys hsm (hrow.only ho0 (fun _ _ e=>by simp at e)) (hb3.cell rfl)
 rw[hks] at hct
 have p0:=hb3.cell (i:=0) rfl
 have p1:=hb4.cell (i:=0) rfl
 have p2:=hb5.cell (i:=0) rfl
 have r0:=hb6.cell (i:=0) rfl
 have r1:=hb6.cell (i:=1) rfl
 have r2:=hb6.cell (i:=2) rfl
 have r3:=hb6.cell (i:=3) rfl
 have r4:=hb6.cell (i:=4) rfl
 have rf:=hb6.frozen
 have rlt:=hb6.lt
 have H:=hid h;have HO0:=hid ho0
 unfold Qh ToldS.val
 dsimp only [ToldS.zero]
 unfold ptr at *
 clear h hrow hks hb3 hb4 hb5 hb6 hs0 ho0 hsm
 go_enter func114,ntmps114
 go_wp2_with (first|(go_at_call 68;refine hct.mono ?_;rintro e w0 ⟨rfl,rfl⟩)|(go_at_call 71;refine (Qx _).mono ?_;rintro e w' ⟨rfl,rfl⟩))
 clear hw0
 have hfin:∀W,Only [w.heap.size+1+1+1] w0 W→StoreIn W Y ed D X∧Moves Y (Qw Y ed D) (Qw Y ed D) w W:=fun W g=>by
  have hnd:∀b,w.heap.size≤b→Y.base≤b∧¬Qw Y ed D b:=fun b hb=>⟨Nat.le_trans H.out.room hb,fun e=>by have:=(H.out.dyn_lt e).2;omega⟩
  refine⟨(H.out.new HO0.out).only g (fun k hk=>by
   simp at hk
   subst hk
   exact hnd _ (by omega)),(Moves.of_new HO0.out).fresh g (fun k hk=>by simp at hk;omega)⟩
 refine bodyPost_ret (v:=.tuple #[.agg #[.int .i64 0,.bool false,.int .i64 0,.bool false,.int .i64 0],.int .i64 161]) (by simp[results,Tryz.results114,go_sem,r0,r1,r2,r3,r4]) rfl ⟨D,rfl,hfin _ ?_⟩
 exact only5' _ _ _ _ _ _ _
def EndP (X:StoreS)(i:Nat)(C:ChainS)(hd:Int)(n:NodeS)(r:Int ⊕ ChangeS)(S2:PoolS)(told:ToldS)(err:Int)(X2:StoreS):Prop:=
 match r with
 |.inl e=>e≠0∧told=ToldS.zero∧err=e∧X2={X with pool:=S2}
 |.inr c=>err=0∧((c.told.new=false∧told={c.told with number:=n.b}∧X2={X with pool:=S2})∨(c.told.new=true∧told={c.told with number:=n.b+1}∧∃C' S3,PushP X C hd n c S2 C' S3∧X2=fillX X i C' S3))
structure WriteP (Y:StoreL)(X:StoreS)(i:Nat)(f:Int→PoolS→Option ((Int ⊕ ChangeS) × PoolS))(ok:Int→PoolS→Prop)(told:ToldS)(err:Int)(X':StoreS):Prop where
 ex:∃X1 C hd S1 n r S2 X2,ReadyP Y X i X1∧X1.epoch.deep=0∧NewestP {X1 with epoch:=X1.epoch.enter} i C hd S1 n∧f n.a S1=some (r,S2)∧ok n.a S1∧S2.slots.length=X1.pool.slots.length∧EndP {X1 with epoch:=X1.epoch.enter} i C hd n r S2 told err X2∧X'={X2 with epoch:=X2.epoch.leave}
theorem EndP.zero {X:StoreS}{i:Nat}{C:ChainS}{hd:Int}{n:NodeS}{r:Int ⊕ ChangeS}{S2:PoolS}{told:ToldS}{err:Int}{X2:StoreS}(h:EndP X i C hd n r S2 told err X2):err=0∨told=ToldS.zero:=by
 cases r with
 |inl e=>exact .inr h.2.1
 |inr c=>exact .inl h.1
theorem EndP.epoch {X:StoreS}{i:Nat}{C:ChainS}{hd:Int}{n:NodeS}{r:Int ⊕ ChangeS}{S2:PoolS}{told:ToldS}{err:Int}{X2:StoreS}(h:EndP X i C hd n r S2 told err X2):X2.epoch=X.epoch:=by
 cases r with
 |inl e=>rw[h.2.2.2]
 |inr c=>
  rcases h.2 with ⟨_,_,e⟩|⟨_,_,C',S3,_,e⟩
  ·rw[e]
  ·rw[e];rfl
theorem WriteP.lt {w:World}{Y:StoreL}{ed:Option Nat}{D:Nat→List Nat}{X:StoreS}{i:Nat}{f:Int→PoolS→Option ((Int ⊕ ChangeS) × PoolS)}{ok:Int→PoolS→Prop}{told:ToldS}{err:Int}{X':StoreS}(hp:WriteP Y X i f ok told err X')(h:StoreIn w Y ed D X):i<Y.n:=by
 obtain⟨X1,C,hd,S1,n,r,S2,X2,⟨a,_,ha,_⟩,_⟩:=hp.ex
 rw[←h.loads]
 exact (List.getElem?_eq_some_iff.1 ha).1
structure BoxV (w:World)(Y:StoreL)(ed:Option Nat)(D:Nat→List Nat)(b:Nat)(v:Value):Prop where
 c:w.cell? ⟨b,0,none⟩=some v
 ge:Y.base≤b
 dy:¬Qw Y ed D b
theorem BoxV.moves {w w':World}{Y:StoreL}{ed:Option Nat}{D:Nat→List Nat}{b:Nat}{v:Value}(h:BoxV w Y ed D b v){dy':Nat→Prop}(hm:Moves Y (Qw Y ed D) dy' w w'):w'.cell? ⟨b,0,none⟩=some v:=hm.cell h.c h.ge h.dy
theorem pg_far {w:World}{Y:StoreL}{ed:Option Nat}{D:Nat→List Nat}{X:StoreS}(h:StoreIn w Y ed D X){i:Nat}(hi:i<Y.n):Y.pg i∉Y.pool.blocks:=fun m=>is_ne (h.ok.pg i hi) (h.ok.pool _ (Qf m)) (by decide) rfl
theorem pt_far {w:World}{Y:StoreL}{ed:Option Nat}{D:Nat→List Nat}{X:StoreS}(h:StoreIn w Y ed D X){i:Nat}(hi:i<Y.n):Y.pt i∉Y.pool.blocks:=fun m=>is_ne (h.ok.pt i hi) (h.ok.pool _ (Qf m)) (by decide) rfl
def PutOk (k v:Int)(root:Int)(S:PoolS):Prop:=Qt k=true∧Ql v∧WayIn S root k
theorem wayPut (w:World)(Y:StoreL)(ed:Option Nat)(D:Nat→List Nat)(X:StoreS)(i:Nat)(hi:i<Y.n)(k v:Int)(C:ChainS)(hd:Int)(S1:PoolS)(n:NodeS)(hn:NewestP X i C hd S1 n)(r:Int ⊕ ChangeS)(S2:PoolS)(hf:putE k v n.a S1=some (r,S2))(ho:PutOk k v n.a S1)(hl:S2.slots.length=X.pool.slots.length)
  (told:ToldS) (err:Int) (X2:StoreS) (he:EndP X i C hd n r S2 told err X2) (q4 q6 q7:Nat) (h4:BoxV w Y ed D q4 (ptr (Y.pt i))) (h6:BoxV w Y ed D q6 (.int .i64 k)) (h7:BoxV w Y ed D q7 (.int .i64 v)):
  WayDoes Y ed D i (.func (.func 115) #[] #[ptr q4,ptr q6,ptr q7]) told err X X2 w:=by
 intro W b0 b1 b2 hs hm hb hbd
 unfold putE at hf
 simp only[bind,Option.bind_eq_some_iff,Option.some.injEq,Prod.mk.injEq] at hf
 obtain⟨⟨e,S'⟩,hp,rfl,rfl⟩:=hf
 have hcl:∀W',StoreIn W' Y ed D {X with pool:=S1}→Moves Y (Qw Y ed D) (Qw Y ed D) W W'→Calls prog 115 #[.pointer none,.int .i64 n.a,ptr q4,ptr q6,ptr q7] W' (Zi Y.pool (changed n.a e) 0 S' W'):=fun W' hs' hm'=>
  putCl_any W' Y.pool S1 (Y.pt i) (Y.pg i) _ _ _ _ _ hs'.pool (hs'.fixed.pg i hi) (hs'.fixed.pt i hi) (pg_far hs' hi) q4 q6 q7 n.a k v (h4.moves (hm.trans hm')) (h6.moves (hm.trans hm')) (h7.moves (hm.trans hm')) ho.1 ho.2.1 ho.2.2 e S' hp
 obtain⟨rfl,⟨h1,rfl,rfl⟩|⟨h1,rfl,C',S3,hpu,rfl⟩⟩:=he
 ·exact does2Stay_115 W Y ed D X hs i C hd S1 n hn _ S' hl b0 b1 b2 q4 q6 q7 hcl hb hbd h1
 ·exact does2Push_115 W Y ed D X hs i C hd S1 n hn _ S' hl b0 b1 b2 q4 q6 q7 hcl hb hbd h1 C' S3 hpu
def DropOk (k:Int)(root:Int)(S:PoolS):Prop:=Qt k=true∧WayIn S root k
theorem wayDrop (w:World)(Y:StoreL)(ed:Option Nat)(D:Nat→List Nat)(X:StoreS)(i:Nat)(hi:i<Y.n)(k:Int)(C:ChainS)(hd:Int)(S1:PoolS)(n:NodeS)(hn:NewestP X i C hd S1 n)(r:Int ⊕ ChangeS)(S2:PoolS)(hf:dropE k n.a S1=some (r,S2))(ho:DropOk k n.a S1)(hl:S2.slots.length=X.pool.slots.length)
  (told:ToldS) (err:Int) (X2:StoreS) (he:EndP X i C hd n r S2 told err X2) (q4 q6:Nat) (h4:BoxV w Y ed D q4 (ptr (Y.pt i))) (h6:BoxV w Y ed D q6 (.int .i64 k)):
  WayDoes Y ed D i (.func (.func 211) #[] #[ptr q4,ptr q6]) told err X X2 w:=by
 intro W b0 b1 b2 hs hm hb hbd
 unfold dropE at hf
 simp only[bind,Option.bind_eq_some_iff] at hf
 obtain⟨d,hp,hf⟩:=hf
 have hcl:∃c,r=.inr c∧∀W',StoreIn W' Y ed D {X with pool:=S1}→Moves Y (Qw Y ed D) (Qw Y ed D) W W'→Calls prog 211 #[.pointer none,.int .i64 n.a,ptr q4,ptr q6] W' (Zi Y.pool c 0 S2 W'):=by
  cases d with
  |none=>
   simp only[Option.some.injEq,Prod.mk.injEq] at hf
   obtain⟨rfl,rfl⟩:=hf
   exact⟨_,rfl,fun W' hs' hm'=>dropClNone_any W' Y.pool S1 (Y.pt i) (Y.pg i) _ _ _ _ _ hs'.pool (hs'.fixed.pg i hi) (hs'.fixed.pt i hi) q4 q6 n.a k (h4.moves (hm.trans hm')) (h6.moves (hm.trans hm')) ho.1 ho.2 hp⟩
  |some d=>
   obtain⟨e,S'⟩:=d
   simp only[Option.some.injEq,Prod.mk.injEq] at hf
   obtain⟨rfl,rfl⟩:=hf
   exact⟨_,rfl,fun W' hs' hm'=>dropCl_any W' Y.pool S1 (Y.pt i) (Y.pg i) _ _ _ _ _ hs'.pool (hs'.fixed.pg i hi) (hs'.fixed.pt i hi) (pg_far hs' hi) (pt_far hs' hi) q4 q6 (hs'.far_pool h4.ge) (hs'.far_pool h6.ge) n.a k (h4.moves (hm.trans hm')) (h6.moves (hm.trans hm')) ho.1 ho.2 e S' hp⟩
 obtain⟨c,rfl,hcl⟩:=hcl
 obtain⟨rfl,⟨h1,rfl,rfl⟩|⟨h1,rfl,C',S3,hpu,rfl⟩⟩:=he
 ·exact does2Stay_211 W Y ed D X hs i C hd S1 n hn _ S2 hl b0 b1 b2 q4 q6 hcl hb hbd h1
 ·exact does2Push_211 W Y ed D X hs i C hd S1 n hn _ S2 hl b0 b1 b2 q4 q6 hcl hb hbd h1 C' S3 hpu
theorem waySwap (w:World)(Y:StoreL)(ed:Option Nat)(D:Nat→List Nat)(X:StoreS)(i:Nat)(hi:i<Y.n)(k o v:Int)(C:ChainS)(hd:Int)(S1:PoolS)(n:NodeS)(hn:NewestP X i C hd S1 n)(r:Int ⊕ ChangeS)(S2:PoolS)(hf:swapE k o v n.a S1=some (r,S2))(ho:PutOk k v n.a S1)(hl:S2.slots.length=X.pool.slots.length)
  (told:ToldS) (err:Int) (X2:StoreS) (he:EndP X i C hd n r S2 told err X2) (q4 q6 q7 q8:Nat) (h4:BoxV w Y ed D q4 (ptr (Y.pt i))) (h6:BoxV w Y ed D q6 (.int .i64 k)) (h7:BoxV w Y ed D q7 (.int .i64 o)) (h8:BoxV w Y ed D q8 (.int .i64 v)):
  WayDoes Y ed D i (.func (.func 213) #[] #[ptr q4,ptr q6,ptr q7,ptr q8]) told err X X2 w:=by
 intro W b0 b1 b2 hs hm hb hbd
 unfold swapE at hf
 simp only[bind,Option.bind_eq_some_iff] at hf
 obtain⟨⟨x,had⟩,hfi,hf⟩:=hf
 dsimp only at hf
 have hstay:∀c err',((had=false∧c=⟨0,[],[],ToldS.zero⟩∧err'=122)∨(had=true∧x≠o∧c=⟨0,[],[],ToldS.zero⟩∧err'=162)∨(had=true∧x=o∧o=v∧c=⟨n.a,[],[],⟨x,true,0,false,0⟩⟩∧err'=0))→∀W',StoreIn W' Y ed D {X with pool:=S1}→Moves Y (Qw Y ed D) (Qw Y ed D) W W'→Calls prog 213 #[.pointer none,.int .i64 n.a,ptr q4,ptr q6,ptr q7,ptr q8] W' (Zi Y.pool c err' S1 W'):=fun c err' hc W' hs' hm'=>
  swapClStay_any W' Y.pool S1 (Y.pt i) (Y.pg i) _ _ _ _ _ hs'.pool (hs'.fixed.pg i hi) (hs'.fixed.pt i hi) q4 q6 q7 q8 n.a k o v x had (h4.moves (hm.trans hm')) (h6.moves (hm.trans hm')) (h7.moves (hm.trans hm')) (h8.moves (hm.trans hm')) ho.1 hfi c err' hc
 by_cases c1:had=false
 ·rw[if_pos c1] at hf
  simp only[Option.some.injEq,Prod.mk.injEq] at hf
  obtain⟨rfl,rfl⟩:=hf
  obtain⟨hne,rfl,rfl,rfl⟩:=he
  exact does2Err_213 W Y ed D X hs i C hd S1 n hn _ _ S1 hl b0 b1 b2 q4 q6 q7 q8 (hstay _ _ (.inl ⟨c1,rfl,rfl⟩)) hb hbd hne
 rw[if_neg c1] at hf
 have c1':had=true:=by simpa using c1
 by_cases c2:x≠o
 ·rw[if_pos c2] at hf
  simp only[Option.some.injEq,Prod.mk.injEq] at hf
  obtain⟨rfl,rfl⟩:=hf
  obtain⟨hne,rfl,rfl,rfl⟩:=he
  exact does2Err_213 W Y ed D X hs i C hd S1 n hn _ _ S1 hl b0 b1 b2 q4 q6 q7 q8 (hstay _ _ (.inr (.inl ⟨c1',c2,rfl,rfl⟩))) hb hbd hne
 rw[if_neg c2] at hf
 have c2':x=o:=by simpa using c2
 by_cases c3:o=v
 ·rw[if_pos c3] at hf
  simp only[Option.some.injEq,Prod.mk.injEq] at hf
  obtain⟨rfl,rfl⟩:=hf
  obtain⟨rfl,⟨h1,rfl,rfl⟩|⟨h1,_⟩⟩:=he
  ·exact does2Stay_213 W Y ed D X hs i C hd S1 n hn _ S1 hl b0 b1 b2 q4 q6 q7 q8 (hstay _ _ (.inr (.inr ⟨c1',c2',c3,rfl,rfl⟩))) hb hbd h1
  ·cases h1
 rw[if_neg c3] at hf
 unfold putE at hf
 simp only[bind,Option.bind_eq_some_iff,Option.some.injEq,Prod.mk.injEq] at hf
 obtain⟨⟨e,S'⟩,hp,rfl,rfl⟩:=hf
 subst c1' c2'
 have hcl:∀W',StoreIn W' Y ed D {X with pool:=S1}→Moves Y (Qw Y ed D) (Qw Y ed D) W W'→Calls prog 213 #[.pointer none,.int .i64 n.a,ptr q4,ptr q6,ptr q7,ptr q8] W' (Zi Y.pool (changed n.a e) 0 S' W'):=fun W' hs' hm'=>
  swapClPut_any W' Y.pool S1 (Y.pt i) (Y.pg i) _ _ _ _ _ hs'.pool (hs'.fixed.pg i hi) (hs'.fixed.pt i hi) (pg_far hs' hi) q4 q6 q7 q8 n.a k x v c3 (h4.moves (hm.trans hm')) (h6.moves (hm.trans hm')) (h7.moves (hm.trans hm')) (h8.moves (hm.trans hm')) ho.1 ho.2.1 ho.2.2 hfi e S' hp
 obtain⟨rfl,⟨h1,rfl,rfl⟩|⟨h1,rfl,C',S3,hpu,rfl⟩⟩:=he
 ·exact does2Stay_213 W Y ed D X hs i C hd S1 n hn _ S' hl b0 b1 b2 q4 q6 q7 q8 hcl hb hbd h1
 ·exact does2Push_213 W Y ed D X hs i C hd S1 n hn _ S' hl b0 b1 b2 q4 q6 q7 q8 hcl hb hbd h1 C' S3 hpu
end Go.Proofs.YteeefedoffplmaaGreat
