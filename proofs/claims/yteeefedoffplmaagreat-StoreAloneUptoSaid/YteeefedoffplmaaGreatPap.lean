/- StoreAlone, part Pap: StoreOps. -/
import Derived.Test.YteeefedoffplmaaGreatPan
import Derived.Test.YteeefedoffplmaaGreatPao
set_option linter.unusedSimpArgs false
set_option linter.unusedVariables false
set_option maxRecDepth 100000
set_option maxHeartbeats 51200000
namespace Go.Proofs.YteeefedoffplmaaGreat
open Go.RowKit Lib Go.Proofs.Tryz
theorem storeOfNo_any (w:World)(Y:StoreL)(hf:Fixed w Y)(k:Int)(hk:Qt k=false):
  Calls prog 78 #[ptr Y.sb,.int .i64 k] w fun e w'=>e=.returned (.tuple #[.int .i64 0,.bool false])∧Only [] w w':=by
 obtain⟨A,c,hsb,_⟩:=hf.sb
 have c6:=hsb.cell (i:=6) rfl
 have HP:=hid (fun W=>part_no k Y.n W hk)
 unfold ptr at *
 clear hf hsb hk
 generalize Y.n=n at *
 go_enter func78,ntmps78
 go_wp2_with (go_at_call 47;refine (HP.out _).mono ?_;rintro e w1 ⟨rfl,rfl⟩)
 try go_quiet (fail)
 try go_wp2_with fail
 go_ret2
 exact⟨by simp,by first|exact Only.refl _ _|exact (Only.refl _ _).drewN _|exact (Only.refl _ _).drew'⟩
section
variable (w:World)(Y:StoreL)(ed:Option Nat)(D:Nat→List Nat)(X X2:StoreS)(h:StoreIn w Y ed D X)(i:Nat)(hi:i<Y.n)(told:ToldS)(err:Int)
include w Y ed D X X2 h i hi told err
theorem storeK_all:(∀(k v:Int) (hpc:∀W,Only [] w W→StoreIn W Y ed D X→Calls prog 54 #[ptr (Y.pt i),.pointer none,.int .i64 k,.int .i64 v] W (Qh Y ed D told err X2 W)) (q5 q6 q7:Nat) (h5:w.cell? ⟨q5,0,none⟩=some (.pointer none)) (h6:w.cell? ⟨q6,0,none⟩=some (.int .i64 k)) (h7:w.cell? ⟨q7,0,none⟩=some (.int .i64 v)),Calls prog 53 #[ptr (Y.pt i),ptr q5,ptr q6,ptr q7] w (Qh Y ed D told err X2 w)) ∧
  (∀(k:Int) (hpc:∀W,Only [] w W→StoreIn W Y ed D X→Calls prog 76 #[ptr (Y.pt i),.pointer none,.int .i64 k] W (Qh Y ed D told err X2 W)) (q5 q6:Nat) (h5:w.cell? ⟨q5,0,none⟩=some (.pointer none)) (h6:w.cell? ⟨q6,0,none⟩=some (.int .i64 k)),Calls prog 75 #[ptr (Y.pt i),ptr q5,ptr q6] w (Qh Y ed D told err X2 w)) ∧
  (∀(k:Int) (hpc:∀W,Only [] w W→StoreIn W Y ed D X→Calls prog 174 #[ptr (Y.pt i),.pointer none,.int .i64 k] W (Qh Y ed D told err X2 W)) (q5 q6:Nat) (h5:w.cell? ⟨q5,0,none⟩=some (.pointer none)) (h6:w.cell? ⟨q6,0,none⟩=some (.int .i64 k)),Calls prog 173 #[ptr (Y.pt i),ptr q5,ptr q6] w (Qh Y ed D told err X2 w)) ∧
  (∀(k o v:Int) (hpc:∀W,Only [] w W→StoreIn W Y ed D X→Calls prog 176 #[ptr (Y.pt i),.pointer none,.int .i64 k,.int .i64 o,.int .i64 v] W (Qh Y ed D told err X2 W)) (q5 q6 q7 q8:Nat) (h5:w.cell? ⟨q5,0,none⟩=some (.pointer none)) (h6:w.cell? ⟨q6,0,none⟩=some (.int .i64 k)) (h7:w.cell? ⟨q7,0,none⟩=some (.int .i64 o)) (h8:w.cell? ⟨q8,0,none⟩=some (.int .i64 v)),Calls prog 175 #[ptr (Y.pt i),ptr q5,ptr q6,ptr q7,ptr q8] w (Qh Y ed D told err X2 w)) ∧
  (∀(A:Option Addr) (n c:Nat) (hpc:∀W,Only [] w W→StoreIn W Y ed D X→Calls prog 97 #[ptr (Y.pt i),.pointer none,.slice A n c] W (Qh Y ed D told err X2 W)) (q5 q6:Nat) (h5:w.cell? ⟨q5,0,none⟩=some (.pointer none)) (h6:w.cell? ⟨q6,0,none⟩=some (.slice A n c)),Calls prog 96 #[ptr (Y.pt i),ptr q5,ptr q6] w (Qh Y ed D told err X2 w)):=by
 have _:=hi
 refine⟨?_,?_,?_,?_,?_⟩
 intro k v hpc q5 q6 q7 h5 h6 h7;have tg1:=0;have tg3:=0;rotate_left
 intro k hpc q5 q6 h5 h6;have tg4:=0;rotate_left
 intro k hpc q5 q6 h5 h6;have tg5:=0;rotate_left
 intro k o v hpc q5 q6 q7 q8 h5 h6 h7 h8;have tg1:=0;have tg2:=0;rotate_left
 intro A n c hpc q5 q6 h5 h6;rotate_left
 all_goals
  obtain⟨w0,hw0⟩:∃w0,w.alloc (.cells #[.int .i64 0,.bool false,.int .i64 0,.bool false,.int .i64 0] 57)=w0:=⟨_,rfl⟩
  have ho0:Only [] w w0:=by rw[←hw0];exact ((Only.refl _ _)).alloc _
  have hb8:Blk w0 (w.heap.size) [.int .i64 0,.bool false,.int .i64 0,.bool false,.int .i64 0] 57:=by
   have:=Blk.new (w) [.int .i64 0,.bool false,.int .i64 0,.bool false,.int .i64 0] 57
   rw[←hw0]
   exact this
  have HDO:=hid (hpc w0 ho0 (h.new ho0))
  have x5:=Qa ho0 h5 (by simp)
  have x6:=Qa ho0 h6 (by simp)
  first|(have _:=tg1;have x7:=Qa ho0 h7 (by simp))|(skip)
  first|(have _:=tg2;have x8:=Qa ho0 h8 (by simp))|(skip)
  have HB8:=hid hb8
  have H:=hid h
  have HO0:=hid ho0
  obtain⟨t0,t1,t2,t3,t4⟩:=told
  unfold Qh ToldS.val ptr at HDO
  unfold Qh ToldS.val
  unfold ptr at *
  dsimp only at HDO ⊢
  first|(have _:=tg3;clear h hpc hb8 ho0 h5 h6 h7;go_enter func53,ntmps53)|(have _:=tg4;clear h hpc hb8 ho0 h5 h6;go_enter func75,ntmps75)|(have _:=tg5;clear h hpc hb8 ho0 h5 h6;go_enter func173,ntmps173)|(have _:=tg2;clear h hpc hb8 ho0 h5 h6 h7 h8;go_enter func175,ntmps175)|(clear h hpc hb8 ho0 h5 h6;go_enter func96,ntmps96)
  go_wp2_with ((first|(have _:=tg3;go_at_call 54)|(have _:=tg4;go_at_call 76)|(have _:=tg5;go_at_call 174)|(have _:=tg2;go_at_call 176)|(go_at_call 97));refine HDO.out.mono ?_;rintro e w2 ⟨D',rfl,hs2,hm2⟩;have hbr2:=wrote_blk H.out hm2 (by omega) HB8.out;have rf:=hbr2.frozen;have r0:=hbr2.cell (i:=0) rfl;have r1:=hbr2.cell (i:=1) rfl;have r2:=hbr2.cell (i:=2) rfl;have r3:=hbr2.cell (i:=3) rfl;have r4:=hbr2.cell (i:=4) rfl;have HFIN:=hid (wrote_fin H.out hs2 HO0.out hm2 (by omega) HB8.out.lt);clear hs2 hm2 hbr2)
  first|(have _:=tg3;exact bodyPost_ret (v:=.tuple #[.agg #[.int .i64 t0,.bool t1,.int .i64 t2,.bool t3,.int .i64 t4],.int .i64 err]) (by simp[results,Tryz.results53,go_sem,r0,r1,r2,r3,r4]) rfl ⟨D',rfl,HFIN.out _ (only5 _ _ _ _ _ _ _)⟩)|(have _:=tg4;exact bodyPost_ret (v:=.tuple #[.agg #[.int .i64 t0,.bool t1,.int .i64 t2,.bool t3,.int .i64 t4],.int .i64 err]) (by simp[results,Tryz.results75,go_sem,r0,r1,r2,r3,r4]) rfl ⟨D',rfl,HFIN.out _ (only5 _ _ _ _ _ _ _)⟩)|(have _:=tg5;exact bodyPost_ret (v:=.tuple #[.agg #[.int .i64 t0,.bool t1,.int .i64 t2,.bool t3,.int .i64 t4],.int .i64 err]) (by simp[results,Tryz.results173,go_sem,r0,r1,r2,r3,r4]) rfl ⟨D',rfl,HFIN.out _ (only5 _ _ _ _ _ _ _)⟩)|(have _:=tg2;exact bodyPost_ret (v:=.tuple #[.agg #[.int .i64 t0,.bool t1,.int .i64 t2,.bool t3,.int .i64 t4],.int .i64 err]) (by simp[results,Tryz.results175,go_sem,r0,r1,r2,r3,r4]) rfl ⟨D',rfl,HFIN.out _ (only5 _ _ _ _ _ _ _)⟩)|(exact bodyPost_ret (v:=.tuple #[.agg #[.int .i64 t0,.bool t1,.int .i64 t2,.bool t3,.int .i64 t4],.int .i64 err]) (by simp[results,Tryz.results96,go_sem,r0,r1,r2,r3,r4]) rfl ⟨D',rfl,HFIN.out _ (only5 _ _ _ _ _ _ _)⟩)
abbrev storePutK_any:=(storeK_all w Y ed D X X2 h i hi told err).1
abbrev storeGetK_any:=(storeK_all w Y ed D X X2 h i hi told err).2.1
abbrev storeDropK_any:=(storeK_all w Y ed D X X2 h i hi told err).2.2.1
abbrev storeSwapK_any:=(storeK_all w Y ed D X X2 h i hi told err).2.2.2.1
abbrev storeManyK_any:=(storeK_all w Y ed D X X2 h i hi told err).2.2.2.2
end
section
variable (w:World)(Y:StoreL)(ed:Option Nat)(D:Nat→List Nat)(X X2:StoreS)(h:StoreIn w Y ed D X)(i:Nat)(hi:i<Y.n)(told:ToldS)(err:Int)
include w Y ed D X X2 h i hi told err
theorem keyed_all:(∀(k v:Int) (hk:Qt k=true) (hpk:Qu k Y.n=(i:Int)) (hpc:∀W,Only [] w W→StoreIn W Y ed D X→Calls prog 54 #[ptr (Y.pt i),.pointer none,.int .i64 k,.int .i64 v] W (Qh Y ed D told err X2 W)) (q5 q6 q7:Nat) (h5:w.cell? ⟨q5,0,none⟩=some (.pointer none)) (h6:w.cell? ⟨q6,0,none⟩=some (.int .i64 k)) (h7:w.cell? ⟨q7,0,none⟩=some (.int .i64 v)),Calls prog 52 #[ptr Y.sb,.pointer none,.int .i64 k,.func (.func 53) #[] #[ptr q5,ptr q6,ptr q7]] w (Qh Y ed D told err X2 w)) ∧
  (∀(k:Int) (hk:Qt k=true) (hpk:Qu k Y.n=(i:Int)) (hpc:∀W,Only [] w W→StoreIn W Y ed D X→Calls prog 76 #[ptr (Y.pt i),.pointer none,.int .i64 k] W (Qh Y ed D told err X2 W)) (q5 q6:Nat) (h5:w.cell? ⟨q5,0,none⟩=some (.pointer none)) (h6:w.cell? ⟨q6,0,none⟩=some (.int .i64 k)),Calls prog 52 #[ptr Y.sb,.pointer none,.int .i64 k,.func (.func 75) #[] #[ptr q5,ptr q6]] w (Qh Y ed D told err X2 w)) ∧
  (∀(k:Int) (hk:Qt k=true) (hpk:Qu k Y.n=(i:Int)) (hpc:∀W,Only [] w W→StoreIn W Y ed D X→Calls prog 174 #[ptr (Y.pt i),.pointer none,.int .i64 k] W (Qh Y ed D told err X2 W)) (q5 q6:Nat) (h5:w.cell? ⟨q5,0,none⟩=some (.pointer none)) (h6:w.cell? ⟨q6,0,none⟩=some (.int .i64 k)),Calls prog 52 #[ptr Y.sb,.pointer none,.int .i64 k,.func (.func 173) #[] #[ptr q5,ptr q6]] w (Qh Y ed D told err X2 w)) ∧
  (∀(k o v:Int) (hk:Qt k=true) (hpk:Qu k Y.n=(i:Int)) (hpc:∀W,Only [] w W→StoreIn W Y ed D X→Calls prog 176 #[ptr (Y.pt i),.pointer none,.int .i64 k,.int .i64 o,.int .i64 v] W (Qh Y ed D told err X2 W)) (q5 q6 q7 q8:Nat) (h5:w.cell? ⟨q5,0,none⟩=some (.pointer none)) (h6:w.cell? ⟨q6,0,none⟩=some (.int .i64 k)) (h7:w.cell? ⟨q7,0,none⟩=some (.int .i64 o)) (h8:w.cell? ⟨q8,0,none⟩=some (.int .i64 v)),Calls prog 52 #[ptr Y.sb,.pointer none,.int .i64 k,.func (.func 175) #[] #[ptr q5,ptr q6,ptr q7,ptr q8]] w (Qh Y ed D told err X2 w)) ∧
  (∀(A:Option Addr) (n c:Nat) (k:Int) (hk:Qt k=true) (hpk:Qu k Y.n=(i:Int)) (hpc:∀W,Only [] w W→StoreIn W Y ed D X→Calls prog 97 #[ptr (Y.pt i),.pointer none,.slice A n c] W (Qh Y ed D told err X2 W)) (q5 q6:Nat) (h5:w.cell? ⟨q5,0,none⟩=some (.pointer none)) (h6:w.cell? ⟨q6,0,none⟩=some (.slice A n c)),Calls prog 52 #[ptr Y.sb,.pointer none,.int .i64 k,.func (.func 96) #[] #[ptr q5,ptr q6]] w (Qh Y ed D told err X2 w)):=by
 refine⟨?_,?_,?_,?_,?_⟩
 intro k v hk hpk hpc q5 q6 q7 h5 h6 h7;have tg1:=0;rotate_left
 intro k hk hpk hpc q5 q6 h5 h6;have tg2:=0;have tg5:=0;rotate_left
 intro k hk hpk hpc q5 q6 h5 h6;have tg3:=0;have tg5:=0;rotate_left
 intro k o v hk hpk hpc q5 q6 q7 q8 h5 h6 h7 h8;have tg4:=0;rotate_left
 intro A n c k hk hpk hpc q5 q6 h5 h6;have tg5:=0;rotate_left
 all_goals
  obtain⟨w0,hw0⟩:∃w0,w.alloc (.cells #[.int .i64 0,.bool false,.int .i64 0,.bool false,.int .i64 0] 57)=w0:=⟨_,rfl⟩
  have ho0:Only [] w w0:=by rw[←hw0];exact ((Only.refl _ _)).alloc _
  have hb8:Blk w0 (w.heap.size) [.int .i64 0,.bool false,.int .i64 0,.bool false,.int .i64 0] 57:=by
   have:=Blk.new (w) [.int .i64 0,.bool false,.int .i64 0,.bool false,.int .i64 0] 57
   rw[←hw0]
   exact this
  have hof:=storeOf_any w0 Y (h.new ho0).fixed (by have:=h.ok.n;omega) k hk
  rw[hpk] at hof
  first|(have _:=tg1;have HCL:=hid (fun W (ho:Only [] w W)=>storePutK_any W Y ed D X X2 (h.new ho) i hi told err k v (fun W' ho'=>hpc W' (ho.trans ho')) q5 q6 q7 (Qa ho h5 (by simp)) (Qa ho h6 (by simp)) (Qa ho h7 (by simp))))|(have _:=tg2;have HCL:=hid (fun W (ho:Only [] w W)=>storeGetK_any W Y ed D X X2 (h.new ho) i hi told err k (fun W' ho'=>hpc W' (ho.trans ho')) q5 q6 (Qa ho h5 (by simp)) (Qa ho h6 (by simp))))|(have _:=tg3;have HCL:=hid (fun W (ho:Only [] w W)=>storeDropK_any W Y ed D X X2 (h.new ho) i hi told err k (fun W' ho'=>hpc W' (ho.trans ho')) q5 q6 (Qa ho h5 (by simp)) (Qa ho h6 (by simp))))|(have _:=tg4;have HCL:=hid (fun W (ho:Only [] w W)=>storeSwapK_any W Y ed D X X2 (h.new ho) i hi told err k o v (fun W' ho'=>hpc W' (ho.trans ho')) q5 q6 q7 q8 (Qa ho h5 (by simp)) (Qa ho h6 (by simp)) (Qa ho h7 (by simp)) (Qa ho h8 (by simp))))|(have HCL:=hid (fun W (ho:Only [] w W)=>storeManyK_any W Y ed D X X2 (h.new ho) i hi told err A n c (fun W' ho'=>hpc W' (ho.trans ho')) q5 q6 (Qa ho h5 (by simp)) (Qa ho h6 (by simp))))
  have HSB:=hid (fun W (ho:Only [] w W)=>(h.new ho).fixed.sb)
  have HB8:=hid hb8
  have H:=hid h
  have HO0:=hid ho0
  have HOF:=hid hof
  obtain⟨t0,t1,t2,t3,t4⟩:=told
  unfold Qh ToldS.val ptr at HCL
  unfold Qh ToldS.val
  unfold ptr at *
  dsimp only at HCL ⊢
  have h0i:(0:Int)≤(i:Int):=by omega
  have hin:(i:Int)<(Y.n:Int):=by omega
  first|(have _:=tg1;clear h hpc hb8 ho0 hof hk hpk h5 h6 h7)|(have _:=tg5;clear h hpc hb8 ho0 hof hk hpk h5 h6)|(clear h hpc hb8 ho0 hof hk hpk h5 h6 h7 h8)
  go_enter func52,ntmps52
  go_wp2_with (first|(go_at_call 78;refine HOF.out.mono ?_;rintro e w1 ⟨rfl,ho1⟩;have HO1:=hid (HO0.out.trans ho1);have HB1:=hid (HB8.out.only ho1 (by simp));obtain⟨A',c',hsb,hrow⟩:=HSB.out w1 HO1.out;have c6:=hsb.cell (i:=6) rfl;obtain⟨pb,rfl,_,hc⟩:=hrow i (.pointer (some ⟨Y.pt i,0,none⟩)) (by simp[hi,ptr]);clear ho1 hsb hrow)|((first|(have _:=tg1;go_at_call 53)|(have _:=tg2;go_at_call 75)|(have _:=tg3;go_at_call 173)|(have _:=tg4;go_at_call 175)|(go_at_call 96));refine (HCL.out _ HO1.out).mono ?_;rintro e w2 ⟨D',rfl,hs2,hm2⟩;have hbr2:=wrote_blk H.out hm2 (by omega) HB1.out;have rf:=hbr2.frozen;have r0:=hbr2.cell (i:=0) rfl;have r1:=hbr2.cell (i:=1) rfl;have r2:=hbr2.cell (i:=2) rfl;have r3:=hbr2.cell (i:=3) rfl;have r4:=hbr2.cell (i:=4) rfl;have HFIN:=hid (wrote_fin H.out hs2 HO1.out hm2 (by omega) HB1.out.lt);clear hs2 hm2 hbr2))
  exact bodyPost_ret (v:=.tuple #[.agg #[.int .i64 t0,.bool t1,.int .i64 t2,.bool t3,.int .i64 t4],.int .i64 err]) (by simp[results,Tryz.results52,go_sem,r0,r1,r2,r3,r4]) rfl ⟨D',rfl,HFIN.out _ (only5 _ _ _ _ _ _ _)⟩
abbrev keyedPut_any:=(keyed_all w Y ed D X X2 h i hi told err).1
abbrev keyedGet_any:=(keyed_all w Y ed D X X2 h i hi told err).2.1
abbrev keyedDrop_any:=(keyed_all w Y ed D X X2 h i hi told err).2.2.1
abbrev keyedSwap_any:=(keyed_all w Y ed D X X2 h i hi told err).2.2.2.1
abbrev keyedMany_any:=(keyed_all w Y ed D X X2 h i hi told err).2.2.2.2
end
section
variable (w:World)(Y:StoreL)(ed:Option Nat)(D:Nat→List Nat)(X:StoreS)(h:StoreIn w Y ed D X)(k:Int)(hk:Qt k=false)(caps:Array Value)
include w Y ed D X h k hk caps
theorem keyedNo_all:(Calls prog 52 #[ptr Y.sb,.pointer none,.int .i64 k,.func (.func 53) #[] caps] w (Qh Y ed D ToldS.zero 161 X w)) ∧
  (Calls prog 52 #[ptr Y.sb,.pointer none,.int .i64 k,.func (.func 75) #[] caps] w (Qh Y ed D ToldS.zero 161 X w)) ∧
  (Calls prog 52 #[ptr Y.sb,.pointer none,.int .i64 k,.func (.func 173) #[] caps] w (Qh Y ed D ToldS.zero 161 X w)) ∧
  (Calls prog 52 #[ptr Y.sb,.pointer none,.int .i64 k,.func (.func 175) #[] caps] w (Qh Y ed D ToldS.zero 161 X w)) ∧
  (Calls prog 52 #[ptr Y.sb,.pointer none,.int .i64 k,.func (.func 96) #[] caps] w (Qh Y ed D ToldS.zero 161 X w)):=by
 refine⟨?_,?_,?_,?_,?_⟩
 rotate_left
 rotate_left
 rotate_left
 rotate_left
 rotate_left
 all_goals
  obtain⟨w0,hw0⟩:∃w0,w.alloc (.cells #[.int .i64 0,.bool false,.int .i64 0,.bool false,.int .i64 0] 57)=w0:=⟨_,rfl⟩
  have ho0:Only [] w w0:=by rw[←hw0];exact ((Only.refl _ _)).alloc _
  have hb8:Blk w0 (w.heap.size) [.int .i64 0,.bool false,.int .i64 0,.bool false,.int .i64 0] 57:=by
   have:=Blk.new (w) [.int .i64 0,.bool false,.int .i64 0,.bool false,.int .i64 0] 57
   rw[←hw0]
   exact this
  have HOF:=hid (storeOfNo_any w0 Y (h.new ho0).fixed k hk)
  have HB8:=hid hb8
  have H:=hid h
  have HO0:=hid ho0
  unfold Qh ToldS.val
  dsimp only [ToldS.zero]
  unfold ptr at *
  clear h hb8 ho0 hk
  go_enter func52,ntmps52
  go_wp2_with (first|(go_at_call 78;refine HOF.out.mono ?_;rintro e w2 ⟨rfl,ho1⟩;have hbr2:=HB8.out.only ho1 (by simp);have rf:=hbr2.frozen;have rlt:=hbr2.lt;have r0:=hbr2.cell (i:=0) rfl;have r1:=hbr2.cell (i:=1) rfl;have r2:=hbr2.cell (i:=2) rfl;have r3:=hbr2.cell (i:=3) rfl;have r4:=hbr2.cell (i:=4) rfl;have HFIN:=hid (wrote_fin H.out (H.out.new (HO0.out.trans ho1)) HO0.out (Moves.of_new ho1) (by omega) HB8.out.lt);clear ho1 hbr2)|(go_at_call 71;refine (Qx _).mono ?_;rintro e w' ⟨rfl,rfl⟩))
  exact bodyPost_ret (v:=.tuple #[.agg #[.int .i64 0,.bool false,.int .i64 0,.bool false,.int .i64 0],.int .i64 161]) (by simp[results,Tryz.results52,go_sem,r0,r1,r2,r3,r4]) rfl ⟨D,rfl,HFIN.out _ (only5 _ _ _ _ _ _ _)⟩
abbrev keyedPutNo_any:=(keyedNo_all w Y ed D X h k hk caps).1
abbrev keyedGetNo_any:=(keyedNo_all w Y ed D X h k hk caps).2.1
abbrev keyedDropNo_any:=(keyedNo_all w Y ed D X h k hk caps).2.2.1
abbrev keyedSwapNo_any:=(keyedNo_all w Y ed D X h k hk caps).2.2.2.1
abbrev keyedManyNo_any:=(keyedNo_all w Y ed D X h k hk caps).2.2.2.2
end
section
variable (w:World)(Y:StoreL)(ed:Option Nat)(D:Nat→List Nat)(X X2:StoreS)(h:StoreIn w Y ed D X)(i:Nat)(hi:i<Y.n)(told:ToldS)(err:Int)
include w Y ed D X X2 h i hi told err
theorem storeOp_all:(∀(k v:Int) (hk:Qt k=true) (hpk:Qu k Y.n=(i:Int)) (hpc:∀W,Only [] w W→StoreIn W Y ed D X→Calls prog 54 #[ptr (Y.pt i),.pointer none,.int .i64 k,.int .i64 v] W (Qh Y ed D told err X2 W)),Calls prog 18 #[ptr Y.sb,.pointer none,.int .i64 k,.int .i64 v] w (Qh Y ed D told err X2 w)) ∧
  (∀(k:Int) (hk:Qt k=true) (hpk:Qu k Y.n=(i:Int)) (hpc:∀W,Only [] w W→StoreIn W Y ed D X→Calls prog 76 #[ptr (Y.pt i),.pointer none,.int .i64 k] W (Qh Y ed D told err X2 W)),Calls prog 28 #[ptr Y.sb,.pointer none,.int .i64 k] w (Qh Y ed D told err X2 w)) ∧
  (∀(k:Int) (hk:Qt k=true) (hpk:Qu k Y.n=(i:Int)) (hpc:∀W,Only [] w W→StoreIn W Y ed D X→Calls prog 174 #[ptr (Y.pt i),.pointer none,.int .i64 k] W (Qh Y ed D told err X2 W)),Calls prog 107 #[ptr Y.sb,.pointer none,.int .i64 k] w (Qh Y ed D told err X2 w)) ∧
  (∀(k o v:Int) (hk:Qt k=true) (hpk:Qu k Y.n=(i:Int)) (hpc:∀W,Only [] w W→StoreIn W Y ed D X→Calls prog 176 #[ptr (Y.pt i),.pointer none,.int .i64 k,.int .i64 o,.int .i64 v] W (Qh Y ed D told err X2 W)),Calls prog 108 #[ptr Y.sb,.pointer none,.int .i64 k,.int .i64 o,.int .i64 v] w (Qh Y ed D told err X2 w)) ∧
  (∀(A:Option Addr) (n c:Nat) (key:Int) (hl:(n=0∧key=0)∨(0<n∧∃b off,A=some ⟨b,off,none⟩∧w.cell? ⟨b,off,none⟩=some (.int .i64 key))) (hk:Qt key=true) (hpk:Qu key Y.n=(i:Int)) (hpc:∀W,Only [] w W→StoreIn W Y ed D X→Calls prog 97 #[ptr (Y.pt i),.pointer none,.slice A n c] W (Qh Y ed D told err X2 W)),Calls prog 36 #[ptr Y.sb,.pointer none,.slice A n c] w (Qh Y ed D told err X2 w)):=by
 refine⟨?_,?_,?_,?_,?_⟩
 intro k v hk hpk hpc;have tg1:=0;have tg6:=0;have tg9:=0;rotate_left
 intro k hk hpk hpc;have tg2:=0;have tg4:=0;have tg6:=0;have tg7:=0;rotate_left
 intro k hk hpk hpc;have tg2:=0;have tg4:=0;have tg6:=0;have tg8:=0;rotate_left
 intro k o v hk hpk hpc;have tg5:=0;have tg6:=0;have tg9:=0;rotate_left
 intro A n c key hl hk hpk hpc;have tg3:=0;have tg4:=0;rotate_left
 all_goals
  have hmf:∀(fn:Fn) (first cap:Array Value) (w:World),(Instr.makeFunc fn first cap).run prog w=.ok (.func fn first cap) w:=fun _ _ _ _=>rfl
  first|(have _:=tg1;obtain⟨w0,hw0⟩:∃w0,(((w.alloc (.cells #[.pointer none] 126)).alloc (.cells #[.int .i64 k] 3)).alloc (.cells #[.int .i64 v] 3)).alloc (.cells #[.int .i64 0,.bool false,.int .i64 0,.bool false,.int .i64 0] 57)=w0:=⟨_,rfl⟩;have ho0:Only [] w w0:=by rw[←hw0];exact (((((Only.refl _ _)).alloc _).alloc _).alloc _).alloc _)|(have _:=tg2;obtain⟨w0,hw0⟩:∃w0,((w.alloc (.cells #[.pointer none] 126)).alloc (.cells #[.int .i64 k] 3)).alloc (.cells #[.int .i64 0,.bool false,.int .i64 0,.bool false,.int .i64 0] 57)=w0:=⟨_,rfl⟩)|(have _:=tg3;obtain⟨w0,hw0⟩:∃w0,((w.alloc (.cells #[.pointer none] 126)).alloc (.cells #[.slice A n c] 29)).alloc (.cells #[.int .i64 0,.bool false,.int .i64 0,.bool false,.int .i64 0] 57)=w0:=⟨_,rfl⟩)|(skip)
  first|(have _:=tg4;have ho0:Only [] w w0:=by rw[←hw0];exact ((((Only.refl _ _)).alloc _).alloc _).alloc _)|(have _:=tg5;obtain⟨w0,hw0⟩:∃w0,((((w.alloc (.cells #[.pointer none] 126)).alloc (.cells #[.int .i64 k] 3)).alloc (.cells #[.int .i64 o] 3)).alloc (.cells #[.int .i64 v] 3)).alloc (.cells #[.int .i64 0,.bool false,.int .i64 0,.bool false,.int .i64 0] 57)=w0:=⟨_,rfl⟩;have ho0:Only [] w w0:=by rw[←hw0];exact ((((((Only.refl _ _)).alloc _).alloc _).alloc _).alloc _).alloc _)|(skip)
  have hb5:Blk w0 (w.heap.size) [.pointer none] 126:=by
   have:=Blk.new (w) [.pointer none] 126
   rw[←hw0]
   first|(have _:=tg1;exact (((this).alloc _).alloc _).alloc _)|(have _:=tg4;exact ((this).alloc _).alloc _)|(exact ((((this).alloc _).alloc _).alloc _).alloc _)
  first
  |have _:=tg6
   have hb6:Blk w0 (w.heap.size+1) [.int .i64 k] 3:=by
    have:=Blk.new (w.alloc (.cells #[.pointer none] 126)) [.int .i64 k] 3
    rw[World.size_alloc] at this
    rw[←hw0]
    first|(have _:=tg1;exact ((this).alloc _).alloc _)|(have _:=tg2;exact (this).alloc _)|(exact (((this).alloc _).alloc _).alloc _)
  |skip
  first
  |have _:=tg1
   have hb7:Blk w0 (w.heap.size+1+1) [.int .i64 v] 3:=by
    have:=Blk.new ((w.alloc (.cells #[.pointer none] 126)).alloc (.cells #[.int .i64 k] 3)) [.int .i64 v] 3
    rw[World.size_alloc,World.size_alloc] at this
    rw[←hw0]
    exact (this).alloc _
   have hbR:Blk w0 (w.heap.size+1+1+1) [.int .i64 0,.bool false,.int .i64 0,.bool false,.int .i64 0] 57:=by
    have:=Blk.new (((w.alloc (.cells #[.pointer none] 126)).alloc (.cells #[.int .i64 k] 3)).alloc (.cells #[.int .i64 v] 3)) [.int .i64 0,.bool false,.int .i64 0,.bool false,.int .i64 0] 57
    rw[World.size_alloc,World.size_alloc,World.size_alloc] at this
    rw[←hw0]
    exact this
   have HDO:=hid (keyedPut_any w0 Y ed D X X2 (h.new ho0) i hi told err k v hk hpk (fun W ho=>hpc W (ho0.trans ho)) (w.heap.size) (w.heap.size+1) (w.heap.size+1+1) (hb5.cell rfl) (hb6.cell rfl) (hb7.cell rfl))
  |have _:=tg3
   have hb6:Blk w0 (w.heap.size+1) [.slice A n c] 29:=by
    have:=Blk.new (w.alloc (.cells #[.pointer none] 126)) [.slice A n c] 29
    rw[World.size_alloc] at this
    rw[←hw0]
    exact (this).alloc _
  |skip
  first
  |have _:=tg4
   have hbR:Blk w0 (w.heap.size+1+1) [.int .i64 0,.bool false,.int .i64 0,.bool false,.int .i64 0] 57:=by
    first|(have _:=tg2;have:=Blk.new ((w.alloc (.cells #[.pointer none] 126)).alloc (.cells #[.int .i64 k] 3)) [.int .i64 0,.bool false,.int .i64 0,.bool false,.int .i64 0] 57)|(have:=Blk.new ((w.alloc (.cells #[.pointer none] 126)).alloc (.cells #[.slice A n c] 29)) [.int .i64 0,.bool false,.int .i64 0,.bool false,.int .i64 0] 57)
    rw[World.size_alloc,World.size_alloc] at this
    rw[←hw0]
    exact this
  |skip
  first
  |have _:=tg7
   have HDO:=hid (keyedGet_any w0 Y ed D X X2 (h.new ho0) i hi told err k hk hpk (fun W ho=>hpc W (ho0.trans ho)) (w.heap.size) (w.heap.size+1) (hb5.cell rfl) (hb6.cell rfl))
  |have _:=tg8
   have HDO:=hid (keyedDrop_any w0 Y ed D X X2 (h.new ho0) i hi told err k hk hpk (fun W ho=>hpc W (ho0.trans ho)) (w.heap.size) (w.heap.size+1) (hb5.cell rfl) (hb6.cell rfl))
  |have _:=tg5
   have hb7:Blk w0 (w.heap.size+1+1) [.int .i64 o] 3:=by
    have:=Blk.new ((w.alloc (.cells #[.pointer none] 126)).alloc (.cells #[.int .i64 k] 3)) [.int .i64 o] 3
    rw[World.size_alloc,World.size_alloc] at this
    rw[←hw0]
    exact ((this).alloc _).alloc _
   have hb8:Blk w0 (w.heap.size+1+1+1) [.int .i64 v] 3:=by
    have:=Blk.new (((w.alloc (.cells #[.pointer none] 126)).alloc (.cells #[.int .i64 k] 3)).alloc (.cells #[.int .i64 o] 3)) [.int .i64 v] 3
    rw[World.size_alloc,World.size_alloc,World.size_alloc] at this
    rw[←hw0]
    exact (this).alloc _
   have hbR:Blk w0 (w.heap.size+1+1+1+1) [.int .i64 0,.bool false,.int .i64 0,.bool false,.int .i64 0] 57:=by
    have:=Blk.new ((((w.alloc (.cells #[.pointer none] 126)).alloc (.cells #[.int .i64 k] 3)).alloc (.cells #[.int .i64 o] 3)).alloc (.cells #[.int .i64 v] 3)) [.int .i64 0,.bool false,.int .i64 0,.bool false,.int .i64 0] 57
    rw[World.size_alloc,World.size_alloc,World.size_alloc,World.size_alloc] at this
    rw[←hw0]
    exact this
   have HDO:=hid (keyedSwap_any w0 Y ed D X X2 (h.new ho0) i hi told err k o v hk hpk (fun W ho=>hpc W (ho0.trans ho)) (w.heap.size) (w.heap.size+1) (w.heap.size+1+1) (w.heap.size+1+1+1) (hb5.cell rfl) (hb6.cell rfl) (hb7.cell rfl) (hb8.cell rfl))
  |have _:=tg3
   have HDO:=hid (keyedMany_any w0 Y ed D X X2 (h.new ho0) i hi told err A n c key hk hpk (fun W ho=>hpc W (ho0.trans ho)) (w.heap.size) (w.heap.size+1) (hb5.cell rfl) (hb6.cell rfl))
  |skip
  have p5:=hb5.cell (i:=0) rfl
  have p6:=hb6.cell (i:=0) rfl
  first|(have _:=tg9;have p7:=hb7.cell (i:=0) rfl)|(skip)
  first|(have _:=tg5;have p8:=hb8.cell (i:=0) rfl)|(skip)
  have HB8:=hid hbR
  have H:=hid h
  have HO0:=hid ho0
  obtain⟨t0,t1,t2,t3,t4⟩:=told
  unfold Qh ToldS.val ptr at HDO
  unfold Qh ToldS.val
  unfold ptr at *
  dsimp only at HDO ⊢
  first|(have _:=tg1;clear h hpc ho0 hk hpk hb5 hb6 hb7 hbR;go_enter func18,ntmps18)|(have _:=tg2;clear h hpc ho0 hk hpk hb5 hb6 hbR)|(skip)
  first|(have _:=tg7;go_enter func28,ntmps28)|(have _:=tg8;go_enter func107,ntmps107)|(have _:=tg5;clear h hpc ho0 hk hpk hb5 hb6 hb7 hb8 hbR;go_enter func108,ntmps108)|(skip)
  first|(have _:=tg6;go_wp2_with (go_at_call 52;refine HDO.out.mono ?_;rintro e w2 ⟨D',rfl,hs2,hm2⟩;have hbr2:=wrote_blk H.out hm2 (by omega) HB8.out;have rf:=hbr2.frozen;have r0:=hbr2.cell (i:=0) rfl;have r1:=hbr2.cell (i:=1) rfl;have r2:=hbr2.cell (i:=2) rfl;have r3:=hbr2.cell (i:=3) rfl;have r4:=hbr2.cell (i:=4) rfl;have HFIN:=hid (wrote_fin H.out hs2 HO0.out hm2 (by omega) HB8.out.lt);clear hs2 hm2 hbr2))|(skip)
  first
  |have _:=tg1
   exact bodyPost_ret (v:=.tuple #[.agg #[.int .i64 t0,.bool t1,.int .i64 t2,.bool t3,.int .i64 t4],.int .i64 err]) (by simp[results,Tryz.results18,go_sem,r0,r1,r2,r3,r4]) rfl ⟨D',rfl,HFIN.out _ (only5 _ _ _ _ _ _ _)⟩
  |have _:=tg7
   exact bodyPost_ret (v:=.tuple #[.agg #[.int .i64 t0,.bool t1,.int .i64 t2,.bool t3,.int .i64 t4],.int .i64 err]) (by simp[results,Tryz.results28,go_sem,r0,r1,r2,r3,r4]) rfl ⟨D',rfl,HFIN.out _ (only5 _ _ _ _ _ _ _)⟩
  |have _:=tg8
   exact bodyPost_ret (v:=.tuple #[.agg #[.int .i64 t0,.bool t1,.int .i64 t2,.bool t3,.int .i64 t4],.int .i64 err]) (by simp[results,Tryz.results107,go_sem,r0,r1,r2,r3,r4]) rfl ⟨D',rfl,HFIN.out _ (only5 _ _ _ _ _ _ _)⟩
  |have _:=tg5
   exact bodyPost_ret (v:=.tuple #[.agg #[.int .i64 t0,.bool t1,.int .i64 t2,.bool t3,.int .i64 t4],.int .i64 err]) (by simp[results,Tryz.results108,go_sem,r0,r1,r2,r3,r4]) rfl ⟨D',rfl,HFIN.out _ (only5 _ _ _ _ _ _ _)⟩
  |rcases hl with ⟨rfl,rfl⟩|⟨hn0,b,off,rfl,hcell⟩
   ·have hq:¬((0:Nat):Int) > 0:=by omega
    clear h hpc hpk ho0 hk hb5 hb6 hbR
    go_enter func36,ntmps36
    go_wp2_with (go_at_call 52;refine HDO.out.mono ?_;rintro e w2 ⟨D',rfl,hs2,hm2⟩;have hbr2:=wrote_blk H.out hm2 (by omega) HB8.out;have rf:=hbr2.frozen;have r0:=hbr2.cell (i:=0) rfl;have r1:=hbr2.cell (i:=1) rfl;have r2:=hbr2.cell (i:=2) rfl;have r3:=hbr2.cell (i:=3) rfl;have r4:=hbr2.cell (i:=4) rfl;have HFIN:=hid (wrote_fin H.out hs2 HO0.out hm2 (by omega) HB8.out.lt);clear hs2 hm2 hbr2)
    exact bodyPost_ret (v:=.tuple #[.agg #[.int .i64 t0,.bool t1,.int .i64 t2,.bool t3,.int .i64 t4],.int .i64 err]) (by simp[results,Tryz.results36,go_sem,r0,r1,r2,r3,r4]) rfl ⟨D',rfl,HFIN.out _ (only5 _ _ _ _ _ _ _)⟩
   ·have hq:(n:Int) > 0:=by omega
    have hc0:=Qa ho0 hcell (by simp)
    clear hcell
    clear h hpc hpk ho0 hk hb5 hb6 hbR
    go_enter func36,ntmps36
    go_wp2_with (go_at_call 52;refine HDO.out.mono ?_;rintro e w2 ⟨D',rfl,hs2,hm2⟩;have hbr2:=wrote_blk H.out hm2 (by omega) HB8.out;have rf:=hbr2.frozen;have r0:=hbr2.cell (i:=0) rfl;have r1:=hbr2.cell (i:=1) rfl;have r2:=hbr2.cell (i:=2) rfl;have r3:=hbr2.cell (i:=3) rfl;have r4:=hbr2.cell (i:=4) rfl;have HFIN:=hid (wrote_fin H.out hs2 HO0.out hm2 (by omega) HB8.out.lt);clear hs2 hm2 hbr2)
    exact bodyPost_ret (v:=.tuple #[.agg #[.int .i64 t0,.bool t1,.int .i64 t2,.bool t3,.int .i64 t4],.int .i64 err]) (by simp[results,Tryz.results36,go_sem,r0,r1,r2,r3,r4]) rfl ⟨D',rfl,HFIN.out _ (only5 _ _ _ _ _ _ _)⟩
abbrev storePutOp_any:=(storeOp_all w Y ed D X X2 h i hi told err).1
abbrev storeGetOp_any:=(storeOp_all w Y ed D X X2 h i hi told err).2.1
abbrev storeDropOp_any:=(storeOp_all w Y ed D X X2 h i hi told err).2.2.1
abbrev storeSwapOp_any:=(storeOp_all w Y ed D X X2 h i hi told err).2.2.2.1
abbrev storeManyOp_any:=(storeOp_all w Y ed D X X2 h i hi told err).2.2.2.2
end
section
variable (w:World)(Y:StoreL)(ed:Option Nat)(D:Nat→List Nat)(X:StoreS)(h:StoreIn w Y ed D X)
include w Y ed D X h
theorem storeNo_all:(∀(k v:Int) (hk:Qt k=false),Calls prog 18 #[ptr Y.sb,.pointer none,.int .i64 k,.int .i64 v] w (Qh Y ed D ToldS.zero 161 X w)) ∧
  (∀(k:Int) (hk:Qt k=false),Calls prog 28 #[ptr Y.sb,.pointer none,.int .i64 k] w (Qh Y ed D ToldS.zero 161 X w)) ∧
  (∀(k:Int) (hk:Qt k=false),Calls prog 107 #[ptr Y.sb,.pointer none,.int .i64 k] w (Qh Y ed D ToldS.zero 161 X w)) ∧
  (∀(k o v:Int) (hk:Qt k=false),Calls prog 108 #[ptr Y.sb,.pointer none,.int .i64 k,.int .i64 o,.int .i64 v] w (Qh Y ed D ToldS.zero 161 X w)) ∧
  (∀(A:Option Addr) (n c:Nat) (key:Int) (hl:(n=0∧key=0)∨(0<n∧∃b off,A=some ⟨b,off,none⟩∧w.cell? ⟨b,off,none⟩=some (.int .i64 key))) (hk:Qt key=false),Calls prog 36 #[ptr Y.sb,.pointer none,.slice A n c] w (Qh Y ed D ToldS.zero 161 X w)):=by
 refine⟨?_,?_,?_,?_,?_⟩
 intro k v hk;have tg1:=0;have tg6:=0;have tg9:=0;rotate_left
 intro k hk;have tg2:=0;have tg4:=0;have tg6:=0;have tg7:=0;rotate_left
 intro k hk;have tg2:=0;have tg4:=0;have tg6:=0;have tg8:=0;rotate_left
 intro k o v hk;have tg5:=0;have tg6:=0;have tg9:=0;rotate_left
 intro A n c key hl hk;have tg3:=0;have tg4:=0;rotate_left
 all_goals
  have hmf:∀(fn:Fn) (first cap:Array Value) (w:World),(Instr.makeFunc fn first cap).run prog w=.ok (.func fn first cap) w:=fun _ _ _ _=>rfl
  first|(have _:=tg1;obtain⟨w0,hw0⟩:∃w0,(((w.alloc (.cells #[.pointer none] 126)).alloc (.cells #[.int .i64 k] 3)).alloc (.cells #[.int .i64 v] 3)).alloc (.cells #[.int .i64 0,.bool false,.int .i64 0,.bool false,.int .i64 0] 57)=w0:=⟨_,rfl⟩;have ho0:Only [] w w0:=by rw[←hw0];exact (((((Only.refl _ _)).alloc _).alloc _).alloc _).alloc _)|(have _:=tg2;obtain⟨w0,hw0⟩:∃w0,((w.alloc (.cells #[.pointer none] 126)).alloc (.cells #[.int .i64 k] 3)).alloc (.cells #[.int .i64 0,.bool false,.int .i64 0,.bool false,.int .i64 0] 57)=w0:=⟨_,rfl⟩)|(have _:=tg3;obtain⟨w0,hw0⟩:∃w0,((w.alloc (.cells #[.pointer none] 126)).alloc (.cells #[.slice A n c] 29)).alloc (.cells #[.int .i64 0,.bool false,.int .i64 0,.bool false,.int .i64 0] 57)=w0:=⟨_,rfl⟩)|(skip)
  first|(have _:=tg4;have ho0:Only [] w w0:=by rw[←hw0];exact ((((Only.refl _ _)).alloc _).alloc _).alloc _)|(have _:=tg5;obtain⟨w0,hw0⟩:∃w0,((((w.alloc (.cells #[.pointer none] 126)).alloc (.cells #[.int .i64 k] 3)).alloc (.cells #[.int .i64 o] 3)).alloc (.cells #[.int .i64 v] 3)).alloc (.cells #[.int .i64 0,.bool false,.int .i64 0,.bool false,.int .i64 0] 57)=w0:=⟨_,rfl⟩;have ho0:Only [] w w0:=by rw[←hw0];exact ((((((Only.refl _ _)).alloc _).alloc _).alloc _).alloc _).alloc _)|(skip)
  have hb5:Blk w0 (w.heap.size) [.pointer none] 126:=by
   have:=Blk.new (w) [.pointer none] 126
   rw[←hw0]
   first|(have _:=tg1;exact (((this).alloc _).alloc _).alloc _)|(have _:=tg4;exact ((this).alloc _).alloc _)|(exact ((((this).alloc _).alloc _).alloc _).alloc _)
  first
  |have _:=tg6
   have hb6:Blk w0 (w.heap.size+1) [.int .i64 k] 3:=by
    have:=Blk.new (w.alloc (.cells #[.pointer none] 126)) [.int .i64 k] 3
    rw[World.size_alloc] at this
    rw[←hw0]
    first|(have _:=tg1;exact ((this).alloc _).alloc _)|(have _:=tg2;exact (this).alloc _)|(exact (((this).alloc _).alloc _).alloc _)
  |skip
  first
  |have _:=tg1
   have hb7:Blk w0 (w.heap.size+1+1) [.int .i64 v] 3:=by
    have:=Blk.new ((w.alloc (.cells #[.pointer none] 126)).alloc (.cells #[.int .i64 k] 3)) [.int .i64 v] 3
    rw[World.size_alloc,World.size_alloc] at this
    rw[←hw0]
    exact (this).alloc _
   have hbR:Blk w0 (w.heap.size+1+1+1) [.int .i64 0,.bool false,.int .i64 0,.bool false,.int .i64 0] 57:=by
    have:=Blk.new (((w.alloc (.cells #[.pointer none] 126)).alloc (.cells #[.int .i64 k] 3)).alloc (.cells #[.int .i64 v] 3)) [.int .i64 0,.bool false,.int .i64 0,.bool false,.int .i64 0] 57
    rw[World.size_alloc,World.size_alloc,World.size_alloc] at this
    rw[←hw0]
    exact this
   have HDO:=hid (keyedPutNo_any w0 Y ed D X (h.new ho0) k hk #[ptr (w.heap.size),ptr (w.heap.size+1),ptr (w.heap.size+1+1)])
  |have _:=tg3
   have hb6:Blk w0 (w.heap.size+1) [.slice A n c] 29:=by
    have:=Blk.new (w.alloc (.cells #[.pointer none] 126)) [.slice A n c] 29
    rw[World.size_alloc] at this
    rw[←hw0]
    exact (this).alloc _
  |skip
  first
  |have _:=tg4
   have hbR:Blk w0 (w.heap.size+1+1) [.int .i64 0,.bool false,.int .i64 0,.bool false,.int .i64 0] 57:=by
    first|(have _:=tg2;have:=Blk.new ((w.alloc (.cells #[.pointer none] 126)).alloc (.cells #[.int .i64 k] 3)) [.int .i64 0,.bool false,.int .i64 0,.bool false,.int .i64 0] 57)|(have:=Blk.new ((w.alloc (.cells #[.pointer none] 126)).alloc (.cells #[.slice A n c] 29)) [.int .i64 0,.bool false,.int .i64 0,.bool false,.int .i64 0] 57)
    rw[World.size_alloc,World.size_alloc] at this
    rw[←hw0]
    exact this
  |skip
  first
  |have _:=tg7
   have HDO:=hid (keyedGetNo_any w0 Y ed D X (h.new ho0) k hk #[ptr (w.heap.size),ptr (w.heap.size+1)])
  |have _:=tg8
   have HDO:=hid (keyedDropNo_any w0 Y ed D X (h.new ho0) k hk #[ptr (w.heap.size),ptr (w.heap.size+1)])
  |have _:=tg5
   have hb7:Blk w0 (w.heap.size+1+1) [.int .i64 o] 3:=by
    have:=Blk.new ((w.alloc (.cells #[.pointer none] 126)).alloc (.cells #[.int .i64 k] 3)) [.int .i64 o] 3
    rw[World.size_alloc,World.size_alloc] at this
    rw[←hw0]
    exact ((this).alloc _).alloc _
   have hb8:Blk w0 (w.heap.size+1+1+1) [.int .i64 v] 3:=by
    have:=Blk.new (((w.alloc (.cells #[.pointer none] 126)).alloc (.cells #[.int .i64 k] 3)).alloc (.cells #[.int .i64 o] 3)) [.int .i64 v] 3
    rw[World.size_alloc,World.size_alloc,World.size_alloc] at this
    rw[←hw0]
    exact (this).alloc _
   have hbR:Blk w0 (w.heap.size+1+1+1+1) [.int .i64 0,.bool false,.int .i64 0,.bool false,.int .i64 0] 57:=by
    have:=Blk.new ((((w.alloc (.cells #[.pointer none] 126)).alloc (.cells #[.int .i64 k] 3)).alloc (.cells #[.int .i64 o] 3)).alloc (.cells #[.int .i64 v] 3)) [.int .i64 0,.bool false,.int .i64 0,.bool false,.int .i64 0] 57
    rw[World.size_alloc,World.size_alloc,World.size_alloc,World.size_alloc] at this
    rw[←hw0]
    exact this
   have HDO:=hid (keyedSwapNo_any w0 Y ed D X (h.new ho0) k hk #[ptr (w.heap.size),ptr (w.heap.size+1),ptr (w.heap.size+1+1),ptr (w.heap.size+1+1+1)])
  |have _:=tg3
   have HDO:=hid (keyedManyNo_any w0 Y ed D X (h.new ho0) key hk #[ptr (w.heap.size),ptr (w.heap.size+1)])
  |skip
  have p5:=hb5.cell (i:=0) rfl
  have p6:=hb6.cell (i:=0) rfl
  first|(have _:=tg9;have p7:=hb7.cell (i:=0) rfl)|(skip)
  first|(have _:=tg5;have p8:=hb8.cell (i:=0) rfl)|(skip)
  have HB8:=hid hbR
  have H:=hid h
  have HO0:=hid ho0
  unfold Qh ToldS.val ptr at HDO
  unfold Qh ToldS.val
  dsimp only [ToldS.zero] at HDO ⊢
  unfold ptr at *
  first|(have _:=tg1;clear h ho0 hk hb5 hb6 hb7 hbR;go_enter func18,ntmps18)|(have _:=tg2;clear h ho0 hk hb5 hb6 hbR)|(skip)
  first|(have _:=tg7;go_enter func28,ntmps28)|(have _:=tg8;go_enter func107,ntmps107)|(have _:=tg5;clear h ho0 hk hb5 hb6 hb7 hb8 hbR;go_enter func108,ntmps108)|(skip)
  first|(have _:=tg6;go_wp2_with (go_at_call 52;refine HDO.out.mono ?_;rintro e w2 ⟨D',rfl,hs2,hm2⟩;have hbr2:=wrote_blk H.out hm2 (by omega) HB8.out;have rf:=hbr2.frozen;have r0:=hbr2.cell (i:=0) rfl;have r1:=hbr2.cell (i:=1) rfl;have r2:=hbr2.cell (i:=2) rfl;have r3:=hbr2.cell (i:=3) rfl;have r4:=hbr2.cell (i:=4) rfl;have HFIN:=hid (wrote_fin H.out hs2 HO0.out hm2 (by omega) HB8.out.lt);clear hs2 hm2 hbr2))|(skip)
  first
  |have _:=tg1
   exact bodyPost_ret (v:=.tuple #[.agg #[.int .i64 0,.bool false,.int .i64 0,.bool false,.int .i64 0],.int .i64 161]) (by simp[results,Tryz.results18,go_sem,r0,r1,r2,r3,r4]) rfl ⟨D',rfl,HFIN.out _ (only5 _ _ _ _ _ _ _)⟩
  |have _:=tg7
   exact bodyPost_ret (v:=.tuple #[.agg #[.int .i64 0,.bool false,.int .i64 0,.bool false,.int .i64 0],.int .i64 161]) (by simp[results,Tryz.results28,go_sem,r0,r1,r2,r3,r4]) rfl ⟨D',rfl,HFIN.out _ (only5 _ _ _ _ _ _ _)⟩
  |have _:=tg8
   exact bodyPost_ret (v:=.tuple #[.agg #[.int .i64 0,.bool false,.int .i64 0,.bool false,.int .i64 0],.int .i64 161]) (by simp[results,Tryz.results107,go_sem,r0,r1,r2,r3,r4]) rfl ⟨D',rfl,HFIN.out _ (only5 _ _ _ _ _ _ _)⟩
  |have _:=tg5
   exact bodyPost_ret (v:=.tuple #[.agg #[.int .i64 0,.bool false,.int .i64 0,.bool false,.int .i64 0],.int .i64 161]) (by simp[results,Tryz.results108,go_sem,r0,r1,r2,r3,r4]) rfl ⟨D',rfl,HFIN.out _ (only5 _ _ _ _ _ _ _)⟩
  |rcases hl with ⟨rfl,rfl⟩|⟨hn0,b,off,rfl,hcell⟩
   ·have hq:¬((0:Nat):Int) > 0:=by omega
    clear h ho0 hk hb5 hb6 hbR
    go_enter func36,ntmps36
    go_wp2_with (go_at_call 52;refine HDO.out.mono ?_;rintro e w2 ⟨D',rfl,hs2,hm2⟩;have hbr2:=wrote_blk H.out hm2 (by omega) HB8.out;have rf:=hbr2.frozen;have r0:=hbr2.cell (i:=0) rfl;have r1:=hbr2.cell (i:=1) rfl;have r2:=hbr2.cell (i:=2) rfl;have r3:=hbr2.cell (i:=3) rfl;have r4:=hbr2.cell (i:=4) rfl;have HFIN:=hid (wrote_fin H.out hs2 HO0.out hm2 (by omega) HB8.out.lt);clear hs2 hm2 hbr2)
    exact bodyPost_ret (v:=.tuple #[.agg #[.int .i64 0,.bool false,.int .i64 0,.bool false,.int .i64 0],.int .i64 161]) (by simp[results,Tryz.results36,go_sem,r0,r1,r2,r3,r4]) rfl ⟨D',rfl,HFIN.out _ (only5 _ _ _ _ _ _ _)⟩
   ·have hq:(n:Int) > 0:=by omega
    have hc0:=Qa ho0 hcell (by simp)
    clear hcell
    clear h ho0 hk hb5 hb6 hbR
    go_enter func36,ntmps36
    go_wp2_with (go_at_call 52;refine HDO.out.mono ?_;rintro e w2 ⟨D',rfl,hs2,hm2⟩;have hbr2:=wrote_blk H.out hm2 (by omega) HB8.out;have rf:=hbr2.frozen;have r0:=hbr2.cell (i:=0) rfl;have r1:=hbr2.cell (i:=1) rfl;have r2:=hbr2.cell (i:=2) rfl;have r3:=hbr2.cell (i:=3) rfl;have r4:=hbr2.cell (i:=4) rfl;have HFIN:=hid (wrote_fin H.out hs2 HO0.out hm2 (by omega) HB8.out.lt);clear hs2 hm2 hbr2)
    exact bodyPost_ret (v:=.tuple #[.agg #[.int .i64 0,.bool false,.int .i64 0,.bool false,.int .i64 0],.int .i64 161]) (by simp[results,Tryz.results36,go_sem,r0,r1,r2,r3,r4]) rfl ⟨D',rfl,HFIN.out _ (only5 _ _ _ _ _ _ _)⟩
abbrev storePutNo_any:=(storeNo_all w Y ed D X h).1
abbrev storeGetNo_any:=(storeNo_all w Y ed D X h).2.1
abbrev storeDropNo_any:=(storeNo_all w Y ed D X h).2.2.1
abbrev storeSwapNo_any:=(storeNo_all w Y ed D X h).2.2.2.1
abbrev storeManyNo_any:=(storeNo_all w Y ed D X h).2.2.2.2
end
end Go.Proofs.YteeefedoffplmaaGreat
