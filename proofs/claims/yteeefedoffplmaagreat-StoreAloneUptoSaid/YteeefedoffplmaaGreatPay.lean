/- StoreAlone, part Pay: WrM, WrNo. -/
import Derived.Test.YteeefedoffplmaaGreatPax
set_option linter.unusedSimpArgs false
set_option linter.unusedVariables false
set_option maxRecDepth 100000
set_option maxHeartbeats 51200000
namespace Go.Proofs.YteeefedoffplmaaGreat
open Go.RowKit Lib Go.Proofs.Tryz
def SameRel (n:Nat)(W:World)(k:Nat)(s:Value)(wr:World):Prop:=∃j:Nat,j≤n∧s=.int .i64 (j:Int)∧k=n-j∧wr=W
def GoodRel (L:List (Int × Int))(P:Int→Prop)(W:World)(k:Nat)(s:Value)(wr:World):Prop:=∃j:Nat,j≤L.length∧s=.int .i64 (j:Int)∧k=L.length-j∧(∀p∈L.take j,P p.1)∧wr=W
def MnRel (L l:List (Int × Int))(num:Int)(b13:Nat)(W12:World)(k:Nat)(s14 s15 s17:Value)(wr:World):Prop:=
 ∃(j:Nat) (uA:Option Addr) (uc:Nat) (nxj:List (Int × Int)) (cj:Int) (ch:Bool),j≤L.length∧k=L.length-j∧s17=.int .i64 (j:Int)∧(L.take j).foldl manyLStep (l,0)=(nxj,cj)∧s15=.bool ch∧ch=decide (cj≠0)∧s14=.slice uA nxj.length uc∧Row wr uA (Qd nxj) ∧
  (0<j→wr.ownsRow W12.heap.size 36 2 (.slice uA nxj.length uc) nxj.length (Qd nxj))∧Blk wr b13 [.int .i64 0,.bool false,.int .i64 num,.bool false,.int .i64 cj] 57∧Only [b13] W12 wr∧0≤cj∧cj≤j∧nxj.length≤l.length+j∧(∀x,uA=some x→x.block≠b13)
theorem append_zero_run {P:Program}{w:World}{t e size bytes:Nat}(E:ElemOk P t e size bytes)(ty:TypeId)(A:Option Addr)(c:Nat):(Builtin.append_ #[t,t] ty #[.slice none 0 0,.slice A 0 c]).run P w=.ok (.slice none 0 0) w:=by
 obtain⟨ht,_,i,z,hi,_⟩:=E
 cases A <;> simp[Builtin.append_,run_underlying ht,sizeOf,typeInfo,hi,Builtin.lenOf,Builtin.firstCells,storeCells,loadCells,loadCellsFrom]
theorem own_row {w:World}{base e s n c:Nat}{A:Option Addr}{xs:List Value}(h:w.ownsRow base e s (.slice A n c) n xs):Row w A xs:=by
 obtain⟨A',c',e1,hr,_⟩:=Qc h
 injection e1 with e1
 rw[e1]
 exact hr
theorem wpList_append_zero {P:Program}{w:World}{t e size bytes:Nat}{ops:Array Oper}{rest:List Oper}{o:Oper}{a:Act}{Q:Exit→Act→World→Prop}(hgd:o.guard=none)(s x:Operand)
  (ho:o.op=.call {callee:=.builtin .append,args:=#[s,x],argTypes:=#[t,t]}) (E:ElemOk P t e size bytes) (hs:a.eval s=.slice none 0 0) (A:Option Addr) (c:Nat) (hx:a.eval x=.slice A 0 c)
  (h:wpList P ops Q rest (a.put o.dst (.slice none 0 0)) w):wpList P ops Q (o :: rest) a w:=
 wpList_plain hgd fun _ hK=>by
  unfold Oper.wp execOp
  simp only[ho,resolve,invoke,builtin,Sem.run_bind,Sem.run_pure,Result.andThen_ok,List.map_toArray,List.map_cons,List.map_nil,hs,hx,append_zero_run E]
  exact hK _ _ h
section
variable (w:World)(Y:StoreL)(ed:Option Nat)(D:Nat→List Nat)(X X':StoreS)(mb lb:Nat)(els:List PlEl)(sv:Value)(sns:List (SnapL × Value))(hs:StoreIn w Y ed D X)(hm:LawM w Y ed D mb lb els sv sns)(hn:els.length=Y.n)(a b cv:Int)(LA:Option Addr)(lc:Nat)
include w Y ed D X X' mb lb els sv sns hs hm hn a b cv LA lc
theorem write5_all:(∀(i:Nat) (hpk:Qu 0 els.length=(i:Int)) (u0:Value) (l:List (Int × Int)) (num:Int) (he:els[i]?=some (u0,(l,num))) (hsz:l.length≤90000) (hnum:0≤num∧num<1000000000) (hop:∀(W:World),Only [] w W→Calls prog 36 #[ptr Y.sb,.pointer none,.slice none 0 0] W (Qh Y ed D ⟨0,false,num,false,0⟩ 0 X' W)),Calls prog 49 #[ptr mb,.agg #[.int .i64 5,.int .i64 a,.int .i64 b,.int .i64 cv,.slice LA 0 lc]] w (LawEnd Y ed mb lb sv sns X' (els.map (·.2)) w)) ∧
  (∀(L:List (Int × Int)) (hL:ArgL w Y LA L) (k0 v0:Int) (h0:L[0]?=some (k0,v0)) (hk:Qt k0=false) (hop:∀(W:World) (A:Option Addr) (cap:Nat),Only [] w W→Row W A (Qd L)→A≠none→(∀x,A=some x→w.heap.size≤x.block)→Calls prog 36 #[ptr Y.sb,.pointer none,.slice A L.length cap] W (Qh Y ed D ToldS.zero 161 X' W)),Calls prog 49 #[ptr mb,.agg #[.int .i64 5,.int .i64 a,.int .i64 b,.int .i64 cv,.slice LA L.length lc]] w (LawEnd Y ed mb lb sv sns X' (els.map (·.2)) w)) ∧
  (∀(L:List (Int × Int)) (hL:ArgL w Y LA L) (k0 v0:Int) (h0:L[0]?=some (k0,v0)) (hk:Qt k0=true) (i:Nat) (hpk:Qu k0 els.length=(i:Int)) (u0:Value) (l:List (Int × Int)) (num:Int) (he:els[i]?=some (u0,(l,num))) (hsz:l.length≤90000) (hnum:0≤num∧num<1000000000) (hbad:∃p∈L,ofI p.1 els.length≠(i:Int)) (hop:∀(W:World) (A:Option Addr) (cap:Nat),Only [] w W→Row W A (Qd L)→A≠none→(∀x,A=some x→w.heap.size≤x.block)→Calls prog 36 #[ptr Y.sb,.pointer none,.slice A L.length cap] W (Qh Y ed D ToldS.zero 161 X' W)),Calls prog 49 #[ptr mb,.agg #[.int .i64 5,.int .i64 a,.int .i64 b,.int .i64 cv,.slice LA L.length lc]] w (LawEnd Y ed mb lb sv sns X' (els.map (·.2)) w)) ∧
  (∀(L:List (Int × Int)) (hL:ArgL w Y LA L) (k0 v0:Int) (h0:L[0]?=some (k0,v0)) (hk:Qt k0=true) (i:Nat) (hpk:Qu k0 els.length=(i:Int)) (u0:Value) (l:List (Int × Int)) (num:Int) (he:els[i]?=some (u0,(l,num))) (hsz:l.length≤90000) (hnum:0≤num∧num<1000000000) (hall:∀p∈L,ofI p.1 els.length=(i:Int)) (nx:List (Int × Int)) (cnt:Int) (hcnt:L.foldl manyLStep (l,0)=(nx,cnt)) (hc:cnt≠0) (hop:∀(W:World) (A:Option Addr) (cap:Nat),Only [] w W→Row W A (Qd L)→A≠none→(∀x,A=some x→w.heap.size≤x.block)→Calls prog 36 #[ptr Y.sb,.pointer none,.slice A L.length cap] W (Qh Y ed D ⟨0,false,num+1,true,cnt⟩ 0 X' W)),Calls prog 49 #[ptr mb,.agg #[.int .i64 5,.int .i64 a,.int .i64 b,.int .i64 cv,.slice LA L.length lc]] w (LawEnd Y ed mb lb sv sns X' ((els.map (·.2)).set i (nx,num+1)) w)) ∧
  (∀(L:List (Int × Int)) (hL:ArgL w Y LA L) (k0 v0:Int) (h0:L[0]?=some (k0,v0)) (hk:Qt k0=true) (i:Nat) (hpk:Qu k0 els.length=(i:Int)) (u0:Value) (l:List (Int × Int)) (num:Int) (he:els[i]?=some (u0,(l,num))) (hsz:l.length≤90000) (hnum:0≤num∧num<1000000000) (hall:∀p∈L,ofI p.1 els.length=(i:Int)) (nx:List (Int × Int)) (hcnt:L.foldl manyLStep (l,0)=(nx,0)) (hop:∀(W:World) (A:Option Addr) (cap:Nat),Only [] w W→Row W A (Qd L)→A≠none→(∀x,A=some x→w.heap.size≤x.block)→Calls prog 36 #[ptr Y.sb,.pointer none,.slice A L.length cap] W (Qh Y ed D ⟨0,false,num,false,0⟩ 0 X' W)),Calls prog 49 #[ptr mb,.agg #[.int .i64 5,.int .i64 a,.int .i64 b,.int .i64 cv,.slice LA L.length lc]] w (LawEnd Y ed mb lb sv sns X' (els.map (·.2)) w)):=by
 refine⟨?_,?_,?_,?_,?_⟩
 intro i hpk u0 l num he hsz hnum hop;have tg1:=0;have tg2:=0;have tg4:=0;have tg10:=0;have tg12:=0;have tg13:=0;rotate_left
 intro L hL k0 v0 h0 hk hop;have tg3:=0;have tg8:=0;have tg11:=0;have tg13:=0;rotate_left
 intro L hL k0 v0 h0 hk i hpk u0 l num he hsz hnum hbad hop;have tg4:=0;have tg5:=0;have tg8:=0;have tg9:=0;have tg11:=0;have tg12:=0;rotate_left
 intro L hL k0 v0 h0 hk i hpk u0 l num he hsz hnum hall nx cnt hcnt hc hop;have tg1:=0;have tg4:=0;have tg6:=0;have tg7:=0;have tg8:=0;have tg9:=0;rotate_left
 intro L hL k0 v0 h0 hk i hpk u0 l num he hsz hnum hall nx hcnt hop;have tg1:=0;have tg4:=0;have tg6:=0;have tg8:=0;have tg9:=0;have tg10:=0;rotate_left
 all_goals
  first|(have _:=tg1;unfold Qh ToldS.val at hop)|(unfold Qh ToldS.val ToldS.zero at hop)
  dsimp only at hop
  first|(have _:=tg2;obtain⟨w0,hw0⟩:∃w0,w.alloc (.cells #[.int .i64 5,.int .i64 a,.int .i64 b,.int .i64 cv,.slice LA 0 lc] 34)=w0:=⟨_,rfl⟩)|(obtain⟨w0,hw0⟩:∃w0,w.alloc (.cells #[.int .i64 5,.int .i64 a,.int .i64 b,.int .i64 cv,.slice LA L.length lc] 34)=w0:=⟨_,rfl⟩)
  have ho0:Only [] w w0:=by rw[←hw0];exact (Only.refl _ _).alloc _
  first|(have _:=tg2;have hb3:Blk w0 w.heap.size [.int .i64 5,.int .i64 a,.int .i64 b,.int .i64 cv,.slice LA 0 lc] 34:=by rw[←hw0];exact Blk.new w _ 34)|(have hb3:Blk w0 w.heap.size [.int .i64 5,.int .i64 a,.int .i64 b,.int .i64 cv,.slice LA L.length lc] 34:=by rw[←hw0];exact Blk.new w _ 34)
  have hofa:=fun (W:World) (ho:Only [] w W) (key:Int)=>lawOf_any W mb (ptr Y.sb) sv (some ⟨lb,0,none⟩) els.length els.length (by rw[hn];exact hs.ok.n) (hm.m.only ho (by simp)) key
  first|(have _:=tg2;(have hofi:ofI 0 els.length=(i:Int):=by unfold ofI;rw[if_pos (by decide)];exact hpk);have hof:=hofa w0 ho0 0)|(have _:=tg3;(have hofi:ofI k0 els.length=-1:=by unfold ofI;rw[if_neg (by simp[hk])]);have hof:=hofa w0 ho0 k0)|((have hofi:ofI k0 els.length=(i:Int):=by unfold ofI;rw[if_pos hk];exact hpk);have hof:=hofa w0 ho0 k0)
  rw[hofi] at hof
  have HS:=hid hs
  have HM:=hid hm
  have HO0:=hid ho0
  have HB3:=hid hb3
  have HOP:=hid hop
  have HN:=hid hn
  have HW0:=hid hw0
  have HOFA:=hid hofa
  have HOFI:=hid hofi
  first|(have _:=tg4;have HE:=hid he;have HSZ:=hid hsz)|(skip)
  first|(have _:=tg5;have HBAD:=hid hbad)|(have _:=tg6;have HCNT:=hid hcnt;have HALL:=hid hall)|(skip)
  first|(have _:=tg7;have HCB:=hid hc)|(skip)
  first|(have _:=tg8;have HL:=hid hL;have HL0:=hid h0;obtain⟨pb,po,hLA,hk0,_⟩:=pair_cells (hL.row.below ho0.below) h0;subst hLA;rw[Nat.zero_mul,Nat.add_zero] at hk0;have hlen:0<L.length:=(List.getElem?_eq_some_iff.1 h0).1;(have hlen':(L.length:Int) > 0:=by omega);have hix:(0:Int)<(L.length:Int):=by omega)|(skip)
  have c0:=hb3.cell (i:=0) rfl
  have c1:=hb3.cell (i:=1) rfl
  have c4:=hb3.cell (i:=4) rfl
  unfold ptr at *
  first|(have _:=tg2;clear hs hm ho0 hb3 hop hn hofa hofi he hsz)|(have _:=tg3;clear hs hm ho0 hb3 hop hn hofa hofi hL h0)|(have _:=tg5;clear hs hm ho0 hb3 hop hn hofa hofi he hsz hbad hL h0)|(have _:=tg7;clear hs hm ho0 hb3 hop hn hofa hofi he hsz hcnt hall hc hL h0)|(clear hs hm ho0 hb3 hop hn hofa hofi he hsz hcnt hall hL h0)
  go_enter func49,ntmps49
  have c4a:=Qb c4 (.cells #[.int .i64 0,.bool false,.int .i64 0,.bool false,.int .i64 0] 57)
  first|(have _:=tg2;(have hi:¬((i:Int)<0):=by omega);(have hil:(i:Int)<els.length:=by have:=(List.getElem?_eq_some_iff.1 HE.out).1;omega);have hi0:(0:Int)≤i:=by omega)|(have HRL:=hid (HL.out.row.below ((HO0.out.alloc (.cells #[.int .i64 0,.bool false,.int .i64 0,.bool false,.int .i64 0] 57)).below));have HLN:=hid (pairCells_len L);have HON:=hid (pairCells_one L);have HM1:=hid (show 0+L.length≤maxLen from by have:=HL.out.few;unfold maxLen;omega);have HM2:=hid (show (0+L.length)*16≤140737488355328 from by have:=HL.out.few;omega))
  first|(have _:=tg9;(have hi:¬((i:Int)<0):=by omega);(have hil:(i:Int)<els.length:=by have:=(List.getElem?_eq_some_iff.1 HE.out).1;omega);have hi0:(0:Int)≤i:=by omega)|(skip)
  go_wp2_with (first|(go_at_call 13;refine hof.mono ?_;rintro en w1 ⟨rfl,hw⟩;obtain rfl:w0=w1:=hw.symm)|(at_builtin;(first|(have _:=tg2;refine wpList_append_zero rfl (.const (.slice none 0 0)) (.tmp 38) rfl elemPair rfl LA lc rfl ?_;obtain⟨w9,hw9⟩:∃w9,w0.alloc (.cells #[.int .i64 0,.bool false,.int .i64 0,.bool false,.int .i64 0] 57)=w9:=⟨_,rfl⟩;rw[hw9];have ho09:Only [] w0 w9:=(by rw[←hw9];exact (Only.refl [] w0).alloc _);have hb7:Blk w9 w0.heap.size [.int .i64 0,.bool false,.int .i64 0,.bool false,.int .i64 0] 57:=(by rw[←hw9];exact Blk.new w0 [.int .i64 0,.bool false,.int .i64 0,.bool false,.int .i64 0] 57))|(refine Qj rfl (.const (.slice none 0 0)) (.tmp 38) rfl elemPair rfl (World.ownsRow_nil _ (w0.alloc (.cells #[.int .i64 0,.bool false,.int .i64 0,.bool false,.int .i64 0] 57)).heap.size 36 2) _ L.length lc (Qd L) rfl HRL.out HLN.out HON.out HM1.out HM2.out (Nat.le_refl _) HL.out.nil ?_;intro v9 w9 hown9 hg9 hat9;rw[Nat.zero_add,List.nil_append] at hown9;obtain⟨g9,c9,rfl⟩:=own_some hown9 hlen;have HOWN9:=hid hown9;have ho09:Only [] w0 w9:=((Only.refl [] w0).alloc _).grown hg9 (fun k hk=>by cases hk);have hb7:Blk w9 w0.heap.size [.int .i64 0,.bool false,.int .i64 0,.bool false,.int .i64 0] 57:=(Blk.new w0 [.int .i64 0,.bool false,.int .i64 0,.bool false,.int .i64 0] 57).only ((Only.refl [] _).grown hg9 (fun k hk=>by cases hk)) (by simp);have HR9:=hid (own_row hown9);have HG9:=hid (show w0.heap.size<g9∧g9<w9.heap.size from by have:=hown9.lt g9 rfl;rw[World.size_alloc] at this;omega)));have ho9:=HO0.out.trans ho09;have hb39:=HB3.out.only ho09 (by simp);have hm9:=HM.out.new ho9;have m0:=hm9.m.cell (i:=0) rfl;have d0:=hb39.cell (i:=0) rfl;have HO9:=hid ho9;have HB39:=hid hb39;have HB7:=hid hb7;have HM9:=hid hm9;have HSF3:=hid (Safe.fresh HS.out (Nat.le_refl w.heap.size) hb39.lt);have HSF7:=hid (Safe.fresh HS.out HO0.out.size hb7.lt);have HNE7:=hid (show ¬mb=w0.heap.size∧¬w.heap.size=w0.heap.size from ⟨by have:=HM.out.ms.1;have:=HO0.out.size;omega,by have:=HB3.out.lt;omega⟩);unfold ptr at m0;(first|(have _:=tg2;clear hw9 ho9 ho09 hb39 hb7 hm9)|(clear hown9 hg9 hat9 ho9 ho09 hb39 hb7 hm9)))|(go_at_call 36;(first|(have _:=tg2;refine (HOP.out w9 HO9.out).mono ?_)|(refine (HOP.out w9 (some ⟨g9,0,none⟩) c9 HO9.out HR9.out (by simp) (fun x e=>by cases e;have:=HG9.out;have:=HO0.out.size;dsimp only;omega)).mono ?_));rintro en wS ⟨D1,rfl,hsS,hmS⟩;have HSS:=hid hsS;have HMS:=hid hmS;have hbS:=HB39.out.heap (Safe.moves hmS HSF3.out).2;have x0:=hbS.cell (i:=4) rfl;have hb7S:=HB7.out.heap (Safe.moves hmS HSF7.out).2;have y0:=hb7S.cell (i:=0) rfl;have y1:=hb7S.cell (i:=1) rfl;have y2:=hb7S.cell (i:=2) rfl;have y3:=hb7S.cell (i:=3) rfl;have y4:=hb7S.cell (i:=4) rfl;have yf:=hb7S.frozen;(first|(have _:=tg10;have x4:=Qa (five wS w0.heap.size (.int .i64 (0)) (.bool false) (.int .i64 (num)) (.bool false) (.int .i64 (0))) x0 (by simpa using HNE7.out.2))|(have _:=tg11;have x4:=Qa (five wS w0.heap.size (.int .i64 (0)) (.bool false) (.int .i64 (0)) (.bool false) (.int .i64 (0))) x0 (by simpa using HNE7.out.2))|(have x4:=Qa (five wS w0.heap.size (.int .i64 (0)) (.bool false) (.int .i64 (num+1)) (.bool true) (.int .i64 (cnt))) x0 (by simpa using HNE7.out.2)));have HBS3:=hid hbS;have HBS7:=hid hb7S;clear hsS hmS hbS hb7S))
  first|(have _:=tg10;obtain⟨W10,hW10⟩:∃W10,((((wS.setCell ⟨w0.heap.size,0,none⟩ (.int .i64 (0))).setCell ⟨w0.heap.size,1,none⟩ (.bool false)).setCell ⟨w0.heap.size,2,none⟩ (.int .i64 (num))).setCell ⟨w0.heap.size,3,none⟩ (.bool false)).setCell ⟨w0.heap.size,4,none⟩ (.int .i64 (0))=W10:=⟨_,rfl⟩)|(have _:=tg11;obtain⟨W10,hW10⟩:∃W10,((((wS.setCell ⟨w0.heap.size,0,none⟩ (.int .i64 (0))).setCell ⟨w0.heap.size,1,none⟩ (.bool false)).setCell ⟨w0.heap.size,2,none⟩ (.int .i64 (0))).setCell ⟨w0.heap.size,3,none⟩ (.bool false)).setCell ⟨w0.heap.size,4,none⟩ (.int .i64 (0))=W10:=⟨_,rfl⟩)|(obtain⟨W10,hW10⟩:∃W10,((((wS.setCell ⟨w0.heap.size,0,none⟩ (.int .i64 (0))).setCell ⟨w0.heap.size,1,none⟩ (.bool false)).setCell ⟨w0.heap.size,2,none⟩ (.int .i64 (num+1))).setCell ⟨w0.heap.size,3,none⟩ (.bool true)).setCell ⟨w0.heap.size,4,none⟩ (.int .i64 (cnt))=W10:=⟨_,rfl⟩)
  rw[hW10]
  have ho10:Only [w0.heap.size] wS W10:=by rw[←hW10];exact five _ _ _ _ _ _ _
  first|(have _:=tg10;have hb7:Blk W10 w0.heap.size [.int .i64 (0),.bool false,.int .i64 (num),.bool false,.int .i64 (0)] 57:=by rw[←hW10];exact ((((HBS7.out.set 0 _).set 1 _).set 2 _).set 3 _).set 4 _)|(have _:=tg11;have hb7:Blk W10 w0.heap.size [.int .i64 (0),.bool false,.int .i64 (0),.bool false,.int .i64 (0)] 57:=by rw[←hW10];exact ((((HBS7.out.set 0 _).set 1 _).set 2 _).set 3 _).set 4 _)|(have hb7:Blk W10 w0.heap.size [.int .i64 (0),.bool false,.int .i64 (num+1),.bool true,.int .i64 (cnt)] 57:=by rw[←hW10];exact ((((HBS7.out.set 0 _).set 1 _).set 2 _).set 3 _).set 4 _)
  have hmv:Moves Y (Qw Y ed D) (Qw Y ed D1) w W10:=((Moves.of_new HO9.out).trans HMS.out).fresh ho10 (by have:=HO0.out.size;simpa using this)
  have hs10:StoreIn W10 Y ed D1 X':=HSS.out.only ho10 (fun k hk=>by obtain rfl:=List.mem_singleton.1 hk;exact (Safe.moves HMS.out HSF7.out).1.2)
  have hb3:=HBS3.out.only ho10 (by simpa using HNE7.out.2)
  first|(have _:=tg2;have hsame:=pairsSame_any W10 none LA 0 lc [] (by decide) (fun j u hu=>by simp[Qd] at hu) (fun j u hu=>by simp[Qd] at hu))|((have hl10:Row W10 (some ⟨g9,0,none⟩) (Qd L):=fun j u hu=>(by obtain⟨b,off,e2,hc⟩:=HR9.out j u hu;have hsf:Safe w9 Y ed D b:=Safe.fresh HS.out (by cases e2;have:=HG9.out;have:=HO0.out.size;omega) (by cases e2;exact HG9.out.2);have hne:b≠w0.heap.size:=(by cases e2;have:=HG9.out;omega);exact⟨b,off,e2,Qa ho10 (Qp hc (Safe.moves HMS.out hsf).2) (by simpa using hne)⟩));have hL10:=HL.out.keep (KeepB.moves hmv (fun k hk=>(HS.out.dyn_lt hk).1));have HL10:=hid hL10;have hsame:=pairsSame_any W10 (some ⟨g9,0,none⟩) (some ⟨pb,po,none⟩) c9 lc L (by have:=HL.out.few;omega) hl10 hL10.row)
  have hm10:=HM.out.moves hmv
  have a4:=hb3.cell (i:=4) rfl
  have HB7':=hid hb7
  have HB3':=hid hb3
  have HMV:=hid hmv
  have HS10:=hid hs10
  have HM10:=hid hm10
  have HSAME:=hid hsame
  have HDW:=hid (show ∀k,w.heap.size≤k→wS.heap.size≤k∨k<w9.heap.size→¬Qw Y ed D1 k from fun k h1 h2 hd=>h2.elim (fun h2=>by have:=(HSS.out.dyn_lt hd).2;omega) (fun h2=>(Safe.moves HMS.out (Safe.fresh HS.out h1 h2)).1.2.2 hd))
  have HSZ10:=hid (show wS.heap.size≤W10.heap.size from ho10.size)
  first|(have _:=tg2;clear hW10 ho10 hb7 hmv hs10 hb3 hm10 hsame  x0 y0 y1 y2 y3 y4 yf m0 d0 c0 c1 c4 c4a x4)|(clear hW10 ho10 hb7 hmv hs10 hb3 hm10 hsame hl10 hL10 hk0 x0 y0 y1 y2 y3 y4 yf m0 d0 c0 c1 c4 c4a x4)
  refine HSAME.out.mono ?_
  rintro en w11 ⟨rfl,ho11⟩
  have HO11:=hid ho11
  have hm11:=HM10.out.new ho11
  have HM11:=hid hm11
  have m1:=hm11.m.cell (i:=1) rfl
  have hb711:=HB7'.out.only ho11 (by simp)
  have hb311:=HB3'.out.only ho11 (by simp)
  have HB11:=hid hb711
  have HB311:=hid hb311
  have b0:=hb311.cell (i:=0) rfl
  have b4:=hb311.cell (i:=4) rfl
  have f0:=hb711.cell (i:=0) rfl
  have f1:=hb711.cell (i:=1) rfl
  have f2:=hb711.cell (i:=2) rfl
  have f3:=hb711.cell (i:=3) rfl
  have f4:=hb711.cell (i:=4) rfl
  first|(have _:=tg4;have hpl:=hm11.plAt;obtain⟨A0,pc,p0,p1,p2,prow,pRO,pnil⟩:=hpl i (l,num) (by rw[List.getElem?_map,HE.out];rfl);rw[Nat.zero_add] at p0 p1 p2;dsimp only at p0 p1 prow pnil)|(skip)
  first|(have _:=tg2;have hfind:=lawFind_any w11 lb (i*3) A0 pc l (by have:=HSZ.out;omega) p0 prow 0)|(have _:=tg9;have hfind:=lawFind_any w11 lb (i*3) A0 pc l (by have:=HSZ.out;omega) p0 prow k0)|(skip)
  first|(have _:=tg4;have HFIND:=hid hfind;have HROW:=hid prow;have HNIL:=hid pnil;have HP0:=hid p0;have HP1:=hid p1;have HRO:=hid pRO;have HRO:=hid pRO;have HRO:=hid pRO;have HRO:=hid pRO;have HRO:=hid pRO;clear hpl p2 prow pnil hfind pRO)|(skip)
  clear ho11 hm11 hb311 hb711
  all_goals (try dsimp only)
  first|(have _:=tg4;go_wp2_with (go_at_call 48;refine HFIND.out.mono ?_;rintro en w12 ⟨rfl,hw⟩;obtain rfl:w11=w12:=hw.symm;(first|(have _:=tg2;have b0':=Qb b0 (.cells #[.int .i64 ((Qk l 0).getD 0),.bool (Qk l 0).isSome,.int .i64 num,.bool false,.int .i64 0] 57);have b4':=Qb b4 (.cells #[.int .i64 ((Qk l 0).getD 0),.bool (Qk l 0).isSome,.int .i64 num,.bool false,.int .i64 0] 57);have p0':=Qb p0 (.cells #[.int .i64 ((Qk l 0).getD 0),.bool (Qk l 0).isSome,.int .i64 num,.bool false,.int .i64 0] 57);have p1':=Qb p1 (.cells #[.int .i64 ((Qk l 0).getD 0),.bool (Qk l 0).isSome,.int .i64 num,.bool false,.int .i64 0] 57))|(have b0':=Qb b0 (.cells #[.int .i64 ((Qk l k0).getD 0),.bool (Qk l k0).isSome,.int .i64 num,.bool false,.int .i64 0] 57);have b4':=Qb b4 (.cells #[.int .i64 ((Qk l k0).getD 0),.bool (Qk l k0).isSome,.int .i64 num,.bool false,.int .i64 0] 57);have p0':=Qb p0 (.cells #[.int .i64 ((Qk l k0).getD 0),.bool (Qk l k0).isSome,.int .i64 num,.bool false,.int .i64 0] 57);have p1':=Qb p1 (.cells #[.int .i64 ((Qk l k0).getD 0),.bool (Qk l k0).isSome,.int .i64 num,.bool false,.int .i64 0] 57))));obtain⟨W12,hW12⟩:∃W12,w11.alloc (.cells #[.int .i64 0,.bool false,.int .i64 num,.bool false,.int .i64 0] 57)=W12:=⟨_,rfl⟩;rw[hW12];(have ho12:Only [] w11 W12:=by rw[←hW12];exact (Only.refl _ _).alloc _);(have hb12:Blk W12 w11.heap.size [.int .i64 0,.bool false,.int .i64 num,.bool false,.int .i64 0] 57:=by rw[←hW12];exact Blk.new w11 _ 57);have hm12:=HM11.out.new ho12)|(skip)
  first|(have _:=tg9;have hL12:=HL10.out.row.below (HO11.out.trans ho12).below)|(skip)
  first|(have _:=tg4;(have hof12:=fun key=>lawOf_any W12 mb (ptr Y.sb) sv (some ⟨lb,0,none⟩) els.length els.length (by rw[HN.out];exact HS.out.ok.n) hm12.m key);have e4:=Qa ho12 b4 (by simp);have q0:=Qa ho12 p0 (by simp);have q1:=Qa ho12 p1 (by simp);have hr12:=HROW.out.below ho12.below;have hb712:=HB11.out.only ho12 (by simp);have hwl:=hb12.lt;have HO12:=hid ho12;have HB12:=hid hb12;have HM12:=hid hm12)|(skip)
  first|(have _:=tg9;have HL12:=hid hL12)|(skip)
  first|(have _:=tg4;have HOF12:=hid hof12;have HE4:=hid e4;have HQ0:=hid q0;have HQ1:=hid q1;have HR12:=hid hr12;have HB712:=hid hb712;have m12:=hm12.m.cell (i:=0) rfl;unfold ptr at HOF12)|(skip)
  first|(have _:=tg2;clear hW12 ho12 hb12 hm12  hof12 q0 q1 hr12 hb712 b0 b4 b0' b4' p0 p1 p0' p1' f0 f1 f2 f3 f4 m12)|(have _:=tg9;clear hW12 ho12 hb12 hm12 hL12 hof12 q0 q1 hr12 hb712 b0 b4 b0' b4' p0 p1 p0' p1' f0 f1 f2 f3 f4 m12)|(skip)
  first|(have _:=tg12;have f0:=HB712.out.cell (i:=0) rfl;have f1:=HB712.out.cell (i:=1) rfl;have f2:=HB712.out.cell (i:=2) rfl;have f3:=HB712.out.cell (i:=3) rfl;have f4:=HB712.out.cell (i:=4) rfl)|(skip)
  first|(have _:=tg2;have g0:=HB12.out.cell (i:=0) rfl;have g1:=HB12.out.cell (i:=1) rfl;have g2:=HB12.out.cell (i:=2) rfl;have g3:=HB12.out.cell (i:=3) rfl;have g4:=HB12.out.cell (i:=4) rfl;refine wp_loop_rounds 1 ?_;rw[rounds_succ];go_wp2_with fail;refine wp_loop_rounds 1 ?_;rw[rounds_succ])|(skip)
  first|(have _:=tg13;go_wp2_with fail;go_ret)|(skip)
  first|(have _:=tg2;have hall:=HO11.out.trans HO12.out;exact moved_end HS.out HM.out (HMV.out.fresh hall (by simp)) (HS10.out.new hall))|(have _:=tg3;exact moved_end HS.out HM.out (HMV.out.fresh HO11.out (by simp)) (HS10.out.new HO11.out))|(have _:=tg5;go_loopg [16] L.length (fun k s16 wr=>GoodRel L (fun x=>ofI x els.length=(i:Int)) W12 k s16 wr);case atStart=>exact⟨0,Nat.zero_le _,rfl,rfl,by simp,rfl⟩)|(go_loopg [16] L.length (fun k s16 wr=>SameRel L.length W12 k s16 wr);case atStart=>exact⟨0,Nat.zero_le _,rfl,rfl,rfl⟩)
  first
  |have _:=tg9
   case round=>
    first|(have _:=tg5;obtain⟨j,hj,rfl,rfl,hgood,hwr⟩:=hrel)|(obtain⟨j,hj,rfl,rfl,hwr⟩:=hrel)
    obtain rfl:W12=wr:=hwr.symm
    first|(have _:=tg5;have HGOOD:=hid hgood)|(skip)
    by_cases hlt:j<L.length
    ·skip
     obtain⟨⟨kj,vj⟩,hx⟩:∃x,L[j]?=some x:=⟨_,List.getElem?_eq_getElem hlt⟩
     obtain⟨pb',po',hpe,hkj,hvj⟩:=pair_cells HL12.out hx
     injection hpe with hpe
     injection hpe with hpe1 hpe2
     subst hpe1 hpe2
     have hlt':(j:Int)<L.length:=by omega
     have hj0:(0:Int)≤j:=by omega
     have hj1:wrap64 ((j:Int)+1)=(j:Int)+1:=IntWalk.wrap64_in ((j:Int)+1) (by have:=HL.out.few;omega)
     have HJ1:=hid hj1
     have HX:=hid hx
     have hofj:=HOF12.out kj
     first
     |have _:=tg5
      clear hx hj hgood hj1
      by_cases hb:ofI kj els.length=(i:Int)
      ·rw[hb] at hofj
       have HBK:=hid hb
       clear hb
       go_wp2_with (go_at_call 13;refine hofj.mono ?_;rintro en w13 ⟨rfl,hw⟩;obtain rfl:W12=w13:=hw.symm)
       go_roundg (L.length-(j+1))
       case measure=>omega
       case rel=>exact⟨j+1,hlt,by first|(rw[HJ1.out];rfl)|go_num,rfl,fun p hp=>by
        rw[Zd HX.out] at hp
        rcases List.mem_append.1 hp with hp|hp
        ·exact HGOOD.out p hp
        ·obtain rfl:=List.mem_singleton.1 hp
         exact HBK.out,rfl⟩
      ·have hbn:(ofI kj els.length != (i:Int))=true:=by simpa using hb
       clear hb
       generalize ofI kj els.length=oo at *
       go_wp2_with (go_at_call 13;refine hofj.mono ?_;rintro en w13 ⟨rfl,hw⟩;obtain rfl:W12=w13:=hw.symm)
       go_ret
       have hall:=HO11.out.trans HO12.out
       exact moved_end HS.out HM.out (HMV.out.fresh hall (by simp)) (HS10.out.new hall)
     |rw[HALL.out _ (List.mem_of_getElem? hx)] at hofj
      clear hx hj hj1
      go_wp2_with (go_at_call 13;refine hofj.mono ?_;rintro en w13 ⟨rfl,hw⟩;obtain rfl:W12=w13:=hw.symm)
      go_roundg (L.length-(j+1))
      case measure=>omega
      case rel=>exact⟨j+1,hlt,by first|(rw[HJ1.out];rfl)|go_num,rfl,rfl⟩
    ·first|(have _:=tg5;exfalso)|(skip)
     have hjl:j=L.length:=by omega
     first
     |have _:=tg5
      obtain⟨p,hp,hb⟩:=HBAD.out
      rw[hjl,List.take_length] at hgood
      exact hb (hgood p hp)
     |subst hjl
      clear hj hlt
      go_wp2_with fail
      have HL12c:=HL12
      go_loopg [14,15,17] L.length (fun k s14 s15 s17 wr=>MnRel L l num w11.heap.size W12 k s14 s15 s17 wr)
      case atStart=>exact⟨0,A0,pc,l,0,false,Nat.zero_le _,rfl,rfl,rfl,rfl,by simp,rfl,HR12.out,fun h=>absurd h (Nat.lt_irrefl 0),HB12.out,Only.refl _ _,Int.le_refl _,Int.le_refl _,Nat.le_refl _,fun x e=>by have:=(HRO.out x e).1.1;omega⟩
      case round=>
       obtain⟨j,uA,uc,nxj,cj,ch,hj,rfl,rfl,hfold,rfl,hch,rfl,hur,huo,hwb,ho,hc0,hc1,hnl,hnb⟩:=hrel
       have HCH:=hid hch
       have HNB:=hid hnb
       clear hch hnb
       have HFOLD:=hid hfold
       have HUR:=hid hur
       have HUO:=hid huo
       have HWB:=hid hwb
       have HO:=hid ho
       have hle:=hwb.lt
       by_cases hlt:j<L.length
       ·skip
        have hpbw:pb≠w11.heap.size:=by
         have h1:=(HL.out.low _ rfl (fun e=>by rw[e] at hlt;simp at hlt)).1
         have h2:=HS.out.room
         have h3:=HMV.out.size
         have h4:=HO11.out.size
         dsimp only at h1
         omega
        have hrowL:Row wr (some ⟨pb,po,none⟩) (Qd L):=fun q u hu=>by
         obtain⟨b',o',e,hcc⟩:=HL12.out q u hu
         cases e
         exact⟨_,_,rfl,Qa HO.out hcc (by simpa using hpbw)⟩
        obtain⟨⟨kj,vj⟩,hx⟩:∃x,L[j]?=some x:=⟨_,List.getElem?_eq_getElem hlt⟩
        obtain⟨pb',po',hpe,hkj,hvj⟩:=pair_cells hrowL hx
        injection hpe with hpe
        injection hpe with hpe1 hpe2
        subst hpe1 hpe2
        have hlt':(j:Int)<L.length:=by omega
        have hj0:(0:Int)≤j:=by omega
        have hjb:-9223372036854775808≤(j:Int)+1∧(j:Int)+1≤9223372036854775807:=by have:=HL.out.few;omega
        have hcb:-9223372036854775808≤cj+1∧cj+1≤9223372036854775807:=by have:=HL.out.few;omega
        have HJ1:=hid (IntWalk.wrap64_in ((j:Int)+1) hjb)
        have HCJ1:=hid (IntWalk.wrap64_in (cj+1) hcb)
        clear hjb hcb
        have hb3w:w.heap.size≠w11.heap.size:=by have:=HB311.out.lt;have h3:=HMV.out.size;have h4:=HO11.out.size;have h5:=HB3.out.lt;have h6:=HB11.out.lt;have h7:=HO0.out.size;omega
        have e4j:=Qa HO.out HE4.out (by simpa using hb3w)
        have g4:=hwb.cell (i:=4) rfl
        have gf:=hwb.frozen
        have hfind:=lawFindIn_any wr uA uc nxj (by have:=HL.out.few;have:=HSZ.out;omega) hur kj
        have hst:(L.take (j+1)).foldl manyLStep (l,0)=manyLStep (nxj,cj) (kj,vj):=by rw[Zd hx,List.foldl_append,hfold];rfl
        have HST:=hid hst
        have HPBW:=hid hpbw
        have HB3W:=hid hb3w
        have HKJ:=hid hkj
        have HVJ:=hid hvj
        have HE4J:=hid e4j
        have hnj:nxj.length≤100000:=by have:=HL.out.few;have:=HSZ.out;omega
        have HNJ:=hid hnj
        have HNL:=hid hnl
        clear hx hj hfold huo ho hst hpbw hb3w hrowL hnj hnl hur
        cases hf:Qk nxj kj with
        |none=>
         rw[hf] at hfind
         dsimp only [Option.getD,Option.isSome] at hfind
         have HFC:=hid (show (if Qk nxj kj≠some vj then (1:Int) else 0)=1 from by rw[hf];simp)
         clear hf
         have hcj1:=HCJ1.out
         go_wp2_with (go_at_call 111;refine hfind.mono ?_;rintro en w13 ⟨rfl,ho13⟩;have HO13:=hid ho13;have g4':=Qa ho13 g4 (by simp);have gf':=(HWB.out.only ho13 (by simp)).frozen;have ek:=Qa ho13 HKJ.out (by simp);have ev:=Qa ho13 HVJ.out (by simp);have e4':=Qa ho13 HE4J.out (by simp);clear ho13 g4 gf hkj hvj e4j)
         clear hcj1
         obtain⟨W14,hW14⟩:∃W14,w13.setCell ⟨w11.heap.size,4,none⟩ (.int .i64 (cj+1))=W14:=⟨_,rfl⟩
         rw[hW14]
         have ho14:Only [w11.heap.size] w13 W14:=by rw[←hW14];exact (Only.refl _ _).setCell (.inl (by simp)) _
         have hwb14:Blk W14 w11.heap.size [.int .i64 0,.bool false,.int .i64 num,.bool false,.int .i64 (cj+1)] 57:=by rw[←hW14];exact (HWB.out.only HO13.out (by simp)).set 4 _
         have hr14:Row W14 uA (Qd nxj):=fun q u hu=>by
          obtain⟨b',o',e,hcc⟩:=HUR.out q u hu
          exact⟨b',o',e,Qa ho14 (Qa HO13.out hcc (by simp)) (by simpa using HNB.out _ e)⟩
         have HR14:=hid hr14
         have k0:=Qa ho14 ek (by simpa using HPBW.out)
         have k1:=Qa ho14 ev (by simpa using HPBW.out)
         have k4:=Qa ho14 e4' (by simpa using HB3W.out)
         have HO14:=hid ho14
         have HWB14:=hid hwb14
         have hput:=fun W (ho:Only [] W14 W)=>lawPut_any W uA uc nxj HNJ.out (hr14.below ho.below) kj vj
         have HPUT:=hid hput
         clear hW14 ek ev e4' g4' gf' hr14 ho14 hwb14 hput
         refine wp_region_held_drew (S:=(fun W=>W.cell? ⟨w.heap.size,4,none⟩=some (.slice (some ⟨pb,po,none⟩) L.length lc)∧W.cell? ⟨pb,po+j*2,none⟩=some (.int .i64 kj)∧W.cell? ⟨pb,po+j*2+1,none⟩=some (.int .i64 vj))) (by kernel_rfl) ?_ (fun hHeld=>?_)
         ·exact⟨k4,k0,k1⟩
         refine tk 0 ?_
         refine tk 1 ?_
         refine tk 2 ?_
         refine tk 3 ?_
         refine tk 4 ?_
         refine tk 5 ?_
         refine tk 6 ?_
         refine tk 7 ?_
         refine tk 8 ?_
         refine tk 9 ?_
         refine tk 10 ?_
         refine tk 11 ?_
         refine tk 12 ?_
         refine on1 13 (fun K hK=>?_)
         go_simp
         go_at_call 14
         refine (HPUT.out _ (Only.refl [] W14).drew').mono ?_
         rintro en w41 ⟨u2,rfl,hu2,ho41'⟩
         have ho41:Only [] W14 w41:=⟨ho41'.os,ho41'.tape,ho41'.output,ho41'.size,ho41'.block⟩
         have hu3:w41.ownsRow W14.heap.size 36 2 u2 (putL nxj kj vj).length (Qd (putL nxj kj vj)):=hu2
         have r4:=Qa ho41 k4 (by simp)
         have r0:=Qa ho41 k0 (by simp)
         have r1:=Qa ho41 k1 (by simp)
         obtain⟨uA2,uc2,rfl,_,_⟩:=Qc hu3
         have HU:=hid hu3
         have HO41:=hid ho41
         clear hu2 ho41' ho41 hu3
         refine hK.out _ _ (⟨r4,r0,r1⟩) (fun hHeld=>?_)
         clear hK K
         try simp only[sp]
         refine tk 14 ?_
         refine wpAnyH_done (by kernel_rfl) ?_ _
         go_wp2_with fail
         go_roundg (L.length-(j+1))
         case measure=>omega
         case rel=>
          have hsz1:=HO.out.size
          have hsz2:=HO13.out.size
          have hsz3:=HO14.out.size
          have hpl:=putL_len nxj kj vj
          have hnl2:=HNL.out
          refine⟨j+1,_,_,putL nxj kj vj,(cj+1),true,hlt,rfl,by first|(rw[HJ1.out];rfl)|go_num,?_,rfl,(by rw[eq_comm,decide_eq_true_eq];omega),rfl,own_row HU.out,fun _=>Qn HU.out (by omega),HWB14.out.only HO41.out (by simp),(HO.out.trans (HO13.out.mono (by simp))).trans (HO14.out.trans (HO41.out.mono (by simp))),by omega,by omega,by omega,fun x e=>?_⟩
          ·rw[HST.out]
           unfold manyLStep
           dsimp only
           rw[HFC.out]
          ·exact Nat.ne_of_gt (Nat.lt_of_lt_of_le hle (Nat.le_trans (Nat.le_trans hsz2 hsz3) (HU.out.lt x.block (by rw[e];rfl)).1))
        |some y=>
         rw[hf] at hfind
         dsimp only [Option.getD,Option.isSome] at hfind
         by_cases hy:y=vj
         ·subst hy
          have HFC:=hid (show (if Qk nxj kj≠some y then (1:Int) else 0)=0 from by rw[hf];simp)
          clear hf
          go_wp2_with (go_at_call 111;refine hfind.mono ?_;rintro en w13 ⟨rfl,ho13⟩;have HO13:=hid ho13;have g4':=Qa ho13 g4 (by simp);have gf':=(HWB.out.only ho13 (by simp)).frozen;have ek:=Qa ho13 HKJ.out (by simp);have ev:=Qa ho13 HVJ.out (by simp);have e4':=Qa ho13 HE4J.out (by simp);clear ho13 g4 gf hkj hvj e4j)
          obtain⟨W14,hW14⟩:∃W14,W14=w13:=⟨_,rfl⟩
          subst hW14
          have ho14:Only [w11.heap.size] W14 W14:=Only.refl _ _
          have hwb14:=HWB.out.only HO13.out (by simp)
          have hr14:Row W14 uA (Qd nxj):=fun q u hu=>by
           obtain⟨b',o',e,hcc⟩:=HUR.out q u hu
           exact⟨b',o',e,Qa ho14 (Qa HO13.out hcc (by simp)) (by simpa using HNB.out _ e)⟩
          have HR14:=hid hr14
          have k0:=Qa ho14 ek (by simpa using HPBW.out)
          have k1:=Qa ho14 ev (by simpa using HPBW.out)
          have k4:=Qa ho14 e4' (by simpa using HB3W.out)
          have HO14:=hid ho14
          have HWB14:=hid hwb14
          have hput:=fun W (ho:Only [] W14 W)=>lawPut_any W uA uc nxj HNJ.out (hr14.below ho.below) kj y
          have HPUT:=hid hput
          clear  ek ev e4' g4' gf' hr14 ho14 hwb14 hput
          refine wp_region_held_drew (S:=(fun W=>W.cell? ⟨w.heap.size,4,none⟩=some (.slice (some ⟨pb,po,none⟩) L.length lc)∧W.cell? ⟨pb,po+j*2,none⟩=some (.int .i64 kj)∧W.cell? ⟨pb,po+j*2+1,none⟩=some (.int .i64 y))) (by kernel_rfl) ?_ (fun hHeld=>?_)
          ·exact⟨k4,k0,k1⟩
          refine tk 0 ?_
          refine tk 1 ?_
          refine tk 2 ?_
          refine tk 3 ?_
          refine tk 4 ?_
          refine tk 5 ?_
          refine tk 6 ?_
          refine tk 7 ?_
          refine tk 8 ?_
          refine tk 9 ?_
          refine tk 10 ?_
          refine tk 11 ?_
          refine tk 12 ?_
          refine on1 13 (fun K hK=>?_)
          go_simp
          go_at_call 14
          refine (HPUT.out _ (Only.refl [] W14).drew').mono ?_
          rintro en w41 ⟨u2,rfl,hu2,ho41'⟩
          have ho41:Only [] W14 w41:=⟨ho41'.os,ho41'.tape,ho41'.output,ho41'.size,ho41'.block⟩
          have hu3:w41.ownsRow W14.heap.size 36 2 u2 (putL nxj kj y).length (Qd (putL nxj kj y)):=hu2
          have r4:=Qa ho41 k4 (by simp)
          have r0:=Qa ho41 k0 (by simp)
          have r1:=Qa ho41 k1 (by simp)
          obtain⟨uA2,uc2,rfl,_,_⟩:=Qc hu3
          have HU:=hid hu3
          have HO41:=hid ho41
          clear hu2 ho41' ho41 hu3
          refine hK.out _ _ (⟨r4,r0,r1⟩) (fun hHeld=>?_)
          clear hK K
          try simp only[sp]
          refine tk 14 ?_
          refine wpAnyH_done (by kernel_rfl) ?_ _
          go_wp2_with fail
          go_roundg (L.length-(j+1))
          case measure=>omega
          case rel=>
           have hsz1:=HO.out.size
           have hsz2:=HO13.out.size
           have hsz3:=HO14.out.size
           have hpl:=putL_len nxj kj y
           have hnl2:=HNL.out
           refine⟨j+1,_,_,putL nxj kj y,(cj),ch,hlt,rfl,by first|(rw[HJ1.out];rfl)|go_num,?_,rfl,HCH.out,rfl,own_row HU.out,fun _=>Qn HU.out (by omega),HWB14.out.only HO41.out (by simp),(HO.out.trans (HO13.out.mono (by simp))).trans (HO14.out.trans (HO41.out.mono (by simp))),by omega,by omega,by omega,fun x e=>?_⟩
           ·rw[HST.out]
            unfold manyLStep
            dsimp only
            rw[HFC.out]
            rw[Int.add_zero]
           ·exact Nat.ne_of_gt (Nat.lt_of_lt_of_le hle (Nat.le_trans (Nat.le_trans hsz2 hsz3) (HU.out.lt x.block (by rw[e];rfl)).1))
         ·have HFC:=hid (show (if Qk nxj kj≠some vj then (1:Int) else 0)=1 from by rw[hf];simp[hy])
          clear hf
          have hcj1:=HCJ1.out
          go_wp2_with (go_at_call 111;refine hfind.mono ?_;rintro en w13 ⟨rfl,ho13⟩;have HO13:=hid ho13;have g4':=Qa ho13 g4 (by simp);have gf':=(HWB.out.only ho13 (by simp)).frozen;have ek:=Qa ho13 HKJ.out (by simp);have ev:=Qa ho13 HVJ.out (by simp);have e4':=Qa ho13 HE4J.out (by simp);clear ho13 g4 gf hkj hvj e4j)
          clear hcj1
          obtain⟨W14,hW14⟩:∃W14,w13.setCell ⟨w11.heap.size,4,none⟩ (.int .i64 (cj+1))=W14:=⟨_,rfl⟩
          rw[hW14]
          have ho14:Only [w11.heap.size] w13 W14:=by rw[←hW14];exact (Only.refl _ _).setCell (.inl (by simp)) _
          have hwb14:Blk W14 w11.heap.size [.int .i64 0,.bool false,.int .i64 num,.bool false,.int .i64 (cj+1)] 57:=by rw[←hW14];exact (HWB.out.only HO13.out (by simp)).set 4 _
          have hr14:Row W14 uA (Qd nxj):=fun q u hu=>by
           obtain⟨b',o',e,hcc⟩:=HUR.out q u hu
           exact⟨b',o',e,Qa ho14 (Qa HO13.out hcc (by simp)) (by simpa using HNB.out _ e)⟩
          have HR14:=hid hr14
          have k0:=Qa ho14 ek (by simpa using HPBW.out)
          have k1:=Qa ho14 ev (by simpa using HPBW.out)
          have k4:=Qa ho14 e4' (by simpa using HB3W.out)
          have HO14:=hid ho14
          have HWB14:=hid hwb14
          have hput:=fun W (ho:Only [] W14 W)=>lawPut_any W uA uc nxj HNJ.out (hr14.below ho.below) kj vj
          have HPUT:=hid hput
          clear hW14 ek ev e4' g4' gf' hr14 ho14 hwb14 hput
          refine wp_region_held_drew (S:=(fun W=>W.cell? ⟨w.heap.size,4,none⟩=some (.slice (some ⟨pb,po,none⟩) L.length lc)∧W.cell? ⟨pb,po+j*2,none⟩=some (.int .i64 kj)∧W.cell? ⟨pb,po+j*2+1,none⟩=some (.int .i64 vj))) (by kernel_rfl) ?_ (fun hHeld=>?_)
          ·exact⟨k4,k0,k1⟩
          refine tk 0 ?_
          refine tk 1 ?_
          refine tk 2 ?_
          refine tk 3 ?_
          refine tk 4 ?_
          refine tk 5 ?_
          refine tk 6 ?_
          refine tk 7 ?_
          refine tk 8 ?_
          refine tk 9 ?_
          refine tk 10 ?_
          refine tk 11 ?_
          refine tk 12 ?_
          refine on1 13 (fun K hK=>?_)
          go_simp
          go_at_call 14
          refine (HPUT.out _ (Only.refl [] W14).drew').mono ?_
          rintro en w41 ⟨u2,rfl,hu2,ho41'⟩
          have ho41:Only [] W14 w41:=⟨ho41'.os,ho41'.tape,ho41'.output,ho41'.size,ho41'.block⟩
          have hu3:w41.ownsRow W14.heap.size 36 2 u2 (putL nxj kj vj).length (Qd (putL nxj kj vj)):=hu2
          have r4:=Qa ho41 k4 (by simp)
          have r0:=Qa ho41 k0 (by simp)
          have r1:=Qa ho41 k1 (by simp)
          obtain⟨uA2,uc2,rfl,_,_⟩:=Qc hu3
          have HU:=hid hu3
          have HO41:=hid ho41
          clear hu2 ho41' ho41 hu3
          refine hK.out _ _ (⟨r4,r0,r1⟩) (fun hHeld=>?_)
          clear hK K
          try simp only[sp]
          refine tk 14 ?_
          refine wpAnyH_done (by kernel_rfl) ?_ _
          go_wp2_with fail
          go_roundg (L.length-(j+1))
          case measure=>omega
          case rel=>
           have hsz1:=HO.out.size
           have hsz2:=HO13.out.size
           have hsz3:=HO14.out.size
           have hpl:=putL_len nxj kj vj
           have hnl2:=HNL.out
           refine⟨j+1,_,_,putL nxj kj vj,(cj+1),true,hlt,rfl,by first|(rw[HJ1.out];rfl)|go_num,?_,rfl,(by rw[eq_comm,decide_eq_true_eq];omega),rfl,own_row HU.out,fun _=>Qn HU.out (by omega),HWB14.out.only HO41.out (by simp),(HO.out.trans (HO13.out.mono (by simp))).trans (HO14.out.trans (HO41.out.mono (by simp))),by omega,by omega,by omega,fun x e=>?_⟩
           ·rw[HST.out]
            unfold manyLStep
            dsimp only
            rw[HFC.out]
           ·exact Nat.ne_of_gt (Nat.lt_of_lt_of_le hle (Nat.le_trans (Nat.le_trans hsz2 hsz3) (HU.out.lt x.block (by rw[e];rfl)).1))
       ·have hjl:j=L.length:=by omega
        subst hjl
        rw[List.take_length] at hfold
        first|(have _:=tg7;have hcc:(nxj,cj)=(nx,cnt):=by rw[←hfold];exact HCNT.out)|(have hcc:(nxj,cj)=(nx,0):=by rw[←hfold];exact HCNT.out)
        injection hcc with hcc1 hcc2
        first|(have _:=tg7;subst hcc1 hcc2)|(subst hcc1;subst hcc2)
        have hlen0:0<L.length:=by have:=(List.getElem?_eq_some_iff.1 HL0.out).1;exact this
        have hmvZ:=(HMV.out.fresh (HO11.out.trans HO12.out) (by simp)).fresh HO.out (by have h3:=HMV.out.size;have h4:=HO11.out.size;simp;omega)
        have hbZ:¬Qw Y ed D1 w11.heap.size:=HDW.out _ (by have h3:=HMV.out.size;have h4:=HO11.out.size;omega) (.inl (by have h3:=HSZ10.out;have h4:=HO11.out.size;omega))
        have hsZ:=(HS10.out.new (HO11.out.trans HO12.out)).only HO.out (fun k hk=>by
         obtain rfl:=List.mem_singleton.1 hk
         exact⟨by have h1:=HS.out.room;have h3:=HMV.out.size;have h4:=HO11.out.size;omega,hbZ⟩)
        have hle1:¬lb=w11.heap.size:=by have:=HM11.out.ls.1;omega
        have hle2:¬lb=w0.heap.size:=by have:=HM.out.ls.1;have:=HO0.out.size;omega
        have hle3:¬w0.heap.size=w11.heap.size:=by have:=HB11.out.lt;omega
        have hle4:¬w11.heap.size=lb:=fun e=>hle1 e.symm
        have hle5:¬w0.heap.size=lb:=fun e=>hle2 e.symm
        have hle6:¬w11.heap.size=w0.heap.size:=fun e=>hle3 e.symm
        have hq0:=Qa HO.out HQ0.out (by simpa using hle1)
        have hq1:=Qa HO.out HQ1.out (by simpa using hle1)
        have hlf:=(HM12.out.l.only HO.out (by simpa using hle1)).frozen
        have hb7w:=HB712.out.only HO.out (by simpa using hle3)
        have f0:=hb7w.cell (i:=0) rfl
        have f1:=hb7w.cell (i:=1) rfl
        have f2:=hb7w.cell (i:=2) rfl
        have f3:=hb7w.cell (i:=3) rfl
        have f4:=hb7w.cell (i:=4) rfl
        have g0:=hwb.cell (i:=0) rfl
        have g1:=hwb.cell (i:=1) rfl
        have g2:=hwb.cell (i:=2) rfl
        have g3:=hwb.cell (i:=3) rfl
        have g4:=hwb.cell (i:=4) rfl
        have gf:=hwb.frozen
        have hb3w:w.heap.size≠w11.heap.size:=by have h3:=HMV.out.size;have h4:=HO11.out.size;have h5:=HB3.out.lt;have h6:=HB11.out.lt;have h7:=HO0.out.size;omega
        have e4j:=Qa HO.out HE4.out (by simpa using hb3w)
        have hn1:wrap64 (num+1)=num+1:=IntWalk.wrap64_in _ (by omega)
        have HSZZ:=hid hsZ
        have HMVZ:=hid hmvZ
        have HBZ:=hid hbZ
        have HUOZ:=hid (huo hlen0)
        have HWBZ:=hid hwb
        clear hsZ hmvZ hbZ huo hwb hb7w hur hfold ho hc0 hc1 hnl hb3w hlt hj
        first|(have _:=tg7;have hch:ch=true:=by rw[HCH.out];simpa using HCB.out)|(have hch:ch=false:=by rw[HCH.out];simp)
        subst hch
        go_wp2_with fail
        go_ret
        first|(have _:=tg7;exact set_end HS.out HM.out HMVZ.out HSZZ.out HE.out (by have h3:=HMV.out.size;have h4:=HO11.out.size;omega) HWBZ.out.lt HBZ.out HUOZ.out hwl (fun k hk=>HDW.out k (by have:=(HUOZ.out.lt k hk).1;have h3:=HMV.out.size;have h4:=HO11.out.size;omega) (.inl (by have:=(HUOZ.out.lt k hk).1;have h3:=HSZ10.out;have h4:=HO11.out.size;omega))) _ _)|(exact moved_end HS.out HM.out HMVZ.out HSZZ.out)
  |skip
abbrev write5Zero_any:=(write5_all w Y ed D X X' mb lb els sv sns hs hm hn a b cv LA lc).1
abbrev write5No_any:=(write5_all w Y ed D X X' mb lb els sv sns hs hm hn a b cv LA lc).2.1
abbrev write5Other_any:=(write5_all w Y ed D X X' mb lb els sv sns hs hm hn a b cv LA lc).2.2.1
abbrev write5Yes_any:=(write5_all w Y ed D X X' mb lb els sv sns hs hm hn a b cv LA lc).2.2.2.1
abbrev write5Same_any:=(write5_all w Y ed D X X' mb lb els sv sns hs hm hn a b cv LA lc).2.2.2.2
end
section
variable (w:World)(Y:StoreL)(ed:Option Nat)(D:Nat→List Nat)(X X':StoreS)(mb lb:Nat)(els:List PlEl)(sv:Value)(sns:List (SnapL × Value))(hs:StoreIn w Y ed D X)(hm:LawM w Y ed D mb lb els sv sns)(hn:els.length=Y.n)(key v cv:Int)(LA:Option Addr)(L:List (Int × Int))(lc:Nat)(hL:ArgL w Y LA L)(hk:Qt key=false)
include w Y ed D X X' mb lb els sv sns hs hm hn key v cv LA L lc hL hk
theorem writeNo_all:(∀(hop:∀W,Only [] w W→Calls prog 18 #[ptr Y.sb,.pointer none,.int .i64 key,.int .i64 v] W (Qh Y ed D ToldS.zero 161 X' W)),Calls prog 49 #[ptr mb,.agg #[.int .i64 2,.int .i64 key,.int .i64 v,.int .i64 cv,.slice LA L.length lc]] w (LawEnd Y ed mb lb sv sns X' (els.map (·.2)) w)) ∧
  (∀(hop:∀W,Only [] w W→Calls prog 107 #[ptr Y.sb,.pointer none,.int .i64 key] W (Qh Y ed D ToldS.zero 161 X' W)),Calls prog 49 #[ptr mb,.agg #[.int .i64 3,.int .i64 key,.int .i64 v,.int .i64 cv,.slice LA L.length lc]] w (LawEnd Y ed mb lb sv sns X' (els.map (·.2)) w)) ∧
  (∀(hop:∀W,Only [] w W→Calls prog 108 #[ptr Y.sb,.pointer none,.int .i64 key,.int .i64 v,.int .i64 cv] W (Qh Y ed D ToldS.zero 161 X' W)),Calls prog 49 #[ptr mb,.agg #[.int .i64 4,.int .i64 key,.int .i64 v,.int .i64 cv,.slice LA L.length lc]] w (LawEnd Y ed mb lb sv sns X' (els.map (·.2)) w)):=by
 refine⟨?_,?_,?_⟩
 intro hop;have tg1:=0;rotate_left
 intro hop;have tg2:=0;rotate_left
 intro hop;rotate_left
 all_goals
  unfold Qh ToldS.val ToldS.zero at hop
  dsimp only at hop
  first|(have _:=tg1;obtain⟨w0,hw0⟩:∃w0,w.alloc (.cells #[.int .i64 2,.int .i64 key,.int .i64 v,.int .i64 cv,.slice LA L.length lc] 34)=w0:=⟨_,rfl⟩)|(have _:=tg2;obtain⟨w0,hw0⟩:∃w0,w.alloc (.cells #[.int .i64 3,.int .i64 key,.int .i64 v,.int .i64 cv,.slice LA L.length lc] 34)=w0:=⟨_,rfl⟩)|(obtain⟨w0,hw0⟩:∃w0,w.alloc (.cells #[.int .i64 4,.int .i64 key,.int .i64 v,.int .i64 cv,.slice LA L.length lc] 34)=w0:=⟨_,rfl⟩)
  have ho0:Only [] w w0:=by rw[←hw0];exact (Only.refl _ _).alloc _
  first|(have _:=tg1;have hb3:Blk w0 w.heap.size [.int .i64 2,.int .i64 key,.int .i64 v,.int .i64 cv,.slice LA L.length lc] 34:=by rw[←hw0];exact Blk.new w _ 34)|(have _:=tg2;have hb3:Blk w0 w.heap.size [.int .i64 3,.int .i64 key,.int .i64 v,.int .i64 cv,.slice LA L.length lc] 34:=by rw[←hw0];exact Blk.new w _ 34)|(have hb3:Blk w0 w.heap.size [.int .i64 4,.int .i64 key,.int .i64 v,.int .i64 cv,.slice LA L.length lc] 34:=by rw[←hw0];exact Blk.new w _ 34)
  have hof:=lawOf_any w0 mb (ptr Y.sb) sv (some ⟨lb,0,none⟩) els.length els.length (by rw[hn];exact hs.ok.n) (hm.m.only ho0 (by simp)) key
  unfold ofI at hof
  rw[if_neg (by simp[hk])] at hof
  have HS:=hid hs
  have HM:=hid hm
  have HO0:=hid ho0
  have HB3:=hid hb3
  have HL:=hid hL
  have HOP:=hid hop
  have HN:=hid hn
  have HW0:=hid hw0
  have c0:=hb3.cell (i:=0) rfl
  have c1:=hb3.cell (i:=1) rfl
  have c4:=hb3.cell (i:=4) rfl
  unfold ptr at *
  clear hs hm ho0 hb3 hL hop hn
  go_enter func49,ntmps49
  have c4a:=Qb c4 (.cells #[.int .i64 0,.bool false,.int .i64 0,.bool false,.int .i64 0] 57)
  have HRL:=hid (HL.out.row.below ((HO0.out.alloc (.cells #[.int .i64 0,.bool false,.int .i64 0,.bool false,.int .i64 0] 57)).below))
  have HLN:=hid (pairCells_len L)
  have HON:=hid (pairCells_one L)
  have HM1:=hid (show 0+L.length≤maxLen from by have:=HL.out.few;unfold maxLen;omega)
  have HM2:=hid (show (0+L.length)*16≤140737488355328 from by have:=HL.out.few;omega)
  go_wp2_with (first|(go_at_call 13;refine hof.mono ?_;rintro en w1 ⟨rfl,hw⟩;obtain rfl:w0=w1:=hw.symm)|(at_builtin;refine Qj rfl (.const (.slice none 0 0)) (.tmp 38) rfl elemPair rfl (World.ownsRow_nil _ (w0.alloc (.cells #[.int .i64 0,.bool false,.int .i64 0,.bool false,.int .i64 0] 57)).heap.size 36 2) _ L.length lc (Qd L) rfl HRL.out HLN.out HON.out HM1.out HM2.out (Nat.le_refl _) HL.out.nil ?_;intro v9 w9 hown9 hg9 hat9;rw[Nat.zero_add,List.nil_append] at hown9;obtain⟨A9,c9,rfl,_,_⟩:=Qc hown9;have HOWN9:=hid hown9;have ho09:Only [] w0 w9:=((Only.refl [] w0).alloc _).grown hg9 (fun k hk=>by cases hk);have ho9:=HO0.out.trans ho09;have hb39:=HB3.out.only ho09 (by simp);have hb7:Blk w9 w0.heap.size [.int .i64 0,.bool false,.int .i64 0,.bool false,.int .i64 0] 57:=(Blk.new w0 [.int .i64 0,.bool false,.int .i64 0,.bool false,.int .i64 0] 57).only ((Only.refl [] _).grown hg9 (fun k hk=>by cases hk)) (by simp);have hm9:=HM.out.new ho9;have m0:=hm9.m.cell (i:=0) rfl;have d0:=hb39.cell (i:=0) rfl;have c1:=hb39.cell (i:=1) rfl;have c2:=hb39.cell (i:=2) rfl;have c3:=hb39.cell (i:=3) rfl;have HO9:=hid ho9;have HB39:=hid hb39;have HB7:=hid hb7;have HM9:=hid hm9;have HSF3:=hid (Safe.fresh HS.out (Nat.le_refl w.heap.size) hb39.lt);have HSF7:=hid (Safe.fresh HS.out HO0.out.size hb7.lt);have HNE7:=hid (show ¬mb=w0.heap.size∧¬w.heap.size=w0.heap.size from ⟨by have:=HM.out.ms.1;have:=HO0.out.size;omega,by have:=HB3.out.lt;omega⟩);unfold ptr at m0;clear hown9 hg9 hat9 ho9 ho09 hb39 hb7 hm9))
  first|(have _:=tg1;refine wp_region_held_drew (S:=(fun W=>W.cell? ⟨mb,0,none⟩=some (.pointer (some ⟨Y.sb,0,none⟩))∧W.cell? ⟨w.heap.size,1,none⟩=some (.int .i64 key)∧W.cell? ⟨w.heap.size,2,none⟩=some (.int .i64 v))) (by kernel_rfl) ?_ (fun hHeld=>?_))|(have _:=tg2;refine wp_region_held_drew (S:=(fun W=>W.cell? ⟨mb,0,none⟩=some (.pointer (some ⟨Y.sb,0,none⟩))∧W.cell? ⟨w.heap.size,1,none⟩=some (.int .i64 key))) (by kernel_rfl) ?_ (fun hHeld=>?_))|(refine wp_region_held_drew (S:=(fun W=>W.cell? ⟨mb,0,none⟩=some (.pointer (some ⟨Y.sb,0,none⟩))∧W.cell? ⟨w.heap.size,1,none⟩=some (.int .i64 key)∧W.cell? ⟨w.heap.size,2,none⟩=some (.int .i64 v)∧W.cell? ⟨w.heap.size,3,none⟩=some (.int .i64 cv))) (by kernel_rfl) ?_ (fun hHeld=>?_))
  ·first|(have _:=tg1;exact⟨m0,c1,c2⟩)|(have _:=tg2;exact⟨m0,c1⟩)|(exact⟨m0,c1,c2,c3⟩)
  refine tk 0 ?_
  refine tk 1 ?_
  refine tk 2 ?_
  refine tk 3 ?_
  refine tk 4 ?_
  refine tk 5 ?_
  first|(have _:=tg1;refine tk 6 ?_;refine tk 7 ?_;refine on1 8 (fun K hK=>?_))|(have _:=tg2;refine on1 6 (fun K hK=>?_))|(refine tk 6 ?_;refine tk 7 ?_;refine tk 8 ?_;refine tk 9 ?_;refine on1 10 (fun K hK=>?_))
  go_simp
  first|(have _:=tg1;go_at_call 18)|(have _:=tg2;go_at_call 107)|(go_at_call 108)
  refine (HOP.out _ HO9.out.drew').mono ?_
  rintro en wS ⟨D1,rfl,hsS,hmS⟩
  have hmS9:Moves Y (Qw Y ed D) (Qw Y ed D1) w9 wS:=⟨hmS.os,hmS.tape,hmS.output,hmS.size,hmS.block,hmS.dyn⟩
  have HSS:=hid hsS
  have HMS:=hid hmS9
  have hbS:=HB39.out.heap (Safe.moves hmS9 HSF3.out).2
  have x0:=Qp m0 (Safe.moves hmS9 HM9.out.ms).2
  have x1:=hbS.cell (i:=1) rfl
  have x2:=hbS.cell (i:=2) rfl
  have x3:=hbS.cell (i:=3) rfl
  have hb7S:=HB7.out.heap (Safe.moves hmS9 HSF7.out).2
  have y0:=hb7S.cell (i:=0) rfl
  have y1:=hb7S.cell (i:=1) rfl
  have y2:=hb7S.cell (i:=2) rfl
  have y3:=hb7S.cell (i:=3) rfl
  have y4:=hb7S.cell (i:=4) rfl
  have yf:=hb7S.frozen
  have HBS3:=hid hbS
  have HBS7:=hid hb7S
  clear hsS hmS hmS9 hbS hb7S
  first|(have _:=tg1;refine hK.out _ _ (⟨x0,x1,x2⟩) (fun hHeld=>?_))|(have _:=tg2;refine hK.out _ _ (⟨x0,x1⟩) (fun hHeld=>?_))|(refine hK.out _ _ (⟨x0,x1,x2,x3⟩) (fun hHeld=>?_))
  clear hK K
  try simp only[sp]
  first|(have _:=tg1;refine tk 9 ?_;refine tk 10 ?_;refine tk 11 ?_;refine on1 12 (fun K hK=>?_))|(have _:=tg2;refine tk 7 ?_;refine tk 8 ?_;refine tk 9 ?_;refine on1 10 (fun K hK=>?_))|(refine tk 11 ?_;refine tk 12 ?_;refine tk 13 ?_;refine on1 14 (fun K hK=>?_))
  go_simp
  first|(have _:=tg1;refine hK.out _ _ (⟨Qa (five _ _ _ _ _ _ _) x0 (by simpa using HNE7.out.1),Qa (five _ _ _ _ _ _ _) x1 (by simpa using HNE7.out.2),Qa (five _ _ _ _ _ _ _) x2 (by simpa using HNE7.out.2)⟩) (fun hHeld=>?_))|(have _:=tg2;refine hK.out _ _ (⟨Qa (five _ _ _ _ _ _ _) x0 (by simpa using HNE7.out.1),Qa (five _ _ _ _ _ _ _) x1 (by simpa using HNE7.out.2)⟩) (fun hHeld=>?_))|(refine hK.out _ _ (⟨Qa (five _ _ _ _ _ _ _) x0 (by simpa using HNE7.out.1),Qa (five _ _ _ _ _ _ _) x1 (by simpa using HNE7.out.2),Qa (five _ _ _ _ _ _ _) x2 (by simpa using HNE7.out.2),Qa (five _ _ _ _ _ _ _) x3 (by simpa using HNE7.out.2)⟩) (fun hHeld=>?_))
  clear hK K
  try simp only[sp]
  first|(have _:=tg1;refine tk 13 ?_)|(have _:=tg2;refine tk 11 ?_)|(refine tk 15 ?_)
  refine wpAnyH_done (by kernel_rfl) ?_ _
  obtain⟨W10,hW10⟩:∃W10,((((wS.setCell ⟨w0.heap.size,0,none⟩ (.int .i64 0)).setCell ⟨w0.heap.size,1,none⟩ (.bool false)).setCell ⟨w0.heap.size,2,none⟩ (.int .i64 (0))).setCell ⟨w0.heap.size,3,none⟩ (.bool false)).setCell ⟨w0.heap.size,4,none⟩ (.int .i64 0)=W10:=⟨_,rfl⟩
  rw[hW10]
  have ho10:Only [w0.heap.size] wS W10:=by rw[←hW10];exact five _ _ _ _ _ _ _
  have hb7:Blk W10 w0.heap.size [.int .i64 0,.bool false,.int .i64 (0),.bool false,.int .i64 0] 57:=by rw[←hW10];exact ((((HBS7.out.set 0 _).set 1 _).set 2 _).set 3 _).set 4 _
  have hmv:Moves Y (Qw Y ed D) (Qw Y ed D1) w W10:=((Moves.of_new HO9.out).trans HMS.out).fresh ho10 (by have:=HO0.out.size;simpa using this)
  have hs10:StoreIn W10 Y ed D1 X':=HSS.out.only ho10 (fun k hk=>by
   obtain rfl:=List.mem_singleton.1 hk
   have:=Safe.moves HMS.out HSF7.out
   exact this.1.2)
  have hb3:=HBS3.out.only ho10 (by simpa using HNE7.out.2)
  have hl10:Row W10 A9 (Qd L):=fun j u hu=>by
   obtain⟨A,c,e1,hr,_⟩:=Qc HOWN9.out
   injection e1 with e1
   subst e1
   obtain⟨b,off,e2,hc⟩:=hr j u hu
   have hlt:=HOWN9.out.lt b (by rw[e2];rfl)
   have hsf:Safe w9 Y ed D b:=Safe.fresh HS.out (by have h1:=hlt.1;have h2:=HO0.out.size;rw[World.size_alloc] at h1;omega) hlt.2
   have hne:b≠w0.heap.size:=by have:=hlt.1;rw[World.size_alloc] at this;omega
   exact⟨b,off,e2,Qa ho10 (Qp hc (Safe.moves HMS.out hsf).2) (by simpa using hne)⟩
  have hL10:=HL.out.keep (KeepB.moves hmv (fun k hk=>(HS.out.dyn_lt hk).1))
  have hsame:=pairsSame_any W10 A9 LA c9 lc L (by have:=HL.out.few;omega) hl10 hL10.row
  have hm10:=HM.out.moves hmv
  have a4:=hb3.cell (i:=4) rfl
  have HB7':=hid hb7
  have HB3':=hid hb3
  have HMV:=hid hmv
  have HS10:=hid hs10
  have HM10:=hid hm10
  have HSAME:=hid hsame
  have HDW:=hid (show ∀k,w.heap.size≤k→wS.heap.size≤k∨k<w9.heap.size→¬Qw Y ed D1 k from fun k h1 h2 hd=>by
   rcases h2 with h2|h2
   ·have:=(HSS.out.dyn_lt hd).2
    omega
   ·exact (Safe.moves HMS.out (Safe.fresh HS.out h1 h2)).1.2.2 hd)
  have HSZ10:=hid (show wS.heap.size≤W10.heap.size from ho10.size)
  clear hW10 ho10 hb7 hmv hs10 hb3 hl10 hL10 hsame hm10 x0 x1 x2 x3 y0 y1 y2 y3 y4 yf m0 d0 c1 c2 c3 c0 c4 c4a hw0 hHeld
  go_wp2_with (go_at_call 109;refine HSAME.out.mono ?_;rintro en w11 ⟨rfl,ho11⟩;have HO11:=hid ho11;have hb711:=HB7'.out.only ho11 (by simp);have f0:=hb711.cell (i:=0) rfl;have f1:=hb711.cell (i:=1) rfl;have f2:=hb711.cell (i:=2) rfl;have f3:=hb711.cell (i:=3) rfl;have f4:=hb711.cell (i:=4) rfl;clear ho11 hb711)
  go_ret
  exact moved_end HS.out HM.out (HMV.out.fresh HO11.out (by simp)) (HS10.out.new HO11.out)
abbrev write2No_any:=(writeNo_all w Y ed D X X' mb lb els sv sns hs hm hn key v cv LA L lc hL hk).1
abbrev write3No_any:=(writeNo_all w Y ed D X X' mb lb els sv sns hs hm hn key v cv LA L lc hL hk).2.1
abbrev write4No_any:=(writeNo_all w Y ed D X X' mb lb els sv sns hs hm hn key v cv LA L lc hL hk).2.2
end
end Go.Proofs.YteeefedoffplmaaGreat
