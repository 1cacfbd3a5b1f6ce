/- StoreAlone, part Pat: LawFns2, PlainA, Made, NewPool, NewBoard, NewStore. -/
import Derived.Test.YteeefedoffplmaaGreatPaa
import Derived.Test.YteeefedoffplmaaGreatPas
import Derived.Test.YteeefedoffplmaaGreatPao
import Derived.BigRegion
import Derived.Test.YteeefedoffplmaaGreatPaq
import Derived.Test.YteeefedoffplmaaGreatPar
import Derived.Test.YteeefedoffplmaaGreatPak
import Derived.Test.YteeefedoffplmaaGreatPah
import Derived.Test.YteeefedoffplmaaGreatPad
import Derived.Deep.DeepCutAuto
import Derived.Deep.CutBlock
set_option linter.unusedSimpArgs false
set_option linter.unusedVariables false
set_option maxRecDepth 100000
set_option maxHeartbeats 51200000
namespace Go.Proofs.YteeefedoffplmaaGreat
open Go.RowKit Lib Go.Proofs.Tryz
abbrev PlainS:=List (Int × Int) × Int
def PlAt (w:World)(P:Nat→Prop)(b off:Nat)(ps:List PlainS):Prop:=
 ∀i p,ps[i]?=some p→∃A c,w.cell? ⟨b,off+i*3,none⟩=some (.slice A p.1.length c)∧w.cell? ⟨b,off+i*3+1,none⟩=some (.int .i64 p.2)∧w.cell? ⟨b,off+i*3+2,none⟩=some (.bool false)∧Row w A (Qd p.1)∧(∀a,A=some a→P a.block)∧(A=none→p.1.length=0)
def ofI (key:Int)(n:Nat):Int:=if Qt key=true then Qu key n else -1
theorem lawOf_any (w:World)(mb:Nat)(x0 x2:Value)(A:Option Addr)(n c:Nat)(hn:1≤n∧n≤64)(hb:Blk w mb [x0,.slice A n c,x2] 47)(key:Int):
  Calls prog 13 #[ptr mb,.int .i64 key] w fun e w'=>e=.returned (.int .i64 (ofI key n))∧w'=w:=by
 have c1:=hb.cell (i:=1) rfl
 unfold ofI
 unfold ptr
 cases hk:Qt key with
 |true=>
  have hp:=part_yes key n w hk (by omega) (by omega)
  rw[if_pos rfl]
  clear hb hk
  generalize Qu key (n:Int)=p at *
  go_enter func13,ntmps13
  go_wp2_with (go_at_call 47;refine hp.mono ?_;rintro e w' ⟨rfl,rfl⟩)
  go_ret
  exact⟨rfl,rfl⟩
 |false=>
  have hp:=part_no key n w hk
  rw[if_neg (by simp)]
  clear hb hk
  go_enter func13,ntmps13
  go_wp2_with (go_at_call 47;refine hp.mono ?_;rintro e w' ⟨rfl,rfl⟩)
  go_ret
  exact⟨rfl,rfl⟩
theorem lawLent_any (w:World)(x0 x1 x2 x3 f:Int)(A:Option Addr)(c:Nat)(l:List (Int × Int))(hl:l.length≤1000000)(hA:A=none→l.length=0)(hrow:Row w A (Qd l)):
  Calls prog 11 #[.agg #[.int .i64 x0,.int .i64 x1,.int .i64 x2,.int .i64 x3,.slice A l.length c,.int .i64 f]] w fun e w'=>∃v,e=.returned (.agg #[.int .i64 x0,.int .i64 x1,.int .i64 x2,.int .i64 x3,v,.int .i64 f])∧w'.ownsRow w.heap.size 36 2 v l.length (Qd l)∧Only [] w w':=by
 obtain⟨w0,hw0⟩:∃w0,(w.alloc (.cells #[.int .i64 x0,.int .i64 x1,.int .i64 x2,.int .i64 x3,.slice A l.length c,.int .i64 f] 31)).alloc (.cells #[.int .i64 0,.int .i64 0,.int .i64 0,.int .i64 0,.slice none 0 0,.int .i64 0] 31)=w0:=⟨_,rfl⟩
 have ho0:Only [] w w0:=by rw[←hw0];exact ((Only.refl _ _).alloc _).alloc _
 have hb0:Blk w0 w.heap.size [.int .i64 x0,.int .i64 x1,.int .i64 x2,.int .i64 x3,.slice A l.length c,.int .i64 f] 31:=by rw[←hw0];exact (Blk.new w _ 31).alloc _
 have hb1:Blk w0 (w.heap.size+1) [.int .i64 0,.int .i64 0,.int .i64 0,.int .i64 0,.slice none 0 0,.int .i64 0] 31:=by
  have:=Blk.new (w.alloc (.cells #[.int .i64 x0,.int .i64 x1,.int .i64 x2,.int .i64 x3,.slice A l.length c,.int .i64 f] 31)) [.int .i64 0,.int .i64 0,.int .i64 0,.int .i64 0,.slice none 0 0,.int .i64 0] 31
  rw[World.size_alloc] at this
  rw[←hw0]
  exact this
 have hr0:=hrow.below ho0.below
 have HR:=hid hr0;have HB0:=hid hb0;have HB1:=hid hb1;have HO0:=hid ho0;have HA:=hid hA
 have HLN:=hid (pairCells_len l);have HON:=hid (pairCells_one l)
 have HM1:=hid (show 0+l.length≤maxLen from by unfold maxLen;omega)
 have HM2:=hid (show (0+l.length)*16≤140737488355328 from by omega)
 have c4:=hb0.cell (i:=4) rfl
 clear hr0 hb0 hb1 ho0 hrow hl hA
 go_enter func11,ntmps11
 go_wp2_with (at_builtin;refine Qj rfl (.const (.slice none 0 0)) (.tmp 4) rfl elemPair rfl (World.ownsRow_nil _ (w.heap.size+2) 36 2) _ l.length c (Qd l) rfl HR.out HLN.out HON.out HM1.out HM2.out HB1.out.lt HA.out ?_;intro v5 w5 hown5 hg5 hat5;have ho5:Only [] w0 w5:=(Only.refl [] w0).grown hg5 (fun k hk=>by cases hk);obtain⟨A5,c5,rfl,_,_⟩:=Qc hown5;have hb05:=HB0.out.only ho5 (by simp);have f0:=hb05.frozen;have d0:=hb05.cell (i:=0) rfl;have d1:=hb05.cell (i:=1) rfl;have d2:=hb05.cell (i:=2) rfl;have d3:=hb05.cell (i:=3) rfl;have d4:=hb05.cell (i:=4) rfl;have d5:=hb05.cell (i:=5) rfl;have hb15:=HB1.out.only ho5 (by simp);have f1:=hb15.frozen;have g0:=hb15.cell (i:=0) rfl;have g1:=hb15.cell (i:=1) rfl;have g2:=hb15.cell (i:=2) rfl;have g3:=hb15.cell (i:=3) rfl;have g4:=hb15.cell (i:=4) rfl;have g5:=hb15.cell (i:=5) rfl;have HO5:=hid (HO0.out.trans ho5);have HOWN:=hid hown5;have hl1:=hb15.lt;clear hown5 hg5 hat5 hb05 hb15 ho5)
 have hown:=HOWN.out
 rw[Nat.zero_add] at hown
 have g:Only [w.heap.size,w.heap.size+1] w5 (((((((w5.setCell ⟨w.heap.size,4,none⟩ (.slice A5 l.length c5)).setCell ⟨w.heap.size+1,0,none⟩ (.int .i64 x0)).setCell ⟨w.heap.size+1,1,none⟩ (.int .i64 x1)).setCell ⟨w.heap.size+1,2,none⟩ (.int .i64 x2)).setCell ⟨w.heap.size+1,3,none⟩ (.int .i64 x3)).setCell ⟨w.heap.size+1,4,none⟩ (.slice A5 l.length c5)).setCell ⟨w.heap.size+1,5,none⟩ (.int .i64 f)):=
  ((((((((Only.refl [w.heap.size,w.heap.size+1] w5).setCell (.inl (by simp)) _).setCell (.inl (by simp)) _).setCell (.inl (by simp)) _).setCell (.inl (by simp)) _).setCell (.inl (by simp)) _).setCell (.inl (by simp)) _).setCell (.inl (by simp)) _)
 refine bodyPost_ret (v:=.agg #[.int .i64 x0,.int .i64 x1,.int .i64 x2,.int .i64 x3,.slice A5 l.length c5,.int .i64 f]) (by simp[results,Tryz.results11,go_sem,g0,g1,g2,g3,g4,g5,hl1]) rfl ⟨_,rfl,Qn (Qe hown g (fun k hk e=>by have:=(hown.lt k hk).1;simp at e this;omega)) (by omega),((HO5.out.mono (Y:=[w.heap.size,w.heap.size+1]) (by simp)).trans g).fresh (fun k hk hl=>by simp at hk;omega)⟩
abbrev PlEl:=Value × PlainS
def PlEl.cells (e:PlEl):List Value:=[e.1,.int .i64 e.2.2,.bool false]
def PlV (w:World)(base:Nat)(v:Value)(els:List PlEl):Prop:=
 w.ownsRow base 49 3 v els.length (els.flatMap PlEl.cells)∧∀e∈els,w.ownsRow base 36 2 e.1 e.2.1.length (Qd e.2.1)∧∀k,e.1.ownBlock=some k→v.ownBlock≠some k
theorem elemPl:ElemOk prog 44 49 3 40:=elemOk_of (by kernel_rfl) (by decide) (.agg #[.slice none 0 0,.int .i64 0,.bool false]) (by kernel_rfl) rfl
theorem PlV.at {w:World}{base b:Nat}{n c:Nat}{els:List PlEl}(h:PlV w base (.slice (some ⟨b,0,none⟩) n c) els):PlAt w (fun k=>base≤k∧k<w.heap.size∧k≠b) b 0 (els.map (·.2)):=by
 intro i p hp
 rw[List.getElem?_map] at hp
 cases he:els[i]? with
 |none=>rw[he] at hp;cases hp
 |some e=>
  rw[he] at hp
  injection hp with hp
  subst hp
  have hg:=Qz PlEl.cells 3 (fun _=>rfl) els i e he
  obtain⟨h1,h2⟩:=h.2 e (List.mem_of_getElem? he)
  obtain⟨A,c',hv,hr,hn⟩:=Qc h1
  have hown:=h.1
  have hll:n=els.length:=by
   rcases hown.2 with ⟨e,_⟩|⟨g,cap,cur,e,_⟩
   ·cases e
   ·injection e
  subst hll
  refine⟨A,c',?_,?_,?_,hr,fun a ha=>?_,hn⟩
  ·have:=own_cell hown (j:=i*3+0) (by rw[hg 0 (by decide)];rfl)
   rw[←hv]
   simpa using this
  ·have:=own_cell hown (j:=i*3+1) (by rw[hg 1 (by decide)];rfl)
   simpa [Nat.add_assoc] using this
  ·have:=own_cell hown (j:=i*3+2) (by rw[hg 2 (by decide)];rfl)
   simpa [Nat.add_assoc] using this
  ·subst ha
   have h3:=row_block (b:=a) (n:=e.2.1.length) (c:=c') (by rw[hv] at h1;exact h1)
   obtain⟨g,c'',hgv⟩:∃g,∃c'',e.1=.slice (some ⟨g,0,none⟩) e.2.1.length c'':=by
    rcases h1.2 with ⟨e1,_⟩|⟨g,cap,cur,e1,_⟩
    ·rw[e1] at hv;cases hv
    ·exact⟨g,cap,e1⟩
   rw[hv] at hgv
   injection hgv with hgv
   injection hgv with hgv
   subst hgv
   exact⟨h3.1,h3.2,fun e2=>h2 g (by rw[hv];rfl) (by have e2:g=b:=e2;rw[e2];rfl)⟩
theorem PlV.snoc {w wr w5 w6:World}{v v6 A5:Value}{els:List PlEl}{l:List (Int × Int)}{num:Int}{o5:Obj}(h:PlV wr w.heap.size v els)(ho:Only [] w wr)(ho5:Only [] wr w5)
  (h5:w5.ownsRow wr.heap.size 36 2 A5 l.length (Qd l)) (hg:(w5.alloc o5).grownBy w6 v.ownBlock) (hat:v6.ownBlock=v.ownBlock∨v6.ownBlock=some (w5.alloc o5).heap.size)
  (hown:w6.ownsRow w.heap.size 49 3 v6 (els.length+1) (els.flatMap PlEl.cells ++ [A5,.int .i64 num,.bool false])):PlV w6 w.heap.size v6 (els ++ [(A5,(l,num))]):=by
 have hs5:=ho5.size
 have hsa:=Qg w5 o5
 have hv:∀k,v.ownBlock=some k→k<wr.heap.size:=fun k hk=>(h.1.lt k hk).2
 refine⟨?_,fun e he=>?_⟩
 ·rw[List.length_append,List.flatMap_append]
  simpa [PlEl.cells] using hown
 ·rcases List.mem_append.1 he with he|he
  ·obtain⟨h1,h2⟩:=h.2 e he
   refine⟨own_grown (Qe h1 (ho5.alloc o5) (by simp)) hg (fun g hg'=>h2 g hg'),fun k hk=>?_⟩
   rcases hat with hat|hat
   ·rw[hat];exact h2 k hk
   ·rw[hat]
    have:=(h1.lt k hk).2
    intro e
    injection e with e
    omega
  ·obtain rfl:=List.mem_singleton.1 he
   have hA:∀k,A5.ownBlock=some k→wr.heap.size≤k∧k<w5.heap.size:=fun k hk=>h5.lt k hk
   refine⟨own_grown (Qn (h5.alloc o5) ho.size) hg (fun g hg' e=>?_),fun k hk=>?_⟩
   ·have:=hA g hg'
    have:=hv g e
    omega
   ·have h3:=hA k hk
    rcases hat with hat|hat
    ·rw[hat]
     intro e
     have:=hv k e
     omega
    ·rw[hat]
     intro e
     injection e with e
     omega
def LkRel (ps:List PlainS)(w:World)(k:Nat)(s3 s4:Value)(wr:World):Prop:=
 ∃(els:List PlEl),els.length≤ps.length∧s4=.int .i64 (els.length:Int)∧k=ps.length-els.length∧els.map (·.2)=ps.take els.length∧PlV wr w.heap.size s3 els∧Only [] w wr
theorem lawLook_any (w:World)(P:Nat→Prop)(b off c:Nat)(ps:List PlainS)(hn:ps.length≤64)(hl:∀p∈ps,p.1.length≤100000)(hp:PlAt w P b off ps):
  Calls prog 112 #[.slice (some ⟨b,off,none⟩) ps.length c] w fun e w'=>∃v els,e=.returned v∧els.map (·.2)=ps∧PlV w' w.heap.size v els∧Only [] w w':=by
 have HP:=hid hp;have HN:=hid hn;have HL:=hid hl
 clear hp hn hl
 go_enter func112,ntmps112
 go_wp2_with fail
 go_loopg [3,4] ps.length (fun k s3 s4 wr=>LkRel ps w k s3 s4 wr)
 case atStart=>exact⟨[],Nat.zero_le _,rfl,rfl,by simp,⟨World.ownsRow_nil _ _ 49 3,by simp⟩,Only.refl _ _⟩
 case round=>
  obtain⟨els,hj,rfl,rfl,hmap,hv,ho⟩:=hrel
  obtain⟨oA,oc,rfl,_,_⟩:=Qc hv.1
  have HO:=hid ho;have HV:=hid hv;have HMAP:=hid hmap
  by_cases hlt:els.length<ps.length
  ·have hlt':(els.length:Int)<ps.length:=by omega
   obtain⟨⟨l,num⟩,hx⟩:∃x,ps[els.length]?=some x:=⟨_,List.getElem?_eq_getElem hlt⟩
   obtain⟨A,ac,c0,c1,c2,hrow,hAP,hA0⟩:=HP.out _ _ hx
   dsimp only at c0 c1 c2 hrow hA0
   have hll:l.length≤100000:=HL.out _ (List.mem_of_getElem? hx)
   have d0:=c0;have d1:=c1;have d2:=c2
   replace c0:=Qa ho c0 (by simp)
   replace c1:=Qa ho c1 (by simp)
   replace c2:=Qa ho c2 (by simp)
   have HRL:=hid (hrow.below ho.below)
   have hj1:wrap64 ((els.length:Int)+1)=(els.length:Int)+1:=IntWalk.wrap64_in _ (by have:=HN.out;omega)
   have HJ1:=hid hj1;have HX:=hid hx;have HA0:=hid hA0
   have HLN:=hid (pairCells_len l);have HON:=hid (pairCells_one l)
   have HM1:=hid (show 0+l.length≤maxLen from by unfold maxLen;omega)
   have HM2:=hid (show (0+l.length)*16≤140737488355328 from by omega)
   have HM3:=hid (show els.length+1≤maxLen from by have:=HN.out;unfold maxLen;omega)
   have HM4:=hid (show (els.length+1)*40≤140737488355328 from by have:=HN.out;omega)
   have HB1:=hid (show wr.heap.size≤wr.drew.heap.size from Nat.le_refl _)
   have HC0:=hid (show ∀W,Only [] w W→W.cell? ⟨b,off+els.length*3,none⟩=some (.slice A l.length ac) from fun W hW=>Qa hW d0 (by simp))
   have HC1:=hid (show ∀W,Only [] w W→W.cell? ⟨b,off+els.length*3+1,none⟩=some (.int .i64 num) from fun W hW=>Qa hW d1 (by simp))
   have HC2:=hid (show ∀W,Only [] w W→W.cell? ⟨b,off+els.length*3+2,none⟩=some (.bool false) from fun W hW=>Qa hW d2 (by simp))
   have HWW:=hid ho.size
   clear hx hrow hAP hA0 hj1 hll hmap hv ho hj d0 d1 d2
   go_wp2_with fail
   refine wp_region_held_drew (S:=(fun W=>W.cell? ⟨b,off+els.length*3,none⟩=some (.slice A l.length ac)∧W.cell? ⟨b,off+els.length*3+1,none⟩=some (.int .i64 num)∧W.cell? ⟨b,off+els.length*3+2,none⟩=some (.bool false))) (by kernel_rfl) ?_ (fun hHeld=>?_)
   ·exact⟨c0,c1,c2⟩
   refine tk 0 ?_
   refine tk 1 ?_
   refine tk 2 ?_
   refine tk 3 ?_
   refine tk 4 ?_
   refine tk 5 ?_
   refine tk 7 ?_
   refine tk 8 ?_
   refine tk 9 ?_
   refine tk 10 ?_
   refine tk 11 ?_
   refine tk 12 ?_
   refine tk 13 ?_
   refine tk 14 ?_
   refine tk 15 ?_
   refine tk 16 ?_
   refine on1 6 (fun K hK=>?_)
   refine Zb rfl (.const (.slice none 0 0)) (.tmp 16) rfl elemPair rfl (World.ownsRow_nil _ wr.heap.size 36 2) _ l.length ac (Qd l) rfl HRL.out HLN.out HON.out HM1.out HM2.out HB1.out HA0.out ?_;intro v5 w5 hown5 hg5 hat5;rw[Nat.zero_add,List.nil_append] at hown5;have ho5:Only [] wr w5:=(Only.refl [] wr).drew'.grown hg5 (fun k hk=>by cases hk);obtain⟨A5,c5,rfl,_,_⟩:=Qc hown5;have y0:=Qa ho5 c0 (by simp);have y1:=Qa ho5 c1 (by simp);have y2:=Qa ho5 c2 (by simp);have HO5:=hid ho5;have HOWN5:=hid hown5;have HVW:=hid ((Qe HV.out.1 ho5 (by simp)).alloc (.cells #[.slice A5 l.length c5,.int .i64 num,.bool false] 49));have HRN:=hid (Zg w5 [.slice A5 l.length c5,.int .i64 num,.bool false] 49);have HBS:=hid (Nat.le_trans (Nat.le_trans HWW.out ho5.size) (Qg w5 (.cells #[.slice A5 l.length c5,.int .i64 num,.bool false] 49)));clear hown5 hg5 hat5 ho5
   refine hK.out _ _ ⟨y0,y1,y2⟩ (fun hHeld=>?_)
   clear hK K
   try simp only[sp]
   refine tk 17 ?_
   refine on1 18 (fun K hK=>?_)
   go_simp
   refine hK.out _ _ ⟨Qb y0 _,Qb y1 _,Qb y2 _⟩ (fun hHeld=>?_)
   clear hK K
   try simp only[sp]
   refine on1 19 (fun K hK=>?_)
   refine Zb rfl (.tmp 11) (.tmp 29) rfl elemPl rfl HVW.out _ 1 1 [.slice A5 l.length c5,.int .i64 num,.bool false] rfl HRN.out rfl (by simp[Value.oneCell']) HM3.out HM4.out HBS.out (fun e=>by cases e) ?_;intro v6 w6 hown6 hg6 hat6;have z0:=own_grow HV.out.1 HO.out (HO5.out.alloc (.cells #[.slice A5 l.length c5,.int .i64 num,.bool false] 49)) hg6;have HPV:=hid (HV.out.snoc (l:=l) (num:=num) HO.out HO5.out HOWN5.out hg6 hat6 hown6);obtain⟨A6,c6,rfl,_,_⟩:=Qc hown6;have HO6:=hid z0;clear hown6 hg6 hat6 z0
   refine hK.out _ _ ⟨HC0.out _ HO6.out,HC1.out _ HO6.out,HC2.out _ HO6.out⟩ (fun hHeld=>?_)
   clear hK K
   try simp only[sp]
   refine tk 20 ?_
   refine wpAnyH_done (by kernel_rfl) ?_ _
   go_wp2_with fail
   go_roundg (ps.length-(els.length+1))
   case measure=>omega
   case rel=>
    refine⟨els ++ [(.slice A5 l.length c5,(l,num))],by simp;omega,?_,by simp,by rw[List.map_append,HMAP.out,List.length_append,List.length_cons,List.length_nil,Zd HX.out];rfl,HPV.out,HO6.out⟩
    rw[HJ1.out,List.length_append];rfl
  ·have hjl:els.length=ps.length:=by omega
   have HJ:=hid hjl
   clear hjl
   go_wp2_with fail
   go_ret
   exact⟨_,els,rfl,by rw[HMAP.out,HJ.out,List.take_length],HV.out,HO.out⟩
section
variable {N n:Nat}{X X0:StoreS}{V:List (List Ver)}{ms sh:List MapS}{B:Nat}{G:Int}
theorem getP_is (Y:StoreL)(h:St N n X V ms B G){i:Nat}{v:Ver}{l:List Ver}{m:MapS}(hv:V[i]?=some (v :: l))(hm:ms[i]?=some m)(hr:ReadyP Y X0 i X){k:Int}(h0:0≤k)(h1:k≤4294967295):
  GetP Y X0 i k ⟨(m.1 k).getD 0,(m.1 k).isSome,m.2,false,0⟩ X:=by
 obtain⟨C,a,m0,hC,ha,hm',hp,hnew⟩:=newestP_is h hv X.epoch.enter
 rw[hm] at hm'
 cases hm'
 obtain⟨p1,p2,p3,p4,p5,p6⟩:=hp
 have hfind:=mfind_is k p4.tops.1 p4.tops.2 h0 h1
 refine⟨X,C,v.h,X.pool,_,(m.1 k).getD 0,(m.1 k).isSome,hr,h.deep,hnew,?_,?_,?_⟩
 ·dsimp only
  rw[hfind,p6]
 ·rw[p5]
 ·rw[enter_leave h.at0 h.deep]
theorem seeP_is (Y:StoreL)(h:St N n X V ms B G){i:Nat}{v:Ver}{l:List Ver}{m:MapS}(hv:V[i]?=some (v :: l)){t:Int}(hs:ShownIs V ms t sh)(hm:sh[i]?=some m)(hr:ReadyP Y X0 i X)
  {k:Int} (h0:0≤k) (h1:k≤4294967295):∃nd,SeeP Y X0 i t nd X∧X.pool.find nd.a k=some ((m.1 k).getD 0,(m.1 k).isSome)∧nd.b=m.2:=by
 have hi:i<n:=by rw[←h.nv];exact (List.getElem?_eq_some_iff.1 hv).1
 obtain⟨C,a,vs,m0,hC,ha,hv',hm',hp⟩:=h.get hi
 rw[hv] at hv'
 cases hv'
 obtain⟨p1,p2,p3,p4,p5,p6⟩:=hp
 obtain⟨u,q1,q2,q3,q4⟩:=hs i _ m hv hm
 have hat:=atStamp_is X.clock.now t p4 p2 (by have:=h.vlen hv;rw[h.inv.slots];omega)
 rw[q1] at hat
 obtain⟨r1,r2,r3⟩:=p4.mem u q2
 refine⟨⟨Qs u.tree,u.num,0,0⟩,⟨X,C,u.h,X.pool,hr,hC,hat,r1,rfl,rfl⟩,?_,q3⟩
 dsimp only
 rw[mfind_is k r2 r3 h0 h1,q4]
end
theorem trimW_of {N:Nat}{own:List Int}{G:Int}:∀(l:List Ver) (v:Ver) (f:Nat) (n:Int) (S:PoolS) (C:ChainS) (e:EpochS),PInv N S own G→Vers S C.sets (v :: l)→C.sets.length=N+1→l.length<f→((v :: l).map Ver.h).Nodup →
  (∀a∈cutAll v l,Ql a)→e.list.length+(cutAll v l).length≤90000→0≤n→n+(cutAll v l).length≤90000→(cutAll v l).length≤10000 →
  ∃r,TrimW f n v.h (C,e,S) r
 |_,_,0,_,_,_,_,_,_,_,hf,_,_,_,_,_,_=>by omega
 |[],v,f+1,n,S,C,e,h,hv,hl,hf,hd,k1,k2,k3,k4,k5=>by
  obtain⟨C1,S1,c1,c2,c3,c4,c5,c6,c7,c8,c9⟩:=cut_is h hv hl
  have hg:v.gone=[]:=hv.2.2.2.2.2.1
  rw[hg] at c1
  exact⟨_,0,[],C1,S1,c1,by rw[c2.slots,h.slots],by rw[c4,hl],by simp,by simp,by simp[cutAll] at k2 ⊢;omega,k3,by omega,.inl ⟨rfl,rfl⟩⟩
 |u :: l,v,f+1,n,S,C,e,h,hv,hl,hf,hd,k1,k2,k3,k4,k5=>by
  obtain⟨C1,S1,c1,c2,c3,c4,c5,c6,c7,c8,c9⟩:=cut_is h hv hl
  have hd2:v.h∉(u :: l).map Ver.h∧((u :: l).map Ver.h).Nodup:=List.nodup_cons.1 hd
  have hidx:∀x∈u :: l,(Qo x.h).toNat≠(Qo v.h).toNat:=by
   intro x hx e
   obtain⟨s,hs⟩:=hv.tail.alive x hx
   obtain⟨g,h1⟩:=hv.1
   exact hd2.1 (List.mem_map.2 ⟨x,hx,at_inj hs h1 (idx_toNat_inj e)⟩)
  have hne:∀x∈u :: l,x.h≠v.h:=fun x hx e=>hd2.1 (List.mem_map.2 ⟨x,hx,e⟩)
  have hv1:Vers S1 C1.sets (u :: l):=by
   refine hv.tail.of (fun x hx s hs=>by rw[c6 _ (hne x hx)];exact hs) (fun x hx b hb m hm=>?_) (fun x hx=>c8 _ (hidx x hx))
   obtain⟨s,hs1,hs2⟩:=Ze.1 hm
   by_cases e:b=v.h
   ·subst e
    obtain⟨g,h1⟩:=hv.1
    rw[h1] at hs1
    cases hs1
    obtain⟨g',h1'⟩:=c5
    exact Ze.2 ⟨_,h1',hs2⟩
   ·exact Ze.2 ⟨s,by rw[c6 b e];exact hs1,hs2⟩
  have hca:cutAll v (u :: l)=v.gone ++ (u.h :: cutAll u l):=rfl
  rw[hca] at k1 k2 k4 k5
  simp only[List.length_append,List.length_cons] at k2 k4 k5
  obtain⟨h1,h2⟩:=retireAll_list (v.gone ++ [u.h]) e
  simp only[List.length_append,List.length_cons,List.length_nil] at h1
  obtain⟨r,hr⟩:=trimW_of l u f (n+v.gone.length+1) S1 C1 (Zk e (v.gone ++ [u.h])) c2 hv1 c4 (by simp only[List.length_cons] at hf;omega) hd2.2
   (fun a ha=>k1 a (by simp[ha])) (by rw[h1];omega) (by omega) (by omega) (by omega)
  obtain⟨g2,z1⟩:=hv.tail.1
  exact⟨r,u.h,v.gone,C1,S1,c1,by rw[c2.slots,h.slots],by rw[c4,hl],by omega,fun a ha=>k1 a (by simp[ha]),by omega,k3,by omega,.inr ⟨at_nz z1,k1 _ (by simp),hr⟩⟩
theorem trimP_of {N n:Nat}{X:StoreS}{V:List (List Ver)}{ms:List MapS}{B:Nat}{G:Int}(h:St N n X V ms B G){i:Nat}(hi:i<n):∃c X',TrimP X i c X'∧X.trim i=some (c,X'):=by
 obtain⟨C,a,vs,m,hC,ha,hv,hm,hp⟩:=h.get hi
 have hvl:=h.vlen hv
 have hsm:=h.small
 have hC0:C.head=headOf vs∧Vers X.pool C.sets vs:=by
  cases vs with
  |nil=>exact⟨hp.2.2.1,trivial⟩
  |cons v l=>exact⟨hp.2.1,hp.2.2.2.1⟩
 have hat:=atStamp_is X.clock.now X.clock.least hC0.2 hC0.1 (by rw[h.inv.slots];omega)
 cases hf:firstAt X.clock.least vs with
 |none=>
  rw[hf] at hat
  refine⟨0,_,⟨h.deep,C,X.pool,hC,rfl,.inl ⟨hat,rfl,rfl⟩⟩,?_⟩
  unfold StoreS.trim
  rw[hC,Zj]
  dsimp only
  rw[hat,Zj]
  rfl
 |some v=>
  obtain⟨pre,l,hvs,hpre,hst⟩:=firstAt_split hf
  rw[hf] at hat
  have hperm:=owns_part X.epoch hv
  have hinv:PInv N X.pool (vown vs ++ restOf V i X.epoch) G:=h.inv.perm hperm
  have hcl:C.sets.length=N+1:=by
   cases vs with
   |nil=>exact hp.2.2.2.1
   |cons v l=>exact hp.2.2.1
  subst hvs
  have hnd:((pre ++ v :: l).map Ver.h).Nodup:=(List.nodup_append.1 (List.nodup_append.1 hinv.nodup).1).1
  have hnd2:((v :: l).map Ver.h).Nodup:=by
   rw[List.map_append] at hnd
   exact (List.nodup_append.1 hnd).2.1
  have hsuf:Vers X.pool C.sets (v :: l):=by
   have hall:=hC0.2
   clear hp hv hf hat hvl hperm hinv hnd hC0 hpre
   induction pre with
   |nil=>exact hall
   |cons x pre ih=>exact ih hall.tail
  have hsub:∀b∈cutAll v l,b∈vown (pre ++ v :: l):=fun b hb=>by
   have:=(cutAll_own l v hsuf).mem_iff.1 hb
   rcases List.mem_append.1 this with q|q
   ·exact List.mem_append_left _ (by rw[List.map_append];exact List.mem_append_right _ (by simp[q]))
   ·refine List.mem_append_right _ (List.mem_append_right _ ?_)
    unfold vgone at q ⊢
    rw[List.flatMap_append]
    exact List.mem_append_right _ q
  have hown:=h.inv.own_le
  have hlen:=hperm.length_eq
  have hcut:(cutAll v l).length≤(vown (pre ++ v :: l)).length:=by
   have h1:=(cutAll_own l v hsuf).length_eq
   have h2:(vown (pre ++ v :: l)).length=pre.length+(l.length+1)+((vtop (pre ++ v :: l)).length+((vgone pre).length+(vgone (v :: l)).length)):=by
    unfold vown vgone
    simp only[List.length_append,List.length_map,List.length_cons,List.flatMap_append]
   simp only[List.length_append,List.length_map] at h1
   omega
  have hel:X.epoch.enter.list.length≤4096:=by
   have:X.epoch.enter.list=X.epoch.list:=by cases X.epoch;rfl
   rw[this]
   unfold restOf at hlen
   simp only[List.length_append,List.length_map] at hlen
   omega
  simp only[List.length_append] at hlen
  obtain⟨r,hr⟩:=trimW_of l v (X.pool.slots.length+1) 0 X.pool C X.epoch.enter hinv hsuf hcl (by
   simp only[List.length_append,List.length_cons] at hvl
   rw[h.inv.slots]
   omega) hnd2 (fun b hb=>by
    obtain⟨s,hs⟩:=hinv.alive b (List.mem_append_left _ (hsub b hb))
    exact alive_in hs) (by omega) (Int.le_refl _) (by omega) (by omega)
  obtain⟨c,C2,e2,S2⟩:=r
  refine⟨c,_,⟨h.deep,C,X.pool,hC,rfl,.inr ⟨v.h,_,C2,e2,S2,hat,hr,rfl⟩⟩,?_⟩
  unfold StoreS.trim
  rw[hC,Zj]
  dsimp only
  rw[hat,Zj]
  dsimp only [Option.map]
  rw[hr.is]
  rfl
theorem putOk_at {k v:Int}{m:Int→Option Int}(h0:0≤k)(h1:k≤4294967295)(hv:Ql v):OkAt (PutOk k v) 34 34 m:=fun N S own G T hN h hn hG hi ho hd hsub hm=>
 ⟨keyB_of h0 h1,hv,wayIn_of hi ho (by have:=leaves_few h hN hd hsub;omega) h0 h1⟩
theorem dropOk_at {k:Int}{m:Int→Option Int}(h0:0≤k)(h1:k≤4294967295):OkAt (DropOk k) 34 34 m:=fun N S own G T hN h hn hG hi ho hd hsub hm=>
 ⟨keyB_of h0 h1,wayIn_of hi ho (by have:=leaves_few h hN hd hsub;omega) h0 h1⟩
theorem own_nil {w:World}{base e s:Nat}{v:Value}(h:w.ownsRow base e s v 0 [])(hn:v.ownBlock=none)(b2:Nat):w.ownsRow b2 e s v 0 []:=by
 obtain⟨h1,h2⟩:=h
 refine⟨h1,?_⟩
 rcases h2 with h2|⟨g,cap,cur,hv,_⟩
 ·exact .inl h2
 ·subst hv
  simp[Value.ownBlock] at hn
theorem EpochAt.raise {w:World}{eb pb base b2:Nat}{E:EpochS}(h:EpochAt w eb pb base none E)(he:E.list=[])(h1:eb<b2)(h2:b2≤w.heap.size):EpochAt w eb pb b2 none E:=by
 obtain⟨⟨lv,hb,hown,ho⟩,_,_,h4,h5,h6,h7,h8⟩:=h
 rw[he] at hown
 exact⟨⟨lv,hb,by rw[he];exact own_nil hown ho b2,ho⟩,h1,h2,h4,h5,h6,h7,h8⟩
theorem ChainAt.raise {w:World}{X:ChainL}{pb cb base b2:Nat}{C:ChainS}(h:ChainAt w X pb cb base [] C)(hs:∀s∈C.sets,s.2=[])(h1:X.xb<b2∧X.sb<b2)(h2:b2≤w.heap.size):ChainAt w X pb cb b2 [] C:=by
 obtain⟨⟨rows,e,q1,q2,q3⟩,h3,h4,h5,h6,h7⟩:=h
 refine⟨⟨rows,e,q1,q2,⟨fun r hr=>?_,q3.apart⟩⟩,h3,h1,h2,h6,by simp⟩
 obtain⟨o1,o2,o3⟩:=q3.own r hr
 have hr0:r.2.1=[]:=hs (r.1,r.2.1) (by rw[e];exact List.mem_map.2 ⟨r,hr,rfl⟩)
 have hn:r.2.2.ownBlock=none:=by
  cases h:r.2.2.ownBlock with
  |none=>rfl
  |some k=>exact absurd (o2 k h) (by simp)
 refine⟨?_,o2,o3⟩
 rw[hr0] at o1 ⊢
 exact own_nil o1 hn b2
end Go.Proofs.YteeefedoffplmaaGreat
namespace Go.Proofs.YteeefedoffplmaaGreat
open Lib Go.Proofs.Tryz
open Go.RowKit
theorem epochNew_any (w:World)(pb n:Nat)(hn:1≤n∧n≤8):
  Calls prog 42 #[ptr pb,.int .i64 (n:Int)] w fun e w'=>e=.returned (ptr w.heap.size)∧EpochAt w' w.heap.size pb (w.heap.size+1) none ⟨n,1,0,0,[]⟩∧Only [] w w':=by
 have hb:Blk (w.alloc (.cells (epochCells pb ⟨n,0,0,0,[]⟩ nilS).toArray 185)) w.heap.size (epochCells pb ⟨n,0,0,0,[]⟩ nilS) 185:=Blk.new w _ 185
 have hst:=atomStore (b:=w.heap.size) (i:=2) (x:=0) (y:=1) (hc:=hb.cell (i:=2) rfl) (hf:=hb.frozen 2)
 have h1:max (n:Int) 1=n:=by omega
 have h2:min (n:Int) 8=n:=by omega
 have hn1:(1:Int)≤n:=by omega
 have hn8:(n:Int)≤8:=by omega
 unfold epochCells zI nilS ptr at hst
 unfold ptr
 clear hb
 go_enter func42,ntmps42
 go_wp2_with (go_at_call 100;refine hst.mono ?_;rintro e w1 ⟨rfl,rfl⟩)
 go_ret
 have hb:=Blk.new w (epochCells pb ⟨n,1,0,0,[]⟩ nilS) 185
 exact⟨rfl,⟨⟨nilS,hb,World.ownsRow_nil _ _ 229 2,rfl⟩,by omega,hb.lt,hn,by simp,by simp,by simp,by simp⟩,(Only.refl _ _).alloc _⟩
theorem elemAtom:ElemOk prog 164 122 1 8:=elemOk_of (by kernel_rfl) (by decide) (.agg #[.int .i64 0]) (by kernel_rfl) rfl
theorem make_atoms (n:Nat)(hn:n≤4097):∃Z:Array Value,Z.toList=Zc (List.replicate n 0)∧∀w:World,(Instr.makeSlice 164 (.int .i64 (n:Int)) (.int .i64 (n:Int))).run prog w=.ok (.slice (some ⟨w.heap.size,0,none⟩) n n) (w.alloc (.cells Z 122)):=by
 obtain⟨ht,hs,i,z,hi,hz,h2,h3,h4⟩:=elemAtom
 have hz':z=.agg #[.int .i64 0]:=by
  have h:(prog.info? 122).bind (fun i=>i.zero)=some (.agg #[.int .i64 0]):=by kernel_rfl
  rw[hi] at h
  simp only[Option.bind_some] at h
  rw[hz] at h
  injection h
 subst hz'
 refine⟨madeCells (Value.agg #[.int .i64 0]).cells (n*1),?_,fun w=>?_⟩
 ·have hc:(Value.agg #[.int .i64 0]).cells=#[.int .i64 0]:=rfl
  rw[hc]
  simp[madeCells,Zc,Nat.mod_one]
  apply List.ext_getElem?
  intro j
  by_cases hj:j<n <;> simp[hj]
 ·have:=run_makeSlice (P:=prog) (w:=w) 164 122 i (.agg #[.int .i64 0]) ht hi hz .i64 .i64 (n:Int) (n:Int) (by omega) (Int.le_refl _) (by rw[h2];simp;omega) (by rw[h3];omega) (by omega)
  rw[h2] at this
  simpa using this
end Go.Proofs.YteeefedoffplmaaGreat
/- clock.New. Conditions: one to sixty-four leases. -/
namespace Go.Proofs.YteeefedoffplmaaGreat
open Lib Go.Proofs.Tryz
open Go.RowKit
theorem clockNew_any (w:World)(n:Nat)(hn:1≤n∧n≤64):
  Calls prog 40 #[.int .i64 (n:Int)] w fun e w'=>e=.returned (.tuple #[ptr (w.heap.size+1),.int .i64 0])∧ClockAt w' ⟨w.heap.size+1,w.heap.size⟩ ⟨1,List.replicate n 0⟩∧Only [] w w':=by
 obtain⟨Z,hZ,hmk⟩:=make_atoms n (by omega)
 have hsz:(w.alloc (.cells Z 122)).heap.size=w.heap.size+1:=by simp
 have hb:Blk ((w.alloc (.cells Z 122)).alloc (.cells #[.int .i64 0,.slice (some ⟨w.heap.size,0,none⟩) n n] 166)) (w.heap.size+1) [.int .i64 0,.slice (some ⟨w.heap.size,0,none⟩) n n] 166:=by
  have:=Blk.new (w.alloc (.cells Z 122)) [.int .i64 0,.slice (some ⟨w.heap.size,0,none⟩) n n] 166
  rw[hsz] at this
  exact this
 have hst:=atomStore (b:=w.heap.size+1) (i:=0) (x:=0) (y:=1) (hc:=hb.cell (i:=0) rfl) (hf:=hb.frozen 0)
 have HZ:=hid hZ
 have hn1:(1:Int)≤n:=by omega
 have hn8:(n:Int)≤64:=by omega
 unfold ptr
 clear hb hZ
 go_enter func40,ntmps40
 go_wp2_with (go_at_call 100;refine hst.mono ?_;rintro e w1 ⟨rfl,rfl⟩)
 go_ret2
 have hl:Blk (w.alloc (.cells Z 122)) w.heap.size (Zc (List.replicate n 0)) 122:=by
  have:=Blk.new w Z.toList 122
  rw[HZ.out] at this
  rw[show Z=(Zc (List.replicate n 0)).toArray by rw[←HZ.out]]
  exact Blk.new w _ 122
 have hb:=Blk.new (w.alloc (.cells Z 122)) [.int .i64 1,.slice (some ⟨w.heap.size,0,none⟩) n n] 166
 rw[hsz] at hb
 refine⟨rfl,⟨by simpa [Qr] using hb,hl.alloc _,by simp,by simp;omega,by simp,by simp⟩,((Only.refl _ _).alloc _).alloc _⟩
end Go.Proofs.YteeefedoffplmaaGreat
/- makeSlice of structs: a chain's sets, a pool's slots. Conditions: at most 4097 of them. -/
namespace Go.Proofs.YteeefedoffplmaaGreat
open Lib Go.Proofs.Tryz
open Go.RowKit
theorem made_rows (z:Array Value)(n:Nat):(madeCells z (n*z.size)).toList=(List.replicate n z.toList).flatten:=by
 induction n with
 |zero=>simp[madeCells]
 |succ n ih=>
  rw[List.replicate_succ',List.flatten_append,←ih]
  simp only[madeCells,Array.toList_map,Array.toList_range]
  rw[Nat.succ_mul,List.range_add,List.map_append]
  congr 1
  simp only[List.map_map,List.flatten_cons,List.flatten_nil,List.append_nil]
  apply List.ext_getElem
  ·simp
  ·intro j h1 h2
   simp at h1
   have hmod:(n*z.size+j) % z.size=j:=by rw[Nat.mul_comm,Nat.mul_add_mod,Nat.mod_eq_of_lt h1]
   simp[hmod,h1]
theorem elemSet:ElemOk prog 188 226 2 32:=elemOk_of (by kernel_rfl) (by decide) (.agg #[.int .i64 0,.slice none 0 0]) (by kernel_rfl) rfl
theorem flat_rep {α:Type}(x:α)(f:α→List Value)(n:Nat):(List.replicate n (f x)).flatten=(List.replicate n x).flatMap f:=by
 induction n with
 |zero=>rfl
 |succ n ih=>simp[List.replicate_succ,ih]
def noSet:SRow:=(0,[],.slice none 0 0)
theorem make_sets (n:Nat)(hn:n≤4097):∃Z:Array Value,Z.toList=(List.replicate n noSet).flatMap srowCells∧∀w:World,(Instr.makeSlice 188 (.int .i64 (n:Int)) (.int .i64 (n:Int))).run prog w=.ok (.slice (some ⟨w.heap.size,0,none⟩) n n) (w.alloc (.cells Z 226)):=by
 obtain⟨ht,hs,i,z,hi,hz,h2,h3,h4⟩:=elemSet
 have hz':z=.agg #[.int .i64 0,.slice none 0 0]:=by
  have h:(prog.info? 226).bind (fun i=>i.zero)=some (.agg #[.int .i64 0,.slice none 0 0]):=by kernel_rfl
  rw[hi] at h
  simp only[Option.bind_some] at h
  rw[hz] at h
  injection h
 subst hz'
 refine⟨madeCells #[.int .i64 0,.slice none 0 0] (n*2),?_,fun w=>?_⟩
 ·exact (made_rows #[.int .i64 0,.slice none 0 0] n).trans (flat_rep noSet srowCells n)
 ·have:=run_makeSlice (P:=prog) (w:=w) 188 226 i (.agg #[.int .i64 0,.slice none 0 0]) ht hi hz .i64 .i64 (n:Int) (n:Int) (by omega) (Int.le_refl _) (by rw[h2];simp;omega) (by rw[h3];omega) (by omega)
  rw[h2] at this
  have hc:(Value.agg #[.int .i64 0,.slice none 0 0]).cells=#[.int .i64 0,.slice none 0 0]:=rfl
  rw[hc] at this
  simpa using this
def noSlot:SlotS:=⟨0,0,0,⟨0,0,0,0⟩⟩
theorem make_slots (n:Nat)(hn:n≤4097):∃Z:Array Value,Z.toList=(List.replicate n noSlot).flatMap SlotS.cells∧∀w:World,(Instr.makeSlice 116 (.int .i64 (n:Int)) (.int .i64 (n:Int))).run prog w=.ok (.slice (some ⟨w.heap.size,0,none⟩) n n) (w.alloc (.cells Z 280)):=by
 have ht:prog.underlying 116=some (.slice 280):=by kernel_rfl
 have hm:(prog.info? 280).map (fun i=>(i.size,i.bytes))=some (7,56):=by kernel_rfl
 have hb:(prog.info? 280).bind (fun i=>i.zero.map (·.cells))=some #[.int .i64 0,.int .i64 0,.int .i64 0,.int .i64 0,.int .i64 0,.int .i64 0,.int .i64 0]:=by kernel_rfl
 obtain⟨i,hi,h23⟩:=Option.map_eq_some_iff.1 hm
 rw[hi] at hb
 simp only[Option.bind_some] at hb
 obtain⟨z,hz,hc⟩:=Option.map_eq_some_iff.1 hb
 have h2:i.size=7:=congrArg Prod.fst h23
 have h3:i.bytes=56:=congrArg Prod.snd h23
 refine⟨madeCells #[.int .i64 0,.int .i64 0,.int .i64 0,.int .i64 0,.int .i64 0,.int .i64 0,.int .i64 0] (n*7),?_,fun w=>?_⟩
 ·exact (made_rows #[.int .i64 0,.int .i64 0,.int .i64 0,.int .i64 0,.int .i64 0,.int .i64 0,.int .i64 0] n).trans (flat_rep noSlot SlotS.cells n)
 ·have:=run_makeSlice (P:=prog) (w:=w) 116 280 i z ht hi hz .i64 .i64 (n:Int) (n:Int) (by omega) (Int.le_refl _) (by rw[h2];simp;omega) (by rw[h3];omega) (by omega)
  rw[h2,hc] at this
  simpa using this
end Go.Proofs.YteeefedoffplmaaGreat
/- chain.New. Conditions: the pool lies in memory. -/
namespace Go.Proofs.YteeefedoffplmaaGreat
open Lib Go.Proofs.Tryz
open Go.RowKit
def NewChain (L:PoolL)(cb n:Nat)(w:World)(e:Ending)(w':World):Prop:=
 ∃X base,e=.returned (ptr X.xb)∧w.heap.size≤X.xb∧w.heap.size≤X.sb∧ChainAt w' X L.pb cb base [] ⟨0,List.replicate n (0,[])⟩∧Only [] w w'
theorem chainNew_any (w:World)(L:PoolL)(S:PoolS)(cb:Nat)(hp:PoolAt w L S)(h1:1≤S.slots.length):
  Calls prog 44 #[ptr L.pb,ptr cb] w (NewChain L cb S.slots.length w):=by
 have hs:=slots_any w L S hp h1
 have hm:S.slots.length≤4097:=hp.most
 obtain⟨Z,hZ,hmk⟩:=make_sets S.slots.length hm
 have hl:(S.slots.drop 1).length+1=S.slots.length:=by rw[List.length_drop];omega
 generalize S.slots.drop 1=sl at *
 rw[←hl] at hmk hZ hm ⊢
 have hw:wrap64 ((sl.length:Int)+1)=((sl.length+1:Nat):Int):=by rw[IntWalk.wrap64_in _ (by omega)];simp
 have HZ:=hid hZ
 have HW:=hid hw
 have HM:=hid hm
 simp only[Int.natCast_add,Int.natCast_one] at hmk
 have hw2:wrap64 ((sl.length:Int)+1)=(sl.length:Int)+1:=by rw[hw];simp
 unfold ptr at *
 clear hp h1 hl hZ hw hm
 go_enter func44,ntmps44
 go_wp2_with (go_at_call 104;refine hs.mono ?_;rintro e w1 ⟨sv,rfl,hown,ho⟩;obtain⟨A,c,rfl,hrow,_⟩:=Qc hown;have HO:=hid ho;clear ho hrow hown hs)
 go_ret
 have hm:=HM.out
 generalize sl.length+1=n at *
 have hbl:Blk (w1.alloc (.cells Z 226)) w1.heap.size ((List.replicate n noSet).flatMap srowCells) 226:=by
  rw[←HZ.out]
  simpa using Blk.new w1 Z.toList 226
 have hb:=Blk.new (w1.alloc (.cells Z 226)) [ptr L.pb,ptr cb,.int .i64 0,.slice (some ⟨w1.heap.size,0,none⟩) n n] 191
 rw[show (w1.alloc (.cells Z 226)).heap.size=w1.heap.size+1 by simp] at hb
 have hsz:=HO.out.size
 refine⟨⟨w1.heap.size+1,w1.heap.size⟩,w1.heap.size+2,rfl,by simp;omega,hsz,⟨⟨List.replicate n noSet,by simp[noSet],by simpa [Qr,ptr] using hb,hbl.alloc _,⟨fun r hr=>?_,fun i j r s k hi hj hij hk=>?_⟩⟩,by simp,by simp,by simp,by simp;omega,by simp⟩,((HO.out.alloc _).alloc _)⟩
 ·obtain rfl:=List.eq_of_mem_replicate hr
  exact⟨World.ownsRow_nil _ _ 3 1,(fun k hk=>by cases hk),by simp[noSet]⟩
 ·obtain rfl:=List.eq_of_mem_replicate (List.mem_of_getElem? hi)
  cases hk
end Go.Proofs.YteeefedoffplmaaGreat
/- pile.New, all places free (part 0 given xs'' 1 and tag 0). Conditions: one to 4096 places. -/
namespace Go.Proofs.YteeefedoffplmaaGreat
open Lib Go.Proofs.Tryz
open Go.RowKit
def nexts (n k:Nat):List Int:=(List.range n).map (fun i=>if 1≤i∧i<k then (i:Int)+1 else 0)
def NPRel (w:World)(fb nb n:Nat)(wr:World)(i:Nat):Prop:=
 1≤i∧i≤n∧Blk wr fb [.int .i64 (Za 1 0),Qr nb (n+1)] 271∧Blk wr nb (Zc (nexts (n+1) i)) 122∧Only [] w wr
theorem nexts_step (n k:Nat)(h1:1≤k):(nexts n k).set k ((k:Int)+1)=nexts n (k+1):=by
 unfold nexts
 apply List.ext_getElem
 ·simp
 ·intro j h1 h2
  simp only[List.getElem_set,List.getElem_map,List.getElem_range]
  by_cases hj:k=j
  ·subst hj
   simp[*]
  ·rw[if_neg hj]
   by_cases h3:1≤j∧j<k
   ·rw[if_pos h3,if_pos (by omega)]
   ·rw[if_neg h3,if_neg (by omega)]
theorem nexts_one (n:Nat):nexts n 1=List.replicate n 0:=by
 unfold nexts
 apply List.ext_getElem
 ·simp
 ·intro j h1 h2
  simp
  omega
theorem pileNew_any (w:World)(n:Nat)(hn:1≤n∧n≤4096):
  Calls prog 99 #[.int .i64 (n:Int),.int .i64 0] w fun e w'=>e=.returned (.tuple #[ptr (w.heap.size+1),.int .i64 0])∧NPRel w (w.heap.size+1) w.heap.size n w' n:=by
 obtain⟨Z,hZ,hmk⟩:=make_atoms (n+1) (by omega)
 have hpk:=pack_any 1 0 w (by omega) (by omega) (by omega) (by omega)
 have hsz:(w.alloc (.cells Z 122)).heap.size=w.heap.size+1:=by simp
 have hbl:Blk (w.alloc (.cells Z 122)) w.heap.size (Zc (List.replicate (n+1) 0)) 122:=by
  rw[←hZ]
  simpa using Blk.new w Z.toList 122
 have hb:Blk ((w.alloc (.cells Z 122)).alloc (.cells #[.int .i64 0,.slice (some ⟨w.heap.size,0,none⟩) (n+1) (n+1)] 271)) (w.heap.size+1) [.int .i64 0,.slice (some ⟨w.heap.size,0,none⟩) (n+1) (n+1)] 271:=by
  have:=Blk.new (w.alloc (.cells Z 122)) [.int .i64 0,.slice (some ⟨w.heap.size,0,none⟩) (n+1) (n+1)] 271
  rw[hsz] at this
  exact this
 have hst:=atomStore (b:=w.heap.size+1) (i:=0) (x:=0) (y:=Za 1 0) (hc:=hb.cell (i:=0) rfl) (hf:=hb.frozen 0)
 have HB:=hid (hb.set 0 (.int .i64 (Za 1 0)));have HBL:=hid hbl
 have hn1:(1:Int)≤n:=by omega
 have hn8:(n:Int)≤4096:=by omega
 have hw:wrap64 ((n:Int)+1)=(n:Int)+1:=IntWalk.wrap64_in _ (by omega)
 simp only[Int.natCast_add,Int.natCast_one] at hmk
 unfold ptr
 clear hb hZ hbl
 go_enter func99,ntmps99
 go_wp2_with (first|(go_at_call 81;refine hpk.mono ?_;rintro e w1 ⟨rfl,rfl⟩)|(go_at_call 100;refine hst.mono ?_;rintro e w1 ⟨rfl,rfl⟩))
 go_loopg [9] (n-1) (fun k i wr=>∃j:Nat,i=.int .i64 (j:Int)∧k+j=n∧NPRel w (w.heap.size+1) w.heap.size n wr j)
 case atStart=>
  have hb:=Blk.new (w.alloc (.cells Z 122)) [.int .i64 (Za 1 0),.slice (some ⟨w.heap.size,0,none⟩) (n+1) (n+1)] 271
  rw[hsz] at hb
  exact⟨1,rfl,by omega,by omega,hn.1,hb,by rw[nexts_one];exact HBL.out.alloc _,((Only.refl _ _).alloc _).alloc _⟩
 case round=>
  obtain⟨j,rfl,hkj,h1,hjn,hb,hl,ho⟩:=hrel
  have c1:wr.cell? ⟨w.heap.size+1,1,none⟩=some (Qr w.heap.size (n+1)):=hb.cell rfl
  unfold Qr at c1
  have HHB:=hid hb;have HHL:=hid hl;have HHO:=hid ho
  cases gk with
  |zero=>
   obtain rfl:j=n:=by omega
   clear hb hl ho
   go_wp2_with fail
   go_ret2
   exact⟨rfl,h1,hjn,HHB.out,HHL.out,HHO.out⟩
  |succ f=>
   have hlt:(j:Int)<n:=by omega
   have hx:∃x:Int,(nexts (n+1) j)[j]?=some x:=⟨_,List.getElem?_eq_getElem (by simp[nexts];omega)⟩
   obtain⟨x,hx⟩:=hx
   have hwj:wrap64 ((j:Int)+1)=(j:Int)+1:=IntWalk.wrap64_in _ (by omega)
   have hst2:=atomStore (b:=w.heap.size) (i:=j) (x:=x) (y:=(j:Int)+1) (hc:=hl.cell (i:=j) (by simp[Zc,hx])) (hf:=hl.frozen j)
   have hl2:=hl.set j (.int .i64 ((j:Int)+1))
   have hl3:Blk (wr.setCell ⟨w.heap.size,j,none⟩ (.int .i64 ((j:Int)+1))) w.heap.size (Zc (nexts (n+1) (j+1))) 122:=by
    rw[←nexts_step (n+1) j h1]
    simpa [Zc,List.map_set] using hl2
   have hb3:=hb.other (b':=w.heap.size) (by omega) j (.int .i64 ((j:Int)+1))
   have ho3:Only [] w (wr.setCell ⟨w.heap.size,j,none⟩ (.int .i64 ((j:Int)+1))):=ho.setCell (.inr (Nat.le_refl _)) _
   have HL3:=hid hl3;have HB3:=hid hb3;have HO3:=hid ho3
   clear hb hl ho hl2 hl3 hb3 ho3 hx
   go_wp2_with (go_at_call 100;refine hst2.mono ?_;rintro e w1 ⟨rfl,rfl⟩)
   go_roundg f
   case measure=>omega
   case rel=>exact⟨j+1,by simp,by omega,by omega,by omega,HB3.out,HL3.out,HO3.out⟩
end Go.Proofs.YteeefedoffplmaaGreat
/- pool.New. Conditions: one to 4096 places. -/
namespace Go.Proofs.YteeefedoffplmaaGreat
open Lib Go.Proofs.Tryz
open Go.RowKit
theorem poolNew_any (w:World)(n:Nat)(hn:1≤n∧n≤4096):
  Calls prog 39 #[.int .i64 (n:Int)] w fun e w'=>∃L,e=.returned (.tuple #[ptr L.pb,.int .i64 0])∧PoolAt w' L (PoolS.new n)∧Only [] w w'∧∀k∈L.all,w.heap.size≤k:=by
 obtain⟨Z,hZ,hmk⟩:=make_slots (n+1) (by omega)
 have hp:=pileNew_any w n hn
 have hw:wrap64 ((n:Int)+1)=(n:Int)+1:=IntWalk.wrap64_in _ (by omega)
 simp only[Int.natCast_add,Int.natCast_one] at hmk
 have HZ:=hid hZ
 unfold ptr at hp ⊢
 clear hZ
 go_enter func39,ntmps39
 go_wp2_with (go_at_call 99;refine hp.mono ?_;rintro e w1 ⟨rfl,h1,h2,h3,h4,h5⟩;have H3:=hid h3;have H4:=hid h4;have H5:=hid h5;clear h1 h2 h3 h4 h5 hp)
 go_ret2
 have hs:=H5.out.size
 have h3:=H3.out.lt
 have hb:=Blk.new (w1.alloc (.cells Z 280)) [.slice (some ⟨w1.heap.size,0,none⟩) (n+1) (n+1),.pointer (some ⟨w.heap.size+1,0,none⟩),.int .i64 0] 124
 rw[show (w1.alloc (.cells Z 280)).heap.size=w1.heap.size+1 by simp] at hb
 have hbl:Blk (w1.alloc (.cells Z 280)) w1.heap.size ((List.replicate (n+1) noSlot).flatMap SlotS.cells) 280:=by
  rw[←HZ.out]
  simpa using Blk.new w1 Z.toList 280
 refine⟨⟨w1.heap.size+1,w1.heap.size,w.heap.size+1,w.heap.size⟩,rfl,⟨?_,?_,?_,?_,by simp;omega,by simp[PoolS.new],by simp[PoolS.new];omega,?_,?_⟩,(H5.out.alloc _).alloc _,?_⟩
 ·simpa [PoolS.new,Qr,ptr] using hb
 ·exact hbl.alloc _
 ·simpa [PoolS.new,Qr] using (H3.out.alloc _).alloc _
 ·exact (H4.out.alloc _).alloc _
 ·intro s hs
  obtain rfl:=List.eq_of_mem_replicate hs
  exact⟨by simp[Ql],by simp[Ql],by simp[Ql],⟨by simp[Ql],by simp[Ql],by simp[Ql],by simp[Ql]⟩⟩
 ·intro x hx
  simp only[PoolS.new,List.mem_map,List.mem_range] at hx
  obtain⟨i,hi,rfl⟩:=hx
  unfold Ql
  split <;> omega
 ·intro k hk
  simp[PoolL.all] at hk
  omega
end Go.Proofs.YteeefedoffplmaaGreat
namespace Go.Proofs.YteeefedoffplmaaGreat
open Go.RowKit Lib Go.Proofs.Tryz
theorem run_call_storeP {P : Program}{f : FuncId}{fn : Func}(hf : P.funcs[f]? = some fn)(hname : (fn.name == "runtime.NumGoroutine") = false)(hb : fn.body.isNone = true)(hn : Extern.findNext fn = none)
  (he:Extern.find fn=some Extern.Atomic.storeT) {a:Addr} {p:Option Addr} {u:Value} {w:World} (hc:w.cell? a=some u) (hz:w.frozen? a=false):
  (callFunc f #[.pointer (some a),.pointer p]).run P w=.ok (.value (.tuple #[])) (w.setCell a (.pointer p)):=by
 rw[run_callFunc_extern hf hname hb hn he]
 change (Sem.run P (do
  store (←asAddr (.pointer (some a))) (.pointer p) .atomic
  pure Extern.Atomic.none_) w).andThen _=_
 simp[Extern.Atomic.none_,asAddr,hc,hz,run_store P w a (.pointer p) .atomic rfl,Result.andThen]
theorem storeP_any (b i:Nat)(p:Addr)(u z:Value)(w:World)(hc:w.cell? ⟨b,i,none⟩=some u)(hf:w.frozen? ⟨b,i,none⟩=false)(hp:w.cell? p=some z):
  Calls prog 103 #[.pointer (some ⟨b,i,none⟩),.pointer (some p)] w fun e w'=>e=.returned (.tuple #[])∧w.setCell ⟨b,i,none⟩ (.pointer (some p))=w':=by
 have hl:=run_call_storeP (P:=prog) func171 (by kernel_rfl) (by kernel_rfl) (by kernel_rfl) (by kernel_rfl) (p:=some p) hc hf
 have hcv:(convert 168 173 (.pointer (some p))).run prog w=.ok (.pointer (some p)) w:=run_convert_to_unsafe (t:=170) (by kernel_rfl) (by kernel_rfl) (by kernel_rfl) hp
 go_enter func103,ntmps103
 go_wp2
 go_end0
 exact⟨rfl,rfl⟩
theorem boardNew_any (w:World):
  Calls prog 41 #[.slice none 0 0] w fun e w'=>∃b t,e=.returned (.tuple #[ptr b,.int .i64 0])∧w.heap.size≤t∧w.heap.size≤b∧b≠t∧Blk w' t [.slice none 0 0] 170∧Blk w' b [ptr t] 177∧Only [] w w':=by
 have h0:(w.alloc (.cells #[.slice none 0 0] 170)).cell? ⟨w.heap.size,0,none⟩=some (.slice none 0 0):=(Blk.new w [.slice none 0 0] 170).cell rfl
 have h1:((w.alloc (.cells #[.slice none 0 0] 170)).alloc (.cells #[.pointer none] 177)).cell? ⟨w.heap.size,0,none⟩=some (.slice none 0 0):=((Blk.new w [.slice none 0 0] 170).alloc _).cell rfl
 have hb:Blk ((w.alloc (.cells #[.slice none 0 0] 170)).alloc (.cells #[.pointer none] 177)) (w.heap.size+1) [.pointer none] 177:=by
  have:=Blk.new (w.alloc (.cells #[.slice none 0 0] 170)) [.pointer none] 177
  rw[World.size_alloc] at this
  exact this
 have hst:=storeP_any (w.heap.size+1) 0 ⟨w.heap.size,0,none⟩ _ _ _ (hb.cell rfl) (hb.frozen 0) h1
 have HB:=hid hb
 unfold ptr
 clear hb
 go_enter func41,ntmps41
 go_wp2_with fail
 refine wp_loop_rounds 1 ?_
 rw[rounds_succ]
 go_wp2_with fail
 refine wp_loop_rounds 1 ?_
 rw[rounds_succ]
 go_wp2_with (go_at_call 103;refine hst.mono ?_;rintro e w' ⟨rfl,rfl⟩)
 go_ret2
 have hb2:=Blk.new (w.alloc (.cells #[.slice none 0 0] 170)) [.pointer (some ⟨w.heap.size,0,none⟩)] 177
 rw[World.size_alloc] at hb2
 exact⟨_,_,rfl,Nat.le_refl _,by omega,by omega,(Blk.new w [.slice none 0 0] 170).alloc _,hb2,((Only.refl _ _).alloc _).alloc _⟩
theorem elemCh:ElemOk prog 103 104 1 8:=elemOk_of (by kernel_rfl) (by decide) (.pointer none) (by kernel_rfl) rfl
theorem elemPt:ElemOk prog 92 107 1 8:=elemOk_of (by kernel_rfl) (by decide) (.pointer none) (by kernel_rfl) rfl
theorem keep_sb {W:World}{sb su:Nat}{a b:Option Value}(g0:W.cell? ⟨sb,0,none⟩=a)(g1:W.cell? ⟨su,1,none⟩=b)(hne:¬su=sb)(i:Nat)(hi:i≠0)(v:Value):
  (W.setCell ⟨sb,i,none⟩ v).cell? ⟨sb,0,none⟩=a∧(W.setCell ⟨sb,i,none⟩ v).cell? ⟨su,1,none⟩=b:=
 ⟨(World.cell?_setCell_other W ⟨sb,i,none⟩ ⟨sb,0,none⟩ v (by simp[hi])).trans g0,(World.cell?_setCell_other W ⟨sb,i,none⟩ ⟨su,1,none⟩ v (by simp[Ne.symm hne])).trans g1⟩
end Go.Proofs.YteeefedoffplmaaGreat
