/- StoreAlone, part Pax: Wr2, Snap. -/
import Derived.Test.YteeefedoffplmaaGreatPaw
import Derived.Test.YteeefedoffplmaaGreatPaq
import Derived.Test.YteeefedoffplmaaGreatPaa
set_option linter.unusedSimpArgs false
set_option linter.unusedVariables false
set_option maxRecDepth 100000
set_option maxHeartbeats 51200000
namespace Go.Proofs.YteeefedoffplmaaGreat
open Go.RowKit Lib Go.Proofs.Tryz
structure ArgL (w:World)(Y:StoreL)(LA:Option Addr)(L:List (Int × Int)):Prop where
 row:Row w LA (Qd L)
 low:∀a,LA=some a→L≠[]→a.block<Y.base∧Y.col a.block=0
 nil:LA=none→L.length=0
 few:L.length≤20
theorem ArgL.keep {w w':World}{Y:StoreL}{LA:Option Addr}{L:List (Int × Int)}(h:ArgL w Y LA L)(hk:KeepB Y w w'):ArgL w' Y LA L:=
 ⟨fun j u hu=>by
  obtain⟨b,off,e,hc⟩:=h.row j u hu
  have:=h.low _ e (by rintro rfl;simp[Qd] at hu)
  exact⟨b,off,e,Qp hc (hk.block b this.1 this.2 (cell_lt hc))⟩,h.low,h.nil,h.few⟩
theorem setCell_comm (w:World){a b:Addr}(x y:Value)(h:a.block≠b.block):(w.setCell a x).setCell b y=(w.setCell b y).setCell a x:=by
 unfold World.setCell
 congr 1
 apply Array.ext_getElem?
 intro i
 simp only[Array.getElem?_modify]
 by_cases h1:a.block=i
 ·by_cases h2:b.block=i
  ·exact absurd (h1.trans h2.symm) h
  ·simp[h1,h2]
 ·by_cases h2:b.block=i
  ·simp[h1,h2]
  ·simp[h1,h2]
theorem Safe.fresh {w w':World}{Y:StoreL}{ed:Option Nat}{D:Nat→List Nat}{X:StoreS}(hs:StoreIn w Y ed D X){k:Nat}(h1:w.heap.size≤k)(h2:k<w'.heap.size):Safe w' Y ed D k:=
 ⟨h2,Nat.le_trans hs.room h1,fun e=>by have:=(hs.dyn_lt e).2;omega⟩
theorem five (W:World)(b:Nat)(x0 x1 x2 x3 x4:Value):Only [b] W (((((W.setCell ⟨b,0,none⟩ x0).setCell ⟨b,1,none⟩ x1).setCell ⟨b,2,none⟩ x2).setCell ⟨b,3,none⟩ x3).setCell ⟨b,4,none⟩ x4):=
 (((((Only.refl _ _).setCell (.inl (by simp)) _).setCell (.inl (by simp)) _).setCell (.inl (by simp)) _).setCell (.inl (by simp)) _).setCell (.inl (by simp)) _
def LawEnd (Y:StoreL)(ed:Option Nat)(mb lb:Nat)(sv:Value)(sns:List (SnapL × Value))(X':StoreS)(ps:List PlainS)(w:World)(en:Ending)(w':World):Prop:=
 en=.returned (.bool true)∧∃D' els',StoreIn w' Y ed D' X'∧LawM w' Y ed D' mb lb els' sv sns∧els'.map (·.2)=ps∧KeepB Y w w'
theorem moved_end {Y:StoreL}{ed:Option Nat}{D D1:Nat→List Nat}{mb lb:Nat}{els:List PlEl}{sv:Value}{sns:List (SnapL × Value)}{X X':StoreS}{w w':World}(hs:StoreIn w Y ed D X)(hm:LawM w Y ed D mb lb els sv sns)(hmv:Moves Y (Qw Y ed D) (Qw Y ed D1) w w')(hs':StoreIn w' Y ed D1 X'):
  LawEnd Y ed mb lb sv sns X' (els.map (·.2)) w (.returned (.bool true)) w':=⟨rfl,D1,els,hs',hm.moves hmv,rfl,KeepB.moves hmv (fun k hk=>(hs.dyn_lt hk).1)⟩
theorem set_end {Y:StoreL}{ed:Option Nat}{D D1:Nat→List Nat}{mb lb:Nat}{els:List PlEl}{sv:Value}{sns:List (SnapL × Value)}{X X':StoreS}{w w13:World}(hs:StoreIn w Y ed D X)(hm:LawM w Y ed D mb lb els sv sns)(hmv:Moves Y (Qw Y ed D) (Qw Y ed D1) w w13)(hs':StoreIn w13 Y ed D1 X')
  {i:Nat} {e:PlEl} (he:els[i]?=some e) {b:Nat} (hb:w.heap.size≤b) (hbl:b<w13.heap.size) (hbd:¬Qw Y ed D1 b) {u:Value} {l:List (Int × Int)} {num:Int} {B:Nat} (hu:w13.ownsRow B 36 2 u l.length (Qd l)) (hB:b<B) (hdu:∀k,u.ownBlock=some k→¬Qw Y ed D1 k) (y2 y3:Value):
  LawEnd Y ed mb lb sv sns X' ((els.map (·.2)).set i (l,num)) w (.returned (.bool true)) ((((w13.setCell ⟨lb,i*3+1,none⟩ (.int .i64 num)).setCell ⟨lb,i*3,none⟩ u).setCell ⟨b,3,none⟩ y3).setCell ⟨b,2,none⟩ y2):=by
 have hlb:=hm.ls
 have hne:lb≠b:=by have:=hlb.1;omega
 have e1:(((w13.setCell ⟨lb,i*3+1,none⟩ (.int .i64 num)).setCell ⟨lb,i*3,none⟩ u).setCell ⟨b,3,none⟩ y3).setCell ⟨b,2,none⟩ y2=(((w13.setCell ⟨b,3,none⟩ y3).setCell ⟨b,2,none⟩ y2).setCell ⟨lb,i*3+1,none⟩ (.int .i64 num)).setCell ⟨lb,i*3,none⟩ u:=by
  rw[setCell_comm (a:=⟨lb,i*3,none⟩) (b:=⟨b,3,none⟩) _ u y3 hne,setCell_comm (a:=⟨lb,i*3+1,none⟩) (b:=⟨b,3,none⟩) _ _ y3 hne,setCell_comm (a:=⟨lb,i*3,none⟩) (b:=⟨b,2,none⟩) _ u y2 hne,setCell_comm (a:=⟨lb,i*3+1,none⟩) (b:=⟨b,2,none⟩) _ _ y2 hne]
 rw[e1]
 have ho1:Only [b] w13 ((w13.setCell ⟨b,3,none⟩ y3).setCell ⟨b,2,none⟩ y2):=((Only.refl _ _).setCell (.inl (by simp)) _).setCell (.inl (by simp)) _
 have hmv1:=hmv.fresh ho1 (by simpa using hb)
 generalize (w13.setCell ⟨b,3,none⟩ y3).setCell ⟨b,2,none⟩ y2=W at *
 have hM:=hm.moves hmv1
 have ho2:Only [lb] W ((W.setCell ⟨lb,i*3+1,none⟩ (.int .i64 num)).setCell ⟨lb,i*3,none⟩ u):=((Only.refl _ _).setCell (.inl (by simp)) _).setCell (.inl (by simp)) _
 have hbase:Y.base≤b:=Nat.le_trans hs.room hb
 have hsW:StoreIn W Y ed D1 X':=hs'.only ho1 (fun k hk=>by obtain rfl:=List.mem_singleton.1 hk;exact⟨hbase,hbd⟩)
 have huW:W.ownsRow B 36 2 u l.length (Qd l):=Qe hu ho1 (fun k hk=>by have:=(hu.lt k hk).1;simp;omega)
 have hr:RowE W (RO W Y ed D1 mb lb sv) u l:=by
  obtain⟨A,c,hv,hrow,hn⟩:=Qc huW
  refine⟨A,c,hv,hrow,fun a ha=>?_,hn⟩
  have hob:u.ownBlock=some a.block:=by rw[hv,ha];rfl
  have hlt:=huW.lt _ hob
  have q1:=hm.ms.1
  have q2:=hm.ls.1
  exact⟨⟨hlt.2,by omega,hdu _ hob⟩,by omega,by omega,fun e=>by have:=(hm.svs _ e).1.1;omega⟩
 refine⟨rfl,D1,_,hsW.only ho2 (fun k hk=>by obtain rfl:=List.mem_singleton.1 hk;exact hM.ls.2),hM.setPart he hr (num:=num),?_,(KeepB.moves hmv1 (fun k hk=>(hs.dyn_lt hk).1)).trans (KeepB.only ho2 (fun k hk=>by obtain rfl:=List.mem_singleton.1 hk;exact hM.ls.2.1))⟩
 rw[List.map_set]
section
variable (w:World)(Y:StoreL)(ed:Option Nat)(D:Nat→List Nat)(X X':StoreS)(mb lb:Nat)(els:List PlEl)(sv:Value)(sns:List (SnapL × Value))(hs:StoreIn w Y ed D X)(hm:LawM w Y ed D mb lb els sv sns)(hn:els.length=Y.n)(key v cv:Int)(LA:Option Addr)(L:List (Int × Int))(lc:Nat)(hL:ArgL w Y LA L)(hk:Qt key=true)(i:Nat)(hpk:Qu key els.length=(i:Int))(u0:Value)(l:List (Int × Int))(num:Int)(he:els[i]?=some (u0,(l,num)))(hsz:l.length≤100000)(hnum:0≤num∧num<1000000000)
include w Y ed D X X' mb lb els sv sns hs hm hn key v cv LA L lc hL hk i hpk u0 l num he hsz hnum
theorem write_all:(∀(hf:Qk l key=none) (hop:∀W,Only [] w W→Calls prog 18 #[ptr Y.sb,.pointer none,.int .i64 key,.int .i64 v] W (Qh Y ed D ⟨0,false,num+1,true,0⟩ 0 X' W)),Calls prog 49 #[ptr mb,.agg #[.int .i64 2,.int .i64 key,.int .i64 v,.int .i64 cv,.slice LA L.length lc]] w (LawEnd Y ed mb lb sv sns X' ((els.map (·.2)).set i (putL l key v,num+1)) w)) ∧
  (∀(x:Int) (hf:Qk l key=some x) (hx:¬x=v) (hop:∀W,Only [] w W→Calls prog 18 #[ptr Y.sb,.pointer none,.int .i64 key,.int .i64 v] W (Qh Y ed D ⟨x,true,num+1,true,0⟩ 0 X' W)),Calls prog 49 #[ptr mb,.agg #[.int .i64 2,.int .i64 key,.int .i64 v,.int .i64 cv,.slice LA L.length lc]] w (LawEnd Y ed mb lb sv sns X' ((els.map (·.2)).set i (putL l key v,num+1)) w)) ∧
  (∀(hf:Qk l key=some v) (hop:∀W,Only [] w W→Calls prog 18 #[ptr Y.sb,.pointer none,.int .i64 key,.int .i64 v] W (Qh Y ed D ⟨v,true,num,false,0⟩ 0 X' W)),Calls prog 49 #[ptr mb,.agg #[.int .i64 2,.int .i64 key,.int .i64 v,.int .i64 cv,.slice LA L.length lc]] w (LawEnd Y ed mb lb sv sns X' (els.map (·.2)) w)) ∧
  (∀(hf:Qk l key=none) (hop:∀W,Only [] w W→Calls prog 107 #[ptr Y.sb,.pointer none,.int .i64 key] W (Qh Y ed D ⟨0,false,num,false,0⟩ 0 X' W)),Calls prog 49 #[ptr mb,.agg #[.int .i64 3,.int .i64 key,.int .i64 v,.int .i64 cv,.slice LA L.length lc]] w (LawEnd Y ed mb lb sv sns X' (els.map (·.2)) w)) ∧
  (∀(x:Int) (hf:Qk l key=some x) (hop:∀W,Only [] w W→Calls prog 107 #[ptr Y.sb,.pointer none,.int .i64 key] W (Qh Y ed D ⟨x,true,num+1,true,0⟩ 0 X' W)),Calls prog 49 #[ptr mb,.agg #[.int .i64 3,.int .i64 key,.int .i64 v,.int .i64 cv,.slice LA L.length lc]] w (LawEnd Y ed mb lb sv sns X' ((els.map (·.2)).set i (dropL l key,num+1)) w)) ∧
  (∀(hf:Qk l key=none) (hop:∀W,Only [] w W→Calls prog 108 #[ptr Y.sb,.pointer none,.int .i64 key,.int .i64 v,.int .i64 cv] W (Qh Y ed D ToldS.zero 122 X' W)),Calls prog 49 #[ptr mb,.agg #[.int .i64 4,.int .i64 key,.int .i64 v,.int .i64 cv,.slice LA L.length lc]] w (LawEnd Y ed mb lb sv sns X' (els.map (·.2)) w)) ∧
  (∀(x:Int) (hf:Qk l key=some x) (hx:¬x=v) (hop:∀W,Only [] w W→Calls prog 108 #[ptr Y.sb,.pointer none,.int .i64 key,.int .i64 v,.int .i64 cv] W (Qh Y ed D ToldS.zero 162 X' W)),Calls prog 49 #[ptr mb,.agg #[.int .i64 4,.int .i64 key,.int .i64 v,.int .i64 cv,.slice LA L.length lc]] w (LawEnd Y ed mb lb sv sns X' (els.map (·.2)) w)) ∧
  (∀(hf:Qk l key=some v) (hop:∀W,Only [] w W→Calls prog 108 #[ptr Y.sb,.pointer none,.int .i64 key,.int .i64 v,.int .i64 v] W (Qh Y ed D ⟨v,true,num,false,0⟩ 0 X' W)),Calls prog 49 #[ptr mb,.agg #[.int .i64 4,.int .i64 key,.int .i64 v,.int .i64 v,.slice LA L.length lc]] w (LawEnd Y ed mb lb sv sns X' (els.map (·.2)) w)) ∧
  (∀(hf:Qk l key=some v) (hvc:¬v=cv) (hop:∀W,Only [] w W→Calls prog 108 #[ptr Y.sb,.pointer none,.int .i64 key,.int .i64 v,.int .i64 cv] W (Qh Y ed D ⟨v,true,num+1,true,0⟩ 0 X' W)),Calls prog 49 #[ptr mb,.agg #[.int .i64 4,.int .i64 key,.int .i64 v,.int .i64 cv,.slice LA L.length lc]] w (LawEnd Y ed mb lb sv sns X' ((els.map (·.2)).set i (putL l key cv,num+1)) w)):=by
 refine⟨?_,?_,?_,?_,?_,?_,?_,?_,?_⟩
 intro hf hop;have tg1:=0;have tg2:=0;have tg5:=0;have tg10:=0;have tg14:=0;have tg16:=0;have tg19:=0;have tg21:=0;rotate_left
 intro x hf hx hop;have tg1:=0;have tg2:=0;have tg6:=0;have tg11:=0;have tg16:=0;have tg19:=0;have tg21:=0;rotate_left
 intro hf hop;have tg1:=0;have tg2:=0;have tg7:=0;have tg15:=0;have tg16:=0;have tg19:=0;have tg22:=0;rotate_left
 intro hf hop;have tg1:=0;have tg3:=0;have tg8:=0;have tg10:=0;have tg14:=0;have tg22:=0;rotate_left
 intro x hf hop;have tg1:=0;have tg3:=0;have tg6:=0;have tg11:=0;have tg21:=0;rotate_left
 intro hf hop;have tg4:=0;have tg9:=0;have tg10:=0;have tg12:=0;rotate_left
 intro x hf hx hop;have tg4:=0;have tg9:=0;have tg11:=0;have tg13:=0;rotate_left
 intro hf hop;have tg1:=0;have tg7:=0;have tg15:=0;have tg16:=0;have tg18:=0;have tg19:=0;have tg20:=0;have tg22:=0;rotate_left
 intro hf hvc hop;have tg1:=0;have tg4:=0;have tg15:=0;have tg17:=0;have tg19:=0;have tg20:=0;have tg21:=0;rotate_left
 all_goals
  first|(have _:=tg1;unfold Qh ToldS.val at hop)|(unfold Qh ToldS.val ToldS.zero at hop)
  dsimp only at hop
  first|(have _:=tg2;obtain⟨w0,hw0⟩:∃w0,w.alloc (.cells #[.int .i64 2,.int .i64 key,.int .i64 v,.int .i64 cv,.slice LA L.length lc] 34)=w0:=⟨_,rfl⟩)|(have _:=tg3;obtain⟨w0,hw0⟩:∃w0,w.alloc (.cells #[.int .i64 3,.int .i64 key,.int .i64 v,.int .i64 cv,.slice LA L.length lc] 34)=w0:=⟨_,rfl⟩)|(have _:=tg4;obtain⟨w0,hw0⟩:∃w0,w.alloc (.cells #[.int .i64 4,.int .i64 key,.int .i64 v,.int .i64 cv,.slice LA L.length lc] 34)=w0:=⟨_,rfl⟩)|(obtain⟨w0,hw0⟩:∃w0,w.alloc (.cells #[.int .i64 4,.int .i64 key,.int .i64 v,.int .i64 v,.slice LA L.length lc] 34)=w0:=⟨_,rfl⟩)
  have ho0:Only [] w w0:=by rw[←hw0];exact (Only.refl _ _).alloc _
  first|(have _:=tg2;have hb3:Blk w0 w.heap.size [.int .i64 2,.int .i64 key,.int .i64 v,.int .i64 cv,.slice LA L.length lc] 34:=by rw[←hw0];exact Blk.new w _ 34)|(have _:=tg3;have hb3:Blk w0 w.heap.size [.int .i64 3,.int .i64 key,.int .i64 v,.int .i64 cv,.slice LA L.length lc] 34:=by rw[←hw0];exact Blk.new w _ 34)|(have _:=tg4;have hb3:Blk w0 w.heap.size [.int .i64 4,.int .i64 key,.int .i64 v,.int .i64 cv,.slice LA L.length lc] 34:=by rw[←hw0];exact Blk.new w _ 34)|(have hb3:Blk w0 w.heap.size [.int .i64 4,.int .i64 key,.int .i64 v,.int .i64 v,.slice LA L.length lc] 34:=by rw[←hw0];exact Blk.new w _ 34)
  have hof:=lawOf_any w0 mb (ptr Y.sb) sv (some ⟨lb,0,none⟩) els.length els.length (by rw[hn];exact hs.ok.n) (hm.m.only ho0 (by simp)) key
  unfold ofI at hof
  rw[if_pos hk,hpk] at hof
  have HS:=hid hs
  have HM:=hid hm
  have HO0:=hid ho0
  have HB3:=hid hb3
  have HL:=hid hL
  have HOP:=hid hop
  have HE:=hid he
  have HN:=hid hn
  have HF:=hid hf
  have HW0:=hid hw0
  have HSZ:=hid hsz
  have c0:=hb3.cell (i:=0) rfl
  have c1:=hb3.cell (i:=1) rfl
  have c4:=hb3.cell (i:=4) rfl
  unfold ptr at *
  clear hs hm ho0 hb3 hL hop hn hf hsz
  go_enter func49,ntmps49
  have c4a:=Qb c4 (.cells #[.int .i64 0,.bool false,.int .i64 0,.bool false,.int .i64 0] 57)
  have HRL:=hid (HL.out.row.below ((HO0.out.alloc (.cells #[.int .i64 0,.bool false,.int .i64 0,.bool false,.int .i64 0] 57)).below))
  have HLN:=hid (pairCells_len L)
  have HON:=hid (pairCells_one L)
  have HM1:=hid (show 0+L.length≤maxLen from by have:=HL.out.few;unfold maxLen;omega)
  have HM2:=hid (show (0+L.length)*16≤140737488355328 from by have:=HL.out.few;omega)
  go_wp2_with (first|(go_at_call 13;refine hof.mono ?_;rintro en w1 ⟨rfl,hw⟩;obtain rfl:w0=w1:=hw.symm)|(at_builtin;refine Qj rfl (.const (.slice none 0 0)) (.tmp 38) rfl elemPair rfl (World.ownsRow_nil _ (w0.alloc (.cells #[.int .i64 0,.bool false,.int .i64 0,.bool false,.int .i64 0] 57)).heap.size 36 2) _ L.length lc (Qd L) rfl HRL.out HLN.out HON.out HM1.out HM2.out (Nat.le_refl _) HL.out.nil ?_;intro v9 w9 hown9 hg9 hat9;rw[Nat.zero_add,List.nil_append] at hown9;obtain⟨A9,c9,rfl,_,_⟩:=Qc hown9;have HOWN9:=hid hown9;have ho09:Only [] w0 w9:=((Only.refl [] w0).alloc _).grown hg9 (fun k hk=>by cases hk);have ho9:=HO0.out.trans ho09;have hb39:=HB3.out.only ho09 (by simp);have hb7:Blk w9 w0.heap.size [.int .i64 0,.bool false,.int .i64 0,.bool false,.int .i64 0] 57:=(Blk.new w0 [.int .i64 0,.bool false,.int .i64 0,.bool false,.int .i64 0] 57).only ((Only.refl [] _).grown hg9 (fun k hk=>by cases hk)) (by simp);have hm9:=HM.out.new ho9;have m0:=hm9.m.cell (i:=0) rfl;have d0:=hb39.cell (i:=0) rfl;have c1:=hb39.cell (i:=1) rfl;have c2:=hb39.cell (i:=2) rfl;have c3:=hb39.cell (i:=3) rfl;have HO9:=hid ho9;have HB39:=hid hb39;have HB7:=hid hb7;have HM9:=hid hm9;have HSF3:=hid (Safe.fresh HS.out (Nat.le_refl w.heap.size) hb39.lt);have HSF7:=hid (Safe.fresh HS.out HO0.out.size hb7.lt);have HNE7:=hid (show ¬mb=w0.heap.size∧¬w.heap.size=w0.heap.size from ⟨by have:=HM.out.ms.1;have:=HO0.out.size;omega,by have:=HB3.out.lt;omega⟩);unfold ptr at m0;clear hown9 hg9 hat9 ho9 ho09 hb39 hb7 hm9))
  first|(have _:=tg2;refine wp_region_held_drew (S:=(fun W=>W.cell? ⟨mb,0,none⟩=some (.pointer (some ⟨Y.sb,0,none⟩))∧W.cell? ⟨w.heap.size,1,none⟩=some (.int .i64 key)∧W.cell? ⟨w.heap.size,2,none⟩=some (.int .i64 v))) (by kernel_rfl) ?_ (fun hHeld=>?_))|(have _:=tg3;refine wp_region_held_drew (S:=(fun W=>W.cell? ⟨mb,0,none⟩=some (.pointer (some ⟨Y.sb,0,none⟩))∧W.cell? ⟨w.heap.size,1,none⟩=some (.int .i64 key))) (by kernel_rfl) ?_ (fun hHeld=>?_))|(have _:=tg4;refine wp_region_held_drew (S:=(fun W=>W.cell? ⟨mb,0,none⟩=some (.pointer (some ⟨Y.sb,0,none⟩))∧W.cell? ⟨w.heap.size,1,none⟩=some (.int .i64 key)∧W.cell? ⟨w.heap.size,2,none⟩=some (.int .i64 v)∧W.cell? ⟨w.heap.size,3,none⟩=some (.int .i64 cv))) (by kernel_rfl) ?_ (fun hHeld=>?_))|(refine wp_region_held_drew (S:=(fun W=>W.cell? ⟨mb,0,none⟩=some (.pointer (some ⟨Y.sb,0,none⟩))∧W.cell? ⟨w.heap.size,1,none⟩=some (.int .i64 key)∧W.cell? ⟨w.heap.size,2,none⟩=some (.int .i64 v)∧W.cell? ⟨w.heap.size,3,none⟩=some (.int .i64 v))) (by kernel_rfl) ?_ (fun hHeld=>?_))
  ·first|(have _:=tg2;exact⟨m0,c1,c2⟩)|(have _:=tg3;exact⟨m0,c1⟩)|(exact⟨m0,c1,c2,c3⟩)
  refine tk 0 ?_
  refine tk 1 ?_
  refine tk 2 ?_
  refine tk 3 ?_
  refine tk 4 ?_
  refine tk 5 ?_
  first|(have _:=tg2;refine tk 6 ?_;refine tk 7 ?_;refine on1 8 (fun K hK=>?_))|(have _:=tg3;refine on1 6 (fun K hK=>?_))|(refine tk 6 ?_;refine tk 7 ?_;refine tk 8 ?_;refine tk 9 ?_;refine on1 10 (fun K hK=>?_))
  go_simp
  first|(have _:=tg2;go_at_call 18)|(have _:=tg3;go_at_call 107)|(go_at_call 108)
  refine (HOP.out _ HO9.out.drew').mono ?_
  rintro en wS ⟨D1,rfl,hsS,hmS⟩
  have hmS9:Moves Y (Qw Y ed D) (Qw Y ed D1) w9 wS:=⟨hmS.os,hmS.tape,hmS.output,hmS.size,hmS.block,hmS.dyn⟩
  have HSS:=hid hsS
  have HMS:=hid hmS9
  have hbS:=HB39.out.heap (Safe.moves hmS9 HSF3.out).2
  have x0:=Qp m0 (Safe.moves hmS9 HM9.out.ms).2
  have x1:=hbS.cell (i:=1) rfl
  have x2:=hbS.cell (i:=2) rfl
  have x3:=hbS.cell (i:=3) rfl
  have hb7S:=HB7.out.heap (Safe.moves hmS9 HSF7.out).2
  have y0:=hb7S.cell (i:=0) rfl
  have y1:=hb7S.cell (i:=1) rfl
  have y2:=hb7S.cell (i:=2) rfl
  have y3:=hb7S.cell (i:=3) rfl
  have y4:=hb7S.cell (i:=4) rfl
  have yf:=hb7S.frozen
  have HBS3:=hid hbS
  have HBS7:=hid hb7S
  clear hsS hmS hmS9 hbS hb7S
  first|(have _:=tg2;refine hK.out _ _ (⟨x0,x1,x2⟩) (fun hHeld=>?_))|(have _:=tg3;refine hK.out _ _ (⟨x0,x1⟩) (fun hHeld=>?_))|(refine hK.out _ _ (⟨x0,x1,x2,x3⟩) (fun hHeld=>?_))
  clear hK K
  try simp only[sp]
  first|(have _:=tg2;refine tk 9 ?_;refine tk 10 ?_;refine tk 11 ?_;refine on1 12 (fun K hK=>?_))|(have _:=tg3;refine tk 7 ?_;refine tk 8 ?_;refine tk 9 ?_;refine on1 10 (fun K hK=>?_))|(refine tk 11 ?_;refine tk 12 ?_;refine tk 13 ?_;refine on1 14 (fun K hK=>?_))
  go_simp
  first|(have _:=tg2;refine hK.out _ _ (⟨Qa (five _ _ _ _ _ _ _) x0 (by simpa using HNE7.out.1),Qa (five _ _ _ _ _ _ _) x1 (by simpa using HNE7.out.2),Qa (five _ _ _ _ _ _ _) x2 (by simpa using HNE7.out.2)⟩) (fun hHeld=>?_))|(have _:=tg3;refine hK.out _ _ (⟨Qa (five _ _ _ _ _ _ _) x0 (by simpa using HNE7.out.1),Qa (five _ _ _ _ _ _ _) x1 (by simpa using HNE7.out.2)⟩) (fun hHeld=>?_))|(refine hK.out _ _ (⟨Qa (five _ _ _ _ _ _ _) x0 (by simpa using HNE7.out.1),Qa (five _ _ _ _ _ _ _) x1 (by simpa using HNE7.out.2),Qa (five _ _ _ _ _ _ _) x2 (by simpa using HNE7.out.2),Qa (five _ _ _ _ _ _ _) x3 (by simpa using HNE7.out.2)⟩) (fun hHeld=>?_))
  clear hK K
  try simp only[sp]
  first|(have _:=tg2;refine tk 13 ?_)|(have _:=tg3;refine tk 11 ?_)|(refine tk 15 ?_)
  refine wpAnyH_done (by kernel_rfl) ?_ _
  first|(have _:=tg5;obtain⟨W10,hW10⟩:∃W10,((((wS.setCell ⟨w0.heap.size,0,none⟩ (.int .i64 0)).setCell ⟨w0.heap.size,1,none⟩ (.bool false)).setCell ⟨w0.heap.size,2,none⟩ (.int .i64 (num+1))).setCell ⟨w0.heap.size,3,none⟩ (.bool true)).setCell ⟨w0.heap.size,4,none⟩ (.int .i64 0)=W10:=⟨_,rfl⟩)|(have _:=tg6;obtain⟨W10,hW10⟩:∃W10,((((wS.setCell ⟨w0.heap.size,0,none⟩ (.int .i64 x)).setCell ⟨w0.heap.size,1,none⟩ (.bool true)).setCell ⟨w0.heap.size,2,none⟩ (.int .i64 (num+1))).setCell ⟨w0.heap.size,3,none⟩ (.bool true)).setCell ⟨w0.heap.size,4,none⟩ (.int .i64 0)=W10:=⟨_,rfl⟩)|(have _:=tg7;obtain⟨W10,hW10⟩:∃W10,((((wS.setCell ⟨w0.heap.size,0,none⟩ (.int .i64 v)).setCell ⟨w0.heap.size,1,none⟩ (.bool true)).setCell ⟨w0.heap.size,2,none⟩ (.int .i64 (num))).setCell ⟨w0.heap.size,3,none⟩ (.bool false)).setCell ⟨w0.heap.size,4,none⟩ (.int .i64 0)=W10:=⟨_,rfl⟩)|(have _:=tg8;obtain⟨W10,hW10⟩:∃W10,((((wS.setCell ⟨w0.heap.size,0,none⟩ (.int .i64 0)).setCell ⟨w0.heap.size,1,none⟩ (.bool false)).setCell ⟨w0.heap.size,2,none⟩ (.int .i64 (num))).setCell ⟨w0.heap.size,3,none⟩ (.bool false)).setCell ⟨w0.heap.size,4,none⟩ (.int .i64 0)=W10:=⟨_,rfl⟩)|(have _:=tg9;obtain⟨W10,hW10⟩:∃W10,((((wS.setCell ⟨w0.heap.size,0,none⟩ (.int .i64 0)).setCell ⟨w0.heap.size,1,none⟩ (.bool false)).setCell ⟨w0.heap.size,2,none⟩ (.int .i64 (0))).setCell ⟨w0.heap.size,3,none⟩ (.bool false)).setCell ⟨w0.heap.size,4,none⟩ (.int .i64 0)=W10:=⟨_,rfl⟩)|(obtain⟨W10,hW10⟩:∃W10,((((wS.setCell ⟨w0.heap.size,0,none⟩ (.int .i64 v)).setCell ⟨w0.heap.size,1,none⟩ (.bool true)).setCell ⟨w0.heap.size,2,none⟩ (.int .i64 (num+1))).setCell ⟨w0.heap.size,3,none⟩ (.bool true)).setCell ⟨w0.heap.size,4,none⟩ (.int .i64 0)=W10:=⟨_,rfl⟩)
  rw[hW10]
  have ho10:Only [w0.heap.size] wS W10:=by rw[←hW10];exact five _ _ _ _ _ _ _
  first|(have _:=tg5;have hb7:Blk W10 w0.heap.size [.int .i64 0,.bool false,.int .i64 (num+1),.bool true,.int .i64 0] 57:=by rw[←hW10];exact ((((HBS7.out.set 0 _).set 1 _).set 2 _).set 3 _).set 4 _)|(have _:=tg6;have hb7:Blk W10 w0.heap.size [.int .i64 x,.bool true,.int .i64 (num+1),.bool true,.int .i64 0] 57:=by rw[←hW10];exact ((((HBS7.out.set 0 _).set 1 _).set 2 _).set 3 _).set 4 _)|(have _:=tg7;have hb7:Blk W10 w0.heap.size [.int .i64 v,.bool true,.int .i64 (num),.bool false,.int .i64 0] 57:=by rw[←hW10];exact ((((HBS7.out.set 0 _).set 1 _).set 2 _).set 3 _).set 4 _)|(have _:=tg8;have hb7:Blk W10 w0.heap.size [.int .i64 0,.bool false,.int .i64 (num),.bool false,.int .i64 0] 57:=by rw[←hW10];exact ((((HBS7.out.set 0 _).set 1 _).set 2 _).set 3 _).set 4 _)|(have _:=tg9;have hb7:Blk W10 w0.heap.size [.int .i64 0,.bool false,.int .i64 (0),.bool false,.int .i64 0] 57:=by rw[←hW10];exact ((((HBS7.out.set 0 _).set 1 _).set 2 _).set 3 _).set 4 _)|(have hb7:Blk W10 w0.heap.size [.int .i64 v,.bool true,.int .i64 (num+1),.bool true,.int .i64 0] 57:=by rw[←hW10];exact ((((HBS7.out.set 0 _).set 1 _).set 2 _).set 3 _).set 4 _)
  have hmv:Moves Y (Qw Y ed D) (Qw Y ed D1) w W10:=((Moves.of_new HO9.out).trans HMS.out).fresh ho10 (by have:=HO0.out.size;simpa using this)
  have hs10:StoreIn W10 Y ed D1 X':=HSS.out.only ho10 (fun k hk=>by
   obtain rfl:=List.mem_singleton.1 hk
   have:=Safe.moves HMS.out HSF7.out
   exact this.1.2)
  have hb3:=HBS3.out.only ho10 (by simpa using HNE7.out.2)
  have hl10:Row W10 A9 (Qd L):=fun j u hu=>by
   obtain⟨A,c,e1,hr,_⟩:=Qc HOWN9.out
   injection e1 with e1
   subst e1
   obtain⟨b,off,e2,hc⟩:=hr j u hu
   have hlt:=HOWN9.out.lt b (by rw[e2];rfl)
   have hsf:Safe w9 Y ed D b:=Safe.fresh HS.out (by have h1:=hlt.1;have h2:=HO0.out.size;rw[World.size_alloc] at h1;omega) hlt.2
   have hne:b≠w0.heap.size:=by have:=hlt.1;rw[World.size_alloc] at this;omega
   exact⟨b,off,e2,Qa ho10 (Qp hc (Safe.moves HMS.out hsf).2) (by simpa using hne)⟩
  have hL10:=HL.out.keep (KeepB.moves hmv (fun k hk=>(HS.out.dyn_lt hk).1))
  have hsame:=pairsSame_any W10 A9 LA c9 lc L (by have:=HL.out.few;omega) hl10 hL10.row
  have hm10:=HM.out.moves hmv
  have a4:=hb3.cell (i:=4) rfl
  have HB7':=hid hb7
  have HB3':=hid hb3
  have HMV:=hid hmv
  have HS10:=hid hs10
  have HM10:=hid hm10
  have HSAME:=hid hsame
  have HDW:=hid (show ∀k,w.heap.size≤k→wS.heap.size≤k∨k<w9.heap.size→¬Qw Y ed D1 k from fun k h1 h2 hd=>by
   rcases h2 with h2|h2
   ·have:=(HSS.out.dyn_lt hd).2
    omega
   ·exact (Safe.moves HMS.out (Safe.fresh HS.out h1 h2)).1.2.2 hd)
  have HSZ10:=hid (show wS.heap.size≤W10.heap.size from ho10.size)
  have hi:¬((i:Int)<0):=by omega
  have hil:(i:Int)<els.length:=by have:=(List.getElem?_eq_some_iff.1 HE.out).1;omega
  have hi0:(0:Int)≤i:=by omega
  clear hW10 ho10 hb7 hmv hs10 hb3 hl10 hL10 hsame hm10 x0 x1 x2 x3 y0 y1 y2 y3 y4 yf m0 d0 c1 c2 c3 c0 c4 c4a he hw0 hHeld
  go_wp2_with (first|(go_at_call 109;refine HSAME.out.mono ?_;rintro en w11 ⟨rfl,ho11⟩;have HO11:=hid ho11;have hm11:=HM10.out.new ho11;have HM11:=hid hm11;have m1:=hm11.m.cell (i:=1) rfl;have hpl:=hm11.plAt;have hb711:=HB7'.out.only ho11 (by simp);have hb311:=HB3'.out.only ho11 (by simp);have HB11:=hid hb711;have HB311:=hid hb311;obtain⟨A0,pc,p0,p1,p2,prow,_,pnil⟩:=hpl i (l,num) (by rw[List.getElem?_map,HE.out];rfl);rw[Nat.zero_add] at p0 p1 p2;dsimp only at p0 p1 prow pnil;have hfind:=lawFind_any w11 lb (i*3) A0 pc l (by have:=HSZ.out;omega) p0 prow key;rw[HF.out] at hfind;have HFIND:=hid hfind;have HROW:=hid prow;have HNIL:=hid pnil;have HP0:=hid p0;have HP1:=hid p1;have b0:=hb311.cell (i:=0) rfl;have b2:=hb311.cell (i:=2) rfl;have b3:=hb311.cell (i:=3) rfl;have f0:=hb711.cell (i:=0) rfl;have f1:=hb711.cell (i:=1) rfl;have f2:=hb711.cell (i:=2) rfl;have f3:=hb711.cell (i:=3) rfl;have f4:=hb711.cell (i:=4) rfl;clear ho11 hm11 hpl p2 prow pnil hb311 hb711 hfind)|(go_at_call 48;refine HFIND.out.mono ?_;rintro en w12 ⟨rfl,hw⟩;obtain rfl:w11=w12:=hw.symm;(first|(have _:=tg10;have HWANT:=hid (Blk.new w11 [.int .i64 0,.bool false,.int .i64 num,.bool false,.int .i64 0] 57);have HOW:=hid ((Only.refl [] w11).alloc (.cells #[.int .i64 0,.bool false,.int .i64 num,.bool false,.int .i64 0] 57));have b0':=Qb b0 (.cells #[.int .i64 0,.bool false,.int .i64 num,.bool false,.int .i64 0] 57);have b2':=Qb b2 (.cells #[.int .i64 0,.bool false,.int .i64 num,.bool false,.int .i64 0] 57);have b3':=Qb b3 (.cells #[.int .i64 0,.bool false,.int .i64 num,.bool false,.int .i64 0] 57);have p0':=Qb p0 (.cells #[.int .i64 0,.bool false,.int .i64 num,.bool false,.int .i64 0] 57);have p1':=Qb p1 (.cells #[.int .i64 0,.bool false,.int .i64 num,.bool false,.int .i64 0] 57))|(have _:=tg11;have HWANT:=hid (Blk.new w11 [.int .i64 x,.bool true,.int .i64 num,.bool false,.int .i64 0] 57);have HOW:=hid ((Only.refl [] w11).alloc (.cells #[.int .i64 x,.bool true,.int .i64 num,.bool false,.int .i64 0] 57));have b0':=Qb b0 (.cells #[.int .i64 x,.bool true,.int .i64 num,.bool false,.int .i64 0] 57);have b2':=Qb b2 (.cells #[.int .i64 x,.bool true,.int .i64 num,.bool false,.int .i64 0] 57);have b3':=Qb b3 (.cells #[.int .i64 x,.bool true,.int .i64 num,.bool false,.int .i64 0] 57);have p0':=Qb p0 (.cells #[.int .i64 x,.bool true,.int .i64 num,.bool false,.int .i64 0] 57);have p1':=Qb p1 (.cells #[.int .i64 x,.bool true,.int .i64 num,.bool false,.int .i64 0] 57))|(have HWANT:=hid (Blk.new w11 [.int .i64 v,.bool true,.int .i64 num,.bool false,.int .i64 0] 57);have HOW:=hid ((Only.refl [] w11).alloc (.cells #[.int .i64 v,.bool true,.int .i64 num,.bool false,.int .i64 0] 57));have b0':=Qb b0 (.cells #[.int .i64 v,.bool true,.int .i64 num,.bool false,.int .i64 0] 57);have b2':=Qb b2 (.cells #[.int .i64 v,.bool true,.int .i64 num,.bool false,.int .i64 0] 57);have b3':=Qb b3 (.cells #[.int .i64 v,.bool true,.int .i64 num,.bool false,.int .i64 0] 57);have p0':=Qb p0 (.cells #[.int .i64 v,.bool true,.int .i64 num,.bool false,.int .i64 0] 57);have p1':=Qb p1 (.cells #[.int .i64 v,.bool true,.int .i64 num,.bool false,.int .i64 0] 57)));(first|(have _:=tg12;have f0':=Qb f0 (.cells #[.int .i64 0,.bool false,.int .i64 num,.bool false,.int .i64 0] 57);have f1':=Qb f1 (.cells #[.int .i64 0,.bool false,.int .i64 num,.bool false,.int .i64 0] 57);have f2':=Qb f2 (.cells #[.int .i64 0,.bool false,.int .i64 num,.bool false,.int .i64 0] 57);have f3':=Qb f3 (.cells #[.int .i64 0,.bool false,.int .i64 num,.bool false,.int .i64 0] 57);have f4':=Qb f4 (.cells #[.int .i64 0,.bool false,.int .i64 num,.bool false,.int .i64 0] 57))|(have _:=tg13;have f0':=Qb f0 (.cells #[.int .i64 x,.bool true,.int .i64 num,.bool false,.int .i64 0] 57);have f1':=Qb f1 (.cells #[.int .i64 x,.bool true,.int .i64 num,.bool false,.int .i64 0] 57);have f2':=Qb f2 (.cells #[.int .i64 x,.bool true,.int .i64 num,.bool false,.int .i64 0] 57);have f3':=Qb f3 (.cells #[.int .i64 x,.bool true,.int .i64 num,.bool false,.int .i64 0] 57);have f4':=Qb f4 (.cells #[.int .i64 x,.bool true,.int .i64 num,.bool false,.int .i64 0] 57))|(skip))))
  first|(have _:=tg1;have hn1:wrap64 (num+1)=num+1:=IntWalk.wrap64_in _ (by omega);(have hle1:¬lb=w11.heap.size:=by have:=HM11.out.ls.1;omega);(have hle2:¬lb=w0.heap.size:=by have:=HM.out.ls.1;have:=HO0.out.size;omega);(have hle3:¬w0.heap.size=w11.heap.size:=by have:=HB11.out.lt;omega);(have hle4:¬w11.heap.size=lb:=fun e=>hle1 e.symm);(have hle5:¬w0.heap.size=lb:=fun e=>hle2 e.symm);have hle6:¬w11.heap.size=w0.heap.size:=fun e=>hle3 e.symm)|(skip)
  first|(have _:=tg14;obtain⟨W12,hW12⟩:∃W12,w11.alloc (.cells #[.int .i64 0,.bool false,.int .i64 num,.bool false,.int .i64 0] 57)=W12:=⟨_,rfl⟩)|(have _:=tg6;obtain⟨W12,hW12⟩:∃W12,w11.alloc (.cells #[.int .i64 x,.bool true,.int .i64 num,.bool false,.int .i64 0] 57)=W12:=⟨_,rfl⟩)|(have _:=tg15;obtain⟨W12,hW12⟩:∃W12,w11.alloc (.cells #[.int .i64 v,.bool true,.int .i64 num,.bool false,.int .i64 0] 57)=W12:=⟨_,rfl⟩)|(skip)
  first|(have _:=tg1;rw[hW12] at HWANT HOW b0' b2' b3' p0' p1';rw[hW12];have hr12:=HROW.out.below HOW.out.below)|(skip)
  first|(have _:=tg16;have hput:=fun W (ho:Only [] W12 W)=>lawPut_any W A0 pc l HSZ.out ((HROW.out.below HOW.out.below).below ho.below) key v)|(have _:=tg3;have hput:=fun W (ho:Only [] W12 W)=>lawDrop_any W A0 pc l HSZ.out ((HROW.out.below HOW.out.below).below ho.below) key)|(have _:=tg17;have hput:=fun W (ho:Only [] W12 W)=>lawPut_any W A0 pc l HSZ.out ((HROW.out.below HOW.out.below).below ho.below) key cv)|(skip)
  first|(have _:=tg1;have HPUT:=hid hput;have HR12:=hid hr12;clear hW12 hr12 hput b0 b2 b3 p0 p1)|(skip)
  first|(have _:=tg2;refine wp_region_held_drew (S:=(fun W=>W.cell? ⟨lb,i*3,none⟩=some (.slice A0 l.length pc)∧W.cell? ⟨w.heap.size,2,none⟩=some (.int .i64 v))) (by kernel_rfl) ?_ (fun hHeld=>?_))|(have _:=tg18;refine wp_region_held_drew (S:=(fun W=>W.cell? ⟨lb,i*3,none⟩=some (.slice A0 l.length pc)∧W.cell? ⟨w.heap.size,3,none⟩=some (.int .i64 v))) (by kernel_rfl) ?_ (fun hHeld=>?_))|(have _:=tg17;refine wp_region_held_drew (S:=(fun W=>W.cell? ⟨lb,i*3,none⟩=some (.slice A0 l.length pc)∧W.cell? ⟨w.heap.size,3,none⟩=some (.int .i64 cv))) (by kernel_rfl) ?_ (fun hHeld=>?_))|(skip)
  first
  |have _:=tg19
   ·first|(have _:=tg2;exact⟨p0',b2'⟩)|(exact⟨p0',b3'⟩)
   refine tk 0 ?_
   refine tk 1 ?_
   refine tk 2 ?_
   refine tk 3 ?_
   refine tk 4 ?_
   refine tk 5 ?_
   refine tk 6 ?_
   refine on1 7 (fun K hK=>?_)
   go_simp
   go_at_call 14
   refine (HPUT.out _ (Only.refl [] W12).drew').mono ?_
   rintro en w13 ⟨u,rfl,hu,ho13'⟩
   have ho13:Only [] W12 w13:=⟨ho13'.os,ho13'.tape,ho13'.output,ho13'.size,ho13'.block⟩
  |skip
  first|(have _:=tg16;have hu2:w13.ownsRow W12.heap.size 36 2 u (putL l key v).length (Qd (putL l key v)):=hu)|(have _:=tg17;have hu2:w13.ownsRow W12.heap.size 36 2 u (putL l key cv).length (Qd (putL l key cv)):=hu)|(skip)
  first|(have _:=tg19;have HU:=hid hu2;have HO13:=hid ho13;have q0:=Qa ho13 p0' (by simp);have q2:=Qa ho13 b2' (by simp);have q3:=Qa ho13 b3' (by simp);have q1:=Qa ho13 p1' (by simp);have hw13:=HWANT.out.only ho13 (by simp);have g0:=hw13.cell (i:=0) rfl;have g1:=hw13.cell (i:=1) rfl;have g2:=hw13.cell (i:=2) rfl;have g3:=hw13.cell (i:=3) rfl;have g4:=hw13.cell (i:=4) rfl;have gf:=hw13.frozen;have ho1113:Only [] w11 w13:=HOW.out.trans ho13;have hb713:=HB11.out.only ho1113 (by simp);have f0':=hb713.cell (i:=0) rfl;have f1':=hb713.cell (i:=1) rfl;have f2':=hb713.cell (i:=2) rfl;have f3':=hb713.cell (i:=3) rfl;have f4':=hb713.cell (i:=4) rfl;have hlf:=(HM11.out.new ho1113).l.frozen;obtain⟨uA,uc,rfl,_,_⟩:=Qc hu;have HW13:=hid hw13;clear hu ho13' ho13 hu2 hw13 ho1113 hb713)|(skip)
  first|(have _:=tg2;refine hK.out _ _ (⟨q0,q2⟩) (fun hHeld=>?_))|(have _:=tg20;refine hK.out _ _ (⟨q0,q3⟩) (fun hHeld=>?_))|(skip)
  first|(have _:=tg19;clear hK K;(try simp only[sp]);refine tk 8 ?_;refine wpAnyH_done (by kernel_rfl) ?_ _)|(have _:=tg3;go_wp2_with (go_at_call 110;refine (HPUT.out _ (Only.refl [] W12)).mono ?_;rintro en w13 ⟨u,rfl,hu,ho13'⟩;have ho13:Only [] W12 w13:=⟨ho13'.os,ho13'.tape,ho13'.output,ho13'.size,ho13'.block⟩;have hu2:w13.ownsRow W12.heap.size 36 2 u (dropL l key).length (Qd (dropL l key)):=hu;have HU:=hid hu2;have HO13:=hid ho13;have q0:=Qa ho13 p0' (by simp);have q2:=Qa ho13 b2' (by simp);have q3:=Qa ho13 b3' (by simp);have q1:=Qa ho13 p1' (by simp);have hw13:=HWANT.out.only ho13 (by simp);have g0:=hw13.cell (i:=0) rfl;have g1:=hw13.cell (i:=1) rfl;have g2:=hw13.cell (i:=2) rfl;have g3:=hw13.cell (i:=3) rfl;have g4:=hw13.cell (i:=4) rfl;have gf:=hw13.frozen;have ho1113:Only [] w11 w13:=HOW.out.trans ho13;have hb713:=HB11.out.only ho1113 (by simp);have f0':=hb713.cell (i:=0) rfl;have f1':=hb713.cell (i:=1) rfl;have f2':=hb713.cell (i:=2) rfl;have f3':=hb713.cell (i:=3) rfl;have f4':=hb713.cell (i:=4) rfl;have hlf:=(HM11.out.new ho1113).l.frozen;obtain⟨uA,uc,rfl,_,_⟩:=Qc hu;have HW13:=hid hw13;clear hu ho13' ho13 hu2 hw13 ho1113 hb713))|(skip)
  first|(have _:=tg1;go_wp2_with fail)|(skip)
  go_ret
  first|(have _:=tg21;have hall:=(HO11.out.trans HOW.out).trans HO13.out;have z1:=HMV.out.size;have z2:=HO11.out.size;have z3:=HSZ10.out;have z4:=HWANT.out.lt;exact set_end HS.out HM.out (HMV.out.fresh hall (by simp)) (HS10.out.new hall) HE.out (by omega) HW13.out.lt (HDW.out _ (by omega) (.inl (by omega))) HU.out z4 (fun k hk=>HDW.out k (by have:=(HU.out.lt k hk).1;omega) (.inl (by have:=(HU.out.lt k hk).1;omega))) _ _)|(have _:=tg22;have hall:=(HO11.out.trans HOW.out).trans HO13.out;exact moved_end HS.out HM.out (HMV.out.fresh hall (by simp)) (HS10.out.new hall))|(exact moved_end HS.out HM.out (HMV.out.fresh (HO11.out.trans HOW.out) (by simp)) (HS10.out.new (HO11.out.trans HOW.out)))
abbrev write2New_any:=(write_all w Y ed D X X' mb lb els sv sns hs hm hn key v cv LA L lc hL hk i hpk u0 l num he hsz hnum).1
abbrev write2Other_any:=(write_all w Y ed D X X' mb lb els sv sns hs hm hn key v cv LA L lc hL hk i hpk u0 l num he hsz hnum).2.1
abbrev write2Same_any:=(write_all w Y ed D X X' mb lb els sv sns hs hm hn key v cv LA L lc hL hk i hpk u0 l num he hsz hnum).2.2.1
abbrev write3None_any:=(write_all w Y ed D X X' mb lb els sv sns hs hm hn key v cv LA L lc hL hk i hpk u0 l num he hsz hnum).2.2.2.1
abbrev write3Some_any:=(write_all w Y ed D X X' mb lb els sv sns hs hm hn key v cv LA L lc hL hk i hpk u0 l num he hsz hnum).2.2.2.2.1
abbrev write4None_any:=(write_all w Y ed D X X' mb lb els sv sns hs hm hn key v cv LA L lc hL hk i hpk u0 l num he hsz hnum).2.2.2.2.2.1
abbrev write4Other_any:=(write_all w Y ed D X X' mb lb els sv sns hs hm hn key v cv LA L lc hL hk i hpk u0 l num he hsz hnum).2.2.2.2.2.2.1
abbrev write4Same_any:=(write_all w Y ed D X X' mb lb els sv sns hs hm hn key v cv LA L lc hL hk i hpk u0 l num he hsz hnum).2.2.2.2.2.2.2.1
abbrev write4Put_any:=(write_all w Y ed D X X' mb lb els sv sns hs hm hn key v cv LA L lc hL hk i hpk u0 l num he hsz hnum).2.2.2.2.2.2.2.2
end
def LawStep (Y:StoreL)(mb lb:Nat)(X':StoreS)(ps:List PlainS)(sn:List SnapL)(w:World)(en:Ending)(w':World):Prop:=
 en=.returned (.bool true)∧∃ed' D' els' sv' sns',StoreIn w' Y ed' D' X'∧LawM w' Y ed' D' mb lb els' sv' sns'∧els'.map (·.2)=ps∧sns'.map (·.1)=sn∧KeepB Y w w'
theorem own_rowS {w:World}{base e s n c:Nat}{A:Option Addr}{xs:List Value}(h:w.ownsRow base e s (.slice A n c) n xs):Row w A xs:=by
 obtain⟨A',c',hv,hr,_⟩:=Qc h
 injection hv with e1 e2 e3
 subst e1
 exact hr
theorem LawM.sn {w:World}{Y:StoreL}{ed:Option Nat}{D:Nat→List Nat}{mb lb:Nat}{els:List PlEl}{A:Option Addr}{c:Nat}{sns:List (SnapL × Value)}(h:LawM w Y ed D mb lb els (.slice A sns.length c) sns){j:Nat}{s:SnapL × Value}(hj:sns[j]?=some s):
  ∃g,A=some ⟨g,0,none⟩∧w.cell? ⟨g,j*4,none⟩=some (.int .i64 (s.1.lease:Int))∧w.cell? ⟨g,j*4+1,none⟩=some (.int .i64 s.1.stamp)∧w.cell? ⟨g,j*4+2,none⟩=some s.2∧w.cell? ⟨g,j*4+3,none⟩=some (.bool s.1.is):=by
 have hl:=(List.getElem?_eq_some_iff.1 hj).1
 obtain⟨g,c',e⟩:=own_some h.snaps (by omega)
 injection e with e1 e2 e3
 subst e1
 have hr:=own_rowS h.snaps
 have hg:=Qz snC 4 (fun _=>rfl) sns j s hj
 have hc:∀k v,k<4→(snC s)[k]?=some v→w.cell? ⟨g,j*4+k,none⟩=some v:=fun k v hk hv=>by
  obtain⟨b,off,e,hcc⟩:=hr (j*4+k) v (by rw[hg k hk];exact hv)
  injection e with e
  injection e with e1 e2
  subst e1 e2
  simpa using hcc
 exact⟨g,rfl,by simpa using hc 0 _ (by decide) rfl,hc 1 _ (by decide) rfl,hc 2 _ (by decide) rfl,hc 3 _ (by decide) rfl⟩
theorem cell_set_far {w:World}{a:Addr}{b i:Nat}{v u:Value}(h:w.cell? ⟨b,i,none⟩=some v)(hne:a.block≠b):(w.setCell a u).cell? ⟨b,i,none⟩=some v:=by
 rw[World.cell?_setCell_far w a ⟨b,i,none⟩ u hne]
 exact h
theorem cell_set_off {w:World}{b i j:Nat}{v u:Value}(h:w.cell? ⟨b,i,none⟩=some v)(hne:j≠i):(w.setCell ⟨b,j,none⟩ u).cell? ⟨b,i,none⟩=some v:=by
 rw[World.cell?_setCell_other w ⟨b,j,none⟩ ⟨b,i,none⟩ u (fun e=>hne (by cases e;rfl))]
 exact h
def HeldRel (sns:List (SnapL × Value))(W:World)(k:Nat)(s5 s6:Value)(wr:World):Prop:=
 ∃j:Nat,j≤sns.length∧s5=.int .i64 (((sns.take j).countP (·.1.is):Nat):Int)∧s6=.int .i64 (j:Int)∧k=sns.length-j∧W=wr
theorem snapFull_any (w:World)(Y:StoreL)(ed:Option Nat)(D:Nat→List Nat)(X:StoreS)(mb lb:Nat)(els:List PlEl)(sv:Value)(sns:List (SnapL × Value))(hs:StoreIn w Y ed D X)(hm:LawM w Y ed D mb lb els sv sns)(hfew:sns.length≤100)
  (hn:X.clock.leases.findIdx? (fun x=>decide (x=0))=none):
  Calls prog 50 #[ptr mb,.int .i64 ((sns.countP (·.1.is):Nat):Int)] w (LawStep Y mb lb X (els.map (·.2)) (sns.map (·.1)) w):=by
 have hop:=fun W (ho:Only [] w W)=>snapNone_any W Y ed D X (hs.new ho) hn
 unfold snapV at hop
 obtain⟨A,c,rfl,_,_⟩:=Qc hm.snaps
 have m0:=hm.m.cell (i:=0) rfl
 have m2:=hm.m.cell (i:=2) rfl
 have HSN:=hid (fun j s (hj:sns[j]?=some s)=>hm.sn hj)
 have HM:=hid hm;have HS:=hid hs;have HFEW:=hid hfew;have HOP:=hid hop
 unfold ptr at *
 clear hm hs hop hfew
 go_enter func50,ntmps50
 go_wp2_with fail
 go_loopg [5,6] sns.length (fun k s5 s6 wr=>HeldRel sns w k s5 s6 wr)
 case atStart=>exact⟨0,Nat.zero_le _,rfl,rfl,rfl,rfl⟩
 case round=>
  obtain⟨j,hj,rfl,rfl,rfl,rfl⟩:=hrel
  by_cases hlt:j<sns.length
  ·have hlt':(j:Int)<sns.length:=by omega
   obtain⟨s,hx⟩:∃x,sns[j]?=some x:=⟨_,List.getElem?_eq_getElem hlt⟩
   obtain⟨g,rfl,_,_,_,c3⟩:=HSN.out j s hx
   have hcl:(sns.take j).countP (·.1.is)≤j:=Nat.le_trans List.countP_le_length (by rw[List.length_take];omega)
   have hsn:=Zd hx
   have h1:wrap64 ((j:Int)+1)=(j:Int)+1:=IntWalk.wrap64_in _ (by have:=HFEW.out;omega)
   have h2:wrap64 ((((sns.take j).countP (·.1.is):Nat):Int)+1)=(((sns.take j).countP (·.1.is):Nat):Int)+1:=IntWalk.wrap64_in _ (by have:=HFEW.out;omega)
   have HSNO:=hid hsn;have H1:=hid h1;have H2:=hid h2
   clear hx hcl hsn h1 h2
   cases his:s.1.is with
   |false=>
    rw[his] at c3
    go_wp2_with fail
    go_roundg (sns.length-(j+1))
    case measure=>omega
    case rel=>
     refine⟨j+1,by omega,?_,?_,rfl,rfl⟩
     ·rw[HSNO.out,List.countP_append];simp[his]
     ·first|(rw[H1.out];rfl)|(show _=_;rw[H1.out];rfl)
   |true=>
    rw[his] at c3
    go_wp2_with fail
    go_roundg (sns.length-(j+1))
    case measure=>omega
    case rel=>
     refine⟨j+1,by omega,?_,?_,rfl,rfl⟩
     ·rw[HSNO.out,List.countP_append,H2.out];simp[his]
     ·first|(rw[H1.out];rfl)|(show _=_;rw[H1.out];rfl)
  ·have hjl:j=sns.length:=by omega
   subst hjl
   rw[List.take_length] at *
   clear hj
   go_wp2_with (go_at_call 29;refine (HOP.out _ (Only.refl [] w)).mono ?_;rintro en w1 ⟨rfl,ho1⟩;have HO1:=hid ho1;clear ho1)
   go_ret
   have ho:=HO1.out.alloc (.cells #[.int .i64 0,.int .i64 0] 75)
   exact⟨rfl,ed,D,els,_,sns,HS.out.new ho,HM.out.new ho,rfl,rfl,KeepB.only ho (by simp)⟩
theorem look_at {w2 w3:World}{Y:StoreL}{ed:Option Nat}{D:Nat→List Nat}{X:StoreS}{mb lb:Nat}{els els2:List PlEl}{sv v:Value}{sns:List (SnapL × Value)}(hs:StoreIn w2 Y ed D X)(hm:LawM w2 Y ed D mb lb els sv sns)(ho:Only [] w2 w3)(hv:PlV w3 w2.heap.size v els2)(hn:0<els2.length):
  ∃pb pc,v=.slice (some ⟨pb,0,none⟩) els2.length pc∧RO w3 Y ed D mb lb sv pb∧PlAt w3 (RO w3 Y ed D mb lb sv) pb 0 (els2.map (·.2)):=by
 obtain⟨pb,pc,rfl⟩:=own_some hv.1 hn
 have hro:∀k,w2.heap.size≤k→k<w3.heap.size→RO w3 Y ed D mb lb sv k:=fun k h1 h2=>
  ⟨Safe.fresh hs h1 h2,by have:=hm.ms.1;omega,by have:=hm.ls.1;omega,fun e=>by have:=(hm.svs k e).1.1;omega⟩
 have hp:=hv.1.lt pb rfl
 exact⟨pb,pc,rfl,hro pb hp.1 hp.2,hv.at.keep rfl (fun k q=>⟨hro k q.1 q.2.1,rfl⟩)⟩
theorem elemSn:ElemOk prog 45 115 4 48:=elemOk_of (by kernel_rfl) (by decide) (.agg #[.int .i64 0,.int .i64 0,.slice none 0 0,.bool false]) (by kernel_rfl) rfl
def SeenRel (n:Nat)(W:World)(k:Nat)(s9:Value)(wr:World):Prop:=∃j:Nat,j≤n∧s9=.int .i64 (j:Int)∧k=n-j∧Only [] W wr
theorem snapNew_any (w:World)(Y:StoreL)(ed:Option Nat)(D:Nat→List Nat)(X X':StoreS)(mb lb:Nat)(els:List PlEl)(sv:Value)(sns:List (SnapL × Value))(hs:StoreIn w Y ed D X)(hm:LawM w Y ed D mb lb els sv sns)(hfew:sns.length≤100)(hnp:0<els.length∧els.length≤64)(hsz:∀e∈els,e.2.1.length≤100000)
  (le:Nat) (hle:sns.countP (·.1.is)≠le) (i:Nat) (now:Int) (hop:∀W,Only [] w W→Calls prog 29 #[ptr Y.sb,.pointer none] W (Turns Y ed D X' (.tuple #[snapV i now,.int .i64 0]) W)) (hlow:∀s∈sns,s.1.stamp<now∧(s.1.is=true→s.1.lease≠i)):
  Calls prog 50 #[ptr mb,.int .i64 (le:Int)] w (LawStep Y mb lb X' (els.map (·.2)) (sns.map (·.1) ++ [⟨i,now,els.map (·.2),true⟩]) w):=by
 unfold snapV Turns at hop
 have HLE:=hid hle
 have HLOW:=hid hlow
 have HNP:=hid hnp
 have HSZ:=hid hsz
 clear hle hlow hnp hsz
 obtain⟨A,c,rfl,_,_⟩:=Qc hm.snaps
 have m0:=hm.m.cell (i:=0) rfl
 have m2:=hm.m.cell (i:=2) rfl
 have HSN:=hid (fun j s (hj:sns[j]?=some s)=>hm.sn hj)
 have HM:=hid hm
 have HS:=hid hs
 have HFEW:=hid hfew
 have HOP:=hid hop
 unfold ptr at *
 clear hm hs hop hfew
 go_enter func50,ntmps50
 go_wp2_with fail
 go_loopg [5,6] sns.length (fun k s5 s6 wr=>HeldRel sns w k s5 s6 wr)
 case atStart=>exact⟨0,Nat.zero_le _,rfl,rfl,rfl,rfl⟩
 case round=>
  obtain⟨j,hj,rfl,rfl,rfl,rfl⟩:=hrel
  by_cases hlt:j<sns.length
  ·have hlt':(j:Int)<sns.length:=by omega
   obtain⟨s,hx⟩:∃x,sns[j]?=some x:=⟨_,List.getElem?_eq_getElem hlt⟩
   obtain⟨g,rfl,_,_,_,c3⟩:=HSN.out j s hx
   have hcl:(sns.take j).countP (·.1.is)≤j:=Nat.le_trans List.countP_le_length (by rw[List.length_take];omega)
   have hsn:=Zd hx
   have h1:wrap64 ((j:Int)+1)=(j:Int)+1:=IntWalk.wrap64_in _ (by have:=HFEW.out;omega)
   have h2:wrap64 ((((sns.take j).countP (·.1.is):Nat):Int)+1)=(((sns.take j).countP (·.1.is):Nat):Int)+1:=IntWalk.wrap64_in _ (by have:=HFEW.out;omega)
   have HSNO:=hid hsn
   have H1:=hid h1
   have H2:=hid h2
   clear hx hcl hsn h1 h2
   cases his:s.1.is with
   |false=>
    rw[his] at c3
    go_wp2_with fail
    go_roundg (sns.length-(j+1))
    case measure=>omega
    case rel=>
     refine⟨j+1,by omega,?_,?_,rfl,rfl⟩
     ·rw[HSNO.out,List.countP_append]
      simp[his]
     ·first|(rw[H1.out];rfl)|(show _=_;rw[H1.out];rfl)
   |true=>
    rw[his] at c3
    go_wp2_with fail
    go_roundg (sns.length-(j+1))
    case measure=>omega
    case rel=>
     refine⟨j+1,by omega,?_,?_,rfl,rfl⟩
     ·rw[HSNO.out,List.countP_append,H2.out]
      simp[his]
     ·first|(rw[H1.out];rfl)|(show _=_;rw[H1.out];rfl)
  ·have hjl:j=sns.length:=by omega
   subst hjl
   rw[List.take_length] at *
   clear hj
   have hcne:((sns.countP (·.1.is):Nat):Int)≠(le:Int):=fun e=>HLE.out (by omega)
   have hcb:(((sns.countP (·.1.is):Nat):Int) == (le:Int))=false:=by simpa using hcne
   go_wp2_with (go_at_call 29;refine (HOP.out _ (Only.refl [] w)).mono ?_;rintro en w1 ⟨rfl,hs1,hm1⟩;have HS1:=hid hs1;have HM1:=hid hm1;clear hs1 hm1)
   obtain⟨W2,hW2⟩:∃W2,w1.alloc (.cells #[.int .i64 (i:Int),.int .i64 now] 75)=W2:=⟨_,rfl⟩
   have ho12:Only [] w1 W2:=by rw[←hW2];exact (Only.refl _ _).alloc _
   have hb7:Blk W2 w1.heap.size [.int .i64 (i:Int),.int .i64 now] 75:=by rw[←hW2];exact Blk.new w1 _ 75
   have hs2:=HS1.out.new ho12
   have hm2:=(HM.out.moves HM1.out).new ho12
   have hk2:KeepB Y w W2:=(KeepB.moves HM1.out (fun k hk=>(HS.out.dyn_lt hk).1)).trans (KeepB.only ho12 (by simp))
   rw[hW2]
   have x0:=hb7.cell (i:=0) rfl
   have x1:=hb7.cell (i:=1) rfl
   replace m2:=hm2.m.cell (i:=2) rfl
   have m1:=hm2.m.cell (i:=1) rfl
   have HSN2:=hid (fun j s (hj:sns[j]?=some s)=>hm2.sn hj)
   have HS2:=hid hs2
   have HM2:=hid hm2
   have HK2:=hid hk2
   have HB7:=hid hb7
   clear hW2 ho12 hb7 hs2 hm2 hk2 hcne hcb m0 hlt
   go_loopg [9] sns.length (fun k s9 wr=>SeenRel sns.length W2 k s9 wr)
   case atStart=>exact⟨0,Nat.zero_le _,rfl,rfl,Only.refl _ _⟩
   case round=>
    obtain⟨j,hj,rfl,rfl,ho⟩:=hrel
    have HO:=hid ho
    replace x0:=Qa ho x0 (by simp)
    replace x1:=Qa ho x1 (by simp)
    replace m1:=Qa ho m1 (by simp)
    replace m2:=Qa ho m2 (by simp)
    by_cases hlt:j<sns.length
    ·have hlt':(j:Int)<sns.length:=by omega
     have hj0:(0:Int)≤(j:Int):=by omega
     obtain⟨s,hx⟩:∃x,sns[j]?=some x:=⟨_,List.getElem?_eq_getElem hlt⟩
     obtain⟨g,rfl,c0,c1,_,c3⟩:=HSN2.out j s hx
     replace c0:=Qa ho c0 (by simp)
     replace c1:=Qa ho c1 (by simp)
     replace c3:=Qa ho c3 (by simp)
     obtain⟨hst,hls⟩:=HLOW.out s (List.mem_of_getElem? hx)
     have hge:¬(now≤s.1.stamp):=by omega
     have h1:wrap64 ((j:Int)+1)=(j:Int)+1:=IntWalk.wrap64_in _ (by have:=HFEW.out;omega)
     have H1:=hid h1
     have hgd:decide (now≤s.1.stamp)=false:=by simpa using hge
     clear hx h1 hst ho
     cases his:s.1.is with
     |false=>
      rw[his] at c3
      go_wp2_with fail
      go_quiet (fail)
      go_wp2_with fail
      go_roundg (sns.length-(j+1))
      case measure=>omega
      case rel=>exact⟨j+1,by omega,(by first|(rw[H1.out];rfl)|(show _=_;rw[H1.out];rfl)),rfl,HO.out.drewN _⟩
     |true=>
      rw[his] at c3
      have hle2:((s.1.lease:Int) == (i:Int))=false:=by have:=hls his;simp;omega
      go_wp2_with fail
      go_quiet (fail)
      go_wp2_with fail
      go_roundg (sns.length-(j+1))
      case measure=>omega
      case rel=>exact⟨j+1,by omega,(by first|(rw[H1.out];rfl)|(show _=_;rw[H1.out];rfl)),rfl,HO.out.drewN _⟩
    ·have hjl:j=sns.length:=by omega
     subst hjl
     have hs3:=HS2.out.new ho
     have hm3:=HM2.out.new ho
     have hlk:=fun W (ho':Only [] wr W)=>lawLook_any W _ lb 0 els.length (els.map (·.2)) (by rw[List.length_map];exact HNP.out.2) (fun p hp=>by
      obtain⟨e,he,rfl⟩:=List.mem_map.1 hp
      exact HSZ.out e he) (hm3.new ho').plAt
     have hla:=fun W v els2 (ho':Only [] wr W) (hv:PlV W wr.heap.size v els2) (hn:0<els2.length)=>look_at hs3 hm3 ho' hv hn
     rw[List.length_map] at hlk
     have HS3:=hid hs3
     have HM3:=hid hm3
     have HLK:=hid hlk
     have HLA:=hid hla
     have HFR:=hid (show ∀k,(Value.slice A sns.length c).ownBlock=some k→k≠w1.heap.size∧k≠mb∧Y.base≤k∧k<wr.heap.size from fun k hk=>⟨by have h1:=(HM.out.svs k hk).1.1;have h2:=HM1.out.size;omega,(hm3.svs k hk).2.1,(hm3.svs k hk).1.2.1,(hm3.svs k hk).1.1⟩)
     have HNB:=hid (show mb≠w1.heap.size from by have h1:=HM.out.ms.1;have h2:=HM1.out.size;omega)
     have HMX:=hid (show sns.length+1≤maxLen from by have:=HFEW.out;unfold maxLen;omega)
     have HMB:=hid (show (sns.length+1)*48≤140737488355328 from by have:=HFEW.out;omega)
     clear hj ho hs3 hm3 hlk hla hlt
     go_wp2_with fail
     refine wp_region_held_drew (S:=(fun W=>W.cell? ⟨w1.heap.size,0,none⟩=some (.int .i64 (i:Int))∧W.cell? ⟨w1.heap.size,1,none⟩=some (.int .i64 now)∧W.cell? ⟨mb,1,none⟩=some (.slice (some ⟨lb,0,none⟩) els.length els.length))) (by kernel_rfl) ?_ (fun hHeld=>?_)
     ·exact⟨x0,x1,m1⟩
     refine tk 0 ?_
     refine tk 1 ?_
     refine tk 2 ?_
     refine tk 3 ?_
     refine tk 5 ?_
     refine tk 6 ?_
     refine tk 7 ?_
     refine tk 8 ?_
     refine tk 9 ?_
     refine on2 4 10 (fun K hK=>?_) (fun K hK=>?_)
     ·go_simp
      refine hK.out _ _ (⟨x0,x1,m1⟩) (fun hHeld=>?_)
      clear hK K
      try simp only[sp]
      refine on1 10 (fun K hK=>?_)
      go_simp
      go_at_call 112
      refine (HLK.out _ (Only.refl [] wr).drew').mono ?_
      rintro en w3 ⟨v,els2,rfl,hmap,hpl,ho3'⟩
      have ho3:Only [] wr w3:=⟨ho3'.os,ho3'.tape,ho3'.output,ho3'.size,ho3'.block⟩
      have hel:els2.length=els.length:=(by have:=congrArg List.length hmap;simpa using this)
      obtain⟨pb,pc,rfl,hro,hpa⟩:=HLA.out w3 v els2 ho3 hpl (by have:=HNP.out.1;omega)
      have y0:=Qa ho3 x0 (by simp)
      have y1:=Qa ho3 x1 (by simp)
      have n1:=Qa ho3 m1 (by simp)
      have n2:=Qa ho3 m2 (by simp)
      have HO3:=hid ho3
      have HMAP:=hid hmap
      have HEL:=hid hel
      have HRO:=hid hro
      have HPA:=hid hpa
      clear ho3 ho3' hmap hel hro hpa hpl
      refine hK.out _ _ (⟨y0,y1,n1⟩) (fun hHeld=>?_)
      clear hK K
      try simp only[sp]
      refine tk 11 ?_
      refine on1 12 (fun K hK=>?_)
      go_simp
      refine hK.out _ _ (⟨Qb y0 _,Qb y1 _,Qb n1 _⟩) (fun hHeld=>?_)
      clear hK K
      try simp only[sp]
      refine on1 13 (fun K hK=>?_)
      refine Zb rfl (.tmp 98) (.tmp 106) rfl elemSn rfl ((HM3.out.new (HO3.out.alloc (.cells #[.int .i64 (i:Int),.int .i64 now,.slice (some ⟨pb,0,none⟩) els2.length pc,.bool true] 115))).snaps) _ 1 1 [.int .i64 (i:Int),.int .i64 now,.slice (some ⟨pb,0,none⟩) els2.length pc,.bool true] rfl (Zg w3 [.int .i64 (i:Int),.int .i64 now,.slice (some ⟨pb,0,none⟩) els2.length pc,.bool true] 115) rfl (by simp[Value.oneCell']) HMX.out HMB.out (Nat.le_trans (Nat.le_trans (Nat.le_trans HS3.out.room HO3.out.size) (Qg w3 (.cells #[.int .i64 (i:Int),.int .i64 now,.slice (some ⟨pb,0,none⟩) els2.length pc,.bool true] 115))) (Nat.le_refl _)) (fun e=>by cases e) ?_
      intro v6 w6 hown6 hg6'' hat6''
      have hg6:(w3.alloc (.cells #[.int .i64 (i:Int),.int .i64 now,.slice (some ⟨pb,0,none⟩) els2.length pc,.bool true] 115)).grownBy w6 (Value.slice A sns.length c).ownBlock:=hg6''
      have hat6:v6.ownBlock=(Value.slice A sns.length c).ownBlock∨v6.ownBlock=some (w3.alloc (.cells #[.int .i64 (i:Int),.int .i64 now,.slice (some ⟨pb,0,none⟩) els2.length pc,.bool true] 115)).heap.size:=hat6''
      have hoc:Only (Value.slice A sns.length c).ownBlock.toList w3 w6:=(((Only.refl [] w3).alloc (.cells #[.int .i64 (i:Int),.int .i64 now,.slice (some ⟨pb,0,none⟩) els2.length pc,.bool true] 115)).mono (by simp)).grown hg6 (fun k hk=>.inr (by rw[hk];simp))
      have hin:∀k,k∈(Value.slice A sns.length c).ownBlock.toList→(Value.slice A sns.length c).ownBlock=some k:=(fun k hk=>by simpa using hk)
      have z0:=Qa hoc y0 (fun e=>(HFR.out _ (hin _ e)).1 rfl)
      have z1:=Qa hoc y1 (fun e=>(HFR.out _ (hin _ e)).1 rfl)
      have l1:=Qa hoc n1 (fun e=>(HFR.out _ (hin _ e)).2.1 rfl)
      have l2:=Qa hoc n2 (fun e=>(HFR.out _ (hin _ e)).2.1 rfl)
      have mf:=((HM3.out.new HO3.out).m.only hoc (fun e=>(HFR.out _ (hin _ e)).2.1 rfl)).frozen
      have HOC:=hid hoc
      have HIN:=hid hin
      have HG6:=hid hg6
      have HAT6:=hid hat6
      have HOWN6:=hid hown6
      obtain⟨A6,c6,rfl,_,_⟩:=Qc hown6
      clear hoc hin hg6 hat6 hown6 hg6'' hat6''
      refine hK.out _ _ (⟨z0,z1,l1⟩) (fun hHeld=>?_)
      clear hK K
      try simp only[sp]
      refine tk 14 ?_
      refine tk 15 ?_
      refine on1 16 (fun K hK=>?_)
      go_simp
      refine hK.out _ _ (⟨cell_set_far z0 (by simpa using HNB.out),cell_set_far z1 (by simpa using HNB.out),cell_set_off (j:=2) l1 (by decide)⟩) (fun hHeld=>?_)
      clear hK K
      try simp only[sp]
      refine wpAnyH_done (by kernel_rfl) ?_ _
      go_wp2_with fail
      go_ret
      have hs6:=(HS3.out.new HO3.out).only HOC.out (fun k hk=>((HM3.out.new HO3.out).svs k (HIN.out k hk)).1.2)
      have hm6:=(HM3.out.new HO3.out).push (s:=(⟨i,now,els.map (·.2),true⟩,.slice (some ⟨pb,0,none⟩) els2.length pc)) HG6.out HAT6.out (fun k hk e=>by have:=((HS3.out.new HO3.out).dyn_lt e).2;omega) (HS3.out.new HO3.out).room HOWN6.out ⟨pb,pc,by rw[HEL.out,List.length_map],HRO.out,by rw[←HMAP.out];exact HPA.out⟩
      have hom:Only [mb] w6 (w6.setCell ⟨mb,2,none⟩ (.slice A6 (sns.length+1) c6)):=(Only.refl _ _).setCell (.inl (by simp)) _
      have hmb:=(HM3.out.new HO3.out).ms
      exact⟨rfl,ed,D,els,_,_,hs6.only hom (fun k hk=>by obtain rfl:=List.mem_singleton.1 hk;exact hmb.2),hm6,rfl,by simp,((HK2.out.trans (KeepB.only HO.out (by simp))).trans (KeepB.only HO3.out (by simp))).trans ((KeepB.only HOC.out (fun k hk=>(HFR.out k (HIN.out k hk)).2.2.1)).trans (KeepB.only hom (fun k hk=>by obtain rfl:=List.mem_singleton.1 hk;exact hmb.2.1)))⟩
     ·go_simp
      go_at_call 112
      refine (HLK.out _ (Only.refl [] wr).drew').mono ?_
      rintro en w3 ⟨v,els2,rfl,hmap,hpl,ho3'⟩
      have ho3:Only [] wr w3:=⟨ho3'.os,ho3'.tape,ho3'.output,ho3'.size,ho3'.block⟩
      have hel:els2.length=els.length:=(by have:=congrArg List.length hmap;simpa using this)
      obtain⟨pb,pc,rfl,hro,hpa⟩:=HLA.out w3 v els2 ho3 hpl (by have:=HNP.out.1;omega)
      have y0:=Qa ho3 x0 (by simp)
      have y1:=Qa ho3 x1 (by simp)
      have n1:=Qa ho3 m1 (by simp)
      have n2:=Qa ho3 m2 (by simp)
      have HO3:=hid ho3
      have HMAP:=hid hmap
      have HEL:=hid hel
      have HRO:=hid hro
      have HPA:=hid hpa
      clear ho3 ho3' hmap hel hro hpa hpl
      refine hK.out _ _ (⟨y0,y1,n1⟩) (fun hHeld=>?_)
      clear hK K
      try simp only[sp]
      refine tk 11 ?_
      refine on2 4 12 (fun K hK=>?_) (fun K hK=>?_)
      have ar2_1:=0;rotate_left
      rotate_left
      all_goals
       go_simp
       first|(have _:=ar2_1;refine hK.out _ _ (⟨y0,y1,n1⟩) (fun hHeld=>?_))|(refine hK.out _ _ (⟨Qb y0 _,Qb y1 _,Qb n1 _⟩) (fun hHeld=>?_))
       clear hK K
       try simp only[sp]
       first|(have _:=ar2_1;refine on1 12 (fun K hK=>?_))|(have o2:=Qb n2 (.cells #[.int .i64 (i:Int),.int .i64 now,.slice (some ⟨pb,0,none⟩) els2.length pc,.bool true] 115);refine on1 4 (fun K hK=>?_))
       go_simp
       refine hK.out _ _ (⟨Qb y0 _,Qb y1 _,Qb n1 _⟩) (fun hHeld=>?_)
       clear hK K
       try simp only[sp]
       refine on1 13 (fun K hK=>?_)
       refine Zb rfl (.tmp 98) (.tmp 106) rfl elemSn rfl ((HM3.out.new (HO3.out.alloc (.cells #[.int .i64 (i:Int),.int .i64 now,.slice (some ⟨pb,0,none⟩) els2.length pc,.bool true] 115))).snaps) _ 1 1 [.int .i64 (i:Int),.int .i64 now,.slice (some ⟨pb,0,none⟩) els2.length pc,.bool true] rfl (Zg w3 [.int .i64 (i:Int),.int .i64 now,.slice (some ⟨pb,0,none⟩) els2.length pc,.bool true] 115) rfl (by simp[Value.oneCell']) HMX.out HMB.out (Nat.le_trans (Nat.le_trans (Nat.le_trans HS3.out.room HO3.out.size) (Qg w3 (.cells #[.int .i64 (i:Int),.int .i64 now,.slice (some ⟨pb,0,none⟩) els2.length pc,.bool true] 115))) (Nat.le_refl _)) (fun e=>by cases e) ?_
       intro v6 w6 hown6 hg6'' hat6''
       have hg6:(w3.alloc (.cells #[.int .i64 (i:Int),.int .i64 now,.slice (some ⟨pb,0,none⟩) els2.length pc,.bool true] 115)).grownBy w6 (Value.slice A sns.length c).ownBlock:=hg6''
       have hat6:v6.ownBlock=(Value.slice A sns.length c).ownBlock∨v6.ownBlock=some (w3.alloc (.cells #[.int .i64 (i:Int),.int .i64 now,.slice (some ⟨pb,0,none⟩) els2.length pc,.bool true] 115)).heap.size:=hat6''
       have hoc:Only (Value.slice A sns.length c).ownBlock.toList w3 w6:=(((Only.refl [] w3).alloc (.cells #[.int .i64 (i:Int),.int .i64 now,.slice (some ⟨pb,0,none⟩) els2.length pc,.bool true] 115)).mono (by simp)).grown hg6 (fun k hk=>.inr (by rw[hk];simp))
       have hin:∀k,k∈(Value.slice A sns.length c).ownBlock.toList→(Value.slice A sns.length c).ownBlock=some k:=(fun k hk=>by simpa using hk)
       have z0:=Qa hoc y0 (fun e=>(HFR.out _ (hin _ e)).1 rfl)
       have z1:=Qa hoc y1 (fun e=>(HFR.out _ (hin _ e)).1 rfl)
       have l1:=Qa hoc n1 (fun e=>(HFR.out _ (hin _ e)).2.1 rfl)
       have l2:=Qa hoc n2 (fun e=>(HFR.out _ (hin _ e)).2.1 rfl)
       have mf:=((HM3.out.new HO3.out).m.only hoc (fun e=>(HFR.out _ (hin _ e)).2.1 rfl)).frozen
       have HOC:=hid hoc
       have HIN:=hid hin
       have HG6:=hid hg6
       have HAT6:=hid hat6
       have HOWN6:=hid hown6
       obtain⟨A6,c6,rfl,_,_⟩:=Qc hown6
       clear hoc hin hg6 hat6 hown6 hg6'' hat6''
       refine hK.out _ _ (⟨z0,z1,l1⟩) (fun hHeld=>?_)
       clear hK K
       try simp only[sp]
       refine tk 14 ?_
       refine tk 15 ?_
       refine on1 16 (fun K hK=>?_)
       go_simp
       refine hK.out _ _ (⟨cell_set_far z0 (by simpa using HNB.out),cell_set_far z1 (by simpa using HNB.out),cell_set_off (j:=2) l1 (by decide)⟩) (fun hHeld=>?_)
       clear hK K
       try simp only[sp]
       refine wpAnyH_done (by kernel_rfl) ?_ _
       go_wp2_with fail
       go_ret
       have hs6:=(HS3.out.new HO3.out).only HOC.out (fun k hk=>((HM3.out.new HO3.out).svs k (HIN.out k hk)).1.2)
       have hm6:=(HM3.out.new HO3.out).push (s:=(⟨i,now,els.map (·.2),true⟩,.slice (some ⟨pb,0,none⟩) els2.length pc)) HG6.out HAT6.out (fun k hk e=>by have:=((HS3.out.new HO3.out).dyn_lt e).2;omega) (HS3.out.new HO3.out).room HOWN6.out ⟨pb,pc,by rw[HEL.out,List.length_map],HRO.out,by rw[←HMAP.out];exact HPA.out⟩
       have hom:Only [mb] w6 (w6.setCell ⟨mb,2,none⟩ (.slice A6 (sns.length+1) c6)):=(Only.refl _ _).setCell (.inl (by simp)) _
       have hmb:=(HM3.out.new HO3.out).ms
       exact⟨rfl,ed,D,els,_,_,hs6.only hom (fun k hk=>by obtain rfl:=List.mem_singleton.1 hk;exact hmb.2),hm6,rfl,by simp,((HK2.out.trans (KeepB.only HO.out (by simp))).trans (KeepB.only HO3.out (by simp))).trans ((KeepB.only HOC.out (fun k hk=>(HFR.out k (HIN.out k hk)).2.2.1)).trans (KeepB.only hom (fun k hk=>by obtain rfl:=List.mem_singleton.1 hk;exact hmb.2.1)))⟩
end Go.Proofs.YteeefedoffplmaaGreat
