/- StoreAlone, part Pbc: Board2, Board3, StoreB, StoreN. -/
import Derived.Test.YteeefedoffplmaaGreatPbb
import Derived.Test.YteeefedoffplmaaGreatPaq
import Derived.Test.YteeefedoffplmaaGreatPac
import Derived.Test.YteeefedoffplmaaGreatPao
import Derived.Test.YteeefedoffplmaaGreatPaa
import Derived.Test.YteeefedoffplmaaGreatPaw
import Derived.Defers
import Derived.Test.YteeefedoffplmaaGreatPax
set_option linter.unusedSimpArgs false
set_option linter.unusedVariables false
set_option maxRecDepth 100000
set_option maxHeartbeats 51200000
namespace Go.Proofs.YteeefedoffplmaaGreat
open Go.RowKit Lib Go.Proofs.Tryz
theorem search0 (x:Int)(w:World):Calls prog 198 #[.slice none 0 0,.int .i64 x,.func (.func 199) #[] #[]] w fun e w'=>e=.returned (.tuple #[.int .i64 0,.bool false])∧Only [] w w':=by
 go_enter func198,ntmps198
 go_wp2_with fail
 refine wp_loop_rounds 1 ?_
 rw[rounds_succ]
 go_wp2_with fail
 go_ret2
 exact⟨rfl,Only.refl _ _⟩
theorem search1 (x v:Int)(r c:Nat)(w:World)(h0:w.cell? ⟨r,0,none⟩=some (.int .i64 x))(h1:w.cell? ⟨r,1,none⟩=some (.int .i64 v)):Calls prog 198 #[.slice (some ⟨r,0,none⟩) 1 c,.int .i64 x,.func (.func 199) #[] #[]] w fun e w'=>e=.returned (.tuple #[.int .i64 0,.bool true])∧Only [] w w':=by
 have HP:=hid (fun W=>place1_same x v W)
 go_enter func198,ntmps198
 go_wp2_with fail
 refine wp_loop_rounds 2 ?_
 rw[rounds_succ]
 go_wp2_with (go_at_call 199;refine (HP.out _).mono ?_;rintro e w1 ⟨rfl,ho1⟩;have h01:=Qa ho1 h0 (by simp);have h11:=Qa ho1 h1 (by simp);have HO1:=hid ho1;clear ho1)
 rw[rounds_succ]
 go_wp2_with (go_at_call 199;refine (HP.out _).mono ?_;rintro e w2 ⟨rfl,ho2⟩;have HO2:=hid (HO1.out.trans ho2);clear ho2)
 go_ret2
 exact⟨rfl,HO2.out⟩
def Tab (w:World)(t:Nat):Option (Int × Int)→Prop
 |none=>Blk w t [.slice none 0 0] 170
 |some (x,v)=>∃r c,Blk w t [.slice (some ⟨r,0,none⟩) 1 c] 170∧w.cell? ⟨r,0,none⟩=some (.int .i64 x)∧w.cell? ⟨r,1,none⟩=some (.int .i64 v)
theorem Tab.keep {w w':World}{t:Nat}{o:Option (Int × Int)}{X:List Nat}(h:Tab w t o)(ho:Only [] w w'):Tab w' t o:=by
 cases o with
 |none=>exact Blk.only h ho (by simp)
 |some p=>
  obtain⟨r,c,h1,h2,h3⟩:=h
  exact⟨r,c,h1.only ho (by simp),Qa ho h2 (by simp),Qa ho h3 (by simp)⟩
theorem place0_any (x:Int)(t:Nat)(w:World)(ht:Tab w t none):Calls prog 152 #[ptr t,.int .i64 x] w fun e w'=>e=.returned (.tuple #[.int .i64 0,.bool false])∧Only [] w w':=by
 have ht:Blk w t [.slice none 0 0] 170:=ht
 have c0:=ht.cell (i:=0) rfl
 have hs:=search0 x w
 unfold ptr
 clear ht
 go_enter func152,ntmps152
 go_wp2_with (go_at_call 198;refine hs.mono ?_;rintro e w1 ⟨rfl,ho1⟩;have HO1:=hid ho1;clear ho1)
 go_ret2
 exact⟨rfl,HO1.out⟩
theorem place1_any (x v:Int)(t:Nat)(w:World)(ht:Tab w t (some (x,v))):Calls prog 152 #[ptr t,.int .i64 x] w fun e w'=>e=.returned (.tuple #[.int .i64 0,.bool true])∧Only [] w w':=by
 obtain⟨r,c,ht,h0,h1⟩:=ht
 have c0:=ht.cell (i:=0) rfl
 have hs:=search1 x v r c w h0 h1
 unfold ptr
 clear ht
 go_enter func152,ntmps152
 go_wp2_with (go_at_call 198;refine hs.mono ?_;rintro e w1 ⟨rfl,ho1⟩;have HO1:=hid ho1;clear ho1)
 go_ret2
 exact⟨rfl,HO1.out⟩
theorem full0_any (t:Nat)(w:World)(ht:Tab w t none):Calls prog 153 #[ptr t,.bool false] w fun e w'=>e=.returned (.int .i64 0)∧w=w':=by
 have ht:Blk w t [.slice none 0 0] 170:=ht
 have c0:=ht.cell (i:=0) rfl
 unfold ptr
 clear ht
 go_enter func153,ntmps153
 go_wp2_with fail
 go_ret
 exact⟨rfl,rfl⟩
theorem full1_any (t:Nat)(w:World):Calls prog 153 #[ptr t,.bool true] w fun e w'=>e=.returned (.int .i64 0)∧w=w':=by
 unfold ptr
 go_enter func153,ntmps153
 go_wp2_with fail
 go_ret
 exact⟨rfl,rfl⟩
theorem add1_no (x:Int)(t b:Nat)(w:World)(ht:Tab w t none)(hb:w.cell? ⟨b,0,none⟩=some (.int .i64 x)):Calls prog 151 #[ptr t,ptr b] w fun e w'=>e=.returned (.tuple #[.bool false,.bool false,.int .i64 0])∧Only [] w w':=by
 have hp:=place0_any x t w ht
 have HF:=hid (fun W (ho:Only [] w W)=>full0_any t W (ht.keep (X:=[]) ho))
 unfold ptr at *
 clear ht
 go_enter func151,ntmps151
 go_wp2_with (first|(go_at_call 152;refine hp.mono ?_;rintro e w1 ⟨rfl,ho1⟩;have HO1:=hid ho1;clear ho1)|(go_at_call 153;refine (HF.out _ HO1.out).mono ?_;rintro e w2 ⟨rfl,rfl⟩))
 exact bodyPost_ret (v:=.tuple #[.bool false,.bool false,.int .i64 0]) (by simp[results,Tryz.results151,go_sem]) rfl ⟨rfl,HO1.out⟩
theorem add1_yes (x v:Int)(t b:Nat)(w:World)(ht:Tab w t (some (x,v)))(hb:w.cell? ⟨b,0,none⟩=some (.int .i64 x)):Calls prog 151 #[ptr t,ptr b] w fun e w'=>e=.returned (.tuple #[.bool true,.bool false,.int .i64 0])∧Only [] w w':=by
 have hp:=place1_any x v t w ht
 have HF:=hid (fun W=>full1_any t W)
 unfold ptr at *
 clear ht
 go_enter func151,ntmps151
 go_wp2_with (first|(go_at_call 152;refine hp.mono ?_;rintro e w1 ⟨rfl,ho1⟩;have HO1:=hid ho1;clear ho1)|(go_at_call 153;refine (HF.out _).mono ?_;rintro e w2 ⟨rfl,rfl⟩))
 exact bodyPost_ret (v:=.tuple #[.bool true,.bool false,.int .i64 0]) (by simp[results,Tryz.results151,go_sem]) rfl ⟨rfl,HO1.out⟩
theorem insert0_any (x v:Int)(r:Nat)(w:World)(h0:w.cell? ⟨r,0,none⟩=some (.int .i64 x))(h1:w.cell? ⟨r,1,none⟩=some (.int .i64 v)):
  Calls prog 170 #[.slice none 0 0,.int .i64 0,.slice (some ⟨r,0,none⟩) 1 1] w fun e w'=>∃u,e=.returned u∧w'.ownsRow w.heap.size 36 2 u 1 [.int .i64 x,.int .i64 v]∧Only [] w w':=by
 have HR:=hid (show Row w (some ⟨r,0,none⟩) [.int .i64 x,.int .i64 v] from fun j u hu=>by
  match j,hu with
  |0,hu=>injection hu with hu;subst hu;exact⟨r,0,rfl,h0⟩
  |1,hu=>injection hu with hu;subst hu;exact⟨r,0,rfl,h1⟩
  |j+2,hu=>simp at hu)
 clear h0 h1
 go_enter func170,ntmps170
 go_wp2_with (at_builtin;refine Qj rfl (.tmp 23) (.tmp 24) rfl elemPair rfl (World.ownsRow_nil _ w.heap.size 36 2) _ 1 1 [.int .i64 x,.int .i64 v] rfl HR.out rfl (by simp[Value.oneCell']) (by unfold maxLen;omega) (by omega) (Nat.le_refl _) (fun e=>by cases e) ?_;intro v5 w5 hown5 hg5 hat5;rw[Nat.zero_add,List.nil_append] at hown5;have ho5:Only [] w w5:=(Only.refl [] w).grown hg5 (fun k hk=>by cases hk);have HO5:=hid ho5;have HOWN:=hid hown5;clear hown5 hg5 hat5 ho5)
 go_ret
 exact⟨_,rfl,HOWN.out,HO5.out⟩
def TabF (w:World)(lo t:Nat)(x v:Int):Prop:=∃r c,lo≤r∧lo≤t∧r<w.heap.size∧Blk w t [.slice (some ⟨r,0,none⟩) 1 c] 170∧w.cell? ⟨r,0,none⟩=some (.int .i64 x)∧w.cell? ⟨r,1,none⟩=some (.int .i64 v)
theorem with0_any (x v:Int)(t:Nat)(w:World)(ht:Tab w t none):
  Calls prog 102 #[ptr t,.int .i64 x,.int .i64 v] w fun e w'=>∃t2,e=.returned (ptr t2)∧TabF w' w.heap.size t2 x v∧Only [] w w':=by
 have hp:=place0_any x t w ht
 have HC:=hid (fun W=>clonePairs_nil W)
 have HT:=hid (fun W (ho:Only [] w W)=>(show Blk W t [.slice none 0 0] 170 from ht.keep (X:=[]) ho).cell (i:=0) rfl)
 have HI:=hid (fun W r h0 h1=>insert0_any x v r W h0 h1)
 unfold ptr at *
 clear ht
 go_enter func102,ntmps102
 go_wp2_with (first|(go_at_call 152;refine hp.mono ?_;rintro e w1 ⟨rfl,ho1⟩;have c0:=HT.out _ ho1;have HO1:=hid ho1;have HI2:=hid (HI.out (w1.alloc (.cells #[.int .i64 x,.int .i64 v] 36)) w1.heap.size ((Blk.new w1 [.int .i64 x,.int .i64 v] 36).cell rfl) ((Blk.new w1 [.int .i64 x,.int .i64 v] 36).cell rfl));clear ho1)|(go_at_call 154;refine (HC.out _).mono ?_;rintro e w2 ⟨rfl,hw2⟩;obtain rfl:w1=w2:=hw2.symm)|(go_at_call 170;refine HI2.out.mono ?_;rintro e w3 ⟨u,rfl,hown3,ho3⟩;obtain⟨g,c,rfl⟩:=own_some hown3 (by decide);have HOWN:=hid hown3;have HO3:=hid ho3;clear hown3 ho3))
 go_ret
 have ho:=(HO1.out.alloc (.cells #[.int .i64 x,.int .i64 v] 36)).trans HO3.out
 have hg:=HOWN.out.lt g rfl
 have h1:=HO1.out.size
 have h2:=Qg w1 (.cells #[.int .i64 x,.int .i64 v] 36)
 have h3:=Qg w3 (.cells #[.slice (some ⟨g,0,none⟩) 1 c] 170)
 exact⟨_,rfl,⟨g,c,by omega,ho.size,by omega,Blk.new _ _ 170,Qb (own_cell HOWN.out rfl) _,Qb (own_cell HOWN.out rfl) _⟩,ho.alloc _⟩
theorem name_yes (x:Int)(w:World)(hx:0≤x∧x≤4294967295):Calls prog 101 #[.int .i64 x] w fun e w'=>e=.returned (.bool true)∧w=w':=by
 have h1:=hx.1
 have h2:=hx.2
 go_enter func101,ntmps101
 go_wp2_with fail
 go_ret
 exact⟨rfl,rfl⟩
def BoardAt (w:World)(b t:Nat)(o:Option (Int × Int)):Prop:=Blk w b [ptr t] 177∧Tab w t o
theorem BoardAt.keep {w w':World}{b t:Nat}{o:Option (Int × Int)}(h:BoardAt w b t o)(ho:Only [] w w'):BoardAt w' b t o:=⟨h.1.only ho (by simp),h.2.keep (X:=[]) ho⟩
theorem Tab.some {w:World}{t:Nat}{o:Option (Int × Int)}(h:Tab w t o):∃v,Blk w t [v] 170:=by
 cases o with
 |none=>exact⟨_,h⟩
 |some p=>obtain⟨r,c,h1,_⟩:=h;exact⟨_,h1⟩
theorem ne_one {w:World}{b r:Nat}{x v:Value}{ty:TypeId}(h:Blk w b [x] ty)(hr:w.cell? ⟨r,1,none⟩=some v):r≠b:=by
 rintro rfl
 have h:w.heap[r]?=some (.cells #[x] ty):=h
 simp[World.cell?,h] at hr
theorem lays_no (x v:Int)(hx:0≤x∧x≤4294967295)(b t b6:Nat)(w:World)(h:BoardAt w b t none)(hb6:w.cell? ⟨b6,0,none⟩=some (.int .i64 x)):
  Calls prog 150 #[ptr b,.pointer none,.int .i64 x,.int .i64 v,.func (.func 151) #[] #[ptr b6]] w fun e w'=>∃t2,e=.returned (.tuple #[.bool true,.int .i64 0])∧Blk w' b [ptr t2] 177∧TabF w' w.heap.size t2 x v∧Only [b] w w':=by
 have hn:=name_yes x w hx
 have ht:Blk w t [.slice none 0 0] 170:=h.2
 have hl:=boardLoad_any b t _ w h.1 ht
 have ha:=add1_no x t b6 w h.2 hb6
 have HW:=hid (fun W (ho:Only [] w W)=>with0_any x v t W (h.2.keep (X:=[]) ho))
 have HB:=hid (fun W (ho:Only [] w W) t2 v2 (h2:Blk W t2 [v2] 170)=>boardSwap_any b t t2 _ v2 W (h.1.only ho (by simp)) (ht.only ho (by simp)) h2)
 have H:=hid h
 unfold ptr at *
 clear h ht
 go_enter func150,ntmps150
 go_wp2_with (go_at_call 101;refine hn.mono ?_;rintro e w1 ⟨rfl,rfl⟩)
 refine wp_loop_rounds 1 ?_
 rw[rounds_succ]
 go_wp2_with (first|(go_at_call 155;refine hl.mono ?_;rintro e w1 ⟨rfl,rfl⟩)|(go_at_call 151;refine ha.mono ?_;rintro e w2 ⟨rfl,ho2⟩;have HO2:=hid ho2;clear ho2)|(go_at_call 102;refine (HW.out _ HO2.out).mono ?_;rintro e w3 ⟨t2,rfl,htab,ho3⟩;have HO3:=hid (HO2.out.trans ho3);have HTAB:=hid htab;obtain⟨r2,c2,_,_,_,hv2,_,_⟩:=htab;have HSW:=hid (HB.out _ HO3.out t2 _ hv2);clear ho3 hv2)|(go_at_call 160;refine HSW.out.mono ?_;rintro e w4 ⟨rfl,rfl⟩))
 go_ret2
 have hb3:=H.out.1.only HO3.out (by simp)
 have hob:Only [b] w3 (w3.setCell ⟨b,0,none⟩ (ptr t2)):=(Only.refl _ _).setCell (.inl (by simp)) _
 have hlt:=H.out.1.lt
 have hs:=HO2.out.size
 obtain⟨r,c,p1,p2,p3,q1,q2,q3⟩:=HTAB.out
 exact⟨t2,rfl,hb3.set 0 _,⟨r,c,by omega,by omega,Nat.lt_of_lt_of_le p3 hob.size,q1.only hob (by simp;omega),Qa hob q2 (by simpa using ne_one hb3 q3),Qa hob q3 (by simpa using ne_one hb3 q3)⟩,(HO3.out.mono (Y:=[b]) (by simp)).trans hob⟩
theorem lays_yes (x u v:Int)(hx:0≤x∧x≤4294967295)(b t b6:Nat)(w:World)(h:BoardAt w b t (some (x,u)))(hb6:w.cell? ⟨b6,0,none⟩=some (.int .i64 x)):
  Calls prog 150 #[ptr b,.pointer none,.int .i64 x,.int .i64 v,.func (.func 151) #[] #[ptr b6]] w fun e w'=>e=.returned (.tuple #[.bool false,.int .i64 0])∧Only [] w w':=by
 have hn:=name_yes x w hx
 obtain⟨v2,ht⟩:=h.2.some
 have hl:=boardLoad_any b t _ w h.1 ht
 have ha:=add1_yes x u t b6 w h.2 hb6
 unfold ptr at *
 clear h ht
 go_enter func150,ntmps150
 go_wp2_with (go_at_call 101;refine hn.mono ?_;rintro e w1 ⟨rfl,rfl⟩)
 refine wp_loop_rounds 1 ?_
 rw[rounds_succ]
 go_wp2_with (first|(go_at_call 155;refine hl.mono ?_;rintro e w1 ⟨rfl,rfl⟩)|(go_at_call 151;refine ha.mono ?_;rintro e w2 ⟨rfl,ho2⟩;have HO2:=hid ho2;clear ho2))
 go_ret2
 exact⟨rfl,HO2.out⟩
theorem boardAdd_no (x v:Int)(hx:0≤x∧x≤4294967295)(b t:Nat)(w:World)(h:BoardAt w b t none):
  Calls prog 82 #[ptr b,.pointer none,.int .i64 x,.int .i64 v] w fun e w'=>∃t2,e=.returned (.tuple #[.bool true,.int .i64 0])∧Blk w' b [ptr t2] 177∧TabF w' w.heap.size t2 x v∧Only [b] w w':=by
 have hmf:∀(fn:Fn) (first cap:Array Value) (w:World),(Instr.makeFunc fn first cap).run prog w=.ok (.func fn first cap) w:=fun _ _ _ _=>rfl
 have hb:=Blk.new w [.int .i64 x] 3
 have c0:=hb.cell (i:=0) rfl
 have hl:=lays_no x v hx b t w.heap.size _ (h.keep ((Only.refl [] w).alloc (.cells #[.int .i64 x] 3))) c0
 unfold ptr at *
 clear h hb
 go_enter func82,ntmps82
 go_wp2_with (go_at_call 150;refine hl.mono ?_;rintro e w1 ⟨t2,rfl,h1,h2,h3⟩;have H1:=hid h1;have H2:=hid h2;have H3:=hid h3;clear h1 h2 h3)
 go_ret2
 have hsa:=Qg w (.cells #[.int .i64 x] 3)
 obtain⟨r,c,p1,p2,p3⟩:=H2.out
 exact⟨t2,rfl,H1.out,⟨r,c,Nat.le_trans hsa p1,Nat.le_trans hsa p2,p3⟩,(((Only.refl [] w).alloc (.cells #[.int .i64 x] 3)).mono (Y:=[b]) (by simp)).trans H3.out⟩
theorem boardAdd_yes (x u v:Int)(hx:0≤x∧x≤4294967295)(b t:Nat)(w:World)(h:BoardAt w b t (some (x,u))):
  Calls prog 82 #[ptr b,.pointer none,.int .i64 x,.int .i64 v] w fun e w'=>e=.returned (.tuple #[.bool false,.int .i64 0])∧Only [] w w':=by
 have hmf:∀(fn:Fn) (first cap:Array Value) (w:World),(Instr.makeFunc fn first cap).run prog w=.ok (.func fn first cap) w:=fun _ _ _ _=>rfl
 have hb:=Blk.new w [.int .i64 x] 3
 have c0:=hb.cell (i:=0) rfl
 have hl:=lays_yes x u v hx b t w.heap.size _ (h.keep ((Only.refl [] w).alloc (.cells #[.int .i64 x] 3))) c0
 unfold ptr at *
 clear h hb
 go_enter func82,ntmps82
 go_wp2_with (go_at_call 150;refine hl.mono ?_;rintro e w1 ⟨rfl,h3⟩;have H3:=hid h3;clear h3)
 go_ret2
 exact⟨rfl,((Only.refl [] w).alloc (.cells #[.int .i64 x] 3)).trans H3.out⟩
theorem boardGet_any (x v:Int)(hx:0≤x∧x≤4294967295)(b t:Nat)(w:World)(h:BoardAt w b t (some (x,v))):
  Calls prog 87 #[ptr b,.pointer none,.int .i64 x] w fun e w'=>e=.returned (.tuple #[.int .i64 v,.int .i64 0])∧Only [] w w':=by
 have hn:=name_yes x w hx
 obtain⟨v2,ht⟩:=h.2.some
 have hl:=boardLoad_any b t _ w h.1 ht
 have hp:=place1_any x v t w h.2
 have HT:=hid h.2
 unfold ptr at *
 clear h ht
 go_enter func87,ntmps87
 go_wp2_with (first|(go_at_call 101;refine hn.mono ?_;rintro e w1 ⟨rfl,rfl⟩)|(go_at_call 155;refine hl.mono ?_;rintro e w1 ⟨rfl,rfl⟩)|(go_at_call 152;refine hp.mono ?_;rintro e w2 ⟨rfl,ho2⟩;have HO2:=hid ho2;obtain⟨r,c,q1,q2,q3⟩:=HT.out.keep (X:=[]) ho2;have c0:=q1.cell (i:=0) rfl;clear q1 ho2))
 go_ret2
 exact⟨rfl,HO2.out⟩
theorem boardAll_any (x v:Int)(b t:Nat)(w:World)(h:BoardAt w b t (some (x,v))):
  Calls prog 83 #[ptr b,.pointer none] w fun e w'=>∃u,e=.returned u∧w'.ownsRow w.heap.size 36 2 u 1 [.int .i64 x,.int .i64 v]∧Only [] w w':=by
 obtain⟨r,c,q1,q2,q3⟩:=h.2
 have hl:=boardLoad_any b t _ w h.1 q1
 have c0:=q1.cell (i:=0) rfl
 have hc:=clonePairs_any w r 0 c [(x,v)] (by simp) (by simp) (fun j u hu=>by
  match j,hu with
  |0,hu=>injection hu with hu;subst hu;exact⟨r,0,rfl,q2⟩
  |1,hu=>injection hu with hu;subst hu;exact⟨r,0,rfl,q3⟩
  |j+2,hu=>simp[Qd] at hu)
 unfold ptr at *
 clear h q1
 go_enter func83,ntmps83
 go_wp2_with (first|(go_at_call 155;refine hl.mono ?_;rintro e w1 ⟨rfl,rfl⟩)|(go_at_call 154;refine hc.mono ?_;rintro e w2 ⟨u,rfl,hown,ho2⟩;have HOWN:=hid hown;have HO2:=hid ho2;clear hown ho2))
 go_ret
 exact⟨u,rfl,HOWN.out,HO2.out⟩
theorem zero36 (w:World):(zeroValue 36).run prog w=.ok (.agg #[.int .i64 0,.int .i64 0]) w:=by kernel_rfl
theorem deletePair (w:World)(base:Nat)(v:Value)(n:Nat)(xs:List Value)(hown:w.ownsRow base 36 2 v n xs)(hxs:∀u∈xs,u.oneCell'=true)(i:Nat)(hi:i<n)(hn:n≤200000):
  Calls prog 161 #[v,.int .i64 (i:Int),.int .i64 ((i:Int)+1)] w (Deleted base 36 2 v n xs i w):=by
 have hnil:¬(v=.slice none 0 0∧n=0):=by intro h;omega
 obtain⟨hxl,hr|⟨g,cap,cur,rfl,hbg,hg,hnc,hcm,hcs,hcur⟩⟩:=hown
 ·exact absurd hr hnil
 have hrow:∀j,j≤n→Row w (some ⟨g,j*2,none⟩) (xs.drop (j*2)):=by
  intro j hj k u hu
  refine⟨g,j*2,rfl,?_⟩
  rw[List.getElem?_drop,←hcur,List.getElem?_take] at hu
  split at hu
  ·simp only[World.cell?,hg]
   simpa using hu
  ·cases hu
 have hdl:(xs.drop ((i+1)*2)).length=(n-(i+1))*2:=by rw[List.length_drop,hxl,Nat.sub_mul]
 have HR:=hid hrow;have HG:=hid hg;have HCS:=hid hcs;have HCUR:=hid hcur;have HXL:=hid hxl;have HXS:=hid hxs;have HBG:=hid hbg;have HDL:=hid hdl
 unfold maxLen at hcm
 clear hrow hg hcs hcur hxl hxs hbg hdl hnil
 have hi1:(i:Int)<n:=by omega
 have h01:(0:Int)≤(i:Int)+1:=by omega
 have e0:((i:Int) == (i:Int)+1)=false:=by simp;omega
 by_cases hcap:cap=i+1
 ·obtain rfl:n=i+1:=by omega
  have HCAP:=hid hcap
  subst hcap
  have hle:(i:Int)≤(i:Int)+1:=by omega
  go_enter func161,ntmps161
  go_wp2_with fail
  refine wp_region_still_tail 6 (by kernel_rfl) (by kernel_rfl) ?_
  simp only[List.take_succ_cons,List.take_zero,List.drop_succ_cons,List.drop_zero]
  change wpStill _ _ (World.drew _) (fun a'=>wpList _ _ _ _ a' (World.drew _)) _ _
  iterate 6 still_step
  refine wpStill_nil ?_
  go_wp2_with (first|(at_builtin;(refine wpList_append_room_is rfl (.tmp 22) (.tmp 25) rfl elemPair rfl HG.out _ 0 _ [] rfl (Row.nil _ _) rfl (by simp) (by omega) (by rw[HCS.out];omega) (fun e=>by first|cases e|omega) ?_);intro w1 hg1 hgr1 hsz1;have HG1:=hid hg1;have HGR1:=hid hgr1;clear hg1 hgr1 hsz1)|((refine wpList_clear_is rfl (.tmp 31) rfl elemPair (zero36 _) rfl one229 rfl HG1.out (by have:=HCS.out;simp;omega) ?_);intro w2 hg2 hgr2;have HG2:=hid hg2;have HGR2:=hid hgr2;clear hg2 hgr2))
  go_ret
  have hd0:xs.drop ((i+1)*2)=[]:=List.eq_nil_of_length_eq_zero (by rw[HDL.out];simp)
  have h2:=HG2.out
  refine⟨_,rfl,deleted_fin (n:=i+1) HBG.out (by omega) HCUR.out HCS.out HDL.out HXL.out (by omega) (by omega) (by rw[hd0];simpa using h2),rfl,grown_trans (grown_undrew HGR1.out) HGR2.out⟩
 ·have hle:(i:Int)≤cap:=by omega
  have hle2:(i:Int)+1≤cap:=by omega
  have hle3:(i:Int)+1≤n:=by omega
  have hnc':(n:Int)≤cap:=by omega
  go_enter func161,ntmps161
  go_wp2_with fail
  refine wp_region_still_tail 6 (by kernel_rfl) (by kernel_rfl) ?_
  simp only[List.take_succ_cons,List.take_zero,List.drop_succ_cons,List.drop_zero]
  change wpStill _ _ (World.drew _) (fun a'=>wpList _ _ _ _ a' (World.drew _)) _ _
  iterate 6 still_step
  refine wpStill_nil ?_
  go_wp2_with (first|(at_builtin;(refine wpList_append_room_is rfl (.tmp 22) (.tmp 25) rfl elemPair rfl HG.out _ (n-(i+1)) _ (xs.drop ((i+1)*2)) rfl (HR.out (i+1) (by omega)) HDL.out (fun u hu=>HXS.out u (List.mem_of_mem_drop hu)) (by omega) (by rw[HCS.out];omega) (fun e=>by first|cases e|omega) ?_);intro w1 hg1 hgr1 hsz1;have HG1:=hid hg1;have HGR1:=hid hgr1;clear hg1 hgr1 hsz1)|((refine wpList_clear_is rfl (.tmp 31) rfl elemPair (zero36 _) rfl one229 rfl HG1.out (by rw[row_size HCS.out HDL.out (by omega) (by omega)];omega) ?_);intro w2 hg2 hgr2;have HG2:=hid hg2;have HGR2:=hid hgr2;clear hg2 hgr2))
  go_ret
  have e:i+(n-(i+1))=n-1:=by omega
  have h2:=HG2.out
  rw[e] at h2
  refine⟨_,rfl,?_,rfl,grown_trans (grown_undrew HGR1.out) HGR2.out⟩
  rw[e]
  exact deleted_fin HBG.out (by omega) HCUR.out HCS.out HDL.out HXL.out (by omega) (by omega) h2
theorem ne_ty {w:World}{a b:Nat}{cs ds:List Value}{ty tz:TypeId}(h:Blk w a cs ty)(h2:Blk w b ds tz)(hne:ty≠tz):a≠b:=by
 rintro rfl
 have h:w.heap[a]?=some (.cells cs.toArray ty):=h
 have h2:w.heap[a]?=some (.cells ds.toArray tz):=h2
 rw[h] at h2
 injection h2 with h2
 injection h2 with _ h2
 exact hne h2
theorem boardDrop_any (x v:Int)(hx:0≤x∧x≤4294967295)(b t:Nat)(w:World)(h:BoardAt w b t (some (x,v))):
  Calls prog 93 #[ptr b,.pointer none,.int .i64 x] w fun e w'=>e=.returned (.tuple #[.int .i64 v,.int .i64 0])∧Only [b] w w':=by
 have hn:=name_yes x w hx
 obtain⟨v2,ht⟩:=h.2.some
 have hl:=boardLoad_any b t _ w h.1 ht
 have hp:=place1_any x v t w h.2
 have HC:=hid (fun W r c (h0:W.cell? ⟨r,0,none⟩=some (.int .i64 x)) (h1:W.cell? ⟨r,1,none⟩=some (.int .i64 v))=>clonePairs_any W r 0 c [(x,v)] (by simp) (by simp) (fun j u hu=>by
  match j,hu with
  |0,hu=>injection hu with hu;subst hu;exact⟨r,0,rfl,h0⟩
  |1,hu=>injection hu with hu;subst hu;exact⟨r,0,rfl,h1⟩
  |j+2,hu=>simp[Qd] at hu))
 have HD:=hid (fun W base u (hu:W.ownsRow base 36 2 u 1 [.int .i64 x,.int .i64 v])=>deletePair W base u 1 _ hu (by simp[Value.oneCell']) 0 (by omega) (by omega))
 have HT:=hid h
 have HSW:=hid (fun W (ho:Only [] w W) t2 v3 (h2:Blk W t2 [v3] 170)=>boardSwap_any b t t2 _ v3 W (h.1.only ho (by simp)) (ht.only ho (by simp)) h2)
 unfold ptr at *
 clear h ht
 go_enter func93,ntmps93
 go_wp2_with (go_at_call 101;refine hn.mono ?_;rintro e w1 ⟨rfl,rfl⟩)
 refine wp_loop_rounds 1 ?_
 rw[rounds_succ]
 go_wp2_with (first|(go_at_call 155;refine hl.mono ?_;rintro e w1 ⟨rfl,rfl⟩)|(go_at_call 152;refine hp.mono ?_;rintro e w2 ⟨rfl,ho2⟩;have HO2:=hid ho2;obtain⟨r,c,q1,q2,q3⟩:=(HT.out.keep ho2).2;have c0:=q1.cell (i:=0) rfl;have HQ:=hid (And.intro q2 q3);have HCL:=hid (HC.out w2 r c q2 q3);clear q1 ho2 q2 q3)|(go_at_call 154;refine HCL.out.mono ?_;rintro e w3 ⟨u,rfl,hown,ho3⟩;have HOWN:=hid hown;have HO3:=hid (HO2.out.trans ho3);have HB2:=hid HO2.out.size;have HDE:=hid (HD.out w3 _ u hown);clear hown ho3)|(go_at_call 161;refine HDE.out.mono ?_;rintro e w4 ⟨u4,rfl,hown4,hb4,hg4⟩;obtain⟨uA,uc,rfl,_,_⟩:=Qc hown4;simp only[Nat.sub_self] at *;have HO4:=hid ((HO3.out).grown hg4 (fun k hk=>.inl (Nat.le_trans HB2.out (HOWN.out.lt k hk).1)));clear hown4 hb4 hg4)|(go_at_call 160;refine (HSW.out _ (HO4.out.alloc _) _ _ (Blk.new w4 [.slice uA 0 uc] 170)).mono ?_;rintro e w5 ⟨rfl,hw5⟩;have ho5:Only [b] w w5:=(by rw[←hw5];exact ((HO4.out.alloc _).mono (Y:=[b]) (by simp)).setCell (.inl (by simp)) _);have HO5:=hid ho5;obtain⟨r0,c0',q1,q2,q3⟩:=HT.out.2;have d0:=Qa ho5 (q1.cell (i:=0) rfl) (by simpa using ne_ty q1 HT.out.1 (by decide));have d1:=Qa ho5 q3 (by simpa using ne_one HT.out.1 q3);clear ho5 q1 q2 q3 hw5 c0))
 go_ret2
 exact⟨rfl,HO5.out⟩
def BSafe (w:World)(Y:StoreL)(ed:Option Nat)(D:Nat→List Nat)(k:Nat):Prop:=k<w.heap.size∧¬(k<Y.base∧Y.col k≠0)∧¬Qw Y ed D k
structure BoardIn (w:World)(Y:StoreL)(ed:Option Nat)(D:Nat→List Nat)(t:Nat)(o:Option (Int × Int)):Prop where
 b:Blk w Y.nm [ptr t] 177
 sb:BSafe w Y ed D Y.nm
 low:Y.nm<Y.base∧Y.col Y.nm=0
 st:BSafe w Y ed D t
 tab:match o with
  |none=>Blk w t [.slice none 0 0] 170
  |some (x,v)=>∃r c,BSafe w Y ed D r∧Blk w t [.slice (some ⟨r,0,none⟩) 1 c] 170∧w.cell? ⟨r,0,none⟩=some (.int .i64 x)∧w.cell? ⟨r,1,none⟩=some (.int .i64 v)
section
variable {w w':World}{Y:StoreL}{ed ed':Option Nat}{D D':Nat→List Nat}{X:StoreS}{t:Nat}{o:Option (Int × Int)}
theorem BSafe.moves (hm:Moves Y (Qw Y ed D) (Qw Y ed' D') w w'){k:Nat}(h:BSafe w Y ed D k):BSafe w' Y ed' D' k∧w'.heap[k]?=w.heap[k]?:=by
 refine⟨⟨Nat.lt_of_lt_of_le h.1 hm.size,h.2.1,fun e=>?_⟩,hm.block k h.1 h.2.1 h.2.2⟩
 rcases hm.dyn k e with e|e
 ·exact h.2.2 e
 ·have:=h.1;omega
theorem BoardIn.moves (h:BoardIn w Y ed D t o)(hm:Moves Y (Qw Y ed D) (Qw Y ed' D') w w'):BoardIn w' Y ed' D' t o:=by
 refine⟨h.b.heap (BSafe.moves hm h.sb).2,(BSafe.moves hm h.sb).1,h.low,(BSafe.moves hm h.st).1,?_⟩
 have ht:=h.tab
 cases o with
 |none=>exact Blk.heap ht (BSafe.moves hm h.st).2
 |some p=>
  obtain⟨r,c,h1,h2,h3,h4⟩:=ht
  exact⟨r,c,(BSafe.moves hm h1).1,h2.heap (BSafe.moves hm h.st).2,Qp h3 (BSafe.moves hm h1).2,Qp h4 (BSafe.moves hm h1).2⟩
theorem BoardIn.new (h:BoardIn w Y ed D t o)(ho:Only [] w w'):BoardIn w' Y ed D t o:=h.moves (Moves.of_new ho)
theorem BoardIn.at (h:BoardIn w Y ed D t o):BoardAt w Y.nm t o:=by
 refine⟨h.b,?_⟩
 have ht:=h.tab
 cases o with
 |none=>exact ht
 |some p=>
  obtain⟨r,c,h1,h2,h3,h4⟩:=ht
  exact⟨r,c,h2,h3,h4⟩
theorem frow_board {A:Option Addr}{xs:List Value}(h:FRow w Y A xs){nm t:Nat}(hb:Blk w nm [ptr t] 177)(hx:∀u,xs[0]?=some u→u≠ptr t)(ho:Only [nm] w w'):FRow w' Y A xs:=fun j u hu=>by
 obtain⟨b,e,hbk,hc⟩:=h j u hu
 refine⟨b,e,hbk,Qa ho hc (fun m=>?_)⟩
 obtain rfl:=List.mem_singleton.1 m
 have hb:w.heap[b]?=some (.cells #[ptr t] 177):=hb
 have hj:=(List.getElem?_eq_some_iff.1 hu).1
 have h0:xs[0]?=some (xs[0]'(by omega)):=List.getElem?_eq_getElem _
 obtain⟨b',e',_,hc0⟩:=h 0 _ h0
 rw[e] at e'
 injection e' with e'
 injection e' with e'
 subst e'
 simp[World.cell?,hb] at hc0
 exact hx _ h0 hc0.symm
theorem StoreIn.board (h:StoreIn w Y ed D X)(hbi:BoardIn w Y ed D t o)(ho:Only [Y.nm] w w'):StoreIn w' Y ed D X:=by
 have hk:=h.ok
 have hl:=hbi.low
 obtain⟨tv,ht⟩:∃v,Blk w t [v] 170:=hbi.at.2.some
 have hb:∀k c,Y.is k c→c≠0→k∉[Y.nm]:=fun k c e hc m=>by
  obtain rfl:=List.mem_singleton.1 m
  exact hc (e.2.symm.trans hl.2)
 have hge:∀k,Y.base≤k→k∉[Y.nm]:=fun k e m=>by obtain rfl:=List.mem_singleton.1 m;omega
 have hn:∀{cs:List Value} {ty:TypeId} {k:Nat},Blk w k cs ty→ty≠177→k∉[Y.nm]:=fun hk hne m=>by
  obtain rfl:=List.mem_singleton.1 m
  exact ne_ty hk hbi.b hne rfl
 obtain⟨A,c,h1,h2⟩:=h.fixed.sb
 obtain⟨A',c',h3,h4⟩:=h.fixed.ld
 have hn1:=hk.n
 have hpt:ptr (Y.pt 0)≠ptr t:=fun e=>by
  unfold ptr at e
  injection e with e
  injection e with e
  injection e with e
  exact ne_ty (h.fixed.pt 0 (by omega)) ht (by decide) e
 have hlp:ptr (Y.lp 0)≠ptr t:=fun e=>by
  unfold ptr at e
  injection e with e
  injection e with e
  injection e with e
  obtain⟨a0,ha0⟩:∃a,X.loads[0]?=some a:=⟨_,List.getElem?_eq_getElem (by rw[h.loads];omega)⟩
  obtain⟨_,_,hb0,_⟩:=h.load 0 a0 ha0
  exact ne_ty hb0 ht (by decide) e
 refine⟨hk,⟨⟨A,c,h1.only ho (hn h1 (by decide)),frow_board h2 hbi.b (fun u hu=>?_) ho⟩,⟨A',c',h3.only ho (hn h3 (by decide)),frow_board h4 hbi.b (fun u hu=>?_) ho⟩,h.fixed.lt.only ho (hn h.fixed.lt (by decide)),h.fixed.ts.only ho (hn h.fixed.ts (by decide)),
  fun i hi=>(h.fixed.pt i hi).only ho (hn (h.fixed.pt i hi) (by decide)),fun i hi=>(h.fixed.pg i hi).only ho (hn (h.fixed.pg i hi) (by decide))⟩,
  h.pool.only ho (fun k e=>hb k 1 (hk.pool k e) (by decide)),h.clock.only ho (hb _ _ hk.cb (by decide)) (hb _ _ hk.lb (by decide)),h.epoch.only ho (hb _ _ hk.eb (by decide)) (fun k e=>hge k (ed_ge h.epoch k e)),fun i C hC=>?_,fun i a ha=>?_,h.chains,h.loads,h.sets,h.slots,h.apart,h.edD,fun k e=>Nat.lt_of_lt_of_le (h.edlt k e) ho.size,Nat.le_trans h.room ho.size⟩
 ·have:((List.range Y.n).map fun i=>ptr (Y.pt i))[0]?=some (ptr (Y.pt 0)):=by rw[List.getElem?_map,List.getElem?_range (by omega)];rfl
  rw[this] at hu
  injection hu with hu
  rw[←hu]
  exact hpt
 ·have:((List.range Y.n).map fun i=>ptr (Y.lp i))[0]?=some (ptr (Y.lp 0)):=by rw[List.getElem?_map,List.getElem?_range (by omega)];rfl
  rw[this] at hu
  injection hu with hu
  rw[←hu]
  exact hlp
 ·have hi:i<Y.n:=by rw[←h.chains];exact (List.getElem?_eq_some_iff.1 hC).1
  exact (h.chain i C hC).only ho (hb _ _ (hk.xb i hi) (by omega)) (hb _ _ (hk.sets i hi) (by omega)) (fun k e=>hge k ((h.chain i C hC).dlt k e).1)
 ·have hi:i<Y.n:=by rw[←h.loads];exact (List.getElem?_eq_some_iff.1 ha).1
  obtain⟨B,bc,q1,q2⟩:=h.load i a ha
  refine⟨B,bc,q1.only ho (hb _ _ (hk.lp i hi) (by omega)),frow_board q2 hbi.b (fun u hu=>?_) ho⟩
  cases hp:a.pairs with
  |nil=>rw[hp] at hu;cases hu
  |cons p l=>
   rw[hp] at hu
   injection hu with hu
   rw[←hu]
   intro e
   cases e
end
theorem own_frozenN {w:World}{base e s n g c:Nat}{xs:List Value}(h:w.ownsRow base e s (.slice (some ⟨g,0,none⟩) n c) n xs)(i:Nat):w.frozen? ⟨g,i,none⟩=false:=by
 rcases h.2 with ⟨h1,_⟩|⟨g',cap,cur,hv,_,hg,_⟩
 ·cases h1
 ·injection hv with h1 _ _
  injection h1 with h1
  injection h1 with h1 _
  subst h1
  simp[World.frozen?,hg]
section
variable (w:World)(Y:StoreL)(ed:Option Nat)(D:Nat→List Nat)(X:StoreS)(h:StoreIn w Y ed D X)(t:Nat)
include h
theorem name_new (hb:BoardIn w Y ed D t none)(x:Int)(hx:0≤x∧x≤4294967295)(l:Nat)(hl:l≤1000)(st:Int)(hst:0≤st∧st≤1099511627775):
  Calls prog 31 #[ptr Y.sb,.pointer none,.int .i64 x,snapV l st] w fun e w'=>∃t2,e=.returned (.int .i64 0)∧StoreIn w' Y ed D X∧BoardIn w' Y ed D t2 (some (x,Za ((l:Int)+1) st))∧Only [Y.nm] w w':=by
 obtain⟨A,c,hsb,_⟩:=h.fixed.sb
 have hb7:=Blk.new w [.int .i64 (l:Int),.int .i64 st] 75
 have hoa:=(Only.refl [] w).alloc (.cells #[.int .i64 (l:Int),.int .i64 st] 75)
 have c4:=(hsb.only hoa (by simp)).cell (i:=4) rfl
 have c0:=hb7.cell (i:=0) rfl
 have c1:=hb7.cell (i:=1) rfl
 have hp:=pack_any ((l:Int)+1) st (w.alloc (.cells #[.int .i64 (l:Int),.int .i64 st] 75)) (by omega) (by omega) hst.1 hst.2
 have hba:=hb.new hoa
 have had:=boardAdd_no x (Za ((l:Int)+1) st) hx Y.nm t _ hba.at
 have h1:wrap64 ((l:Int)+1)=(l:Int)+1:=IntWalk.wrap64_in _ (by omega)
 have H:=hid h;have HB:=hid hb;have HOA:=hid hoa;have HBA:=hid hba
 unfold snapV
 unfold ptr at *
 clear h hb hsb hb7 hoa hx hst hba
 generalize Za ((l:Int)+1) st=pv at *
 go_enter func31,ntmps31
 go_wp2_with (first|(go_at_call 81;refine hp.mono ?_;rintro e w1 ⟨rfl,rfl⟩)|(go_at_call 82;refine had.mono ?_;rintro e w2 ⟨t2,rfl,q1,q2,q3⟩;have Q1:=hid q1;have Q2:=hid q2;have Q3:=hid q3;clear q1 q2 q3))
 go_ret
 have ho:Only [Y.nm] w w2:=(HOA.out.mono (Y:=[Y.nm]) (by simp)).trans Q3.out
 have hroom:=H.out.room
 have hsa:=HOA.out.size
 have hnew:∀k,(w.alloc (.cells #[.int .i64 (l:Int),.int .i64 st] 75)).heap.size≤k→k<w2.heap.size→BSafe w2 Y ed D k:=fun k h1 h2=>⟨h2,fun e=>by have:=e.1;omega,fun e=>by have:=(H.out.dyn_lt e).2;omega⟩
 obtain⟨r,c,p1,p2,p3,p4,p5,p6⟩:=Q2.out
 exact⟨t2,rfl,H.out.board HB.out ho,⟨Q1.out,⟨Nat.lt_of_lt_of_le HB.out.sb.1 ho.size,HB.out.sb.2⟩,HB.out.low,hnew t2 p2 p4.lt,⟨r,c,hnew r p1 p3,p4,p5,p6⟩⟩,ho⟩
theorem name_old (x v:Int)(hb:BoardIn w Y ed D t (some (x,v)))(hx:0≤x∧x≤4294967295)(l:Nat)(hl:l≤1000)(st:Int)(hst:0≤st∧st≤1099511627775):
  Calls prog 31 #[ptr Y.sb,.pointer none,.int .i64 x,snapV l st] w fun e w'=>e=.returned (.int .i64 183)∧Only [] w w':=by
 obtain⟨A,c,hsb,_⟩:=h.fixed.sb
 have hb7:=Blk.new w [.int .i64 (l:Int),.int .i64 st] 75
 have hoa:=(Only.refl [] w).alloc (.cells #[.int .i64 (l:Int),.int .i64 st] 75)
 have c4:=(hsb.only hoa (by simp)).cell (i:=4) rfl
 have c0:=hb7.cell (i:=0) rfl
 have c1:=hb7.cell (i:=1) rfl
 have hp:=pack_any ((l:Int)+1) st (w.alloc (.cells #[.int .i64 (l:Int),.int .i64 st] 75)) (by omega) (by omega) hst.1 hst.2
 have had:=boardAdd_yes x v (Za ((l:Int)+1) st) hx Y.nm t _ (hb.new hoa).at
 have h1:wrap64 ((l:Int)+1)=(l:Int)+1:=IntWalk.wrap64_in _ (by omega)
 have HOA:=hid hoa
 unfold snapV
 unfold ptr at *
 clear h hb hsb hb7 hoa hx hst
 generalize Za ((l:Int)+1) st=pv at *
 go_enter func31,ntmps31
 go_wp2_with (first|(go_at_call 81;refine hp.mono ?_;rintro e w1 ⟨rfl,rfl⟩)|(go_at_call 82;refine had.mono ?_;rintro e w2 ⟨rfl,q3⟩;have Q3:=hid q3;clear q3))
 go_ret
 exact⟨rfl,HOA.out.trans Q3.out⟩
theorem names_any (x v:Int)(hb:BoardIn w Y ed D t (some (x,v))):
  Calls prog 32 #[ptr Y.sb,.pointer none] w fun e w'=>∃g c,e=.returned (.slice (some ⟨g,0,none⟩) 1 c)∧w'.cell? ⟨g,0,none⟩=some (.int .i64 x)∧w'.cell? ⟨g,1,none⟩=some (.int .i64 (tagW v))∧Only [] w w'∧w.heap.size≤g:=by
 obtain⟨A,c,hsb,_⟩:=h.fixed.sb
 have c4:=hsb.cell (i:=4) rfl
 have ha:=boardAll_any x v Y.nm t w hb.at
 have HT:=hid (fun W=>tag_any v W)
 unfold ptr at *
 clear h hb hsb
 go_enter func32,ntmps32
 go_wp2_with (go_at_call 83;refine ha.mono ?_;rintro e w1 ⟨u,rfl,hown,ho1⟩;obtain⟨g,gc,rfl⟩:=own_some hown (by decide);have g0:=own_cell (j:=0) hown rfl;have g1:=own_cell (j:=1) hown rfl;have gf:=own_frozenN hown;have HG:=hid (hown.lt g rfl);have HO1:=hid ho1;clear hown ho1)
 refine wp_loop_rounds 2 ?_
 rw[rounds_succ]
 go_wp2_with (go_at_call 84;refine (HT.out _).mono ?_;rintro e w2 ⟨rfl,rfl⟩)
 rw[rounds_succ]
 go_wp2_with fail
 go_ret
 have hlow:=HG.out.1
 have ho:Only [] w (w1.setCell ⟨g,1,none⟩ (.int .i64 (tagW v))):=((HO1.out.mono (Y:=[g]) (by simp)).setCell (.inl (by simp)) _).fresh (fun k hk hl=>by obtain rfl:=List.mem_singleton.1 hk;omega)
 refine⟨g,gc,rfl,?_,?_,ho,hlow⟩
 ·rw[World.cell?_setCell_other w1 ⟨g,1,none⟩ ⟨g,0,none⟩ _ (by simp)]
  exact g0
 ·exact World.cell?_setCell_same w1 ⟨g,1,none⟩ _ g1
theorem unname_any (x:Int)(hx:0≤x∧x≤4294967295)(l:Nat)(hl:l≤1000)(st:Int)(hst:0≤st∧st<1099511627776)(hb:BoardIn w Y ed D t (some (x,Za ((l:Int)+1) st)))(y:Int)(hy:X.clock.leases[l]?=some y)(hy0:y≠0):
  Calls prog 35 #[ptr Y.sb,.pointer none,.int .i64 x] w fun e w'=>e=.returned (.int .i64 0)∧StoreIn w' Y ed D {X with clock:={X.clock with leases:=X.clock.leases.set l 0}}∧Only [Y.nm,Y.clock.cb,Y.clock.lb] w w':=by
 obtain⟨A,c,hsb,_⟩:=h.fixed.sb
 have c4:=hsb.cell (i:=4) rfl
 have hd:=boardDrop_any x (Za ((l:Int)+1) st) hx Y.nm t w hb.at
 have HIX:=hid (fun W=>index_any (Za ((l:Int)+1) st) W)
 rw[idx_pack (by omega) (by omega) hst.1 hst.2] at HIX
 have HRE:=hid (fun W (hc:ClockAt W Y.clock X.clock)=>release_any W Y.clock X.clock hc l y hy hy0)
 have HST:=hid (fun W (ho:Only [Y.nm] w W)=>h.board hb ho)
 have h1:IntKind.i64.wrap ((l:Int)+1-1)=(l:Int):=by
  have:((l:Int)+1-1)=l:=by omega
  rw[this]
  exact IntWalk.i64_in _ (by omega)
 have h2:IntKind.i64.wrap (l:Int)=(l:Int):=IntWalk.i64_in _ (by omega)
 have HNE:=hid (show ¬Y.sb=Y.clock.cb∧¬Y.sb=Y.clock.lb from ⟨is_ne h.ok.sb h.ok.cb (by decide),is_ne h.ok.sb h.ok.lb (by decide)⟩)
 unfold ptr at *
 clear h hb hsb hx hst hy hy0
 generalize Za ((l:Int)+1) st=pv at *
 go_enter func35,ntmps35
 go_wp2_with (go_at_call 93;refine hd.mono ?_;rintro e w1 ⟨rfl,ho1⟩;have hs1:=HST.out w1 ho1;obtain⟨A1,c1,hsb1,_⟩:=hs1.fixed.sb;have e1:=hsb1.cell (i:=1) rfl;unfold ptr at e1;have HS1:=hid hs1;have HO1:=hid ho1;clear hs1 ho1 hsb1 c4)
 refine wp_region_held_drew (S:=(fun W=>W.cell? ⟨Y.sb,1,none⟩=some (.pointer (some ⟨Y.clock.cb,0,none⟩)))) (by kernel_rfl) ?_ (fun hHeld=>?_)
 ·exact e1
 refine tk 0 ?_
 refine tk 1 ?_
 refine tk 2 ?_
 refine tk 3 ?_
 refine tk 4 ?_
 refine tk 5 ?_
 refine tk 6 ?_
 refine on1 7 (fun K hK=>?_)
 go_simp;go_at_call 95;refine (HIX.out _).mono ?_;rintro e w2 ⟨rfl,rfl⟩
 refine hK.out _ _ (e1) (fun hHeld=>?_)
 clear hK K
 try simp only[sp]
 refine tk 8 ?_
 refine on1 9 (fun K hK=>?_)
 go_simp;go_at_call 94;refine (HRE.out _ (HS1.out.clock.only (Only.drew [] _) (by simp) (by simp))).mono ?_;rintro e w3 ⟨rfl,hc3,ho3⟩;have ho3':Only [Y.clock.cb,Y.clock.lb] w1 w3:=⟨ho3.os,ho3.tape,ho3.output,ho3.size,ho3.block⟩;have x1:=Qa ho3' e1 (by simpa using HNE.out);have HC3:=hid hc3;have HO3:=hid ho3';clear hc3 ho3 ho3'
 refine hK.out _ _ (x1) (fun hHeld=>?_)
 clear hK K
 try simp only[sp]
 refine tk 10 ?_
 refine wpAnyH_done (by kernel_rfl) ?_ _
 go_wp2_with fail
 go_ret
 refine⟨rfl,HS1.out.clockStep HO3.out HC3.out,(HO1.out.mono (Y:=[Y.nm,Y.clock.cb,Y.clock.lb]) (by simp)).trans (HO3.out.mono (by simp))⟩
theorem peekNamed_any (x pv k:Int)(hx:0≤x∧x≤4294967295)(hb:BoardIn w Y ed D t (some (x,pv)))(h0:X.epoch.deep=0)(i:Nat)(hi:i<Y.n)(hk:Qt k=true)(hpk:Qu k Y.n=(i:Int))(st:Int)(hst:tagW pv=st)(n:NodeS)(X2:StoreS)
  (hp:SeeP Y {X with epoch:=X.epoch.enter} i st n X2) (he2:X2.epoch=X.epoch.enter) (v:Int) (had:Bool) (hf:X2.pool.find n.a k=some (v,had)):
  Calls prog 33 #[ptr Y.sb,.pointer none,.int .i64 x,.int .i64 k] w (Turns Y ed D {X2 with epoch:=X2.epoch.leave} (.tuple #[.agg #[.int .i64 v,.bool had,.int .i64 n.b,.bool false,.int .i64 0],.int .i64 0]) w):=by
 obtain⟨wA,hwA⟩:∃wA,w.alloc (.cells #[.int .i64 0,.bool false,.int .i64 0,.bool false,.int .i64 0] 57)=wA:=⟨_,rfl⟩
 have hoa:Only [] w wA:=by rw[←hwA];exact (Only.refl [] w).alloc _
 have hb8:Blk wA w.heap.size [.int .i64 0,.bool false,.int .i64 0,.bool false,.int .i64 0] 57:=by rw[←hwA];exact Blk.new w _ 57
 have hsa:=h.new hoa
 have hof:=storeOf_any wA Y hsa.fixed h.ok.n k hk
 rw[hpk] at hof
 have b6:=hb8.cell (i:=0) rfl
 have hnd:¬(w.heap.size<Y.base∧Y.col w.heap.size≠0)∧¬Qw Y ed D w.heap.size:=⟨fun e=>by have:=h.room;have:=e.1;omega,fun e=>by have:=(h.dyn_lt e).2;omega⟩
 have hd1:X2.epoch.deep=1:=by rw[he2];simp[EpochS.enter,h0]
 have hy1:¬Y.sb=w.heap.size:=by have:=h.ok.sb.1;have:=h.room;omega
 have hy2:¬w.heap.size=Y.sb:=fun e=>hy1 e.symm
 have HTG:=hid (fun W=>tag_any pv W)
 rw[hst] at HTG
 have H:=hid h;have HOA:=hid hoa;have HSA:=hid hsa;have HB:=hid hb;have HBA:=hid (hb.new hoa);have HB8:=hid hb8;have HD0:=hid h0;have HX:=hid hx;have HP:=hid hp;have HK:=hid hk;have HF:=hid hf;have HND:=hid hnd;have HD1:=hid hd1
 unfold Turns
 unfold ptr at *
 clear h hoa hsa hb8 hb h0 hx hp hk hf hnd hd1 hpk hst he2
 go_enter_defers func33,ntmps33
 go_wp2_with (first|(go_at_call 78;refine hof.mono ?_;rintro e w1 ⟨rfl,ho1⟩;have hs1:=HSA.out.new ho1;have hent:=enter_any w1 Y.eb Y.pool.pb Y.base ed X.epoch hs1.epoch HD0.out;obtain⟨_,_,hsb1,-⟩:=hs1.fixed.sb;have c2:=hsb1.cell (i:=2) rfl;unfold Epoched at hent;unfold ptr at hent c2;have HENT:=hid hent;have HS1:=hid hs1;have HO1:=hid ho1;clear ho1 hs1 hent hsb1 b6)|(go_at_call 85;refine HENT.out.mono ?_;rintro e w2 ⟨rfl,he2,ho2⟩;obtain⟨hs2,hm2⟩:=epochEd HS1.out he2 ho2;have hmT:=(Moves.of_new HO1.out).trans hm2;obtain⟨_,_,hsb2,-⟩:=hs2.fixed.sb;have d2:=hsb2.cell (i:=2) rfl;have d4:=hsb2.cell (i:=4) rfl;have hg1:=boardGet_any x pv HX.out Y.nm t w2 (HBA.out.moves hmT).at;unfold ptr at d2 d4 hg1;have HG1:=hid hg1;have HS2:=hid hs2;have HM2:=hid hmT;clear he2 ho2 hs2 hm2 hmT hsb2 hg1 c2)|(go_at_call 87;refine HG1.out.mono ?_;rintro e w3 ⟨rfl,ho3⟩;have hs3:=HS2.out.new ho3;have hrd:=reads_any w3 Y ed D {X with epoch:=X.epoch.enter} X2 hs3 i st n HP.out;unfold Turns ptr at hrd;have HRD:=hid hrd;have HM3:=hid (HM2.out.trans (Moves.of_new ho3));clear HG1 ho3 hs3 hrd)|(go_at_call 84;refine (HTG.out _).mono ?_;rintro e w' ⟨rfl,rfl⟩)|(go_at_call 88;refine HRD.out.mono ?_;rintro e w4 ⟨rfl,hs4,hm4⟩;have hmT:=HM3.out.trans hm4;have hfd:=finds_any w4 Y ed D X2 hs4 n.a n.b k v had HK.out HF.out;unfold ToldS.val ptr at hfd;have HFD:=hid hfd;have HS4:=hid hs4;have HM4:=hid hmT;clear hs4 hm4 hmT hfd)|(go_at_call 80;refine HFD.out.mono ?_;rintro e w5 ⟨rfl,ho5⟩;have hs5:=HS4.out.new ho5;have hmT:=HM4.out.trans (Moves.of_new ho5);have hb8:=HB8.out.heap (hmT.block _ HB8.out.lt HND.out.1 HND.out.2);have r0:=hb8.cell (i:=0) rfl;have r1:=hb8.cell (i:=1) rfl;have r2:=hb8.cell (i:=2) rfl;have r3:=hb8.cell (i:=3) rfl;have r4:=hb8.cell (i:=4) rfl;have rf:=hb8.frozen;obtain⟨_,_,hsb5,-⟩:=hs5.fixed.sb;have g4:=hsb5.cell (i:=4) rfl;unfold ptr at g4;have HG2:=hid (fun W (ho:Only [w.heap.size] w5 W)=>boardGet_any x pv HX.out Y.nm t W (HB.out.moves (((Moves.of_new HOA.out).trans hmT).fresh ho (by simp))).at);have HS5:=hid hs5;have HM5:=hid hmT;have HB85:=hid hb8;clear ho5 hs5 hmT hb8 hsb5)|(go_at_call 87;refine (HG2.out _ (five _ _ _ _ _ _ _)).mono ?_;rintro e w7 ⟨rfl,ho7⟩;have HO7:=hid ho7;have hb7:=(((((HB85.out.set 0 (.int .i64 v)).set 1 (.bool had)).set 2 (.int .i64 n.b)).set 3 (.bool false)).set 4 (.int .i64 0)).only ho7 (by simp);have q0:=hb7.cell (i:=0) rfl;have q1:=hb7.cell (i:=1) rfl;have q2:=hb7.cell (i:=2) rfl;have q3:=hb7.cell (i:=3) rfl;have q4:=hb7.cell (i:=4) rfl;have qf:=hb7.frozen;have HB7:=hid hb7;clear ho7 hb7 r0 r1 r2 r3 r4 rf))
 have ho8:=five w7 w.heap.size (.int .i64 v) (.bool had) (.int .i64 n.b) (.bool false) (.int .i64 0)
 obtain⟨W8,hW8⟩:∃W8,((((w7.setCell ⟨w.heap.size,0,none⟩ (.int .i64 v)).setCell ⟨w.heap.size,1,none⟩ (.bool had)).setCell ⟨w.heap.size,2,none⟩ (.int .i64 n.b)).setCell ⟨w.heap.size,3,none⟩ (.bool false)).setCell ⟨w.heap.size,4,none⟩ (.int .i64 0)=W8:=⟨_,rfl⟩
 have hb8:=((((HB7.out.set 0 (.int .i64 v)).set 1 (.bool had)).set 2 (.int .i64 n.b)).set 3 (.bool false)).set 4 (.int .i64 0)
 rw[hW8] at ho8 hb8 ⊢
 have hoZ:Only [w.heap.size] w5 W8:=((five w5 w.heap.size (.int .i64 v) (.bool had) (.int .i64 n.b) (.bool false) (.int .i64 0)).trans (HO7.out.mono (Y:=[w.heap.size]) (by simp))).trans ho8
 have hdt:¬Qw Y ed D w.heap.size:=HND.out.2
 have hroom:=H.out.room
 have hs8:=HS5.out.only hoZ (fun k hk=>by obtain rfl:=List.mem_singleton.1 hk;exact⟨hroom,hdt⟩)
 have hm8:=((Moves.of_new HOA.out).trans HM5.out).fresh hoZ (fun k hk=>by obtain rfl:=List.mem_singleton.1 hk;exact Nat.le_refl _)
 refine leaves_cons (f:=86) (args:=#[.pointer (some ⟨Y.eb,0,none⟩),.pointer none]) (by simp) (by simp[go_sem]) ?_
 refine (leave_d W8 Y.eb Y.pool.pb Y.base ed X2.epoch hs8.epoch HD1.out .returning).mono ?_
 rintro e u' w9 ⟨rfl,rfl,he9,ho9⟩
 obtain⟨hs9,hm9⟩:=epochEd hs8 he9 ho9
 have hb9:=hb8.only ho9 (by have:=H.out.ok.eb.1;simp;omega)
 have e0:=hb9.cell (i:=0) rfl
 have e1:=hb9.cell (i:=1) rfl
 have e2:=hb9.cell (i:=2) rfl
 have e3:=hb9.cell (i:=3) rfl
 have e4:=hb9.cell (i:=4) rfl
 exact⟨.tuple #[.agg #[.int .i64 v,.bool had,.int .i64 n.b,.bool false,.int .i64 0],.int .i64 0],by simp[results,Tryz.results33,go_sem,e0,e1,e2,e3,e4],rfl,hs9,hm8.trans hm9⟩
end
end Go.Proofs.YteeefedoffplmaaGreat
