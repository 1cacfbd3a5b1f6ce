/- StoreAlone, part Pal: LWait, DropNone, DropSome, DropAny. -/
import Derived.Test.YteeefedoffplmaaGreatPai
import Derived.Test.YteeefedoffplmaaGreatPag
import Derived.Test.YteeefedoffplmaaGreatPaa
set_option linter.unusedSimpArgs false
set_option linter.unusedVariables false
set_option maxRecDepth 100000
set_option maxHeartbeats 51200000
namespace Go.Proofs.YteeefedoffplmaaGreat
open Go.RowKit Lib Go.Proofs.Tryz
structure LoadsA (Y:StoreL)(X:StoreS)(i:Nat)(a:LPartS)(C C':ChainS)(S2:PoolS):Prop where
 ha:X.loads[i]?=some a
 hC:X.chains[i]?=some C
 fails:a.fails≤0
 few:a.pairs.length≤1000
 ex:∃m S1 hd,LoadW a.pairs (⟨0,[]⟩,X.pool) (m,S1)∧C.first S1 ⟨m.root,1,0,0⟩=some (hd,C',S2)∧Ql m.root
theorem loadAny_any (w:World)(Y:StoreL)(ed:Option Nat)(D:Nat→List Nat)(X:StoreS)(h:StoreIn w Y ed D X)(i:Nat)(a:LPartS)(C C':ChainS)(S2:PoolS)(hl:LoadsA Y X i a C C' S2):
  Calls prog 219 #[ptr Y.ld,.pointer none,ptr (Y.lp i)] w fun e w'=>e=.returned (.int .i64 0)∧StoreIn w' Y ed D {fillX X i C' S2 with loads:=X.loads.set i {a with state:=2}}∧Moves Y (Qw Y ed D) (Qw Y ed D) w w':=by
 obtain⟨ha,hC,hfa,hpl,m',S1,hd,hm,hf,hr⟩:=hl
 have hi:i<Y.n:=by rw[←h.loads];exact (List.getElem?_eq_some_iff.1 ha).1
 obtain⟨A,c,hlp,_⟩:=h.load i a ha
 have hmf:∀(fn:Fn) (first cap:Array Value) (w:World),(Instr.makeFunc fn first cap).run prog w=.ok (.func fn first cap) w:=fun _ _ _ _=>rfl
 have hoA:Only [] w (((w.alloc (.cells #[ptr Y.ld] 87)).alloc (.cells #[.pointer none] 126)).alloc (.cells #[ptr (Y.lp i)] 195)):=(((Only.refl _ _).alloc _).alloc _).alloc _
 have c3:=(hlp.only hoA (by simp)).cell (i:=3) rfl
 have hb4:Blk (((w.alloc (.cells #[ptr Y.ld] 87)).alloc (.cells #[.pointer none] 126)).alloc (.cells #[ptr (Y.lp i)] 195)) (w.heap.size+1) [.pointer none] 126:=by
  have:=Blk.new (w.alloc (.cells #[ptr Y.ld] 87)) [.pointer none] 126
  rw[World.size_alloc] at this
  exact this.alloc _
 have hb5:Blk (((w.alloc (.cells #[ptr Y.ld] 87)).alloc (.cells #[.pointer none] 126)).alloc (.cells #[ptr (Y.lp i)] 195)) (w.heap.size+1+1) [ptr (Y.lp i)] 195:=by
  have:=Blk.new ((w.alloc (.cells #[ptr Y.ld] 87)).alloc (.cells #[.pointer none] 126)) [ptr (Y.lp i)] 195
  rw[World.size_alloc,World.size_alloc] at this
  exact this
 have hb3:Blk (((w.alloc (.cells #[ptr Y.ld] 87)).alloc (.cells #[.pointer none] 126)).alloc (.cells #[ptr (Y.lp i)] 195)) w.heap.size [ptr Y.ld] 87:=((Blk.new w [ptr Y.ld] 87).alloc _).alloc _
 have hoB:=hoA.alloc (.cells #[.int .i64 0,.slice none 0 0,ptr Y.ld,.pointer none] 355)
 have hlg:Blk ((((w.alloc (.cells #[ptr Y.ld] 87)).alloc (.cells #[.pointer none] 126)).alloc (.cells #[ptr (Y.lp i)] 195)).alloc (.cells #[.int .i64 0,.slice none 0 0,ptr Y.ld,.pointer none] 355)) (w.heap.size+1+1+1) [.int .i64 0,.slice none 0 0,ptr Y.ld,.pointer none] 355:=by
  have:=Blk.new (((w.alloc (.cells #[ptr Y.ld] 87)).alloc (.cells #[.pointer none] 126)).alloc (.cells #[ptr (Y.lp i)] 195)) [.int .i64 0,.slice none 0 0,ptr Y.ld,.pointer none] 355
  rw[World.size_alloc,World.size_alloc,World.size_alloc] at this
  exact this
 have hfill:=fillAny_any _ Y ed D X (h.new hoB) _ hlg (by have:=h.room;omega) (fun e=>by have:=(h.dyn_lt e).2;omega) i a C ha hC hpl m' S1 hm hd C' S2 hf hr
 have x3:=hb3.cell (i:=0) rfl
 have x4:=hb4.cell (i:=0) rfl
 have x5:=hb5.cell (i:=0) rfl
 have H:=hid h;have HB4:=hid (hb4.alloc (.cells #[.int .i64 0,.slice none 0 0,ptr Y.ld,.pointer none] 355));have HB5:=hid (hb5.alloc (.cells #[.int .i64 0,.slice none 0 0,ptr Y.ld,.pointer none] 355));have HI:=hid hi;have HA:=hid ha;have HOB:=hid hoB
 have hgt:¬(a.fails > 0):=by omega
 obtain⟨fl,hfl⟩:∃fl,a.fails=fl:=⟨_,rfl⟩
 rw[hfl] at c3 hgt
 unfold ptr at *
 clear h hoA hoB hb4 hb5 hb3 hlg hlp ha hC hpl hm hf hr hi hfa hfl
 go_enter func219,ntmps219
 go_wp2_with (first|(go_at_call 238;refine hfill.mono ?_;rintro e w1 ⟨rfl,hs1,ho1⟩;have HS1:=hid hs1;have HO1:=hid ho1;clear hs1 ho1))
 all_goals (try (exfalso;exact hgt (by assumption)))
 have hx:∀b,w.heap.size≤b→b≠w.heap.size+1+1+1→b∉(w.heap.size+1+1+1) :: chX (Y.chain i) Y.pool:=fun b hb hne m=>by
  have hr:=H.out.room
  simp only[chX,List.mem_cons] at m
  rcases m with m|m|m|m
  ·exact hne m
  ·have:=(H.out.ok.xb i HI.out).1;omega
  ·have:=(H.out.ok.sets i HI.out).1;omega
  ·have:=(H.out.ok.pool _ (Qf m)).1;omega
 have y4:=(HB4.out.only HO1.out (hx _ (by omega) (by omega))).cell (i:=0) rfl
 have y5:=(HB5.out.only HO1.out (hx _ (by omega) (by omega))).cell (i:=0) rfl
 obtain⟨A1,c1,hlp1,_⟩:=HS1.out.load i a HA.out
 have hend:=loadEnd_any w1 (w.heap.size+1) (w.heap.size+1+1) (Y.lp i) 2 a.state 0 y4 y5 (hlp1.cell rfl) (hlp1.frozen 0)
 obtain⟨hs2,hm2⟩:=HS1.out.loadStep HA.out 2
 have HS2:=hid hs2;have HM2:=hid hm2
 unfold ptr at hend
 clear hs2 hm2 hlp1 y4 y5 hx
 refine hend.mono ?_
 rintro e w2 ⟨rfl,rfl⟩
 go_wp2_with fail
 go_ret
 exact⟨rfl,HS2.out,(Moves.of_chain H.out.ok HI.out ((HOB.out.mono (by simp)).trans HO1.out) (by omega)).trans HM2.out⟩
theorem comesAny_any (w:World)(Y:StoreL)(ed:Option Nat)(D:Nat→List Nat)(X:StoreS)(h:StoreIn w Y ed D X)(i:Nat)(a:LPartS)(C C':ChainS)(S2:PoolS)(hl:LoadsA Y X i a C C' S2)(h0:a.state=0)(b:Bool):
  Calls prog 194 #[ptr Y.ld,.pointer none,.int .i64 (i:Int),.bool b] w fun e w'=>e=.returned (.int .i64 0)∧StoreIn w' Y ed D {fillX X i C' S2 with loads:=X.loads.set i {a with state:=2}}∧Moves Y (Qw Y ed D) (Qw Y ed D) w w':=by
 have hi:i<Y.n:=by rw[←h.loads];exact (List.getElem?_eq_some_iff.1 hl.ha).1
 have hil:=(List.getElem?_eq_some_iff.1 hl.ha).1
 have hof:=loadOf_any w Y h.fixed i hi
 obtain⟨A,c,hlp,_⟩:=h.load i a hl.ha
 rw[h0] at hlp
 have hld:=Zf (Y.lp i) 0 0 w (hlp.cell rfl)
 have hcas:=atomCas (Y.lp i) 0 0 w 1 (hlp.cell rfl) (hlp.frozen 0)
 obtain⟨hs1,hm1⟩:=h.loadStep hl.ha 1
 have hl1:LoadsA Y {X with loads:=X.loads.set i {a with state:=1}} i {a with state:=1} C C' S2:=⟨by simp[hil],hl.hC,hl.fails,hl.few,hl.ex⟩
 have hload:=loadAny_any _ Y ed D _ hs1 i _ C C' S2 hl1
 have HM:=hid hm1
 simp only[fillX,List.set_set] at hload ⊢
 unfold ptr at *
 clear h hl hi hlp hs1 hm1 hl1 h0
 go_enter func194,ntmps194
 go_wp2_with (go_at_call 218;refine hof.mono ?_;rintro e w' ⟨rfl,rfl⟩)
 refine wp_loop_rounds 1 ?_
 rw[rounds_succ]
 go_wp2_with (first|(go_at_call 71;refine (Qx _).mono ?_;rintro e w' ⟨rfl,rfl⟩)|(go_at_call 51;refine hld.mono ?_;rintro e w' ⟨rfl,rfl⟩)|(go_at_call 135;refine hcas.mono ?_;rintro e w' ⟨rfl,rfl⟩)|(go_at_call 219;refine hload.mono ?_;rintro e w2 ⟨rfl,hs2,hm2⟩;have HS2:=hid hs2;have HM2:=hid hm2;clear hs2 hm2))
 go_ret
 exact⟨rfl,HS2.out,HM.out.trans HM2.out⟩
theorem comesThere_any (w:World)(Y:StoreL)(ed:Option Nat)(D:Nat→List Nat)(X:StoreS)(h:StoreIn w Y ed D X)(i:Nat)(a:LPartS)(ha:X.loads[i]?=some a)(h2:a.state=2)(b:Bool):
  Calls prog 194 #[ptr Y.ld,.pointer none,.int .i64 (i:Int),.bool b] w fun e w'=>e=.returned (.int .i64 0)∧w'=w:=by
 have hi:i<Y.n:=by rw[←h.loads];exact (List.getElem?_eq_some_iff.1 ha).1
 have hof:=loadOf_any w Y h.fixed i hi
 obtain⟨A,c,hlp,_⟩:=h.load i a ha
 rw[h2] at hlp
 have hld:=Zf (Y.lp i) 0 2 w (hlp.cell rfl)
 unfold ptr at *
 clear h hi hlp h2 ha
 go_enter func194,ntmps194
 go_wp2_with (go_at_call 218;refine hof.mono ?_;rintro e w' ⟨rfl,rfl⟩)
 refine wp_loop_rounds 1 ?_
 rw[rounds_succ]
 go_wp2_with (first|(go_at_call 71;refine (Qx _).mono ?_;rintro e w' ⟨rfl,rfl⟩)|(go_at_call 51;refine hld.mono ?_;rintro e w' ⟨rfl,rfl⟩))
 go_ret
 exact⟨rfl,rfl⟩
def ReadyP (Y:StoreL)(X:StoreS)(i:Nat)(X':StoreS):Prop:=
 ∃a C,X.loads[i]?=some a∧X.chains[i]?=some C∧((a.state=2∧X'=X)∨∃C' S2,a.state=0∧LoadsA Y X i a C C' S2∧X'={fillX X i C' S2 with loads:=X.loads.set i {a with state:=2}})
def Turns (Y:StoreL)(ed:Option Nat)(D:Nat→List Nat)(X':StoreS)(v:Value)(w:World)(e:Ending)(w':World):Prop:=
 e=.returned v∧StoreIn w' Y ed D X'∧Moves Y (Qw Y ed D) (Qw Y ed D) w w'
theorem comesP_any (w:World)(Y:StoreL)(ed:Option Nat)(D:Nat→List Nat)(X X':StoreS)(h:StoreIn w Y ed D X)(i:Nat)(hr:ReadyP Y X i X')(b:Bool):
  Calls prog 194 #[ptr Y.ld,.pointer none,.int .i64 (i:Int),.bool b] w (Turns Y ed D X' (.int .i64 0) w):=by
 obtain⟨a,C,ha,hC,⟨h2,rfl⟩|⟨C',S2,h0,hl,rfl⟩⟩:=hr
 ·refine (comesThere_any w Y ed D X' h i a ha h2 b).mono ?_
  rintro e w' ⟨rfl,rfl⟩
  exact⟨rfl,h,Moves.refl _ _ _⟩
 ·exact comesAny_any w Y ed D X h i a C C' S2 hl h0 b
theorem waitP_any (w:World)(Y:StoreL)(ed:Option Nat)(D:Nat→List Nat)(X X':StoreS)(h:StoreIn w Y ed D X)(i:Nat)(hr:ReadyP Y X i X'):
  Calls prog 178 #[ptr Y.ld,.pointer none,.int .i64 (i:Int)] w (Turns Y ed D X' (.int .i64 0) w):=by
 have hc:=comesP_any w Y ed D X X' h i hr true
 unfold ptr Turns at *
 clear h hr
 go_enter func178,ntmps178
 go_wp2_with (go_at_call 194;refine hc.mono ?_;rintro e w' ⟨rfl,hs2,hm2⟩;have HS2:=hid hs2;have HM2:=hid hm2;clear hs2 hm2)
 go_ret
 exact⟨rfl,HS2.out,HM2.out⟩
theorem readyP_any (w:World)(Y:StoreL)(ed:Option Nat)(D:Nat→List Nat)(X X':StoreS)(h:StoreIn w Y ed D X)(i:Nat)(hr:ReadyP Y X i X'):
  Calls prog 141 #[ptr Y.ld,.pointer none,.int .i64 (i:Int)] w (Turns Y ed D X' (.int .i64 0) w):=by
 have hc:=comesP_any w Y ed D X X' h i hr false
 unfold ptr Turns at *
 clear h hr
 go_enter func141,ntmps141
 go_wp2_with (go_at_call 194;refine hc.mono ?_;rintro e w' ⟨rfl,hs2,hm2⟩;have HS2:=hid hs2;have HM2:=hid hm2;clear hs2 hm2)
 go_ret
 exact⟨rfl,HS2.out,HM2.out⟩
def DropNone (w:World)(e:Ending)(w':World):Prop:=e=.returned (.tuple #[.agg #[.int .i64 0,.int .i64 0,.bool false,.slice none 0 0,.slice none 0 0],.int .i64 122])∧Only [] w w'
theorem dropZero_any (w:World)(tb:Nat)(L:PoolL)(S:PoolS)(hp:PoolAt w L S)(ht:Blk w tb [ptr L.pb] 187)(k:Int)(hk:Qt k=true):
  Calls prog 212 #[ptr tb,.pointer none,.int .i64 0,.int .i64 k] w (DropNone w):=by
 have hkey:=fun W=>key_any k W
 rw[hk] at hkey
 have HK:=hid hkey
 have hb0:Blk (w.alloc (.cells #[.int .i64 0,.int .i64 0,.bool false,.slice none 0 0,.slice none 0 0] 264)) w.heap.size [.int .i64 0,.int .i64 0,.bool false,.slice none 0 0,.slice none 0 0] 264:=Blk.new w _ 264
 have HNO:=hid (none_any 122)
 have f0:=hb0.frozen
 have c0:=hb0.cell (i:=0) rfl
 have c1:=hb0.cell (i:=1) rfl
 have c2:=hb0.cell (i:=2) rfl
 have c3:=hb0.cell (i:=3) rfl
 have c4:=hb0.cell (i:=4) rfl
 unfold ptr
 clear hp ht hkey hk hb0
 go_enter func212,ntmps212
 go_wp2_with (first|(go_at_call 195;refine (HK.out _).mono ?_;rintro e w' ⟨rfl,rfl⟩)|(go_at_call 196;refine (HNO.out _).mono ?_;rintro e w' ⟨rfl,rfl⟩))
 refine bodyPost_ret (v:=.tuple #[.agg #[.int .i64 0,.int .i64 0,.bool false,.slice none 0 0,.slice none 0 0],.int .i64 122]) (by simp[results,Tryz.results212,go_sem,c0,c1,c2,c3,c4]) rfl ⟨rfl,?_⟩
 first|exact (Only.refl _ _).alloc _|exact ((((((Only.refl _ _).alloc _).setCell (.inr (Nat.le_refl _)) _).setCell (.inr (Nat.le_refl _)) _).setCell (.inr (Nat.le_refl _)) _).setCell (.inr (Nat.le_refl _)) _).setCell (.inr (Nat.le_refl _)) _
theorem dropMiss_any (w:World)(tb:Nat)(L:PoolL)(S:PoolS)(hp:PoolAt w L S)(ht:Blk w tb [ptr L.pb] 187)(k:Int)(hk:Qt k=true)(root h k' v':Int)(hne:k'≠k)(h0:root≠0)(way:List StepS)(hx:S.down root k=some (way,h,(.leaf k' v'))):
  Calls prog 212 #[ptr tb,.pointer none,.int .i64 root,.int .i64 k] w (DropNone w):=by
 have hkey:=fun W=>key_any k W
 rw[hk] at hkey
 have HK:=hid hkey
 have hb0:Blk (w.alloc (.cells #[.int .i64 0,.int .i64 0,.bool false,.slice none 0 0,.slice none 0 0] 264)) w.heap.size [.int .i64 0,.int .i64 0,.bool false,.slice none 0 0,.slice none 0 0] 264:=Blk.new w _ 264
 have hd:=down_iface _ tb L S (hp.alloc (.cells #[.int .i64 0,.int .i64 0,.bool false,.slice none 0 0,.slice none 0 0] 264)) (ht.alloc _) root k way h _ hx 307 (.agg #[.int .i64 k',.int .i64 v']) rfl
 have hta:=assertLeaf2 k' v'
 have hq:(root == 0)=false:=by simp[h0]
 have hq2:(k' == k)=false:=by simp[hne]
 have HD:=hid hd;have HB0:=hid hb0
 unfold ptr at *
 clear hp ht hx hd hkey hk hb0 h0 hne
 go_enter func212,ntmps212
 go_wp2_with (first|(go_at_call 195;refine (HK.out _).mono ?_;rintro e w' ⟨rfl,rfl⟩)|(go_at_call 197;refine HD.out.mono ?_;rintro e w1 ⟨wv,rfl,hwo,hb⟩;obtain⟨wA,wc,rfl,_,_⟩:=Qc hwo;have hn:=HB0.out.only hb (by simp);have hf:=hn.frozen;have e0:=hn.cell (i:=0) rfl;have e1:=hn.cell (i:=1) rfl;have e2:=hn.cell (i:=2) rfl;have e3:=hn.cell (i:=3) rfl;have e4:=hn.cell (i:=4) rfl;have hlt:=hn.lt;have HB:=hid hb;clear hb hwo hn))
 refine bodyPost_ret (v:=.tuple #[.agg #[.int .i64 0,.int .i64 0,.bool false,.slice none 0 0,.slice none 0 0],.int .i64 122]) (by simp[results,Tryz.results212,go_sem,e0,e1,e2,e3,e4,hlt]) rfl ⟨rfl,?_⟩
 have h1:Only [] w w1:=((Only.refl [] w).alloc _).trans HB.out
 exact ((((((h1.setCell (.inr (Nat.le_refl _)) _).setCell (.inr (Nat.le_refl _)) _).setCell (.inr (Nat.le_refl _)) _).setCell (.inr (Nat.le_refl _)) _).setCell (.inr (Nat.le_refl _)) _).alloc _).alloc _
theorem dropInner_any (w:World)(tb:Nat)(L:PoolL)(S:PoolS)(hp:PoolAt w L S)(ht:Blk w tb [ptr L.pb] 187)(k:Int)(hk:Qt k=true)(root h:Int)(p':Nat)(f' l' r' c':Int)(h0:root≠0)(way:List StepS)(hx:S.down root k=some (way,h,(.inner p' f' l' r' c'))):
  Calls prog 212 #[ptr tb,.pointer none,.int .i64 root,.int .i64 k] w (DropNone w):=by
 have hkey:=fun W=>key_any k W
 rw[hk] at hkey
 have HK:=hid hkey
 have hb0:Blk (w.alloc (.cells #[.int .i64 0,.int .i64 0,.bool false,.slice none 0 0,.slice none 0 0] 264)) w.heap.size [.int .i64 0,.int .i64 0,.bool false,.slice none 0 0,.slice none 0 0] 264:=Blk.new w _ 264
 have hd:=down_iface _ tb L S (hp.alloc (.cells #[.int .i64 0,.int .i64 0,.bool false,.slice none 0 0,.slice none 0 0] 264)) (ht.alloc _) root k way h _ hx 335 (.agg #[.int .i64 (p':Int),.int .i64 f',.int .i64 l',.int .i64 r',.int .i64 c']) rfl
 have hta:=assertInner2 (p':Int) f' l' r' c'
 have hq:(root == 0)=false:=by simp[h0]
 have HD:=hid hd;have HB0:=hid hb0
 unfold ptr at *
 clear hp ht hx hd hkey hk hb0 h0
 go_enter func212,ntmps212
 go_wp2_with (first|(go_at_call 195;refine (HK.out _).mono ?_;rintro e w' ⟨rfl,rfl⟩)|(go_at_call 197;refine HD.out.mono ?_;rintro e w1 ⟨wv,rfl,hwo,hb⟩;obtain⟨wA,wc,rfl,_,_⟩:=Qc hwo;have hn:=HB0.out.only hb (by simp);have hf:=hn.frozen;have e0:=hn.cell (i:=0) rfl;have e1:=hn.cell (i:=1) rfl;have e2:=hn.cell (i:=2) rfl;have e3:=hn.cell (i:=3) rfl;have e4:=hn.cell (i:=4) rfl;have hlt:=hn.lt;have HB:=hid hb;clear hb hwo hn))
 refine bodyPost_ret (v:=.tuple #[.agg #[.int .i64 0,.int .i64 0,.bool false,.slice none 0 0,.slice none 0 0],.int .i64 122]) (by simp[results,Tryz.results212,go_sem,e0,e1,e2,e3,e4,hlt]) rfl ⟨rfl,?_⟩
 have h1:Only [] w w1:=((Only.refl [] w).alloc _).trans HB.out
 exact ((((((h1.setCell (.inr (Nat.le_refl _)) _).setCell (.inr (Nat.le_refl _)) _).setCell (.inr (Nat.le_refl _)) _).setCell (.inr (Nat.le_refl _)) _).setCell (.inr (Nat.le_refl _)) _).alloc _).alloc _
def dropEdit (v h:Int):EditS:={EditS.zero with old:=v,had:=true,gone:=[h]}
theorem append_full {P:Program}{w:World}{base base' t e size bytes g n:Nat}{xs:List Value}(E:ElemOk P t e size bytes)(hown:w.ownsRow base e size (.slice (some ⟨g,0,none⟩) n n) n xs)(ty:TypeId)(ad:Addr){m c:Nat}{news:List Value}(hr:Row w (some ad) news)(hl:news.length=m*size)(hm:0<m)
  (h63:n+m≤maxLen) (hbytes:(n+m)*bytes≤140737488355328) (hbase:base'≤w.heap.size):
  ∃v' w',(Builtin.append_ #[t,t] ty #[.slice (some ⟨g,0,none⟩) n n,.slice (some ad) m c]).run P w=.ok v' w'∧w'.ownsRow base' e size v' (n+m) (xs ++ news)∧w.grownBy w' none∧v'.ownBlock=some w.heap.size:=by
 obtain⟨ht,hs,i,z,hi,hz,rfl,rfl,h4⟩:=E
 have hcells:∀j u,news[j]?=some u→w.cell? (ad.add j)=some u:=by
  intro j u hu
  obtain⟨b,off,e1,hc⟩:=hr j u hu
  injection e1 with e1
  rw[e1,addr_add]
  exact hc
 have holds:∀j u,xs[j]?=some u→w.cell? ((⟨g,0,none⟩:Addr).add j)=some u:=hown.cells (g:=g) rfl
 have hsmall:n+m≤9223372036854775807:=by simp only[maxLen] at h63;omega
 have hrun:=run_append_grow (P:=P) w t ty e i z ht hi hz ⟨g,0,none⟩ n n xs hown.1 holds ad m c news hl hcells (by omega) (by omega) (growslice_fits (by omega) hbytes)
 have hlen:(xs ++ news).length=(n+m)*i.size:=by rw[List.length_append,hown.1,hl,Nat.add_mul]
 have hge:=grownCap_ge w (n+m) n e
 have hcm:grownCap w (n+m) n e≤maxLen:=grownCap_le_maxLen w (n+m) n e h63
 refine⟨_,_,hrun,⟨hlen,.inr ⟨w.heap.size,_,_,rfl,hbase,heap_alloc_new w.drew _,hge,hcm,?_,?_⟩⟩,⟨rfl,rfl,rfl,by simp,fun k hk _=>heap_alloc_old w.drew _ hk⟩,rfl⟩
 ·simp only[Array.size_append,List.size_toArray,size_zeroCells,h4,hown.1,hl,←Nat.add_mul]
  congr 1
  omega
 ·simp only[Array.toList_append,List.append_assoc]
  rw[←List.append_assoc,←hlen]
  exact List.take_left
theorem step_append_full {P:Program}{w:World}{base base' t e size bytes g n:Nat}{xs:List Value}{ops:Array Oper}{o:Oper}{a:Act}{K:Act→World→Prop}{Q:Exit→Act→World→Prop}{F:Prop}(hgd:o.guard=none)(s x:Operand)
  (ho:o.op=.call {callee:=.builtin .append,args:=#[s,x],argTypes:=#[t,t]}) (E:ElemOk P t e size bytes) (hs:a.eval s=.slice (some ⟨g,0,none⟩) n n) (hown:w.ownsRow base e size (.slice (some ⟨g,0,none⟩) n n) n xs)
  (ad:Addr) (m c:Nat) (news:List Value) (hx:a.eval x=.slice (some ad) m c) (hr:Row w (some ad) news) (hl:news.length=m*size) (hm:0<m)
  (h63:n+m≤maxLen) (hbytes:(n+m)*bytes≤140737488355328) (hbase:base'≤w.heap.size)
  (h:∀v' w',w'.ownsRow base' e size v' (n+m) (xs ++ news)→w.grownBy w' none→v'.ownBlock=some w.heap.size→K (a.put o.dst v') w'):
  if Region.wanted o (yielded ops a.tmps)=true then Oper.wp P o a w K Q else F:=by
 have hw:Region.wanted o (yielded ops a.tmps)=true:=by simp[Region.wanted,hgd]
 rw[if_pos hw]
 obtain⟨v',w',hrun,h2,h3,h4⟩:=append_full (base':=base') E hown o.type ad (c:=c) hr hl hm h63 hbytes hbase
 unfold Oper.wp execOp
 simp only[ho,resolve,invoke,builtin,Sem.run_bind,Sem.run_pure,Result.andThen_ok,List.map_toArray,List.map_cons,List.map_nil,hs,hx,hrun]
 exact h v' w' h2 h3 h4
theorem dropLast_any (w:World)(tb:Nat)(L:PoolL)(S:PoolS)(hp:PoolAt w L S)(ht:Blk w tb [ptr L.pb] 187)(hx2:tb∉L.blocks)(root h k v:Int)(h0:root≠0)(hk:Qt k=true)(way:List StepS)(hwz:way=[])(hx:S.down root k=some (way,h,.leaf k v)):
  Calls prog 212 #[ptr tb,.pointer none,.int .i64 root,.int .i64 k] w (Putted L (dropEdit v h) S w):=by
 have hkey:=fun W=>key_any k W
 rw[hk] at hkey
 have hd:=down_iface _ tb L S (hp.alloc (.cells #[.int .i64 0,.int .i64 0,.bool false,.slice none 0 0,.slice none 0 0] 264)) (ht.alloc _) root k way h _ hx 307 (.agg #[.int .i64 k,.int .i64 v]) rfl
 have hta:=assertLeaf2 k v
 have hq:(root == 0)=false:=by simp[h0]
 have hb0:Blk (w.alloc (.cells #[.int .i64 0,.int .i64 0,.bool false,.slice none 0 0,.slice none 0 0] 264)) w.heap.size [.int .i64 0,.int .i64 0,.bool false,.slice none 0 0,.slice none 0 0] 264:=Blk.new w _ 264
 have hlt:=hp.lt
 have htl:=ht.lt
 have HK:=hid hkey;have HD:=hid hd;have HB0:=hid hb0;have HP:=hid hp;have HT:=hid ht;have HX:=hid hx2;have HLT:=hid hlt;have HTL:=hid htl
 unfold ptr at *
 clear hp ht hx hd hkey hk hb0 h0 hx2 hlt htl
 subst hwz
 go_enter func212,ntmps212
 go_wp2_with (first|(go_at_call 195;refine (HK.out _).mono ?_;rintro e w' ⟨rfl,rfl⟩)|(go_at_call 197;refine HD.out.mono ?_;rintro e w1 ⟨wv,rfl,hwo,hb⟩;obtain⟨wA,wc,rfl,hwr,hwn⟩:=Qc hwo;have hn:=HB0.out.only hb (by simp);have ho1:Only [] w w1:=((Only.refl [] w).alloc _).trans hb;have HN:=hid hn;have HO1:=hid ho1;have HWO:=hid hwo;have HWR:=hid hwr;have hlt1:=hn.lt;have hn4:Blk ((((w1.alloc (.cells #[.int .i64 h,.iface 307 (.agg #[.int .i64 k,.int .i64 v])] 303)).alloc (.cells #[.int .i64 k,.int .i64 v] 307)).alloc (.cells #[.int .i64 h] 3)).alloc (.cells #[.pointer (some ⟨tb,0,none⟩),.pointer none,.int .i64 0,.int .i64 v,.bool true,.slice (some ⟨w1.heap.size+1+1,0,none⟩) 1 1,.slice none 0 0] 320)) w.heap.size [.int .i64 0,.int .i64 0,.bool false,.slice none 0 0,.slice none 0 0] 264:=(((hn.alloc _).alloc _).alloc _).alloc _;have hf:=hn4.frozen;have e0:=hn4.cell (i:=0) rfl;have e1:=hn4.cell (i:=1) rfl;have e2:=hn4.cell (i:=2) rfl;have e3:=hn4.cell (i:=3) rfl;have e4:=hn4.cell (i:=4) rfl;clear hn4;clear hb hwo hn ho1 hwr))
 have hlt1:w.heap.size<w1.heap.size:=HN.out.lt
 have W0r:=World.ownsRow_lit (base:=w.heap.size) (e:=3) (size:=1) ((w1.alloc (.cells #[.int .i64 h,.iface 307 (.agg #[.int .i64 k,.int .i64 v])] 303)).alloc (.cells #[.int .i64 k,.int .i64 v] 307)) #[.int .i64 h] 1 (by simp;omega) (by decide) rfl
 have hsz2:((w1.alloc (.cells #[.int .i64 h,.iface 307 (.agg #[.int .i64 k,.int .i64 v])] 303)).alloc (.cells #[.int .i64 k,.int .i64 v] 307)).heap.size=w1.heap.size+1+1:=by simp
 rw[hsz2] at W0r
 have hset:Only [w.heap.size] ((((w1.alloc (.cells #[.int .i64 h,.iface 307 (.agg #[.int .i64 k,.int .i64 v])] 303)).alloc (.cells #[.int .i64 k,.int .i64 v] 307)).alloc (.cells #[.int .i64 h] 3)).alloc (.cells #[.pointer (some ⟨tb,0,none⟩),.pointer none,.int .i64 0,.int .i64 v,.bool true,.slice (some ⟨w1.heap.size+1+1,0,none⟩) 1 1,.slice none 0 0] 320)) (((((((((w1.alloc (.cells #[.int .i64 h,.iface 307 (.agg #[.int .i64 k,.int .i64 v])] 303)).alloc (.cells #[.int .i64 k,.int .i64 v] 307)).alloc (.cells #[.int .i64 h] 3)).alloc (.cells #[.pointer (some ⟨tb,0,none⟩),.pointer none,.int .i64 0,.int .i64 v,.bool true,.slice (some ⟨w1.heap.size+1+1,0,none⟩) 1 1,.slice none 0 0] 320)).setCell ⟨w.heap.size,0,none⟩ (.int .i64 0)).setCell ⟨w.heap.size,1,none⟩ (.int .i64 v)).setCell ⟨w.heap.size,2,none⟩ (.bool true)).setCell ⟨w.heap.size,3,none⟩ (.slice (some ⟨w1.heap.size+1+1,0,none⟩) 1 1)).setCell ⟨w.heap.size,4,none⟩ (.slice none 0 0)):=((((((Only.refl _ _).setCell (.inl (by simp)) _).setCell (.inl (by simp)) _).setCell (.inl (by simp)) _).setCell (.inl (by simp)) _).setCell (.inl (by simp)) _)
 have hall:Only [] w (((((((((w1.alloc (.cells #[.int .i64 h,.iface 307 (.agg #[.int .i64 k,.int .i64 v])] 303)).alloc (.cells #[.int .i64 k,.int .i64 v] 307)).alloc (.cells #[.int .i64 h] 3)).alloc (.cells #[.pointer (some ⟨tb,0,none⟩),.pointer none,.int .i64 0,.int .i64 v,.bool true,.slice (some ⟨w1.heap.size+1+1,0,none⟩) 1 1,.slice none 0 0] 320)).setCell ⟨w.heap.size,0,none⟩ (.int .i64 0)).setCell ⟨w.heap.size,1,none⟩ (.int .i64 v)).setCell ⟨w.heap.size,2,none⟩ (.bool true)).setCell ⟨w.heap.size,3,none⟩ (.slice (some ⟨w1.heap.size+1+1,0,none⟩) 1 1)).setCell ⟨w.heap.size,4,none⟩ (.slice none 0 0)):=((((((HO1.out.alloc _).alloc _).alloc _).alloc _).mono (Y:=[w.heap.size]) (by simp)).trans hset).fresh (fun k hk hl=>by simp at hk;omega)
 refine bodyPost_ret (v:=Edit2 (dropEdit v h) (.slice (some ⟨w1.heap.size+1+1,0,none⟩) 1 1) (.slice none 0 0)) (by simp[results,Tryz.results212,go_sem,e0,e1,e2,e3,e4,Edit2,dropEdit,EditS.zero]) rfl ⟨_,_,rfl,HP.out.only hall (by simp),?_,World.ownsRow_nil _ _ 3 1,(fun g hg=>by simp[Value.ownBlock]),hall.mono (by simp)⟩
 exact Qe (World.ownsRow.alloc W0r _) hset (fun k hk=>by simp[Value.ownBlock] at hk;simp;omega)
section
variable (w:World)(tb:Nat)(L:PoolL)(S:PoolS)(hp:PoolAt w L S)(ht:Blk w tb [ptr L.pb] 187)(hx2:tb∉L.blocks)(root h k v:Int)(h0:root≠0)(hk:Qt k=true)(way:List StepS)(pre:List StepS)(p:Nat)(f l rr c hh:Int)
include w tb L S hp ht hx2 root h k v h0 hk way pre p f l rr c hh
theorem drop_all:(∀(hwz:way=pre ++ [⟨p,f,l,rr,c,hh,false⟩]) (hx:S.down root k=some (way,h,.leaf k v)) (hst:∀x∈way,StepOk x) (hwl:way.length≤64) (m':EditS) (S':PoolS) (hU:Zl (-1) pre.reverse ({dropEdit v h with root:=rr,gone:=[h,hh]},S)=some (m',S')),Calls prog 212 #[ptr tb,.pointer none,.int .i64 root,.int .i64 k] w (Putted L m' S' w)) ∧
  (∀(hwz:way=pre ++ [⟨p,f,l,rr,c,hh,true⟩]) (hx:S.down root k=some (way,h,.leaf k v)) (hst:∀x∈way,StepOk x) (hwl:way.length≤64) (m':EditS) (S':PoolS) (hU:Zl (-1) pre.reverse ({dropEdit v h with root:=l,gone:=[h,hh]},S)=some (m',S')),Calls prog 212 #[ptr tb,.pointer none,.int .i64 root,.int .i64 k] w (Putted L m' S' w)):=by
 refine⟨?_,?_⟩
 intro hwz hx hst hwl m' S' hU;have tg1:=0;rotate_left
 intro hwz hx hst hwl m' S' hU;rotate_left
 all_goals
  have hkey:=fun W=>key_any k W
  rw[hk] at hkey
  have hd:=down_iface _ tb L S (hp.alloc (.cells #[.int .i64 0,.int .i64 0,.bool false,.slice none 0 0,.slice none 0 0] 264)) (ht.alloc _) root k way h _ hx 307 (.agg #[.int .i64 k,.int .i64 v]) rfl
  have hta:=assertLeaf2 k v
  have hq:(root == 0)=false:=by simp[h0]
  have hb0:Blk (w.alloc (.cells #[.int .i64 0,.int .i64 0,.bool false,.slice none 0 0,.slice none 0 0] 264)) w.heap.size [.int .i64 0,.int .i64 0,.bool false,.slice none 0 0,.slice none 0 0] 264:=Blk.new w _ 264
  have hlt:=hp.lt
  have htl:=ht.lt
  have HK:=hid hkey
  have HD:=hid hd
  have HB0:=hid hb0
  have HP:=hid hp
  have HT:=hid ht
  have HX:=hid hx2
  have HLT:=hid hlt
  have HTL:=hid htl
  have hwlen:way.length=pre.length+1:=by rw[hwz];simp
  first|(have _:=tg1;have hget:way[pre.length]?=some ⟨p,f,l,rr,c,hh,false⟩:=by rw[hwz];simp)|(have hget:way[pre.length]?=some ⟨p,f,l,rr,c,hh,true⟩:=by rw[hwz];simp)
  have hok:=hst _ (List.mem_of_getElem? hget)
  have HST:=hid hst
  have HWL:=hid hwl
  have HU:=hid hU
  have HWZ:=hid hwz
  have HGET:=hid hget
  have HOK:=hid hok
  have HWLEN:=hid hwlen
  have hw1:IntKind.i64.wrap (((pre.length+1:Nat):Int)-1)=(pre.length:Int):=by
   rw[show ((pre.length+1:Nat):Int)-1=(pre.length:Int) by omega]
   exact IntWalk.i64_in _ (by omega)
  have hw2:IntKind.i64.wrap (pre.length:Int)=(pre.length:Int):=IntWalk.i64_in _ (by omega)
  have hn0:¬((pre.length:Int)+1=0):=by omega
  have hn1:(0:Int)≤(pre.length:Int):=by omega
  have hn2:(pre.length:Int)<((pre.length+1:Nat):Int):=by omega
  have hn3:(pre.length:Int)<(pre.length:Int)+1:=by omega
  unfold ptr at *
  rw[hwlen] at HD
  clear hp ht hx hd hkey hk hb0 h0 hx2 hlt htl hst hwl hU hget hok hwlen
  generalize hnn:pre.length=n at *
  clear hnn
  go_enter func212,ntmps212
  go_wp2_with (first|(go_at_call 195;refine (HK.out _).mono ?_;rintro e w' ⟨rfl,rfl⟩)|(go_at_call 197;refine HD.out.mono ?_;rintro e w1 ⟨wv,rfl,hwo,hb⟩;obtain⟨wA,wc,rfl,hwr,hwn⟩:=Qc hwo;have hn:=HB0.out.only hb (by simp);have ho1:Only [] w w1:=((Only.refl [] w).alloc _).trans hb;have HN:=hid hn;have HO1:=hid ho1;have HWO:=hid hwo;have HWR:=hid hwr;obtain⟨ab,off,rfl,hcell⟩:=row_step (show Row w1 wA (way.flatMap StepS.cells) from hwr) HGET.out;have r0:((((w1.alloc (.cells #[.int .i64 h,.iface 307 (.agg #[.int .i64 k,.int .i64 v])] 303)).alloc (.cells #[.int .i64 k,.int .i64 v] 307)).alloc (.cells #[.int .i64 h] 3)).alloc (.cells #[.pointer (some ⟨tb,0,none⟩),.pointer none,.int .i64 0,.int .i64 v,.bool true,.slice (some ⟨w1.heap.size+1+1,0,none⟩) 1 1,.slice none 0 0] 320)).cell? ⟨ab,off+n*7,none⟩=some (.int .i64 (p:Int)):=Qb (Qb (Qb (Qb (hcell 0 _ rfl) _) _) _) _;have r1:((((w1.alloc (.cells #[.int .i64 h,.iface 307 (.agg #[.int .i64 k,.int .i64 v])] 303)).alloc (.cells #[.int .i64 k,.int .i64 v] 307)).alloc (.cells #[.int .i64 h] 3)).alloc (.cells #[.pointer (some ⟨tb,0,none⟩),.pointer none,.int .i64 0,.int .i64 v,.bool true,.slice (some ⟨w1.heap.size+1+1,0,none⟩) 1 1,.slice none 0 0] 320)).cell? ⟨ab,off+n*7+1,none⟩=some (.int .i64 f):=Qb (Qb (Qb (Qb (hcell 1 _ rfl) _) _) _) _;have r2:((((w1.alloc (.cells #[.int .i64 h,.iface 307 (.agg #[.int .i64 k,.int .i64 v])] 303)).alloc (.cells #[.int .i64 k,.int .i64 v] 307)).alloc (.cells #[.int .i64 h] 3)).alloc (.cells #[.pointer (some ⟨tb,0,none⟩),.pointer none,.int .i64 0,.int .i64 v,.bool true,.slice (some ⟨w1.heap.size+1+1,0,none⟩) 1 1,.slice none 0 0] 320)).cell? ⟨ab,off+n*7+2,none⟩=some (.int .i64 l):=Qb (Qb (Qb (Qb (hcell 2 _ rfl) _) _) _) _;have r3:((((w1.alloc (.cells #[.int .i64 h,.iface 307 (.agg #[.int .i64 k,.int .i64 v])] 303)).alloc (.cells #[.int .i64 k,.int .i64 v] 307)).alloc (.cells #[.int .i64 h] 3)).alloc (.cells #[.pointer (some ⟨tb,0,none⟩),.pointer none,.int .i64 0,.int .i64 v,.bool true,.slice (some ⟨w1.heap.size+1+1,0,none⟩) 1 1,.slice none 0 0] 320)).cell? ⟨ab,off+n*7+3,none⟩=some (.int .i64 rr):=Qb (Qb (Qb (Qb (hcell 3 _ rfl) _) _) _) _;have r4:((((w1.alloc (.cells #[.int .i64 h,.iface 307 (.agg #[.int .i64 k,.int .i64 v])] 303)).alloc (.cells #[.int .i64 k,.int .i64 v] 307)).alloc (.cells #[.int .i64 h] 3)).alloc (.cells #[.pointer (some ⟨tb,0,none⟩),.pointer none,.int .i64 0,.int .i64 v,.bool true,.slice (some ⟨w1.heap.size+1+1,0,none⟩) 1 1,.slice none 0 0] 320)).cell? ⟨ab,off+n*7+4,none⟩=some (.int .i64 c):=Qb (Qb (Qb (Qb (hcell 4 _ rfl) _) _) _) _;have r5:((((w1.alloc (.cells #[.int .i64 h,.iface 307 (.agg #[.int .i64 k,.int .i64 v])] 303)).alloc (.cells #[.int .i64 k,.int .i64 v] 307)).alloc (.cells #[.int .i64 h] 3)).alloc (.cells #[.pointer (some ⟨tb,0,none⟩),.pointer none,.int .i64 0,.int .i64 v,.bool true,.slice (some ⟨w1.heap.size+1+1,0,none⟩) 1 1,.slice none 0 0] 320)).cell? ⟨ab,off+n*7+5,none⟩=some (.int .i64 hh):=Qb (Qb (Qb (Qb (hcell 5 _ rfl) _) _) _) _;(first|(have _:=tg1;have r6:((((w1.alloc (.cells #[.int .i64 h,.iface 307 (.agg #[.int .i64 k,.int .i64 v])] 303)).alloc (.cells #[.int .i64 k,.int .i64 v] 307)).alloc (.cells #[.int .i64 h] 3)).alloc (.cells #[.pointer (some ⟨tb,0,none⟩),.pointer none,.int .i64 0,.int .i64 v,.bool true,.slice (some ⟨w1.heap.size+1+1,0,none⟩) 1 1,.slice none 0 0] 320)).cell? ⟨ab,off+n*7+6,none⟩=some (.bool false):=Qb (Qb (Qb (Qb (hcell 6 _ rfl) _) _) _) _)|(have r6:((((w1.alloc (.cells #[.int .i64 h,.iface 307 (.agg #[.int .i64 k,.int .i64 v])] 303)).alloc (.cells #[.int .i64 k,.int .i64 v] 307)).alloc (.cells #[.int .i64 h] 3)).alloc (.cells #[.pointer (some ⟨tb,0,none⟩),.pointer none,.int .i64 0,.int .i64 v,.bool true,.slice (some ⟨w1.heap.size+1+1,0,none⟩) 1 1,.slice none 0 0] 320)).cell? ⟨ab,off+n*7+6,none⟩=some (.bool true):=Qb (Qb (Qb (Qb (hcell 6 _ rfl) _) _) _) _));clear hb hwo hn ho1 hwr hcell))
  have hlt1:w.heap.size<w1.heap.size:=HN.out.lt
  first|(have _:=tg1;obtain⟨W6,hW6⟩:∃W6,(((((w1.alloc (.cells #[.int .i64 h,.iface 307 (.agg #[.int .i64 k,.int .i64 v])] 303)).alloc (.cells #[.int .i64 k,.int .i64 v] 307)).alloc (.cells #[.int .i64 h] 3)).alloc (.cells #[.pointer (some ⟨tb,0,none⟩),.pointer none,.int .i64 rr,.int .i64 v,.bool true,.slice (some ⟨w1.heap.size+1+1,0,none⟩) 1 1,.slice none 0 0] 320)).alloc (.cells #[.int .i64 (p:Int),.int .i64 f,.int .i64 l,.int .i64 rr,.int .i64 c,.int .i64 hh,.bool false] 339))=W6:=⟨_,rfl⟩)|(obtain⟨W6,hW6⟩:∃W6,(((((w1.alloc (.cells #[.int .i64 h,.iface 307 (.agg #[.int .i64 k,.int .i64 v])] 303)).alloc (.cells #[.int .i64 k,.int .i64 v] 307)).alloc (.cells #[.int .i64 h] 3)).alloc (.cells #[.pointer (some ⟨tb,0,none⟩),.pointer none,.int .i64 l,.int .i64 v,.bool true,.slice (some ⟨w1.heap.size+1+1,0,none⟩) 1 1,.slice none 0 0] 320)).alloc (.cells #[.int .i64 (p:Int),.int .i64 f,.int .i64 l,.int .i64 rr,.int .i64 c,.int .i64 hh,.bool true] 339))=W6:=⟨_,rfl⟩)
  rw[hW6]
  have hs3:(((w1.alloc (.cells #[.int .i64 h,.iface 307 (.agg #[.int .i64 k,.int .i64 v])] 303)).alloc (.cells #[.int .i64 k,.int .i64 v] 307)).alloc (.cells #[.int .i64 h] 3)).heap.size=w1.heap.size+1+1+1:=by simp
  first|(have _:=tg1;have hs4:((((w1.alloc (.cells #[.int .i64 h,.iface 307 (.agg #[.int .i64 k,.int .i64 v])] 303)).alloc (.cells #[.int .i64 k,.int .i64 v] 307)).alloc (.cells #[.int .i64 h] 3)).alloc (.cells #[.pointer (some ⟨tb,0,none⟩),.pointer none,.int .i64 rr,.int .i64 v,.bool true,.slice (some ⟨w1.heap.size+1+1,0,none⟩) 1 1,.slice none 0 0] 320)).heap.size=w1.heap.size+1+1+1+1:=by simp)|(have hs4:((((w1.alloc (.cells #[.int .i64 h,.iface 307 (.agg #[.int .i64 k,.int .i64 v])] 303)).alloc (.cells #[.int .i64 k,.int .i64 v] 307)).alloc (.cells #[.int .i64 h] 3)).alloc (.cells #[.pointer (some ⟨tb,0,none⟩),.pointer none,.int .i64 l,.int .i64 v,.bool true,.slice (some ⟨w1.heap.size+1+1,0,none⟩) 1 1,.slice none 0 0] 320)).heap.size=w1.heap.size+1+1+1+1:=by simp)
  have hs2:((w1.alloc (.cells #[.int .i64 h,.iface 307 (.agg #[.int .i64 k,.int .i64 v])] 303)).alloc (.cells #[.int .i64 k,.int .i64 v] 307)).heap.size=w1.heap.size+1+1:=by simp
  first
  |have _:=tg1
   have hB6:Blk W6 (w1.heap.size+1+1+1) [.pointer (some ⟨tb,0,none⟩),.pointer none,.int .i64 rr,.int .i64 v,.bool true,.slice (some ⟨w1.heap.size+1+1,0,none⟩) 1 1,.slice none 0 0] 320:=by
    have:=Blk.new (((w1.alloc (.cells #[.int .i64 h,.iface 307 (.agg #[.int .i64 k,.int .i64 v])] 303)).alloc (.cells #[.int .i64 k,.int .i64 v] 307)).alloc (.cells #[.int .i64 h] 3)) [.pointer (some ⟨tb,0,none⟩),.pointer none,.int .i64 rr,.int .i64 v,.bool true,.slice (some ⟨w1.heap.size+1+1,0,none⟩) 1 1,.slice none 0 0] 320
    rw[hs3] at this
    exact hW6 ▸ this.alloc _
   have hq6:Blk W6 (w1.heap.size+1+1+1+1) [.int .i64 (p:Int),.int .i64 f,.int .i64 l,.int .i64 rr,.int .i64 c,.int .i64 hh,.bool false] 339:=by
    have:=Blk.new ((((w1.alloc (.cells #[.int .i64 h,.iface 307 (.agg #[.int .i64 k,.int .i64 v])] 303)).alloc (.cells #[.int .i64 k,.int .i64 v] 307)).alloc (.cells #[.int .i64 h] 3)).alloc (.cells #[.pointer (some ⟨tb,0,none⟩),.pointer none,.int .i64 rr,.int .i64 v,.bool true,.slice (some ⟨w1.heap.size+1+1,0,none⟩) 1 1,.slice none 0 0] 320)) [.int .i64 (p:Int),.int .i64 f,.int .i64 l,.int .i64 rr,.int .i64 c,.int .i64 hh,.bool false] 339
    rw[hs4] at this
    exact hW6 ▸ this
  |have hB6:Blk W6 (w1.heap.size+1+1+1) [.pointer (some ⟨tb,0,none⟩),.pointer none,.int .i64 l,.int .i64 v,.bool true,.slice (some ⟨w1.heap.size+1+1,0,none⟩) 1 1,.slice none 0 0] 320:=by
    have:=Blk.new (((w1.alloc (.cells #[.int .i64 h,.iface 307 (.agg #[.int .i64 k,.int .i64 v])] 303)).alloc (.cells #[.int .i64 k,.int .i64 v] 307)).alloc (.cells #[.int .i64 h] 3)) [.pointer (some ⟨tb,0,none⟩),.pointer none,.int .i64 l,.int .i64 v,.bool true,.slice (some ⟨w1.heap.size+1+1,0,none⟩) 1 1,.slice none 0 0] 320
    rw[hs3] at this
    exact hW6 ▸ this.alloc _
   have hq6:Blk W6 (w1.heap.size+1+1+1+1) [.int .i64 (p:Int),.int .i64 f,.int .i64 l,.int .i64 rr,.int .i64 c,.int .i64 hh,.bool true] 339:=by
    have:=Blk.new ((((w1.alloc (.cells #[.int .i64 h,.iface 307 (.agg #[.int .i64 k,.int .i64 v])] 303)).alloc (.cells #[.int .i64 k,.int .i64 v] 307)).alloc (.cells #[.int .i64 h] 3)).alloc (.cells #[.pointer (some ⟨tb,0,none⟩),.pointer none,.int .i64 l,.int .i64 v,.bool true,.slice (some ⟨w1.heap.size+1+1,0,none⟩) 1 1,.slice none 0 0] 320)) [.int .i64 (p:Int),.int .i64 f,.int .i64 l,.int .i64 rr,.int .i64 c,.int .i64 hh,.bool true] 339
    rw[hs4] at this
    exact hW6 ▸ this
  have ho6:Only [] w1 W6:=hW6 ▸ (((((Only.refl [] w1).alloc _).alloc _).alloc _).alloc _).alloc _
  have hg6:W6.ownsRow w1.heap.size 3 1 (.slice (some ⟨w1.heap.size+1+1,0,none⟩) 1 1) 1 [.int .i64 h]:=by
   have W0r:=World.ownsRow_lit (base:=w1.heap.size) (e:=3) (size:=1) ((w1.alloc (.cells #[.int .i64 h,.iface 307 (.agg #[.int .i64 k,.int .i64 v])] 303)).alloc (.cells #[.int .i64 k,.int .i64 v] 307)) #[.int .i64 h] 1 (by simp;omega) (by decide) rfl
   rw[hs2] at W0r
   exact hW6 ▸ (World.ownsRow.alloc (World.ownsRow.alloc W0r _) _)
  have hsz6:W6.heap.size=w1.heap.size+1+1+1+1+1:=by rw[←hW6];simp
  have HB6:=hid hB6
  have HQ6:=hid hq6
  have HO6:=hid ho6
  have HG6:=hid hg6
  have HSZ6:=hid hsz6
  clear hW6 hs3 hs4 hs2 hB6 hq6 ho6 hg6 hsz6 r0 r1 r2 r3 r4 r5 r6
  generalize hmbE:w1.heap.size+1+1+1=mb at *
  generalize hgbE:w1.heap.size+1+1=gb at *
  have HE:=hid (show mb=w1.heap.size+3∧gb=w1.heap.size+2 from ⟨by omega,by omega⟩)
  clear hmbE hgbE
  have z5:=HQ6.out.cell (i:=5) rfl
  have z5a:=hid (show ((W6.alloc (.cells #[.int .i64 hh] 3)).drew).cell? ⟨mb+1,5,none⟩=some (.int .i64 hh) from Qb z5 _)
  have z5d:=hid (show (W6.drew).cell? ⟨mb+1,5,none⟩=some (.int .i64 hh) from z5)
  have g5:W6.cell? ⟨mb,5,none⟩=some (.slice (some ⟨gb,0,none⟩) 1 1):=HB6.out.cell rfl
  have g5a:(W6.alloc (.cells #[.int .i64 hh] 3)).cell? ⟨mb,5,none⟩=some (.slice (some ⟨gb,0,none⟩) 1 1):=Qb g5 _
  have HROW:=hid (show ((W6.alloc (.cells #[.int .i64 hh] 3)).drew).ownsRow w1.heap.size 3 1 (.slice (some ⟨gb,0,none⟩) 1 1) 1 [.int .i64 h] from (World.ownsRow.alloc HG6.out _).drew)
  have HRN:=hid (show Row ((W6.alloc (.cells #[.int .i64 hh] 3)).drew) (some ⟨W6.heap.size,0,none⟩) [.int .i64 hh] from Zg W6 [.int .i64 hh] 3)
  first|(have _:=tg1;have HBA:=hid (show Blk ((W6.alloc (.cells #[.int .i64 hh] 3)).drew) mb [.pointer (some ⟨tb,0,none⟩),.pointer none,.int .i64 rr,.int .i64 v,.bool true,.slice (some ⟨gb,0,none⟩) 1 1,.slice none 0 0] 320 from (HB6.out.alloc _).drew);have HQA:=hid (show Blk ((W6.alloc (.cells #[.int .i64 hh] 3)).drew) (mb+1) [.int .i64 (p:Int),.int .i64 f,.int .i64 l,.int .i64 rr,.int .i64 c,.int .i64 hh,.bool false] 339 from (HQ6.out.alloc _).drew))|(have HBA:=hid (show Blk ((W6.alloc (.cells #[.int .i64 hh] 3)).drew) mb [.pointer (some ⟨tb,0,none⟩),.pointer none,.int .i64 l,.int .i64 v,.bool true,.slice (some ⟨gb,0,none⟩) 1 1,.slice none 0 0] 320 from (HB6.out.alloc _).drew);have HQA:=hid (show Blk ((W6.alloc (.cells #[.int .i64 hh] 3)).drew) (mb+1) [.int .i64 (p:Int),.int .i64 f,.int .i64 l,.int .i64 rr,.int .i64 c,.int .i64 hh,.bool true] 339 from (HQ6.out.alloc _).drew))
  have HL3:=hid (show mb+2≤((W6.alloc (.cells #[.int .i64 hh] 3)).drew).heap.size from Nat.le_trans (by have:=HSZ6.out;omega:mb+2≤W6.heap.size) (Qg _ _))
  refine wp_region_held_drew (S:=(fun W=>W.cell? ⟨mb+1,5,none⟩=some (.int .i64 hh))) (by kernel_rfl) ?_ (fun hHeld=>?_)
  ·exact z5d.out
  refine tk 0 ?_
  refine tk 1 ?_
  refine tk 2 ?_
  refine tk 3 ?_
  refine tk 4 ?_
  refine tk 6 ?_
  refine tk 7 ?_
  refine on2 5 8 (fun K hK=>?_) (fun K hK=>?_)
  go_simp
  refine hK.out _ _ (z5d.out) (fun hHeld=>?_)
  clear hK K
  try simp only[sp]
  refine on1 8 (fun K hK=>?_)
  go_simp
  refine hK.out _ _ (z5a.out) (fun hHeld=>?_)
  clear hK K
  try simp only[sp]
  refine on1 9 (fun K hK=>?_)
  refine step_append_full (base':=mb+2) rfl (.tmp 100) (.tmp 103) rfl elemInt rfl HROW.out ⟨W6.heap.size,0,none⟩ 1 _ [.int .i64 hh] rfl HRN.out rfl (by decide) (by decide) (by decide) HL3.out ?_
  intro v3 w3 hown3 hg3 hat3
  have hg3:((W6.alloc (.cells #[.int .i64 hh] 3)).drew).grownBy w3 none:=hg3
  first|(have _:=tg1;have hb3:Blk w3 mb [.pointer (some ⟨tb,0,none⟩),.pointer none,.int .i64 rr,.int .i64 v,.bool true,.slice (some ⟨gb,0,none⟩) 1 1,.slice none 0 0] 320:=Qm HBA.out hg3 (fun e=>by cases e))|(have hb3:Blk w3 mb [.pointer (some ⟨tb,0,none⟩),.pointer none,.int .i64 l,.int .i64 v,.bool true,.slice (some ⟨gb,0,none⟩) 1 1,.slice none 0 0] 320:=Qm HBA.out hg3 (fun e=>by cases e))
  have HOWN3:=hid hown3
  have HG3:=hid hg3
  have d3:=hb3.cell (i:=5) rfl
  have f3:=hb3.frozen
  have HB3:=hid hb3
  obtain⟨A3,c3,rfl,_,_⟩:=Qc hown3
  clear hown3 hg3 hat3 hb3
  refine hK.out _ _ (show w3.cell? ⟨mb+1,5,none⟩=some (.int .i64 hh) from (Qm HQA.out HG3.out (fun e=>by cases e)).cell rfl) (fun hHeld=>?_)
  clear hK K
  try simp only[sp]
  refine tk 10 ?_
  refine tk 11 ?_
  refine tk 12 ?_
  refine on1 13 (fun K hK=>?_)
  go_simp
  refine hK.out _ _ (show (w3.setCell ⟨mb,5,none⟩ _).cell? ⟨mb+1,5,none⟩=some (.int .i64 hh) from Qa ((Only.refl [mb] w3).setCell (.inl (by simp)) _) ((Qm HQA.out HG3.out (fun e=>by cases e)).cell rfl) (by simp)) (fun hHeld=>?_)
  clear hK K
  try simp only[sp]
  refine wpAnyH_done (by kernel_rfl) ?_ _
  rotate_left 1
  go_simp
  refine hK.out _ _ (z5a.out) (fun hHeld=>?_)
  clear hK K
  try simp only[sp]
  refine on1 5 (fun K hK=>?_)
  go_simp
  refine hK.out _ _ (z5a.out) (fun hHeld=>?_)
  clear hK K
  try simp only[sp]
  refine on1 9 (fun K hK=>?_)
  refine step_append_full (base':=mb+2) rfl (.tmp 100) (.tmp 103) rfl elemInt rfl HROW.out ⟨W6.heap.size,0,none⟩ 1 _ [.int .i64 hh] rfl HRN.out rfl (by decide) (by decide) (by decide) HL3.out ?_
  intro v3 w3 hown3 hg3 hat3
  have hg3:((W6.alloc (.cells #[.int .i64 hh] 3)).drew).grownBy w3 none:=hg3
  first|(have _:=tg1;have hb3:Blk w3 mb [.pointer (some ⟨tb,0,none⟩),.pointer none,.int .i64 rr,.int .i64 v,.bool true,.slice (some ⟨gb,0,none⟩) 1 1,.slice none 0 0] 320:=Qm HBA.out hg3 (fun e=>by cases e))|(have hb3:Blk w3 mb [.pointer (some ⟨tb,0,none⟩),.pointer none,.int .i64 l,.int .i64 v,.bool true,.slice (some ⟨gb,0,none⟩) 1 1,.slice none 0 0] 320:=Qm HBA.out hg3 (fun e=>by cases e))
  have HOWN3:=hid hown3
  have HG3:=hid hg3
  have d3:=hb3.cell (i:=5) rfl
  have f3:=hb3.frozen
  have HB3:=hid hb3
  obtain⟨A3,c3,rfl,_,_⟩:=Qc hown3
  clear hown3 hg3 hat3 hb3
  refine hK.out _ _ (show w3.cell? ⟨mb+1,5,none⟩=some (.int .i64 hh) from (Qm HQA.out HG3.out (fun e=>by cases e)).cell rfl) (fun hHeld=>?_)
  clear hK K
  try simp only[sp]
  refine tk 10 ?_
  refine tk 11 ?_
  refine tk 12 ?_
  refine on1 13 (fun K hK=>?_)
  go_simp
  refine hK.out _ _ (show (w3.setCell ⟨mb,5,none⟩ _).cell? ⟨mb+1,5,none⟩=some (.int .i64 hh) from Qa ((Only.refl [mb] w3).setCell (.inl (by simp)) _) ((Qm HQA.out HG3.out (fun e=>by cases e)).cell rfl) (by simp)) (fun hHeld=>?_)
  clear hK K
  try simp only[sp]
  refine wpAnyH_done (by kernel_rfl) ?_ _
  all_goals
   have hwa:Only [] W6 ((W6.alloc (.cells #[.int .i64 hh] 3)).drew):=((Only.refl [] W6).alloc _).drew'
   have hgr:Only [] W6 w3:=hwa.grown HG3.out (fun k hk=>by cases hk)
   obtain⟨w4,hw4⟩:∃w4,w3.setCell ⟨mb,5,none⟩ (.slice A3 (1+1) c3)=w4:=⟨_,rfl⟩
   rw[hw4]
   have hset:Only [mb] w3 w4:=hw4 ▸ (Only.refl _ _).setCell (.inl (by simp)) _
   first|(have _:=tg1;have hb4:Blk w4 mb [.pointer (some ⟨tb,0,none⟩),.pointer none,.int .i64 rr,.int .i64 v,.bool true,.slice A3 2 c3,.slice none 0 0] 320:=hw4 ▸ HB3.out.set 5 _)|(have hb4:Blk w4 mb [.pointer (some ⟨tb,0,none⟩),.pointer none,.int .i64 l,.int .i64 v,.bool true,.slice A3 2 c3,.slice none 0 0] 320:=hw4 ▸ HB3.out.set 5 _)
   have hr4:w4.ownsRow (mb+2) 3 1 (.slice A3 2 c3) 2 (Zc [h,hh]):=Qe HOWN3.out hset (fun k hk=>by have:=(HOWN3.out.lt k hk).1;simp;omega)
   have ho14:Only [mb] w1 w4:=((HO6.out.trans hgr).mono (by simp)).trans hset
   have hE:=HE.out
   have hab:w.heap.size+1≤ab∧ab<w1.heap.size:=by
    have h2:=row_block HWO.out
    have h3:(w.alloc (.cells #[.int .i64 0,.int .i64 0,.bool false,.slice none 0 0,.slice none 0 0] 264)).heap.size=w.heap.size+1:=World.size_alloc _ _
    exact⟨by have:=h2.1;dsimp only at this;omega,h2.2⟩
   have hcap:n+1≤wc:=by
    rcases HWO.out.2 with ⟨h1,_⟩|⟨g,cap,cur,h1,_,_,h2,_⟩
    ·cases h1
    ·injection h1 with _ _ h1
     omega
   have hrowp:Row w4 (some ⟨ab,off,none⟩) (pre.flatMap StepS.cells):=by
    intro j u hu
    have:=HWR.out j u (by rw[HWZ.out,List.flatMap_append,List.getElem?_append_left (List.getElem?_eq_some_iff.1 hu).1];exact hu)
    obtain⟨b0,off0,e1,hc⟩:=this
    cases e1
    exact⟨ab,off,rfl,Qa ho14 hc (by simp;omega)⟩
   have hpl:pre.length=n:=by have h1:=HWLEN.out;have h2:=congrArg List.length HWZ.out;simp at h2;omega
   first|(have _:=tg1;have hup:=upwards_any w4 (mb+2) mb tb L S {dropEdit v h with root:=rr,gone:=[h,hh]} (.slice A3 2 c3) (.slice none 0 0) ((HP.out.only HO1.out (by simp)).only ho14 (fun k hk hc=>by have:=HLT.out k hk;simp at hc;omega)) ((HT.out.only HO1.out (by simp)).only ho14 (by have:=HTL.out;simp;omega)) ⟨hb4,hr4,World.ownsRow_nil _ _ 3 1,by omega,(fun g hg=>by simp[Value.ownBlock]),by have:=HSZ6.out;have:=hgr.size;have:=hset.size;omega⟩ HOK.out.2.2.2.2.1 (fun e=>by have:=HLT.out _ e;omega) HX.out (by have:=HTL.out;omega) (fun k hk=>by have:=HLT.out k hk;omega) (by have:=HTL.out;omega) pre (some ⟨ab,off,none⟩) wc hrowp (fun b hb=>by cases hb;exact⟨by dsimp only;omega,by dsimp only;omega,fun hc=>by have:=HLT.out _ (Qf hc);dsimp only at this;omega⟩) (fun s hs=>HST.out s (by rw[HWZ.out];simp[hs])) (by have:=HWL.out;have:=HWLEN.out;omega) (by simp[dropEdit,EditS.zero]) (by simp) (-1) (by omega) (m',S') HU.out)|(have hup:=upwards_any w4 (mb+2) mb tb L S {dropEdit v h with root:=l,gone:=[h,hh]} (.slice A3 2 c3) (.slice none 0 0) ((HP.out.only HO1.out (by simp)).only ho14 (fun k hk hc=>by have:=HLT.out k hk;simp at hc;omega)) ((HT.out.only HO1.out (by simp)).only ho14 (by have:=HTL.out;simp;omega)) ⟨hb4,hr4,World.ownsRow_nil _ _ 3 1,by omega,(fun g hg=>by simp[Value.ownBlock]),by have:=HSZ6.out;have:=hgr.size;have:=hset.size;omega⟩ HOK.out.2.2.2.1 (fun e=>by have:=HLT.out _ e;omega) HX.out (by have:=HTL.out;omega) (fun k hk=>by have:=HLT.out k hk;omega) (by have:=HTL.out;omega) pre (some ⟨ab,off,none⟩) wc hrowp (fun b hb=>by cases hb;exact⟨by dsimp only;omega,by dsimp only;omega,fun hc=>by have:=HLT.out _ (Qf hc);dsimp only at this;omega⟩) (fun s hs=>HST.out s (by rw[HWZ.out];simp[hs])) (by have:=HWL.out;have:=HWLEN.out;omega) (by simp[dropEdit,EditS.zero]) (by simp) (-1) (by omega) (m',S') HU.out)
   rw[hpl] at hup
   have hn4:Blk w4 w.heap.size [.int .i64 0,.int .i64 0,.bool false,.slice none 0 0,.slice none 0 0] 264:=HN.out.only ho14 (by simp;omega)
   have hc1:¬(wc:Int)<(n:Int):=by omega
   have hc2:¬wc=0:=by omega
   have hc3:(n:Int)≤(wc:Int):=by omega
   have HUP:=hid hup
   have HN4:=hid hn4
   have HO14:=hid ho14
   unfold ptr at HUP
   clear hup hn4 ho14 hrowp hpl hset hgr hwa hb4 hr4 hw4 hcap hab z5 g5 g5a d3 f3 hE
   go_wp2_with (go_at_call 207;refine HUP.out.mono ?_;rintro e w5 he;obtain⟨gv,mv,D,rfl,h1,h2,h3,h4⟩:=he;obtain⟨gA,gc,rfl,_,_⟩:=Qc h2.gone;obtain⟨mA,mc,rfl,_,_⟩:=Qc h2.made;have hbr3:Blk w5 w.heap.size [.int .i64 0,.int .i64 0,.bool false,.slice none 0 0,.slice none 0 0] 264:=HN4.out.only h3 (by have:=HE.out;simp only[List.cons_append,List.mem_cons,List.mem_append];rintro (e|e|e);omega;have:=HLT.out _ (Qf e);omega;have:=h4 _ e;omega);have d2:w5.cell? ⟨mb,2,none⟩=some (.int .i64 m'.root):=h2.blk.cell rfl;have d3:w5.cell? ⟨mb,3,none⟩=some (.int .i64 m'.old):=h2.blk.cell rfl;have d4:w5.cell? ⟨mb,4,none⟩=some (.bool m'.had):=h2.blk.cell rfl;have d5:w5.cell? ⟨mb,5,none⟩=some (.slice gA m'.gone.length gc):=h2.blk.cell rfl;have d6:w5.cell? ⟨mb,6,none⟩=some (.slice mA m'.made.length mc):=h2.blk.cell rfl;have f:=hbr3.frozen;have e0:=hbr3.cell (i:=0) rfl;have e1:=hbr3.cell (i:=1) rfl;have e2:=hbr3.cell (i:=2) rfl;have e3:=hbr3.cell (i:=3) rfl;have e4:=hbr3.cell (i:=4) rfl;have H1:=hid h1;have H2:=hid h2;have H3b:=hid h3;have H4:=hid h4;clear h1 h2 h3 h4 hbr3)
   have hE:=HE.out
   have g:Only [w.heap.size] w5 (((((w5.setCell ⟨w.heap.size,0,none⟩ (.int .i64 m'.root)).setCell ⟨w.heap.size,1,none⟩ (.int .i64 m'.old)).setCell ⟨w.heap.size,2,none⟩ (.bool m'.had)).setCell ⟨w.heap.size,3,none⟩ (.slice gA m'.gone.length gc)).setCell ⟨w.heap.size,4,none⟩ (.slice mA m'.made.length mc)):=((((((Only.refl _ _).setCell (.inl (by simp)) _).setCell (.inl (by simp)) _).setCell (.inl (by simp)) _).setCell (.inl (by simp)) _).setCell (.inl (by simp)) _)
   have hall:Only L.blocks w (((((w5.setCell ⟨w.heap.size,0,none⟩ (.int .i64 m'.root)).setCell ⟨w.heap.size,1,none⟩ (.int .i64 m'.old)).setCell ⟨w.heap.size,2,none⟩ (.bool m'.had)).setCell ⟨w.heap.size,3,none⟩ (.slice gA m'.gone.length gc)).setCell ⟨w.heap.size,4,none⟩ (.slice mA m'.made.length mc)):=by
    have h1:=(HO1.out.mono (Y:=w.heap.size :: mb :: L.blocks ++ D) (by simp)).trans ((HO14.out.mono (by intro k hk;simp at hk ⊢;simp[hk])).trans ((H3b.out.mono (by intro k hk;simp at hk ⊢;rcases hk with h|h|h <;> simp[h])).trans (g.mono (by intro k hk;simp at hk ⊢;simp[hk]))))
    refine h1.fresh (fun k hk hlt=>?_)
    have h4:=H4.out k
    simp at hk
    rcases hk with h|h|h|h
    ·omega
    ·omega
    ·exact h
    ·have:=h4 h
     omega
   refine bodyPost_ret (v:=Edit2 m' (.slice gA m'.gone.length gc) (.slice mA m'.made.length mc)) (by simp[results,Tryz.results212,go_sem,e0,e1,e2,e3,e4,Edit2]) rfl ⟨_,_,rfl,H1.out.only g (fun k hk e=>?_),?_,?_,H2.out.apart,hall⟩
   ·have:=HLT.out k hk
    simp at e
    omega
   ·exact Qn (Qe H2.out.gone g (fun k hk e=>by have:=(H2.out.gone.lt k hk).1;simp at e;omega)) (by omega)
   ·exact Qn (Qe H2.out.made g (fun k hk e=>by have:=(H2.out.made.lt k hk).1;simp at e;omega)) (by omega)
abbrev dropLeft_any:=(drop_all w tb L S hp ht hx2 root h k v h0 hk way pre p f l rr c hh).1
abbrev dropRight_any:=(drop_all w tb L S hp ht hx2 root h k v h0 hk way pre p f l rr c hh).2
end
theorem triedropNone_any (w:World)(tb:Nat)(L:PoolL)(S:PoolS)(hp:PoolAt w L S)(ht:Blk w tb [ptr L.pb] 187)(root k:Int)(hk:Qt k=true)(hw:WayIn S root k)(h:S.triedrop root k=some none):
  Calls prog 212 #[ptr tb,.pointer none,.int .i64 root,.int .i64 k] w (DropNone w):=by
 by_cases h0:root=0
 ·subst h0
  exact dropZero_any w tb L S hp ht k hk
 ·obtain⟨way,hd,s,hdn,hst,hwl,hh,hsi⟩:=hw h0
  unfold PoolS.triedrop at h
  rw[if_neg h0,hdn,Option.bind_eq_bind,Option.bind_some] at h
  cases s with
  |inner p f l r c=>exact dropInner_any w tb L S hp ht k hk root hd p f l r c h0 way hdn
  |leaf k' v'=>
   dsimp only at h
   by_cases hk':k'=k
   ·rw[if_pos hk'] at h
    cases hr:way.reverse with
    |nil=>rw[hr] at h;cases h
    |cons x l=>
     rw[hr] at h
     dsimp only at h
     cases hu:Zl (-1) l ({EditS.zero with root:=if x.isRight then x.left else x.right,old:=v',had:=true,gone:=[hd,x.h]},S) with
     |none=>rw[hu] at h;cases h
     |some y=>rw[hu] at h;cases h
   ·exact dropMiss_any w tb L S hp ht k hk root hd k' v' hk' h0 way hdn
theorem triedrop_any (w:World)(tb:Nat)(L:PoolL)(S:PoolS)(hp:PoolAt w L S)(ht:Blk w tb [ptr L.pb] 187)(hx2:tb∉L.blocks)(root k:Int)(hk:Qt k=true)(hw:WayIn S root k)(e:EditS)(S':PoolS)(h:S.triedrop root k=some (some (e,S'))):
  Calls prog 212 #[ptr tb,.pointer none,.int .i64 root,.int .i64 k] w (Putted L e S' w):=by
 by_cases h0:root=0
 ·subst h0
  cases h
 ·obtain⟨way,hd,s,hdn,hst,hwl,hh,hsi⟩:=hw h0
  unfold PoolS.triedrop at h
  rw[if_neg h0,hdn,Option.bind_eq_bind,Option.bind_some] at h
  cases s with
  |inner p f l r c=>cases h
  |leaf k' v'=>
   dsimp only at h
   by_cases hk':k'=k
   ·rw[if_pos hk'] at h
    subst hk'
    cases hr:way.reverse with
    |nil=>
     rw[hr] at h
     have hw0:way=[]:=by simpa using hr
     cases h
     exact dropLast_any w tb L S hp ht hx2 root hd k' v' h0 hk way hw0 hdn
    |cons x l=>
     rw[hr] at h
     dsimp only at h
     have hwz:way=l.reverse ++ [x]:=by
      have:=congrArg List.reverse hr
      rwa [List.reverse_reverse,List.reverse_cons] at this
     cases hu:Zl (-1) l ({EditS.zero with root:=if x.isRight then x.left else x.right,old:=v',had:=true,gone:=[hd,x.h]},S) with
     |none=>rw[hu] at h;cases h
     |some y=>
      rw[hu] at h
      obtain⟨p,f,ll,rr,c,hh',ir⟩:=x
      have hy:y=(e,S'):=by
       have:=Option.some.inj (Option.some.inj h)
       exact this
      subst hy
      cases ir with
      |false=>exact dropLeft_any w tb L S hp ht hx2 root hd k' v' h0 hk way l.reverse p f ll rr c hh' hwz hdn hst hwl e S' (by rw[List.reverse_reverse];exact hu)
      |true=>exact dropRight_any w tb L S hp ht hx2 root hd k' v' h0 hk way l.reverse p f ll rr c hh' hwz hdn hst hwl e S' (by rw[List.reverse_reverse];exact hu)
   ·rw[if_neg hk'] at h
    cases h
end Go.Proofs.YteeefedoffplmaaGreat
