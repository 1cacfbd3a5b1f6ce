/- StoreAlone, part Paf: WayDown, Fork, Upwards. -/
import Derived.Test.YteeefedoffplmaaGreatPae
import Derived.LoopN
import Derived.Deep.RegionHeld3
import Derived.Test.YteeefedoffplmaaGreatPaa
set_option linter.unusedSimpArgs false
set_option linter.unusedVariables false
set_option maxRecDepth 100000
set_option maxHeartbeats 51200000
namespace Go.Proofs.YteeefedoffplmaaGreat
open Go.RowKit Lib Go.Proofs.Tryz
def StepS.cells (s:StepS):List Value:=[.int .i64 (s.place:Int),.int .i64 s.first,.int .i64 s.left,.int .i64 s.right,.int .i64 s.count,.int .i64 s.h,.bool s.isRight]
theorem elemStep:ElemOk prog 299 339 7 56:=elemOk_of (by kernel_rfl) (by decide) (.agg #[.int .i64 0,.int .i64 0,.int .i64 0,.int .i64 0,.int .i64 0,.int .i64 0,.bool false]) (by kernel_rfl) rfl
theorem assertInner (p:Int)(f l r c:Int)(W:World):(Instr.typeAssert (.iface 335 (.agg #[.int .i64 p,.int .i64 f,.int .i64 l,.int .i64 r,.int .i64 c])) 301 335 true).run prog W=.ok (.tuple #[.agg #[.int .i64 p,.int .i64 f,.int .i64 l,.int .i64 r,.int .i64 c],.bool true]) W:=by kernel_rfl
def DownIs (r:List StepS × Int × Shape)(base:Nat)(w:World)(e:Ending)(w':World):Prop:=
 ∃v,e=.returned (.tuple #[v,.agg #[.int .i64 r.2.1,r.2.2.val],.int .i64 0])∧w'.ownsRow base 339 7 v r.1.length (r.1.flatMap StepS.cells)∧Only [] w w'
abbrev set7 (W:World)(q:Nat)(x0 x1 x2 x3 x4 x5 x6:Value):World:=
 ((((((W.setCell ⟨q,0,none⟩ x0).setCell ⟨q,1,none⟩ x1).setCell ⟨q,2,none⟩ x2).setCell ⟨q,3,none⟩ x3).setCell ⟨q,4,none⟩ x4).setCell ⟨q,5,none⟩ x5).setCell ⟨q,6,none⟩ x6
theorem only_set7 {X:List Nat}{a W:World}{q:Nat}{x0 x1 x2 x3 x4 x5 x6:Value}(h:Only X a W)(hq:q∈X∨a.heap.size≤q):Only X a (set7 W q x0 x1 x2 x3 x4 x5 x6):=
 ((((((h.setCell hq _).setCell hq _).setCell hq _).setCell hq _).setCell hq _).setCell hq _).setCell hq _
theorem blk_set7 {W:World}{q:Nat}{x0 x1 x2 x3 x4 x5 x6 y0 y1 y2 y3 y4 y5 y6:Value}{ty:TypeId}(h:Blk W q [y0,y1,y2,y3,y4,y5,y6] ty):Blk (set7 W q x0 x1 x2 x3 x4 x5 x6) q [x0,x1,x2,x3,x4,x5,x6] ty:=
 ((((((h.set 0 x0).set 1 x1).set 2 x2).set 3 x3).set 4 x4).set 5 x5).set 6 x6
def ShOk:Shape→Prop
 |.leaf ..=>True
 |.inner p f _ _ _=>p<32∧0≤f∧f<4294967296
theorem shape_ok {S:PoolS}{h lo hi:Int}{s:Shape}(hs:S.shape h lo hi=some s):ShOk s:=by
 obtain⟨x,_,h2,_,_⟩:=shape_spec hs
 rcases shaped_spec h2 with ⟨b,c,_,rfl,_⟩|⟨p,f,_,_,_,rfl,h32,hk,_⟩
 ·trivial
 ·unfold Qt K32 at hk
  simp at hk
  exact⟨h32,hk⟩
def DownRel (S:PoolS)(key:Int)(r:List StepS × Int × Shape)(w:World)(b:Nat)(k:Nat)(s12 s13:Value)(wr:World):Prop:=
 ∃way h sh,s12=.int .i64 0∧S.downFrom key k way h sh=some r∧Blk wr b [.int .i64 h,sh.val] 303∧wr.ownsRow (b+1) 339 7 s13 way.length (way.flatMap StepS.cells)∧Blk wr w.heap.size [.int .i64 0,.nilIface] 303∧Only [] w wr∧way.length+k≤40∧w.heap.size<b∧ShOk sh
theorem down_end {w wr W1:World}{b:Nat}{A:Option Addr}{cap:Nat}{way:List StepS}{h:Int}{sh:Shape}{vx:Value}{vt:TypeId}(how:wr.ownsRow (b+1) 339 7 (.slice A way.length cap) way.length (way.flatMap StepS.cells))(ho:Only [] w wr)(hw1:Only [] wr W1)
  (hb:b<wr.heap.size) (hlt:w.heap.size<b) (hv:sh.val=.iface vt vx:=by rfl):
  DownIs (way,h,sh) w.heap.size w (.returned (.tuple #[.slice A way.length cap,.agg #[.int .i64 h,.iface vt vx],.int .i64 0])) ((W1.setCell ⟨w.heap.size,0,none⟩ (.int .i64 h)).setCell ⟨w.heap.size,1,none⟩ (.iface vt vx)).drew:=by
 have ho1:Only [w.heap.size] W1 ((W1.setCell ⟨w.heap.size,0,none⟩ (.int .i64 h)).setCell ⟨w.heap.size,1,none⟩ (.iface vt vx)):=((Only.refl _ _).setCell (.inl (by simp)) _).setCell (.inl (by simp)) _
 have ho2:Only [] w ((W1.setCell ⟨w.heap.size,0,none⟩ (.int .i64 h)).setCell ⟨w.heap.size,1,none⟩ (.iface vt vx)):=((ho.trans hw1).mono (Y:=[w.heap.size]) (by simp) |>.trans ho1).fresh (fun k hk hl=>by simp at hk;omega)
 have hrow:=Qn (Qe (Qe how hw1 (by simp)) ho1 (fun k hk=>by have:=(how.lt k hk).1;simp;omega)) (by omega:w.heap.size≤b+1)
 exact⟨_,by rw[hv],hrow.drew,ho2.drew'⟩
theorem down_any (w:World)(tb:Nat)(L:PoolL)(S:PoolS)(hp:PoolAt w L S)(ht:Blk w tb [ptr L.pb] 187)(root key:Int)(r:List StepS × Int × Shape)(hr:S.down root key=some r):
  Calls prog 197 #[ptr tb,.pointer none,.int .i64 root,.int .i64 key] w (DownIs r w.heap.size w):=by
 obtain⟨sh,hsh,hd⟩:∃sh,S.shape root 0 (K32-1)=some sh∧S.downFrom key 40 [] root sh=some r:=by
  unfold PoolS.down at hr
  cases hs:S.shape root 0 (K32-1) with
  |none=>rw[hs] at hr;cases hr
  |some sh=>rw[hs] at hr;exact⟨sh,rfl,hr⟩
 have hro:=root_any _ tb L S (hp.only ((Only.refl [] w).alloc (.cells #[.int .i64 0,.nilIface] 303)) (by simp)) (ht.only ((Only.refl [] w).alloc (.cells #[.int .i64 0,.nilIface] 303)) (by simp)) root sh hsh
 have HSO:=hid (shape_ok hsh)
 have HP:=hid hp
 have HT:=hid ht
 have HD:=hid hd
 obtain⟨vt,vx,hv⟩:∃t x,sh.val=.iface t x:=by cases sh <;> exact⟨_,_,rfl⟩
 have HV:=hid hv
 rw[hv] at hro
 unfold ptr at hro ⊢
 clear hp ht hr hsh hd hv
 go_enter func197,ntmps197
 go_wp2_with (go_at_call 220;refine hro.mono ?_;rintro e w1 ⟨rfl,hb⟩;have hn:Blk w1 w.heap.size [.int .i64 0,.nilIface] 303:=(Blk.new w [.int .i64 0,.nilIface] 303).only (Only.of_below (X:=[]) hb) (by simp);have ho1:Only [] w w1:=((Only.refl [] w).alloc _).trans (.of_below hb);have HN:=hid hn;have HO1:=hid ho1;clear hb hn hro ho1)
 have hsz:w.heap.size<w1.heap.size:=HN.out.lt
 have hst:DownRel S key r w w1.heap.size 40 (.int .i64 0) (.slice none 0 0) (w1.alloc (.cells #[.int .i64 root,.iface vt vx] 303)):=
  ⟨[],root,sh,rfl,HD.out,by rw[HV.out];exact Blk.new w1 _ 303,World.ownsRow_nil _ _ 339 7,HN.out.alloc _,HO1.out.alloc _,by simp,hsz,HSO.out⟩
 have HST:=hid hst
 clear hst
 generalize w1.heap.size=b at *
 generalize w1.alloc (.cells #[.int .i64 root,.iface vt vx] 303)=ws at *
 go_loopg [12,13] 40 (fun k s12 s13 wr=>DownRel S key r w b k s12 s13 wr)
 case atStart=>exact HST.out
 case round=>
  obtain⟨way,h,sh',rfl,hd,hb,hown,h9,ho,hlen,hlt,hsok⟩:=hrel
  have HOW:=hid hown
  have H9:=hid h9
  have HO:=hid ho
  have HB:=hid hb
  have HLEN:=hid hlen
  have hb9:Blk wr w.heap.size [.int .i64 0,.nilIface] 303:=h9
  cases gk with
  |zero=>cases hd
  |succ k=>
   have hstop:∀r',some r'=some r→(way,h,sh')=r'→(way,h,sh')=r:=fun r' e1 e2=>by rw[e2];exact Option.some.inj e1
   cases sh' with
   |leaf k' v'=>
    have HR:=hid (Option.some.inj (show some (way,h,Shape.leaf k' v')=some r from hd))
    have hta:=assertLeaf k' v'
    have c0:wr.cell? ⟨b,0,none⟩=some (.int .i64 h):=hb.cell rfl
    have c1:wr.cell? ⟨b,1,none⟩=some (.iface 307 (.agg #[.int .i64 k',.int .i64 v'])):=hb.cell rfl
    have d0:(wr.alloc (.cells #[.int .i64 0,.int .i64 0,.int .i64 0,.int .i64 0,.int .i64 0] 335)).cell? ⟨b,0,none⟩=some (.int .i64 h):=Qb c0 _
    have d1:(wr.alloc (.cells #[.int .i64 0,.int .i64 0,.int .i64 0,.int .i64 0,.int .i64 0] 335)).cell? ⟨b,1,none⟩=some (.iface 307 (.agg #[.int .i64 k',.int .i64 v'])):=Qb c1 _
    have h91:Blk (wr.alloc (.cells #[.int .i64 0,.int .i64 0,.int .i64 0,.int .i64 0,.int .i64 0] 335)) w.heap.size [.int .i64 0,.nilIface] 303:=hb9.alloc _
    have n0:=h91.cell (i:=0) rfl
    have n1:=h91.cell (i:=1) rfl
    have nf:=h91.frozen
    have HW1:=hid (show Only [] wr (wr.alloc (.cells #[.int .i64 0,.int .i64 0,.int .i64 0,.int .i64 0,.int .i64 0] 335)) from (Only.refl [] wr).alloc _)
    obtain⟨A,cap,rfl,_,_⟩:=Qc hown
    clear hd hb hown h9 ho hlen hb9 hstop h91 hsok
    go_wp2_with fail
    go_region
    all_goals (try go_wp2_with fail)
    all_goals
     refine bodyPost_ret (v:=.tuple #[.slice A way.length cap,.agg #[.int .i64 h,.iface 307 (.agg #[.int .i64 k',.int .i64 v'])],.int .i64 0]) (by simp[results,Tryz.results197,go_sem,n0,n1]) rfl ?_
     rw[←HR.out]
     exact down_end HOW.out HO.out HW1.out HB.out.lt hlt
   |inner p f l rr c=>
    obtain⟨hp32,hf0,hf1⟩:=hsok
    have hta:=assertInner (p:Int) f l rr c
    have hhas:=fun W=>hasInner_any p f l rr c key hp32 ⟨hf0,hf1⟩ W
    have hhalf:=fun W=>half_any p f l rr c hp32 ⟨hf0,hf1⟩ W
    have c0:wr.cell? ⟨b,0,none⟩=some (.int .i64 h):=hb.cell rfl
    have c1:wr.cell? ⟨b,1,none⟩=some (.iface 335 (.agg #[.int .i64 (p:Int),.int .i64 f,.int .i64 l,.int .i64 rr,.int .i64 c])):=hb.cell rfl
    obtain⟨A,cap,rfl,_,_⟩:=Qc hown
    have hd:(if f≤key∧key≤f+Qi (p+1)-1 then (if f+Qi p≤key then (S.shape rr (f+Qi p) (f+Qi (p+1)-1)).bind (fun s=>S.downFrom key k (way ++ [⟨p,f,l,rr,c,h,true⟩]) rr s) else (S.shape l f (f+Qi p-1)).bind (fun s=>S.downFrom key k (way ++ [⟨p,f,l,rr,c,h,false⟩]) l s)) else some (way,h,.inner p f l rr c))=some r:=hd
    have W1b:Blk (wr.alloc (.cells #[.int .i64 (p:Int),.int .i64 f,.int .i64 l,.int .i64 rr,.int .i64 c] 335)) wr.heap.size [.int .i64 (p:Int),.int .i64 f,.int .i64 l,.int .i64 rr,.int .i64 c] 335:=Blk.new wr _ 335
    have HW1:=hid (show Only [] wr (wr.alloc (.cells #[.int .i64 (p:Int),.int .i64 f,.int .i64 l,.int .i64 rr,.int .i64 c] 335)) from (Only.refl [] wr).alloc _)
    have HQ:=hid W1b
    by_cases hin:f≤key∧key≤f+Qi (p+1)-1
    ·rw[if_pos hin] at hd
     have hyes:(decide (f≤key) && decide (key≤f+Qi (p+1)-1))=true:=by
      simpa using hin
     simp only[hyes] at hhas
     unfold Shape.val at hhas
     unfold innerV at hhalf
     have HHAS:=hid hhas
     have HHALF:=hid hhalf
     have HD2:=hid hd
     clear hd hb hown h9 ho hlen hb9 hstop hhas hhalf hin hyes W1b
     generalize hm:f+Qi p=m at *
     go_wp2_with (go_at_call 221;refine (HHAS.out _).mono ?_;rintro e V ⟨rfl,ho⟩;have hwv:Only [] wr V:=HW1.out.trans ho;have HWV:=hid hwv;have HQV:=hid (HQ.out.only ho (by simp));clear ho hwv)
     have F0:Hid (∀{W:World},Only [] V W→W.cell? ⟨b,0,none⟩=some (.int .i64 h)∧W.cell? ⟨wr.heap.size,0,none⟩=some (.int .i64 (p:Int))∧W.cell? ⟨wr.heap.size,1,none⟩=some (.int .i64 f)∧W.cell? ⟨wr.heap.size,2,none⟩=some (.int .i64 l)∧W.cell? ⟨wr.heap.size,3,none⟩=some (.int .i64 rr)∧W.cell? ⟨wr.heap.size,4,none⟩=some (.int .i64 c)):=
      hid fun ho=>⟨Qa (HWV.out.trans ho) c0 (by simp),(HQV.out.only ho (by simp)).cell rfl,(HQV.out.only ho (by simp)).cell rfl,(HQV.out.only ho (by simp)).cell rfl,(HQV.out.only ho (by simp)).cell rfl,(HQV.out.only ho (by simp)).cell rfl⟩
     have m0:=F0.out (Only.refl [] V).drew'
     by_cases hge:m≤key
     ·rw[if_pos hge] at HD2
      go_region_held3 (fun W=>W.cell? ⟨b,0,none⟩=some (.int .i64 h)∧W.cell? ⟨wr.heap.size,0,none⟩=some (.int .i64 (p:Int))∧W.cell? ⟨wr.heap.size,1,none⟩=some (.int .i64 f)∧W.cell? ⟨wr.heap.size,2,none⟩=some (.int .i64 l)∧W.cell? ⟨wr.heap.size,3,none⟩=some (.int .i64 rr)∧W.cell? ⟨wr.heap.size,4,none⟩=some (.int .i64 c))
       (first|with_reducible exact m0|with_reducible exact m1|with_reducible exact F0.out (((Only.refl [] V).alloc _).drew')|with_reducible exact F0.out (HO2.out.alloc _)|with_reducible exact F0.out (only_set7 (HO2.out.alloc _) (.inr HO2.out.size))|with_reducible exact F0.out (only_set7 HO2.out (.inr (Nat.le_refl _)))|(go_keep;done))
       (first|(go_simp;go_at_call 222;refine (HHALF.out _).mono ?_;rintro e V2 ⟨rfl,ho2⟩;have ho2':Only [] V V2:=⟨ho2.os,ho2.tape,ho2.output,ho2.size,ho2.block⟩;have m1:=F0.out ho2';have HO2:=hid ho2';clear ho2 ho2')|(go_simp;go_at_call 222;refine (HHALF.out _).mono ?_;rintro e V2 ⟨rfl,ho2⟩;have ho2a:Only [] (V.alloc (.cells #[.int .i64 0,.int .i64 0,.int .i64 0,.int .i64 0,.int .i64 0,.int .i64 0,.bool false] 339)) V2:=⟨ho2.os,ho2.tape,ho2.output,ho2.size,ho2.block⟩;have hz:Blk V2 V.heap.size [.int .i64 0,.int .i64 0,.int .i64 0,.int .i64 0,.int .i64 0,.int .i64 0,.bool false] 339:=(Blk.new V [.int .i64 0,.int .i64 0,.int .i64 0,.int .i64 0,.int .i64 0,.int .i64 0,.bool false] 339).only ho2a (by simp);have ho2':Only [] V V2:=((Only.refl [] V).alloc _).trans ho2a;have m1:=F0.out ho2';have z0:=hz.cell (i:=0) rfl;have z1:=hz.cell (i:=1) rfl;have z2:=hz.cell (i:=2) rfl;have z3:=hz.cell (i:=3) rfl;have z4:=hz.cell (i:=4) rfl;have z5:=hz.cell (i:=5) rfl;have z6:=hz.cell (i:=6) rfl;have zf:=hz.frozen;have HZ:=hid hz;have HO2:=hid ho2';clear ho2 ho2' ho2a hz))
      have ar1_1:=0;rotate_left
      rotate_left
      all_goals
       skip
       first|(have _:=ar1_1;obtain⟨W3,hW3⟩:∃W3,(V2.alloc (.cells #[.int .i64 (p:Int),.int .i64 f,.int .i64 l,.int .i64 rr,.int .i64 c,.int .i64 h,.bool true] 339))=W3:=⟨_,rfl⟩;have hq3:Blk W3 V2.heap.size [.int .i64 (p:Int),.int .i64 f,.int .i64 l,.int .i64 rr,.int .i64 c,.int .i64 h,.bool true] 339:=hW3 ▸ (Blk.new V2 _ 339);have ho3:Only [] V W3:=hW3 ▸ (HO2.out.alloc _))|(obtain⟨W3,hW3⟩:∃W3,(set7 V2 V.heap.size (.int .i64 (p:Int)) (.int .i64 f) (.int .i64 l) (.int .i64 rr) (.int .i64 c) (.int .i64 h) (.bool true))=W3:=⟨_,rfl⟩;have hq3:Blk W3 V.heap.size [.int .i64 (p:Int),.int .i64 f,.int .i64 l,.int .i64 rr,.int .i64 c,.int .i64 h,.bool true] 339:=hW3 ▸ (blk_set7 HZ.out);have ho3:Only [] V W3:=hW3 ▸ (only_set7 HO2.out (.inr (Nat.le_refl _)));unfold set7 at hW3)
       rw[hW3]
       first|(have _:=ar1_1;(have hqn:V2.heap.size≠b:=fun e=>by have:=HB.out.lt;have:=HWV.out.size;have:=HO2.out.size;omega);have hqg:wr.heap.size≤V2.heap.size:=by have:=HWV.out.size;have:=HO2.out.size;omega)|((have hqn:V.heap.size≠b:=fun e=>by have:=HB.out.lt;have:=HWV.out.size;have:=HO2.out.size;omega);have hqg:wr.heap.size≤V.heap.size:=by have:=HWV.out.size;have:=HO2.out.size;omega)
       have HQG:=hid hqg
       clear hW3 hqg
       first|(have _:=ar1_1;generalize V2.heap.size=q at *)|(generalize V.heap.size=q at *)
       obtain⟨s',hs',hd'⟩:=Option.bind_eq_some_iff.1 HD2.out
       have m3:=F0.out ho3
       have hb3:Blk W3 b [.int .i64 h,.iface 335 (.agg #[.int .i64 (p:Int),.int .i64 f,.int .i64 l,.int .i64 rr,.int .i64 c])] 303:=HB.out.only (HWV.out.trans ho3) (by simp)
       have e0:=hq3.cell (i:=0) rfl
       have e1:=hq3.cell (i:=1) rfl
       have e2:=hq3.cell (i:=2) rfl
       have e3:=hq3.cell (i:=3) rfl
       have e4:=hq3.cell (i:=4) rfl
       have e5:=hq3.cell (i:=5) rfl
       have e6:=hq3.cell (i:=6) rfl
       have HQ3:=hid hq3
       have HO3:=hid (HWV.out.trans ho3)
       have HB3:=hid hb3
       have HQN:=hid hqn
       have HS:=hid hs'
       have HD3:=hid hd'
       have HQV3:=hid (HQV.out.only ho3 (by simp))
       have HOW3:=hid ((Qe HOW.out HO3.out (by simp)).alloc (.cells #[.int .i64 (p:Int),.int .i64 f,.int .i64 l,.int .i64 rr,.int .i64 c,.int .i64 h,.bool true] 339))
       have HL1:=hid (show way.length+1≤maxLen from by have:=HLEN.out;unfold maxLen;omega)
       have HL2:=hid (show (way.length+1)*56≤140737488355328 from by have:=HLEN.out;omega)
       have HL3:=hid (show b+1≤(W3.alloc (.cells #[.int .i64 (p:Int),.int .i64 f,.int .i64 l,.int .i64 rr,.int .i64 c,.int .i64 h,.bool true] 339)).heap.size from Nat.le_trans HB3.out.lt (Qg _ _))
       obtain⟨vt',vx',hv'⟩:∃t x,s'.val=.iface t x:=by cases s' <;> exact⟨_,_,rfl⟩
       have HV':=hid hv'
       have HRO:=hid (fun (W:World) (ho:Only [] w W)=>rightOf_any W tb L S (HP.out.only ho (by simp)) (HT.out.only ho (by simp)) p f l rr c hp32 ⟨hf0,hf1⟩ s' (by rw[hm];exact HS.out))
       rw[hv'] at HRO
       unfold innerV ptr at HRO
       clear hq3 ho3 hb3 hqn hs' hd' m3 hv'
       go_wp2_with (first|(at_builtin;refine Qj rfl (.tmp 51) (.tmp 53) rfl elemStep rfl HOW3.out _ 1 _ [.int .i64 (p:Int),.int .i64 f,.int .i64 l,.int .i64 rr,.int .i64 c,.int .i64 h,.bool true] rfl (Zg W3 [.int .i64 (p:Int),.int .i64 f,.int .i64 l,.int .i64 rr,.int .i64 c,.int .i64 h,.bool true] 339) rfl (by simp[Value.oneCell']) HL1.out HL2.out HL3.out (fun e=>by cases e) ?_;intro v5 w5 hown5 hg5 hat5;obtain⟨A5,c5,rfl,_,_⟩:=Qc hown5;have hg5n:∀k,(Value.slice A way.length cap).ownBlock=some k→b+1≤k∧k<wr.heap.size:=(fun k hk=>HOW.out.lt k hk);have hbg:Blk w5 b [.int .i64 h,.iface 335 (.agg #[.int .i64 (p:Int),.int .i64 f,.int .i64 l,.int .i64 rr,.int .i64 c])] 303:=Qm (HB3.out.alloc _) hg5 (fun e=>by have:=(hg5n _ e).1;omega);have hqg5:Blk w5 q [.int .i64 (p:Int),.int .i64 f,.int .i64 l,.int .i64 rr,.int .i64 c,.int .i64 h,.bool true] 339:=Qm (HQ3.out.alloc _) hg5 (fun e=>by have:=(hg5n _ e).2;have:=HQG.out;omega);have hqv5:Blk w5 wr.heap.size [.int .i64 (p:Int),.int .i64 f,.int .i64 l,.int .i64 rr,.int .i64 c] 335:=Qm (HQV3.out.alloc _) hg5 (fun e=>by have:=(hg5n _ e).2;omega);have h95:Blk w5 w.heap.size [.int .i64 0,.nilIface] 303:=Qm ((H9.out.only HO3.out (by simp)).alloc _) hg5 (fun e=>by have:=(hg5n _ e).1;omega);have ho5:Only [] w w5:=((HO.out.trans HO3.out).alloc _).grown hg5 (fun k hk=>.inl (by have:=(hg5n k hk).1;omega));have s6:=hqg5.cell (i:=6) rfl;have x0:=hqv5.cell (i:=0) rfl;have x1:=hqv5.cell (i:=1) rfl;have x2:=hqv5.cell (i:=2) rfl;have x3:=hqv5.cell (i:=3) rfl;have x4:=hqv5.cell (i:=4) rfl;have HBG:=hid hbg;have HOWN5:=hid hown5;have H95:=hid h95;have HO5:=hid ho5;clear hbg hqg5 hqv5 h95 ho5 hown5 hg5 hat5 hg5n)|(go_at_call 223;refine (HRO.out _ HO5.out).mono ?_;rintro e w6 ⟨rfl,hb6⟩;have ho6:Only [] w5 w6:=.of_below hb6;have hbg6:=HBG.out.only ho6 (by simp);have y0:=hbg6.cell (i:=0) rfl;have y1:=hbg6.cell (i:=1) rfl;have yf:=hbg6.frozen;have HBG6:=hid hbg6;have HO6:=hid ho6;clear hb6 ho6 hbg6))
       go_roundg k
       case measure=>omega
       case rel=>
        have hset:Only [b] w6 ((w6.setCell ⟨b,0,none⟩ (.int .i64 rr)).setCell ⟨b,1,none⟩ (.iface vt' vx')):=((Only.refl _ _).setCell (.inl (by simp)) _).setCell (.inl (by simp)) _
        refine⟨way ++ [⟨p,f,l,rr,c,h,true⟩],rr,s',rfl,HD3.out,by rw[HV'.out];exact (HBG6.out.set 0 _).set 1 _,?_,(H95.out.only HO6.out (by simp)).only hset (by simp;omega),((HO5.out.trans HO6.out).mono (Y:=[b]) (by simp) |>.trans hset).fresh (fun k hk hl=>by simp at hk;omega),by simp only[List.length_append,List.length_singleton];have:=HLEN.out;omega,hlt,shape_ok HS.out⟩
        rw[List.length_append,List.length_singleton,List.flatMap_append]
        exact Qe (Qe HOWN5.out HO6.out (by simp)) hset (fun k hk=>by have:=(HOWN5.out.lt k hk).1;simp;omega)
     ·rw[if_neg hge] at HD2
      have hgd:decide (m≤key)=false:=decide_eq_false hge
      go_region_held3 (fun W=>W.cell? ⟨b,0,none⟩=some (.int .i64 h)∧W.cell? ⟨wr.heap.size,0,none⟩=some (.int .i64 (p:Int))∧W.cell? ⟨wr.heap.size,1,none⟩=some (.int .i64 f)∧W.cell? ⟨wr.heap.size,2,none⟩=some (.int .i64 l)∧W.cell? ⟨wr.heap.size,3,none⟩=some (.int .i64 rr)∧W.cell? ⟨wr.heap.size,4,none⟩=some (.int .i64 c))
       (first|with_reducible exact m0|with_reducible exact m1|with_reducible exact F0.out (((Only.refl [] V).alloc _).drew')|with_reducible exact F0.out (HO2.out.alloc _)|with_reducible exact F0.out (only_set7 (HO2.out.alloc _) (.inr HO2.out.size))|with_reducible exact F0.out (only_set7 HO2.out (.inr (Nat.le_refl _)))|(go_keep;done))
       (first|(go_simp;go_at_call 222;refine (HHALF.out _).mono ?_;rintro e V2 ⟨rfl,ho2⟩;have ho2':Only [] V V2:=⟨ho2.os,ho2.tape,ho2.output,ho2.size,ho2.block⟩;have m1:=F0.out ho2';have HO2:=hid ho2';clear ho2 ho2')|(go_simp;go_at_call 222;refine (HHALF.out _).mono ?_;rintro e V2 ⟨rfl,ho2⟩;have ho2a:Only [] (V.alloc (.cells #[.int .i64 0,.int .i64 0,.int .i64 0,.int .i64 0,.int .i64 0,.int .i64 0,.bool false] 339)) V2:=⟨ho2.os,ho2.tape,ho2.output,ho2.size,ho2.block⟩;have hz:Blk V2 V.heap.size [.int .i64 0,.int .i64 0,.int .i64 0,.int .i64 0,.int .i64 0,.int .i64 0,.bool false] 339:=(Blk.new V [.int .i64 0,.int .i64 0,.int .i64 0,.int .i64 0,.int .i64 0,.int .i64 0,.bool false] 339).only ho2a (by simp);have ho2':Only [] V V2:=((Only.refl [] V).alloc _).trans ho2a;have m1:=F0.out ho2';have z0:=hz.cell (i:=0) rfl;have z1:=hz.cell (i:=1) rfl;have z2:=hz.cell (i:=2) rfl;have z3:=hz.cell (i:=3) rfl;have z4:=hz.cell (i:=4) rfl;have z5:=hz.cell (i:=5) rfl;have z6:=hz.cell (i:=6) rfl;have zf:=hz.frozen;have HZ:=hid hz;have HO2:=hid ho2';clear ho2 ho2' ho2a hz))
      have ar2_1:=0;rotate_left
      rotate_left
      all_goals
       skip
       first|(have _:=ar2_1;obtain⟨W3,hW3⟩:∃W3,(V2.alloc (.cells #[.int .i64 (p:Int),.int .i64 f,.int .i64 l,.int .i64 rr,.int .i64 c,.int .i64 h,.bool false] 339))=W3:=⟨_,rfl⟩;have hq3:Blk W3 V2.heap.size [.int .i64 (p:Int),.int .i64 f,.int .i64 l,.int .i64 rr,.int .i64 c,.int .i64 h,.bool false] 339:=hW3 ▸ (Blk.new V2 _ 339);have ho3:Only [] V W3:=hW3 ▸ (HO2.out.alloc _))|(obtain⟨W3,hW3⟩:∃W3,(set7 V2 V.heap.size (.int .i64 (p:Int)) (.int .i64 f) (.int .i64 l) (.int .i64 rr) (.int .i64 c) (.int .i64 h) (.bool false))=W3:=⟨_,rfl⟩;have hq3:Blk W3 V.heap.size [.int .i64 (p:Int),.int .i64 f,.int .i64 l,.int .i64 rr,.int .i64 c,.int .i64 h,.bool false] 339:=hW3 ▸ (blk_set7 HZ.out);have ho3:Only [] V W3:=hW3 ▸ (only_set7 HO2.out (.inr (Nat.le_refl _)));unfold set7 at hW3)
       rw[hW3]
       first|(have _:=ar2_1;(have hqn:V2.heap.size≠b:=fun e=>by have:=HB.out.lt;have:=HWV.out.size;have:=HO2.out.size;omega);have hqg:wr.heap.size≤V2.heap.size:=by have:=HWV.out.size;have:=HO2.out.size;omega)|((have hqn:V.heap.size≠b:=fun e=>by have:=HB.out.lt;have:=HWV.out.size;have:=HO2.out.size;omega);have hqg:wr.heap.size≤V.heap.size:=by have:=HWV.out.size;have:=HO2.out.size;omega)
       have HQG:=hid hqg
       clear hW3 hqg
       first|(have _:=ar2_1;generalize V2.heap.size=q at *)|(generalize V.heap.size=q at *)
       obtain⟨s',hs',hd'⟩:=Option.bind_eq_some_iff.1 HD2.out
       have m3:=F0.out ho3
       have hb3:Blk W3 b [.int .i64 h,.iface 335 (.agg #[.int .i64 (p:Int),.int .i64 f,.int .i64 l,.int .i64 rr,.int .i64 c])] 303:=HB.out.only (HWV.out.trans ho3) (by simp)
       have e0:=hq3.cell (i:=0) rfl
       have e1:=hq3.cell (i:=1) rfl
       have e2:=hq3.cell (i:=2) rfl
       have e3:=hq3.cell (i:=3) rfl
       have e4:=hq3.cell (i:=4) rfl
       have e5:=hq3.cell (i:=5) rfl
       have e6:=hq3.cell (i:=6) rfl
       have HQ3:=hid hq3
       have HO3:=hid (HWV.out.trans ho3)
       have HB3:=hid hb3
       have HQN:=hid hqn
       have HS:=hid hs'
       have HD3:=hid hd'
       have HQV3:=hid (HQV.out.only ho3 (by simp))
       have HOW3:=hid ((Qe HOW.out HO3.out (by simp)).alloc (.cells #[.int .i64 (p:Int),.int .i64 f,.int .i64 l,.int .i64 rr,.int .i64 c,.int .i64 h,.bool false] 339))
       have HL1:=hid (show way.length+1≤maxLen from by have:=HLEN.out;unfold maxLen;omega)
       have HL2:=hid (show (way.length+1)*56≤140737488355328 from by have:=HLEN.out;omega)
       have HL3:=hid (show b+1≤(W3.alloc (.cells #[.int .i64 (p:Int),.int .i64 f,.int .i64 l,.int .i64 rr,.int .i64 c,.int .i64 h,.bool false] 339)).heap.size from Nat.le_trans HB3.out.lt (Qg _ _))
       obtain⟨vt',vx',hv'⟩:∃t x,s'.val=.iface t x:=by cases s' <;> exact⟨_,_,rfl⟩
       have HV':=hid hv'
       have HRO:=hid (fun (W:World) (ho:Only [] w W)=>leftOf_any W tb L S (HP.out.only ho (by simp)) (HT.out.only ho (by simp)) p f l rr c hp32 ⟨hf0,hf1⟩ s' (by rw[hm];exact HS.out))
       rw[hv'] at HRO
       unfold innerV ptr at HRO
       clear hq3 ho3 hb3 hqn hs' hd' m3 hv'
       go_wp2_with (first|(at_builtin;refine Qj rfl (.tmp 51) (.tmp 53) rfl elemStep rfl HOW3.out _ 1 _ [.int .i64 (p:Int),.int .i64 f,.int .i64 l,.int .i64 rr,.int .i64 c,.int .i64 h,.bool false] rfl (Zg W3 [.int .i64 (p:Int),.int .i64 f,.int .i64 l,.int .i64 rr,.int .i64 c,.int .i64 h,.bool false] 339) rfl (by simp[Value.oneCell']) HL1.out HL2.out HL3.out (fun e=>by cases e) ?_;intro v5 w5 hown5 hg5 hat5;obtain⟨A5,c5,rfl,_,_⟩:=Qc hown5;have hg5n:∀k,(Value.slice A way.length cap).ownBlock=some k→b+1≤k∧k<wr.heap.size:=(fun k hk=>HOW.out.lt k hk);have hbg:Blk w5 b [.int .i64 h,.iface 335 (.agg #[.int .i64 (p:Int),.int .i64 f,.int .i64 l,.int .i64 rr,.int .i64 c])] 303:=Qm (HB3.out.alloc _) hg5 (fun e=>by have:=(hg5n _ e).1;omega);have hqg5:Blk w5 q [.int .i64 (p:Int),.int .i64 f,.int .i64 l,.int .i64 rr,.int .i64 c,.int .i64 h,.bool false] 339:=Qm (HQ3.out.alloc _) hg5 (fun e=>by have:=(hg5n _ e).2;have:=HQG.out;omega);have hqv5:Blk w5 wr.heap.size [.int .i64 (p:Int),.int .i64 f,.int .i64 l,.int .i64 rr,.int .i64 c] 335:=Qm (HQV3.out.alloc _) hg5 (fun e=>by have:=(hg5n _ e).2;omega);have h95:Blk w5 w.heap.size [.int .i64 0,.nilIface] 303:=Qm ((H9.out.only HO3.out (by simp)).alloc _) hg5 (fun e=>by have:=(hg5n _ e).1;omega);have ho5:Only [] w w5:=((HO.out.trans HO3.out).alloc _).grown hg5 (fun k hk=>.inl (by have:=(hg5n k hk).1;omega));have s6:=hqg5.cell (i:=6) rfl;have x0:=hqv5.cell (i:=0) rfl;have x1:=hqv5.cell (i:=1) rfl;have x2:=hqv5.cell (i:=2) rfl;have x3:=hqv5.cell (i:=3) rfl;have x4:=hqv5.cell (i:=4) rfl;have HBG:=hid hbg;have HOWN5:=hid hown5;have H95:=hid h95;have HO5:=hid ho5;clear hbg hqg5 hqv5 h95 ho5 hown5 hg5 hat5 hg5n)|(go_at_call 224;refine (HRO.out _ HO5.out).mono ?_;rintro e w6 ⟨rfl,hb6⟩;have ho6:Only [] w5 w6:=.of_below hb6;have hbg6:=HBG.out.only ho6 (by simp);have y0:=hbg6.cell (i:=0) rfl;have y1:=hbg6.cell (i:=1) rfl;have yf:=hbg6.frozen;have HBG6:=hid hbg6;have HO6:=hid ho6;clear hb6 ho6 hbg6))
       go_roundg k
       case measure=>omega
       case rel=>
        have hset:Only [b] w6 ((w6.setCell ⟨b,0,none⟩ (.int .i64 l)).setCell ⟨b,1,none⟩ (.iface vt' vx')):=((Only.refl _ _).setCell (.inl (by simp)) _).setCell (.inl (by simp)) _
        refine⟨way ++ [⟨p,f,l,rr,c,h,false⟩],l,s',rfl,HD3.out,by rw[HV'.out];exact (HBG6.out.set 0 _).set 1 _,?_,(H95.out.only HO6.out (by simp)).only hset (by simp;omega),((HO5.out.trans HO6.out).mono (Y:=[b]) (by simp) |>.trans hset).fresh (fun k hk hl=>by simp at hk;omega),by simp only[List.length_append,List.length_singleton];have:=HLEN.out;omega,hlt,shape_ok HS.out⟩
        rw[List.length_append,List.length_singleton,List.flatMap_append]
        exact Qe (Qe HOWN5.out HO6.out (by simp)) hset (fun k hk=>by have:=(HOWN5.out.lt k hk).1;simp;omega)
    ·rw[if_neg hin] at hd
     have HR:=hid (Option.some.inj hd)
     have hno:(decide (f≤key) && decide (key≤f+Qi (p+1)-1))=false:=by
      rw[Bool.eq_false_iff]
      simpa using hin
     simp only[hno] at hhas
     have HHAS:=hid hhas
     unfold Shape.val at hhas
     have HHAS:=hid hhas
     clear hd hb hown h9 ho hlen hb9 hstop hhas hhalf hin hno W1b hf0 hf1
     go_wp2_with (go_at_call 221;refine (HHAS.out _).mono ?_;rintro e V ⟨rfl,ho⟩;have hwv:Only [] wr V:=HW1.out.trans ho;have d0:=Qa hwv c0 (by simp);have d1:=Qa hwv c1 (by simp);have h91:=H9.out.only hwv (by simp);have n0:=h91.cell (i:=0) rfl;have n1:=h91.cell (i:=1) rfl;have nf:=h91.frozen;have HWV:=hid hwv;clear ho hwv h91)
     go_region
     all_goals (try go_wp2_with fail)
     all_goals
      refine bodyPost_ret (v:=.tuple #[.slice A way.length cap,.agg #[.int .i64 h,.iface 335 (.agg #[.int .i64 (p:Int),.int .i64 f,.int .i64 l,.int .i64 rr,.int .i64 c])],.int .i64 0]) (by simp[results,Tryz.results197,go_sem,n0,n1]) rfl ?_
      rw[←HR.out]
      exact down_end HOW.out HO.out HWV.out HB.out.lt hlt
def Edited2 (L:PoolL)(base mb tb:Nat)(gv mv:Value)(m:EditS)(S':PoolS)(w:World)(e:Ending)(w':World):Prop:=
 ∃mv',e=.returned (.int .i64 0)∧PoolAt w' L S'∧EditAt w' base mb tb m gv mv'∧Only (mb :: L.blocks ++ mv.ownBlock.toList) w w' ∧
  (mv'.ownBlock=mv.ownBlock∨∃g,mv'.ownBlock=some g∧w.heap.size≤g)
theorem makes2_any (w:World)(base mb tb:Nat)(L:PoolL)(S:PoolS)(m:EditS)(gv mv:Value)(hp:PoolAt w L S)(ht:Blk w tb [ptr L.pb] 187)(hm:EditAt w base mb tb m gv mv)
  (hx1:mb∉L.all) (hx2:tb∉L.blocks) (hx3:tb≠mb) (hx4:∀k∈L.all,k<base) (hx5:tb<base) (hlen:m.made.length<100000000) (x:NodeS) (hx:x.Ok) (m':EditS) (S':PoolS) (h:makes x (m,S)=some (m',S')):
  Calls prog 229 #[ptr mb,x.val] w (Edited2 L base mb tb gv mv m' S' w):=by
 unfold makes at h
 simp only[bind,Option.bind_eq_some_iff] at h
 obtain⟨⟨hd,S1⟩,htk,h⟩:=h
 simp only[Option.some.injEq,Prod.mk.injEq] at h
 obtain⟨rfl,rfl⟩:=h
 have hpa:=(hp.alloc (.cells #[.int .i64 x.a,.int .i64 x.b,.int .i64 x.c,.int .i64 x.d] 218)).drew
 have htake:=take_any _ L S hpa x hx 0 (by unfold Ql;omega) hd S1 htk
 have c0:(w.alloc (.cells #[.int .i64 x.a,.int .i64 x.b,.int .i64 x.c,.int .i64 x.d] 218)).cell? ⟨mb,0,none⟩=some (ptr tb):=(hm.blk.alloc _).cell rfl
 have c1:(w.alloc (.cells #[.int .i64 x.a,.int .i64 x.b,.int .i64 x.c,.int .i64 x.d] 218)).cell? ⟨mb,1,none⟩=some (.pointer none):=(hm.blk.alloc _).cell rfl
 have c2:(w.alloc (.cells #[.int .i64 x.a,.int .i64 x.b,.int .i64 x.c,.int .i64 x.d] 218)).cell? ⟨tb,0,none⟩=some (ptr L.pb):=(ht.alloc _).cell rfl
 obtain⟨gA,gc,rfl,_,_⟩:=Qc hm.gone
 obtain⟨mA,mc,rfl,_,_⟩:=Qc hm.made
 have HT:=hid htake;have HM:=hid hm;have HX1:=hid hx1;have HX2:=hid hx2;have HX3:=hid hx3;have HX4:=hid hx4;have HX5:=hid hx5;have HL:=hid hlen;have HP:=hid hp;have HTB:=hid ht
 have hmb:mb∉L.blocks:=fun e=>hx1 (Qf e)
 have hbx:w.heap.size∉L.blocks:=fun e=>by have:=hx4 _ (Qf e);have:=hm.room;omega
 have HMB:=hid hmb;have HBX:=hid hbx
 unfold NodeS.val at HT ⊢
 unfold I2 Made at HT
 unfold ptr at HT c0 c2 ⊢
 clear hp hpa htake ht hm hx htk hx1 hx2 hx3 hx4 hx5 hlen hmb hbx
 obtain⟨xa,xb',xc,xd⟩:=x
 go_enter func229,ntmps229
 go_wp2_with fail
 go_region_held3 (fun W=>W.cell? ⟨mb,0,none⟩=some (.pointer (some ⟨tb,0,none⟩))∧W.cell? ⟨mb,1,none⟩=some (.pointer none)∧W.cell? ⟨tb,0,none⟩=some (.pointer (some ⟨L.pb,0,none⟩))∧W.cell? ⟨w.heap.size,0,none⟩=some (.int .i64 xa)∧W.cell? ⟨w.heap.size,1,none⟩=some (.int .i64 xb')∧W.cell? ⟨w.heap.size,2,none⟩=some (.int .i64 xc)∧W.cell? ⟨w.heap.size,3,none⟩=some (.int .i64 xd))
  (first|exact⟨Qa ho2 c0 HMB.out,Qa ho2 c1 HMB.out,Qa ho2 c2 HX2.out,Qa ho2 (cell_new w #[.int .i64 xa,.int .i64 xb',.int .i64 xc,.int .i64 xd] 218 0 _ rfl) HBX.out,Qa ho2 (cell_new w #[.int .i64 xa,.int .i64 xb',.int .i64 xc,.int .i64 xd] 218 1 _ rfl) HBX.out,Qa ho2 (cell_new w #[.int .i64 xa,.int .i64 xb',.int .i64 xc,.int .i64 xd] 218 2 _ rfl) HBX.out,Qa ho2 (cell_new w #[.int .i64 xa,.int .i64 xb',.int .i64 xc,.int .i64 xd] 218 3 _ rfl) HBX.out⟩|(go_keep;done))
  (first|(go_simp;go_at_call 214;refine HT.out.mono ?_;rintro e w2 ⟨rfl,hp2,ho2⟩;have HP2:=hid hp2;have ho2':Only L.blocks w w2:=((Only.refl _ _).alloc _).trans ⟨ho2.os,ho2.tape,ho2.output,ho2.size,ho2.block⟩;have HO2:=hid ho2'))
 have hb2:=HM.out.blk.only HO2.out HMB.out
 have hlow:∀k,(Value.slice mA m.made.length mc).ownBlock=some k→base≤k∧k<w.heap.size:=fun k hk=>HM.out.made.lt k hk
 have glow:∀k,(Value.slice gA m.gone.length gc).ownBlock=some k→base≤k∧k<w.heap.size:=fun k hk=>HM.out.gone.lt k hk
 have hin:∀k,base≤k→k∉L.blocks:=fun k hk e=>by have:=HX4.out k (Qf e);omega
 have hmade2:=Qe HM.out.made HO2.out (fun k hk=>hin k (hlow k hk).1)
 have hgone2:=Qe HM.out.gone HO2.out (fun k hk=>hin k (glow k hk).1)
 have hml:=HM.out.low
 have hmade3:=Qe hmade2 ((Only.refl [mb] w2).setCell (p:=⟨mb,2,none⟩) (.inl (by simp)) (.int .i64 hd)) (fun k hk e=>by have:=(hlow k hk).1;simp at e;omega)
 have hgone3:=Qe hgone2 ((Only.refl [mb] w2).setCell (p:=⟨mb,2,none⟩) (.inl (by simp)) (.int .i64 hd)) (fun k hk e=>by have:=(glow k hk).1;simp at e;omega)
 have hb3:Blk (w2.setCell ⟨mb,2,none⟩ (.int .i64 hd)) mb [ptr tb,.pointer none,.int .i64 hd,.int .i64 m.old,.bool m.had,.slice gA m.gone.length gc,.slice mA m.made.length mc] 320:=hb2.set 2 (.int .i64 hd)
 have ho3:Only (mb :: L.blocks ++ (Value.slice mA m.made.length mc).ownBlock.toList) w (w2.setCell ⟨mb,2,none⟩ (.int .i64 hd)):=(HO2.out.mono (by intro k hk;simp[hk])).setCell (.inl (by simp)) _
 have hsz:w.heap.size≤(w2.setCell ⟨mb,2,none⟩ (.int .i64 hd)).heap.size:=ho3.size
 have f2:=hb2.frozen 2
 have d2:w2.cell? ⟨mb,2,none⟩=some (.int .i64 m.root):=hb2.cell rfl
 have d6:(w2.setCell ⟨mb,2,none⟩ (.int .i64 hd)).cell? ⟨mb,6,none⟩=some (.slice mA m.made.length mc):=hb3.cell rfl
 have HP3:=hid (HP2.out.only ((Only.refl [mb] w2).setCell (p:=⟨mb,2,none⟩) (.inl (by simp)) (.int .i64 hd)) (fun k hk e=>by simp at e;subst e;exact HX1.out hk))
 have HB3:=hid hb3;have HO3:=hid ho3;have HG3:=hid hgone3;have HM3:=hid hmade3;have HLOW:=hid hlow;have GLOW:=hid glow;have HSZ:=hid hsz;have HIN:=hid hin
 have hs2:(w2.setCell ⟨mb,2,none⟩ (.int .i64 hd)).heap.size=w2.heap.size:=by simp
 have hrn:=Zg (w2.setCell ⟨mb,2,none⟩ (.int .i64 hd)) [.int .i64 hd] 3
 rw[hs2] at hrn
 have hm1:m.made.length+1≤maxLen:=by have:=HL.out;unfold maxLen;omega
 have hm2:(m.made.length+1)*8≤140737488355328:=by have:=HL.out;omega
 have hbs:base≤((w2.setCell ⟨mb,2,none⟩ (.int .i64 hd)).alloc (.cells #[.int .i64 hd] 3)).heap.size:=Nat.le_trans (Nat.le_trans HM.out.room hsz) (Qg _ _)
 have HRN:=hid hrn;have HM1:=hid hm1;have HM2:=hid hm2;have HBS:=hid hbs;have HS2:=hid hs2;have HML:=hid hml
 clear hb2 hmade2 hgone2 hb3 ho3 hgone3 hmade3 hlow glow hsz hin hml hs2 hrn hm1 hm2 hbs
 go_wp2_with (at_builtin;refine Qj rfl (.tmp 35) (.tmp 37) rfl elemInt rfl (HM3.out.alloc (.cells #[.int .i64 hd] 3)) _ 1 _ [.int .i64 hd] rfl HRN.out rfl (by simp[Value.oneCell']) HM1.out HM2.out HBS.out (fun e=>by cases e) ?_;intro v2 w4 hown2 hg2 hat2;obtain⟨A2,c2',rfl,_,_⟩:=Qc hown2;have hb4:=Qm (HB3.out.alloc (.cells #[.int .i64 hd] 3)) hg2 (fun e=>by have h1:=(HLOW.out _ e).1;have h2:=HML.out;omega);have f4:=hb4.frozen 6;have d4:w4.cell? ⟨mb,6,none⟩=some (.slice mA m.made.length mc):=hb4.cell rfl;have HB4:=hid hb4;have HW2:=hid hown2;have HG2:=hid hg2;have HA2:=hid hat2;clear hb4 hown2 hg2 hat2)
 go_ret
 have g1:Only ((Value.slice mA m.made.length mc).ownBlock.toList) ((w2.setCell ⟨mb,2,none⟩ (.int .i64 hd)).alloc (.cells #[.int .i64 hd] 3)) w4:=Only.of_grown HG2.out (fun k hk=>.inl (by rw[show (Value.slice mA m.made.length mc).ownBlock=some k from hk];simp))
 have g2:Only (mb :: (Value.slice mA m.made.length mc).ownBlock.toList) (w2.setCell ⟨mb,2,none⟩ (.int .i64 hd)) (w4.setCell ⟨mb,6,none⟩ (.slice A2 (m.made.length+1) c2')):=(((Only.refl _ _).alloc _).trans (g1.mono (fun k hk=>by simp at hk ⊢;exact .inr hk))).setCell (.inl (by simp)) _
 have hml:=HML.out
 have hdl:∀k,k∈(Value.slice mA m.made.length mc).ownBlock.toList→base≤k:=fun k hk=>(HLOW.out k (by simpa using hk)).1
 have ho:Only (mb :: L.blocks ++ (Value.slice mA m.made.length mc).ownBlock.toList) w (w4.setCell ⟨mb,6,none⟩ (.slice A2 (m.made.length+1) c2')):=HO3.out.trans (g2.mono (fun k hk=>by simp at hk ⊢;rcases hk with h|h <;> simp[h]))
 refine⟨_,rfl,HP3.out.only g2 ?_,⟨HB4.out.set 6 _,Qe HG3.out g2 ?_,?_,hml,?_,Nat.le_trans HM.out.room ho.size⟩,ho,?_⟩
 ·intro k hk e
  rcases List.mem_cons.1 e with rfl|e
  ·exact HX1.out hk
  ·have:=hdl k e
   have:=HX4.out k hk
   omega
 ·intro k hk e
  rcases List.mem_cons.1 e with rfl|e
  ·have:=(GLOW.out _ hk).1
   omega
  ·exact HM.out.apart k hk (by simpa using e)
 ·rw[List.length_append,ints_snoc]
  refine Qe HW2.out ((Only.refl [mb] w4).setCell (p:=⟨mb,6,none⟩) (.inl (by simp)) _) (fun k hk e=>?_)
  have:=(HW2.out.lt k hk).1
  simp at e
  omega
 ·intro g hg e
  rcases HA2.out with h1|h1
  ·rw[h1] at e
   exact HM.out.apart g hg e
  ·rw[h1] at e
   injection e with e
   have h2:=(GLOW.out g hg).2
   have h3:=HSZ.out
   have h4:=Qg (w2.setCell ⟨mb,2,none⟩ (.int .i64 hd)) (.cells #[.int .i64 hd] 3)
   omega
 ·rcases HA2.out with h1|h1
  ·exact .inl h1
  ·exact .inr ⟨_,h1,Nat.le_trans HSZ.out (Qg _ _)⟩
theorem leaf2_any (w:World)(base mb tb:Nat)(L:PoolL)(S:PoolS)(m:EditS)(gv mv:Value)(hp:PoolAt w L S)(ht:Blk w tb [ptr L.pb] 187)(hm:EditAt w base mb tb m gv mv)
  (hx1:mb∉L.all) (hx2:tb∉L.blocks) (hx3:tb≠mb) (hx4:∀k∈L.all,k<base) (hx5:tb<base) (hlen:m.made.length<100000000) (k v:Int) (hk:Ql k) (hv:Ql v) (m':EditS) (S':PoolS) (h:mkLeaf k v (m,S)=some (m',S')):
  Calls prog 205 #[ptr mb,.int .i64 k,.int .i64 v] w (Edited2 L base mb tb gv mv m' S' w):=by
 have hc:=makes2_any w base mb tb L S m gv mv hp ht hm hx1 hx2 hx3 hx4 hx5 hlen ⟨0,k,v,1⟩ ⟨by unfold Ql;simp,hk,hv,by unfold Ql;simp⟩ m' S' h
 unfold NodeS.val ptr at hc
 unfold ptr
 clear hp ht hm h hx1 hx2 hx3 hx4 hx5 hlen hk hv
 go_enter func205,ntmps205
 go_wp2_with (go_at_call 229;refine hc.mono ?_;rintro e w1 he;obtain⟨mv',rfl,h1,h2,h3,h4⟩:=he;have H1:=hid h1;have H2:=hid h2;have H3:=hid h3;have H4:=hid h4;clear h1 h2 h3 h4)
 go_ret
 exact⟨mv',rfl,H1.out,H2.out,H3.out,H4.out⟩
theorem fork2_any (w:World)(base mb tb:Nat)(L:PoolL)(S:PoolS)(m:EditS)(gv mv:Value)(hp:PoolAt w L S)(ht:Blk w tb [ptr L.pb] 187)(hm:EditAt w base mb tb m gv mv)
  (hx1:mb∉L.all) (hx2:tb∉L.blocks) (hx3:tb≠mb) (hx4:∀k∈L.all,k<base) (hx5:tb<base) (hlen:m.made.length<100000000) (p:Nat) (f l r c:Int) (hp32:p<32) (hf:0≤f∧f<4294967296) (hl:Ql l) (hr:Ql r) (hc:Ql c)
  (m':EditS) (S':PoolS) (h:mkFork p f l r c (m,S)=some (m',S')):
  Calls prog 231 #[ptr mb,.int .i64 (p:Int),.int .i64 f,.int .i64 l,.int .i64 r,.int .i64 c] w (Edited2 L base mb tb gv mv m' S' w):=by
 have hca:=makes2_any w base mb tb L S m gv mv hp ht hm hx1 hx2 hx3 hx4 hx5 hlen ⟨f*64+p+1,l,r,c⟩ ⟨(by show Ql (f*64+p+1);unfold Ql;omega),hl,hr,hc⟩ m' S' h
 have e1:IntKind.i64.wrap (f*64)=f*64:=IntWalk.i64_in _ (by omega)
 have e2:IntKind.i64.wrap (f*64+p)=f*64+p:=IntWalk.i64_in _ (by omega)
 have e3:IntKind.i64.wrap (f*64+p+1)=f*64+p+1:=IntWalk.i64_in _ (by omega)
 unfold NodeS.val ptr at hca
 unfold ptr
 clear hp ht hm h hx1 hx2 hx3 hx4 hx5 hlen hl hr hc hf hp32
 go_enter func231,ntmps231
 go_wp2_with (go_at_call 229;refine hca.mono ?_;rintro e w1 he;obtain⟨mv',rfl,h1,h2,h3,h4⟩:=he;have H1:=hid h1;have H2:=hid h2;have H3:=hid h3;have H4:=hid h4;clear h1 h2 h3 h4)
 go_ret
 exact⟨mv',rfl,H1.out,H2.out,H3.out,H4.out⟩
theorem Row.only {w w':World}{A:Option Addr}{xs:List Value}{X:List Nat}(h:Row w A xs)(ho:Only X w w')(hx:∀b,A=some b→b.block∉X):Row w' A xs:=by
 intro j u hu
 obtain⟨b,off,rfl,hc⟩:=h j u hu
 exact⟨b,off,rfl,Qa ho hc (hx _ rfl)⟩
theorem row_step {w:World}{A:Option Addr}{l:List StepS}(h:Row w A (l.flatMap StepS.cells)){j:Nat}{x:StepS}(hx:l[j]?=some x):∃b off,A=some ⟨b,off,none⟩∧∀k u,x.cells[k]?=some u→w.cell? ⟨b,off+j*7+k,none⟩=some u:=by
 have key:∀k u,x.cells[k]?=some u→∃b off,A=some ⟨b,off,none⟩∧w.cell? ⟨b,off+(j*7+k),none⟩=some u:=fun k u hu=>h (j*7+k) u ((Qz StepS.cells 7 (fun _=>rfl) l j x hx k (List.getElem?_eq_some_iff.1 hu).1).trans hu)
 obtain⟨b,off,hA,_⟩:=key 0 _ rfl
 refine⟨b,off,hA,fun k u hu=>?_⟩
 obtain⟨b',off',hA',hc⟩:=key k u hu
 rw[hA] at hA'
 cases hA'
 rwa [Nat.add_assoc]
theorem take_in64 {S S':PoolS}{x:NodeS}{l h:Int}(ht:S.take x l=some (h,S')):Ql h:=by
 unfold PoolS.take at ht
 simp only[bind,Option.bind_eq_some_iff] at ht
 obtain⟨nx,_,s,_,ht⟩:=ht
 split at ht
 ·rename_i hc
  injection ht with ht
  injection ht with ht _
  obtain⟨h1,h2,h3,h4,h5,h6⟩:=hc
  have h7:Qo S.head<1048576:=by
   unfold Qo
   unfold isWordB T20 T40 at h4 ⊢
   simp only[Bool.and_eq_true,decide_eq_true_eq] at h4
   split <;> omega
  unfold MaxTag at h6
  rw[←ht]
  unfold Za T40 Ql
  omega
 ·cases ht
theorem makes_root {x:NodeS}{m m':EditS}{S S':PoolS}(h:makes x (m,S)=some (m',S')):Ql m'.root∧m'.made.length=m.made.length+1∧m'.gone=m.gone:=by
 unfold makes at h
 simp only[bind,Option.bind_eq_some_iff] at h
 obtain⟨⟨hd,S1⟩,htk,h⟩:=h
 simp only[Option.some.injEq,Prod.mk.injEq] at h
 obtain⟨rfl,rfl⟩:=h
 exact⟨take_in64 htk,by simp,rfl⟩
def StepOk (s:StepS):Prop:=s.place<32∧0≤s.first∧s.first<4294967296∧Ql s.left∧Ql s.right∧-4000000000≤s.count∧s.count≤4000000000
def UpRel (L:PoolL)(base mb tb:Nat)(way:List StepS)(more:Int)(r:EditS × PoolS)(w:World)(k:Nat)(s7:Value)(wr:World):Prop:=
 ∃(m:EditS) (S:PoolS) (gv mv:Value) (D:List Nat) (i:Int),k≤way.length∧s7=.int .i64 i∧i=(k:Int)-1∧Zl more (way.take k).reverse (m,S)=some r∧PoolAt wr L S∧EditAt wr base mb tb m gv mv∧Ql m.root∧Only (mb :: L.blocks ++ D) w wr∧(∀k∈D,base≤k) ∧
  m.made.length+k<100000000∧m.gone.length+k<100000000
theorem upwards_cons {more:Int}{s:StepS}{l:List StepS}{m:EditS}{S:PoolS}{r:EditS × PoolS}(h:Zl more (s :: l) (m,S)=some r):
  ∃m1 S1,mkFork s.place s.first (if s.isRight then s.left else m.root) (if s.isRight then m.root else s.right) (s.count+more) (m,S)=some (m1,S1)∧Zl more l ({m1 with gone:=m1.gone ++ [s.h]},S1)=some r:=by
 unfold Zl at h
 simp only[bind,Option.bind_eq_some_iff] at h
 obtain⟨⟨m1,S1⟩,h1,h2⟩:=h
 exact⟨m1,S1,h1,h2⟩
theorem upwards_any (w:World)(base mb tb:Nat)(L:PoolL)(S:PoolS)(m:EditS)(gv mv:Value)(hp:PoolAt w L S)(ht:Blk w tb [ptr L.pb] 187)(hm:EditAt w base mb tb m gv mv)(hr0:Ql m.root)
  (hx1:mb∉L.all) (hx2:tb∉L.blocks) (hx3:tb≠mb) (hx4:∀k∈L.all,k<base) (hx5:tb<base) (way:List StepS) (A:Option Addr) (cap:Nat) (hway:Row w A (way.flatMap StepS.cells)) (hA:∀b,A=some b→b.block<base∧b.block≠mb∧b.block∉L.blocks) (hok:∀s∈way,StepOk s)
  (hln:way.length≤64) (hlen:m.made.length<90000000) (hlen2:m.gone.length<90000000) (more:Int) (hmore:-1≤more∧more≤1) (r:EditS × PoolS) (h:Zl more way.reverse (m,S)=some r):
  Calls prog 207 #[ptr mb,.slice A way.length cap,.int .i64 more] w (Edited L base mb tb r.1 r.2 w):=by
 have hst:UpRel L base mb tb way more r w way.length (.int .i64 ((way.length:Int)-1)) w:=
  ⟨m,S,gv,mv,[],_,Nat.le_refl _,rfl,rfl,by rw[List.take_length];exact h,hp,hm,hr0,Only.refl _ _,(fun _ h=>by cases h),by omega,by omega⟩
 have e0:IntKind.i64.wrap ((way.length:Int)-1)=(way.length:Int)-1:=IntWalk.i64_in _ (by omega)
 have HST:=hid hst
 have HT:=hid ht
 have HX1:=hid hx1
 have HX2:=hid hx2
 have HX3:=hid hx3
 have HX4:=hid hx4
 have HX5:=hid hx5
 have HWAY:=hid hway
 have HA:=hid hA
 have HOK:=hid hok
 have HLN:=hid hln
 have HMR:=hid hmore
 have HMBL:=hid (show mb<base from hm.low)
 unfold ptr
 clear hst hp ht hm hx1 hx2 hx3 hx4 hx5 hway hA hok hlen hlen2 hmore h hr0 hln
 go_enter func207,ntmps207
 go_wp2_with fail
 go_loopg [7] way.length (fun k s7 wr=>UpRel L base mb tb way more r w k s7 wr)
 case atStart=>exact HST.out
 case round=>
  obtain⟨m,S,gv,mv,D,i,hkl,rfl,rfl,hup,hp,hm,hroot,ho,hD,hmd,hgn⟩:=hrel
  cases gk with
  |zero=>
   have hr:(m,S)=r:=Option.some.inj hup
   have HR:=hid hr
   have HP:=hid hp
   have HM:=hid hm
   have HO:=hid ho
   have HD:=hid hD
   have hneg:¬(0:Int)≤((0:Nat):Int)-1:=by omega
   clear hr hp hm ho hD hup hmd hgn hroot hkl
   go_wp2_with fail
   go_ret
   rw[←HR.out]
   exact⟨gv,mv,D,rfl,HP.out,HM.out,HO.out,HD.out⟩
  |succ k=>
   have hik:(((k+1:Nat):Int)-1)=(k:Int):=by omega
   rw[hik]
   have hkl':k<way.length:=hkl
   have hget:way[k]?=some way[k]:=List.getElem?_eq_getElem hkl'
   obtain⟨⟨p,f,l,rr,c,hh,ir⟩,hs⟩:∃s,way[k]=s:=⟨_,rfl⟩
   rw[hs] at hget
   have htk:way.take (k+1)=way.take k ++ [⟨p,f,l,rr,c,hh,ir⟩]:=by
    rw[←hs]
    exact List.take_succ_eq_append_getElem hkl'
   rw[htk,List.reverse_append,List.reverse_singleton,List.singleton_append] at hup
   obtain⟨m1,S1,hf,hrest⟩:=upwards_cons hup
   obtain⟨ok1,ok2,ok3,ok4,ok5,ok6,ok7⟩:=HOK.out _ (List.mem_of_getElem? hget)
   dsimp only at ok1 ok2 ok3 ok4 ok5 ok6 ok7 hf hrest
   have hrow:Row wr A (way.flatMap StepS.cells):=HWAY.out.only ho (fun b hb hc=>by
    have:=HA.out b hb
    simp only[List.cons_append,List.mem_cons,List.mem_append] at hc
    rcases hc with hc|hc|hc
    ·exact this.2.1 hc
    ·exact this.2.2 hc
    ·have:=hD _ hc
     omega)
   obtain⟨ab,off,rfl,hcell⟩:=row_step hrow hget
   have a0:wr.cell? ⟨ab,off+k*7,none⟩=some (.int .i64 (p:Int)):=hcell 0 _ rfl
   have a1:wr.cell? ⟨ab,off+k*7+1,none⟩=some (.int .i64 f):=hcell 1 _ rfl
   have a2:wr.cell? ⟨ab,off+k*7+2,none⟩=some (.int .i64 l):=hcell 2 _ rfl
   have a3:wr.cell? ⟨ab,off+k*7+3,none⟩=some (.int .i64 rr):=hcell 3 _ rfl
   have a4:wr.cell? ⟨ab,off+k*7+4,none⟩=some (.int .i64 c):=hcell 4 _ rfl
   have a5:wr.cell? ⟨ab,off+k*7+5,none⟩=some (.int .i64 hh):=hcell 5 _ rfl
   have a6:wr.cell? ⟨ab,off+k*7+6,none⟩=some (.bool ir):=hcell 6 _ rfl
   have hk0:(0:Int)≤(k:Int):=by omega
   have hk1:(k:Int)<(way.length:Int):=by omega
   have hsum:IntKind.i64.wrap (c+more)=c+more:=IntWalk.i64_in _ (by have:=HMR.out;omega)
   have hbm:mb<base:=HMBL.out
   have HM:=hid hm
   have HP:=hid hp
   have hmk:=makes_root hf
   have HO:=hid ho
   have HD:=hid hD
   have HRE:=hid hrest
   have HMK:=hid hmk
   have HF:=hid hf
   have HRT:=hid hroot
   have HMD:=hid hmd
   have HGN:=hid hgn
   have HKL:=hid hkl'
   have HSO:=hid (show p<32∧(0≤f∧f<4294967296)∧Ql l∧Ql rr∧Ql (c+more) from ⟨ok1,⟨ok2,ok3⟩,ok4,ok5,by have:=HMR.out;unfold Ql;omega⟩)
   clear hup htk hs hget hf hrest hrow hcell ho hm hD hp hmk hmd hgn hkl hkl' ok1 ok2 ok3 ok4 ok5 ok6 ok7 hroot hik
   go_wp2_with fail
   obtain⟨W1,hW1⟩:∃W1,wr.alloc (.cells #[.int .i64 (p:Int),.int .i64 f,.int .i64 l,.int .i64 rr,.int .i64 c,.int .i64 hh,.bool ir] 339)=W1:=⟨_,rfl⟩
   rw[hW1]
   have hq:Blk W1 wr.heap.size [.int .i64 (p:Int),.int .i64 f,.int .i64 l,.int .i64 rr,.int .i64 c,.int .i64 hh,.bool ir] 339:=hW1 ▸ Blk.new wr _ 339
   have ho1:Only [] wr W1:=hW1 ▸ (Only.refl [] wr).alloc _
   clear hW1
   have hm1:Blk W1 mb [ptr tb,.pointer none,.int .i64 m.root,.int .i64 m.old,.bool m.had,gv,mv] 320:=HM.out.blk.only ho1 (by simp)
   have b2:W1.cell? ⟨mb,2,none⟩=some (.int .i64 m.root):=hm1.cell rfl
   have q0:=hq.cell (i:=0) rfl
   have q1:=hq.cell (i:=1) rfl
   have q2:=hq.cell (i:=2) rfl
   have q3:=hq.cell (i:=3) rfl
   have q4:=hq.cell (i:=4) rfl
   have q5:=hq.cell (i:=5) rfl
   have q6:=hq.cell (i:=6) rfl
   have HFK:Hid (∀n,Calls prog 231 #[ptr mb,.int .i64 (p:Int),.int .i64 f,.int .i64 (if ir then l else m.root),.int .i64 (if ir then m.root else rr),.int .i64 (c+more)] (W1.drewN n) (Edited2 L base mb tb gv mv m1 S1 (W1.drewN n))):=
    hid fun n=>fork2_any (W1.drewN n) base mb tb L S m gv mv ((HP.out.only ho1 (by simp)).only ((Only.refl [] W1).drewN n) (by simp)) ((HT.out.only (HO.out.trans (ho1.mono (by simp))) (by simp only[List.cons_append,List.mem_cons,List.mem_append];rintro (e|e|e);exact HX3.out e;exact HX2.out e;have:=HD.out _ e;have:=HX5.out;omega)).drewN n)
     ⟨hm1.drewN n,Qe (Qe HM.out.gone ho1 (by simp)) ((Only.refl [] W1).drewN n) (by simp),Qe (Qe HM.out.made ho1 (by simp)) ((Only.refl [] W1).drewN n) (by simp),HM.out.low,HM.out.apart,Nat.le_trans HM.out.room ho1.size⟩ HX1.out HX2.out HX3.out HX4.out HX5.out (by have:=HMD.out;omega) p f _ _ (c+more) HSO.out.1 HSO.out.2.1 (by split;exact HSO.out.2.2.1;exact HRT.out) (by split;exact HRT.out;exact HSO.out.2.2.2.1) HSO.out.2.2.2.2 m1 S1 HF.out
   have HO1:=hid ho1
   have HQ:=hid hq
   unfold ptr at HFK
   clear ho1 hq hm1 a0 a1 a2 a3 a4 a5 a6
   cases ir
   have ar3_1:=0;rotate_left
   rotate_left
   all_goals
    first|(have _:=ar3_1;simp only[Bool.false_eq_true,if_false] at HFK)|(simp only[if_true] at HFK;go_quiet (fail);go_wp2_with fail)
    go_quiet (fail)
    go_wp2_with (go_at_call 231;refine (HFK.out _).mono ?_;rintro e w2 he;obtain⟨mv',rfl,hp2,hm2,ho2',_⟩:=he;have ho2:Only (mb :: L.blocks ++ mv.ownBlock.toList) W1 w2:=((Only.refl _ W1).drewN _).trans ho2';have HP2:=hid hp2;have HM2:=hid hm2;have HO2:=hid ho2;clear hp2 hm2 ho2 ho2')
    have hgl:m1.gone.length=m.gone.length:=by rw[HMK.out.2.2]
    have HGL:=hid hgl
    obtain⟨gA,gc,rfl,_,_⟩:=Qc HM2.out.gone
    have hwr:wr.heap.size<W1.heap.size:=HQ.out.lt
    have hw1:=HO1.out.size
    have hw2:=HO2.out.size
    have hml:mb<base:=HMBL.out
    have hbr:=HM.out.room
    have hqn:wr.heap.size∉mb :: L.blocks ++ mv.ownBlock.toList:=by
     simp only[List.cons_append,List.mem_cons,List.mem_append]
     rintro (e|e|e)
     ·omega
     ·have:=HX4.out _ (Qf e)
      omega
     ·have:=(HM.out.made.lt _ (by simpa using e)).2
      omega
    first|(have _:=ar3_1;have hq2:Blk w2 wr.heap.size [.int .i64 (p:Int),.int .i64 f,.int .i64 l,.int .i64 rr,.int .i64 c,.int .i64 hh,.bool false] 339:=HQ.out.only HO2.out hqn)|(have hq2:Blk w2 wr.heap.size [.int .i64 (p:Int),.int .i64 f,.int .i64 l,.int .i64 rr,.int .i64 c,.int .i64 hh,.bool true] 339:=HQ.out.only HO2.out hqn)
    have z5:=hq2.cell (i:=5) rfl
    have z5a:=hid (show ((w2.alloc (.cells #[.int .i64 hh] 3)).drew).cell? ⟨wr.heap.size,5,none⟩=some (.int .i64 hh) from Qb z5 _)
    have z5d:=hid (show (w2.drew).cell? ⟨wr.heap.size,5,none⟩=some (.int .i64 hh) from z5)
    have g5:w2.cell? ⟨mb,5,none⟩=some (.slice gA m1.gone.length gc):=HM2.out.blk.cell rfl
    have g5a:(w2.alloc (.cells #[.int .i64 hh] 3)).cell? ⟨mb,5,none⟩=some (.slice gA m1.gone.length gc):=Qb g5 _
    have HG5:=hid g5
    have hsz2:w2.heap.size=w2.heap.size:=rfl
    have hk1w:IntKind.i64.wrap ((k:Int)-1)=(k:Int)-1:=IntWalk.i64_in _ (by have:=HLN.out;have:=HKL.out;omega)
    have HL1:=hid (show m1.gone.length+1≤maxLen from by rw[hgl];have:=HGN.out;unfold maxLen;omega)
    have HL2:=hid (show (m1.gone.length+1)*8≤140737488355328 from by rw[hgl];have:=HGN.out;omega)
    have HL3:=hid (show base≤((w2.alloc (.cells #[.int .i64 hh] 3)).drew).heap.size from Nat.le_trans HM2.out.room (Qg _ _))
    have HROW:=hid (show ((w2.alloc (.cells #[.int .i64 hh] 3)).drew).ownsRow base 3 1 (.slice gA m1.gone.length gc) m1.gone.length (Zc m1.gone) from (HM2.out.gone.alloc _).drew)
    have HRN:=hid (show Row ((w2.alloc (.cells #[.int .i64 hh] 3)).drew) (some ⟨w2.heap.size,0,none⟩) [.int .i64 hh] from Zg w2 [.int .i64 hh] 3)
    have HBA:=hid (show Blk ((w2.alloc (.cells #[.int .i64 hh] 3)).drew) mb [ptr tb,.pointer none,.int .i64 m1.root,.int .i64 m1.old,.bool m1.had,.slice gA m1.gone.length gc,mv'] 320 from (HM2.out.blk.alloc _).drew)
    have hgne:(Value.slice gA m1.gone.length gc).ownBlock≠some mb:=fun e=>by have:=(HM2.out.gone.lt _ e).1;omega
    have hgne2:(Value.slice gA m1.gone.length gc).ownBlock≠some wr.heap.size→True:=fun _=>trivial
    have HGNE:=hid hgne
    first|(have _:=ar3_1;have HQA:=hid (show Blk ((w2.alloc (.cells #[.int .i64 hh] 3)).drew) wr.heap.size [.int .i64 (p:Int),.int .i64 f,.int .i64 l,.int .i64 rr,.int .i64 c,.int .i64 hh,.bool false] 339 from (hq2.alloc _).drew))|(have HQA:=hid (show Blk ((w2.alloc (.cells #[.int .i64 hh] 3)).drew) wr.heap.size [.int .i64 (p:Int),.int .i64 f,.int .i64 l,.int .i64 rr,.int .i64 c,.int .i64 hh,.bool true] 339 from (hq2.alloc _).drew))
    have HGNQ:Hid ((Value.slice gA m1.gone.length gc).ownBlock≠some wr.heap.size):=hid (fun e=>by have h:=HM.out.gone.lt _ e;omega)
    clear hgne2 hsz2 hqn hq2 hgne hgl
    refine wp_region_held_drew (S:=(fun W=>W.cell? ⟨wr.heap.size,5,none⟩=some (.int .i64 hh))) (by kernel_rfl) ?_ (fun hHeld=>?_)
    ·exact z5d.out
    refine tk 0 ?_
    refine tk 1 ?_
    refine tk 2 ?_
    refine tk 3 ?_
    refine tk 4 ?_
    refine tk 6 ?_
    refine tk 7 ?_
    refine on2 5 8 (fun K hK=>?_) (fun K hK=>?_)
    go_simp
    refine hK.out _ _ (z5d.out) (fun hHeld=>?_)
    clear hK K
    try simp only[sp]
    refine on1 8 (fun K hK=>?_)
    go_simp
    refine hK.out _ _ (z5a.out) (fun hHeld=>?_)
    clear hK K
    try simp only[sp]
    refine on1 9 (fun K hK=>?_)
    refine Zb rfl (.tmp 64) (.tmp 67) rfl elemInt rfl HROW.out _ 1 _ [.int .i64 hh] rfl HRN.out rfl (by simp[Value.oneCell']) HL1.out HL2.out HL3.out (fun e=>by cases e) ?_
    intro v3 w3 hown3 hg3 hat3
    have hg3:((w2.alloc (.cells #[.int .i64 hh] 3)).drew).grownBy w3 (Value.slice gA m1.gone.length gc).ownBlock:=hg3
    have hat3:v3.ownBlock=(Value.slice gA m1.gone.length gc).ownBlock∨v3.ownBlock=some ((w2.alloc (.cells #[.int .i64 hh] 3)).drew).heap.size:=hat3
    have HOWN3:=hid hown3
    have HG3:=hid hg3
    have HAT3:=hid hat3
    have hb3:Blk w3 mb [ptr tb,.pointer none,.int .i64 m1.root,.int .i64 m1.old,.bool m1.had,.slice gA m1.gone.length gc,mv'] 320:=Qm HBA.out hg3 (fun e=>HGNE.out e)
    have d3:=hb3.cell (i:=5) rfl
    have f3:=hb3.frozen
    have HB3:=hid hb3
    obtain⟨A3,c3,rfl,_,_⟩:=Qc hown3
    clear hown3 hg3 hat3 hb3
    refine hK.out _ _ (show w3.cell? ⟨wr.heap.size,5,none⟩=some (.int .i64 hh) from (Qm HQA.out HG3.out (fun e=>HGNQ.out e)).cell rfl) (fun hHeld=>?_)
    clear hK K
    try simp only[sp]
    refine tk 10 ?_
    refine tk 11 ?_
    refine tk 12 ?_
    refine on1 13 (fun K hK=>?_)
    go_simp
    refine hK.out _ _ (show (w3.setCell ⟨mb,5,none⟩ _).cell? ⟨wr.heap.size,5,none⟩=some (.int .i64 hh) from Qa ((Only.refl [mb] w3).setCell (.inl (by simp)) _) ((Qm HQA.out HG3.out (fun e=>HGNQ.out e)).cell rfl) (by simp;omega)) (fun hHeld=>?_)
    clear hK K
    try simp only[sp]
    refine wpAnyH_done (by kernel_rfl) ?_ _
    rotate_left 1
    go_simp
    refine hK.out _ _ (z5a.out) (fun hHeld=>?_)
    clear hK K
    try simp only[sp]
    refine on1 5 (fun K hK=>?_)
    go_simp
    refine hK.out _ _ (z5a.out) (fun hHeld=>?_)
    clear hK K
    try simp only[sp]
    refine on1 9 (fun K hK=>?_)
    refine Zb rfl (.tmp 64) (.tmp 67) rfl elemInt rfl HROW.out _ 1 _ [.int .i64 hh] rfl HRN.out rfl (by simp[Value.oneCell']) HL1.out HL2.out HL3.out (fun e=>by cases e) ?_
    intro v3 w3 hown3 hg3 hat3
    have hg3:((w2.alloc (.cells #[.int .i64 hh] 3)).drew).grownBy w3 (Value.slice gA m1.gone.length gc).ownBlock:=hg3
    have hat3:v3.ownBlock=(Value.slice gA m1.gone.length gc).ownBlock∨v3.ownBlock=some ((w2.alloc (.cells #[.int .i64 hh] 3)).drew).heap.size:=hat3
    have HOWN3:=hid hown3
    have HG3:=hid hg3
    have HAT3:=hid hat3
    have hb3:Blk w3 mb [ptr tb,.pointer none,.int .i64 m1.root,.int .i64 m1.old,.bool m1.had,.slice gA m1.gone.length gc,mv'] 320:=Qm HBA.out hg3 (fun e=>HGNE.out e)
    have d3:=hb3.cell (i:=5) rfl
    have f3:=hb3.frozen
    have HB3:=hid hb3
    obtain⟨A3,c3,rfl,_,_⟩:=Qc hown3
    clear hown3 hg3 hat3 hb3
    refine hK.out _ _ (show w3.cell? ⟨wr.heap.size,5,none⟩=some (.int .i64 hh) from (Qm HQA.out HG3.out (fun e=>HGNQ.out e)).cell rfl) (fun hHeld=>?_)
    clear hK K
    try simp only[sp]
    refine tk 10 ?_
    refine tk 11 ?_
    refine tk 12 ?_
    refine on1 13 (fun K hK=>?_)
    go_simp
    refine hK.out _ _ (show (w3.setCell ⟨mb,5,none⟩ _).cell? ⟨wr.heap.size,5,none⟩=some (.int .i64 hh) from Qa ((Only.refl [mb] w3).setCell (.inl (by simp)) _) ((Qm HQA.out HG3.out (fun e=>HGNQ.out e)).cell rfl) (by simp;omega)) (fun hHeld=>?_)
    clear hK K
    try simp only[sp]
    refine wpAnyH_done (by kernel_rfl) ?_ _
    all_goals (try go_wp2_with fail)
    all_goals
     go_roundg k
     case measure=>omega
     case rel=>
      have hown3':w3.ownsRow base 3 1 (.slice A3 (m1.gone.length+1) c3) (m1.gone.length+1) (Zc m1.gone ++ [.int .i64 hh]):=HOWN3.out
      have hwa:Only [] w2 ((w2.alloc (.cells #[.int .i64 hh] 3)).drew):=((Only.refl [] w2).alloc _).drew'
      have hgr:Only ((Value.slice gA m1.gone.length gc).ownBlock.toList) w2 w3:=(hwa.mono (by simp)).grown HG3.out (fun k hk=>.inr (by rw[hk];simp))
      have hset:Only [mb] w3 (w3.setCell ⟨mb,5,none⟩ (.slice A3 (m1.gone.length+1) c3)):=(Only.refl _ _).setCell (.inl (by simp)) _
      have hgb:∀k,k∈(Value.slice gA m1.gone.length gc).ownBlock.toList→base≤k:=fun k hk=>(HM2.out.gone.lt k (by simpa using hk)).1
      have hmb:∀k,k∈mv.ownBlock.toList→base≤k:=fun k hk=>(HM.out.made.lt k (by simpa using hk)).1
      have hml:=HMBL.out
      have hmade:w3.ownsRow base 3 1 mv' m1.made.length (Zc m1.made):=Qe HM2.out.made hgr (fun k hk hc=>HM2.out.apart k (by simpa using hc) hk)
      refine⟨{m1 with gone:=m1.gone ++ [hh]},S1,.slice A3 (m1.gone.length+1) c3,mv',D ++ mv.ownBlock.toList ++ (Value.slice gA m1.gone.length gc).ownBlock.toList,(k:Int)-1,by have:=HKL.out;omega,rfl,rfl,HRE.out,?_,⟨HB3.out.set 5 _,?_,Qe hmade hset (fun k hk=>by have:=(hmade.lt k hk).1;simp;omega),hml,?_,?_⟩,HMK.out.1,?_,?_,by have:=HMD.out;have:=HMK.out.2.1;dsimp only;omega,by have:=HGN.out;dsimp only;rw[List.length_append,HGL.out,List.length_singleton];omega⟩
      ·refine (HP2.out.only hgr (fun k hk hc=>by have:=hgb k hc;have:=HX4.out k hk;omega)).only hset (fun k hk hc=>?_)
       simp at hc
       subst hc
       exact HX1.out hk
      ·show World.ownsRow _ _ _ _ _ (m1.gone ++ [hh]).length (Zc (m1.gone ++ [hh]))
       rw[List.length_append,List.length_singleton,ints_snoc]
       exact Qe hown3' hset (fun k hk=>by have:=(hown3'.lt k hk).1;simp;omega)
      ·intro g hg e
       rcases HAT3.out with h1|h1
       ·rw[h1] at hg
        exact HM2.out.apart g hg e
       ·rw[h1] at hg
        injection hg with hg
        have h2:=(HM2.out.made.lt g e).2
        have h3:w2.heap.size≤((w2.alloc (.cells #[.int .i64 hh] 3)).drew).heap.size:=Qg _ _
        omega
      ·exact Nat.le_trans HM2.out.room (Nat.le_trans hgr.size hset.size)
      ·have s1:=HO.out.mono (Y:=mb :: L.blocks ++ (D ++ mv.ownBlock.toList ++ (Value.slice gA m1.gone.length gc).ownBlock.toList)) (fun k hk=>by simp only[List.cons_append,List.mem_cons,List.mem_append] at hk ⊢;rcases hk with h|h|h <;> simp[h])
       have s2:=HO1.out.mono (Y:=mb :: L.blocks ++ (D ++ mv.ownBlock.toList ++ (Value.slice gA m1.gone.length gc).ownBlock.toList)) (by simp)
       have s3:=HO2.out.mono (Y:=mb :: L.blocks ++ (D ++ mv.ownBlock.toList ++ (Value.slice gA m1.gone.length gc).ownBlock.toList)) (fun k hk=>by simp only[List.cons_append,List.mem_cons,List.mem_append] at hk ⊢;rcases hk with h|h|h <;> simp[h])
       have s4:=hgr.mono (Y:=mb :: L.blocks ++ (D ++ mv.ownBlock.toList ++ (Value.slice gA m1.gone.length gc).ownBlock.toList)) (fun k hk=>by simp only[List.cons_append,List.mem_cons,List.mem_append];simp[hk])
       have s5:=hset.mono (Y:=mb :: L.blocks ++ (D ++ mv.ownBlock.toList ++ (Value.slice gA m1.gone.length gc).ownBlock.toList)) (fun k hk=>by simp at hk;simp[hk])
       exact (((s1.trans s2).trans s3).trans s4).trans s5
      ·intro k hk
       simp only[List.mem_append] at hk
       rcases hk with (hk|hk)|hk
       ·exact HD.out k hk
       ·exact hmb k hk
       ·exact hgb k hk
end Go.Proofs.YteeefedoffplmaaGreat
