/- StoreAlone, part Pas: ManyCl, PartMany, LawFns. -/
import Derived.Test.YteeefedoffplmaaGreatPar
import Derived.BigQuiet
set_option linter.unusedSimpArgs false
set_option linter.unusedVariables false
set_option maxRecDepth 100000
set_option maxHeartbeats 51200000
namespace Go.Proofs.YteeefedoffplmaaGreat
open Go.RowKit Lib Go.Proofs.Tryz
theorem manyCl_any (w:World)(L:PoolL)(S:PoolS)(pt pg:Nat)(x0 x1 x2 x5 x6:Value)(hp:PoolAt w L S)(ht:Blk w pg [ptr L.pb] 187)(hpt:Blk w pt [x0,x1,x2,ptr L.pb,ptr pg,x5,x6] 152)(hx2:pg∉L.blocks)(hx3:pt∉L.blocks)(b2 b3:Nat)(hx4:b2∉L.blocks)(hx5:b3∉L.blocks)
  (root:Int) (hroot:Ql root) (A:Option Addr) (cap:Nat) (pairs:List (Int × Int)) (hpl:pairs.length≤1000) (h2:w.cell? ⟨b2,0,none⟩=some (.slice A pairs.length cap)) (h3:w.cell? ⟨b3,0,none⟩=some (ptr pt)) (hrow:Row w A (Qd pairs)) (hrb:∀b,A=some b→b.block∉L.blocks) (cF:ChangeS) (SF:PoolS) (hm:ManyW pairs (⟨root,[],[],ToldS.zero⟩,S) (cF,SF)):
  Calls prog 164 #[.pointer none,.int .i64 root,ptr b2,ptr b3] w (Zi L {cF with told:={cF.told with new:=decide (cF.root≠root)}} 0 SF w):=by
 obtain⟨w0,hw0⟩:∃w0,(w.alloc (.cells #[.int .i64 0,.slice none 0 0,.slice none 0 0,.int .i64 0,.bool false,.int .i64 0,.bool false,.int .i64 0] 209)).alloc (.cells #[.int .i64 root,.slice none 0 0,.slice none 0 0,.int .i64 0,.bool false,.int .i64 0,.bool false,.int .i64 0] 209)=w0:=⟨_,rfl⟩
 have ho0:Only [] w w0:=by rw[←hw0];exact ((Only.refl _ _).alloc _).alloc _
 have hr0:Blk w0 w.heap.size z8 209:=by rw[←hw0];exact (Blk.new w z8 209).alloc _
 have hb0:Blk w0 (w.heap.size+1) ((⟨root,[],[],ToldS.zero⟩:ChangeS).cs (.slice none 0 0) (.slice none 0 0)) 209:=by
  have:=Blk.new (w.alloc (.cells z8.toArray 209)) ((⟨root,[],[],ToldS.zero⟩:ChangeS).cs (.slice none 0 0) (.slice none 0 0)) 209
  rw[World.size_alloc] at this
  rw[←hw0]
  exact this
 have hst:MgRel L pairs (cF,SF) w pairs.length (.int .i64 0) w0:=
  ⟨0,⟨root,[],[],ToldS.zero⟩,S,.slice none 0 0,.slice none 0 0,Nat.zero_le _,rfl,rfl,hm,⟨hp.only ho0 (by simp),hr0,hb0,World.ownsRow_nil _ _ _ _,World.ownsRow_nil _ _ _ _,(fun _ e=>by cases e),by have:=hb0.lt;omega,hp.lt,ho0.mono (by simp)⟩⟩
 have HST:=hid hst
 have HH2:=hid h2
 have HH3:=hid h3
 have HROW:=hid hrow
 have HRB:=hid hrb
 have HT:=hid ht
 have HPT:=hid hpt
 have HX2:=hid hx2
 have HX3:=hid hx3
 have HX4:=hid hx4
 have HX5:=hid hx5
 have HPL:=hid hpl
 have c2:=Qa ho0 h2 (by simp)
 rw[←hw0] at c2
 have HW0:=hid hw0
 have hroot':=hroot
 unfold ptr at *
 clear hp ht hpt hx2 hx3 hx4 hx5 h2 h3 hrow hrb hm ho0 hr0 hb0 hst hpl hroot' hw0
 go_enter func164,ntmps164
 go_wp2_with fail
 rw[HW0.out]
 go_loopg [20] pairs.length (fun k s20 wr=>MgRel L pairs (cF,SF) w k s20 wr)
 case atStart=>exact HST.out
 case round=>
  clear HW0 c2 HST
  obtain⟨wo,rfl⟩:∃wo,wo=wr:=⟨wr,rfl⟩
  obtain⟨j,c,Sj,gv,mv,hj,rfl,rfl,hmw,hms⟩:=hrel
  have HMS:=hid hms
  by_cases hlt:j<pairs.length
  ·have hlt':(j:Int)<pairs.length:=by omega
   obtain⟨⟨k,v⟩,hx⟩:∃x,pairs[j]?=some x:=⟨_,List.getElem?_eq_getElem hlt⟩
   have hdrop:pairs.drop j=(k,v) :: pairs.drop (j+1):=by
    have h1:=(List.getElem?_eq_some_iff.1 hx).2
    rw[List.drop_eq_getElem_cons hlt,h1]
   rw[hdrop] at hmw
   obtain⟨p1,p2,p3,p4,p5,p6,p7,m',S1,c2,S2,e1,e2,e3,e4,e5,e6,e7⟩:=hmw
   have hg2:=Qz (fun p:Int × Int=>[Value.int .i64 p.1,.int .i64 p.2]) 2 (fun _=>rfl) pairs j (k,v) hx
   obtain⟨pb,po,rfl,hk0⟩:=HROW.out (j*2+0) (.int .i64 k) (by rw[Qd,hg2 0 (by decide)];rfl)
   obtain⟨pb',po',hpe,hk1⟩:=HROW.out (j*2+1) (.int .i64 v) (by rw[Qd,hg2 1 (by decide)];rfl)
   injection hpe with hpe
   injection hpe with hpe1 hpe2
   subst hpe1 hpe2
   replace hk0:=Qa hms.only hk0 (HRB.out _ rfl)
   replace hk1:=Qa hms.only hk1 (HRB.out _ rfl)
   rw[Nat.add_zero] at hk0
   rw[←Nat.add_assoc] at hk1
   have y3:=Qa hms.only HH3.out HX5.out
   have q34:=(HPT.out.only hms.only HX3.out).cell (i:=4) rfl
   have q33:=(HPT.out.only hms.only HX3.out).cell (i:=3) rfl
   have hput:∀W,Only [] wo W→Calls prog 165 #[.pointer (some ⟨pg,0,none⟩),.pointer none,.int .i64 c.root,.int .i64 k,.int .i64 v] W (Putted L m' S1 W):=fun W ho=>trieput_any W pg L Sj ((hms.new ho).p) ((HT.out.only hms.only HX2.out).only ho (by simp)) HX2.out c.root k v p1 p2 p3 m' S1 e1
   have hc0:=hms.b.cell (i:=0) rfl
   have hcl:w.heap.size+1∉L.blocks:=fun e=>by have:=hms.low _ (Qf e);omega
   have hwrl:wo.heap.size∉L.blocks:=fun e=>by have:=hms.low _ (Qf e);have:=hms.room;omega
   have hb3l:b3<wo.heap.size:=by have:=cell_lt y3;exact this
   have hptl:=(HPT.out.only hms.only HX3.out).lt
   have hroom:=hms.room
   have hkb:(wo.alloc (.cells #[.int .i64 k,.int .i64 v] 36)).cell? ⟨wo.heap.size,0,none⟩=some (.int .i64 k):=(Blk.new wo [.int .i64 k,.int .i64 v] 36).cell rfl
   have hkb1:(wo.alloc (.cells #[.int .i64 k,.int .i64 v] 36)).cell? ⟨wo.heap.size,1,none⟩=some (.int .i64 v):=(Blk.new wo [.int .i64 k,.int .i64 v] 36).cell rfl
   have HO0:=hid (show Only [] wo (wo.alloc (.cells #[.int .i64 k,.int .i64 v] 36)) from (Only.refl _ _).alloc _)
   have c0:=Qa HO0.out hc0 (by simp)
   have s3:=Qa HO0.out y3 (by simp)
   have s4:=Qa HO0.out q34 (by simp)
   have HPO:=hid hput
   have HCL:=hid hcl
   have HWRL:=hid hwrl
   have HE2:=hid e2
   have HE3:=hid e3
   have HE4:=hid e4
   have HE5:=hid e5
   have HE6:=hid e6
   have HE7:=hid e7
   have HP4:=hid p4
   have HP5:=hid p5
   have HP6:=hid p6
   have HP7:=hid p7
   have HDR:=hid hdrop
   have HRM:=hid hroom
   have hn1:w.heap.size+1≠wo.heap.size+1:=by omega
   have hn2:b3≠wo.heap.size+1:=by omega
   have hn3:pt≠wo.heap.size+1:=by omega
   have hn4:wo.heap.size≠wo.heap.size+1:=by omega
   have heb0:Blk ((wo.alloc (.cells #[.int .i64 k,.int .i64 v] 36)).alloc (.cells #[.int .i64 0,.int .i64 0,.bool false,.slice none 0 0,.slice none 0 0] 264)) (wo.heap.size+1) [.int .i64 0,.int .i64 0,.bool false,.slice none 0 0,.slice none 0 0] 264:=by
    have:=Blk.new (wo.alloc (.cells #[.int .i64 k,.int .i64 v] 36)) [.int .i64 0,.int .i64 0,.bool false,.slice none 0 0,.slice none 0 0] 264
    rw[World.size_alloc] at this
    exact this
   have HEB:=hid heb0
   have hwrl2:wo.heap.size+1∉L.blocks:=fun e=>by have:=hms.low _ (Qf e);omega
   have HWRL2:=hid hwrl2
   unfold Putted Edit2 at HPO
   clear hms p1 p2 p3 p4 p5 p6 p7 e1 e2 e3 e4 e5 e6 e7 hg2 hdrop hput hcl hwrl hb3l hptl hroom heb0 hwrl2 hc0 q33 q34 y3
   go_wp2_with fail
   go_region_held3 (fun W=>W.cell? ⟨b3,0,none⟩=some (.pointer (some ⟨pt,0,none⟩))∧W.cell? ⟨pt,4,none⟩=some (.pointer (some ⟨pg,0,none⟩))∧W.cell? ⟨w.heap.size+1,0,none⟩=some (.int .i64 c.root)∧W.cell? ⟨wo.heap.size,0,none⟩=some (.int .i64 k)∧W.cell? ⟨wo.heap.size,1,none⟩=some (.int .i64 v))
    (first|with_reducible exact⟨Qa ho2 s3 HX5.out,Qa ho2 s4 HX3.out,Qa ho2 c0 HCL.out,Qa ho2 hkb HWRL.out,Qa ho2 hkb1 HWRL.out⟩|with_reducible exact⟨Qa (ho2.alloc _) s3 HX5.out,Qa (ho2.alloc _) s4 HX3.out,Qa (ho2.alloc _) c0 HCL.out,Qa (ho2.alloc _) hkb HWRL.out,Qa (ho2.alloc _) hkb1 HWRL.out⟩|with_reducible exact⟨keep5' (Qa ho2 s3 HX5.out) hn2,keep5' (Qa ho2 s4 HX3.out) hn3,keep5' (Qa ho2 c0 HCL.out) hn1,keep5' (Qa ho2 hkb HWRL.out) hn4,keep5' (Qa ho2 hkb1 HWRL.out) hn4⟩|(go_keep;done))
    (first|(go_simp;go_at_call 165;refine (HPO.out _ HO0.out.drew').mono ?_;rintro e w2 ⟨gv',mv',rfl,h1,h2,h3,h4,ho2'⟩;obtain⟨gA,gc,rfl,_,_⟩:=Qc h2;obtain⟨mA,mc,rfl,hmr,hmn⟩:=Qc h3;have H1:=hid h1;have H2:=hid h2;have H3:=hid h3;have H4:=hid h4;clear h1 h2 h3 h4 hmr hmn;have ho2:Only L.blocks (wo.alloc (.cells #[.int .i64 k,.int .i64 v] 36)) w2:=⟨ho2'.os,ho2'.tape,ho2'.output,ho2'.size,ho2'.block⟩;have HO2:=hid ho2;clear ho2')|(go_simp;go_at_call 165;refine (HPO.out _ (HO0.out.alloc _).drew').mono ?_;rintro e w2 ⟨gv',mv',rfl,h1,h2,h3,h4,ho2'⟩;obtain⟨gA,gc,rfl,_,_⟩:=Qc h2;obtain⟨mA,mc,rfl,hmr,hmn⟩:=Qc h3;have H1:=hid h1;have H2:=hid h2;have H3:=hid h3;have H4:=hid h4;clear h1 h2 h3 h4 hmr hmn;have ho2:Only L.blocks (wo.alloc (.cells #[.int .i64 k,.int .i64 v] 36)) w2:=((Only.refl _ _).alloc _).trans ⟨ho2'.os,ho2'.tape,ho2'.output,ho2'.size,ho2'.block⟩;have heb:=HEB.out.only (show Only L.blocks ((wo.alloc (.cells #[.int .i64 k,.int .i64 v] 36)).alloc (.cells #[.int .i64 0,.int .i64 0,.bool false,.slice none 0 0,.slice none 0 0] 264)) w2 from ⟨ho2'.os,ho2'.tape,ho2'.output,ho2'.size,ho2'.block⟩) HWRL2.out;have qf:=heb.frozen;have q0:=heb.cell (i:=0) rfl;have q1:=heb.cell (i:=1) rfl;have q2:=heb.cell (i:=2) rfl;have q3:=heb.cell (i:=3) rfl;have q4:=heb.cell (i:=4) rfl;have HEB2:=hid heb;have HO2:=hid ho2;clear ho2' heb))
   have ar5_1:=0;rotate_left
   rotate_left
   all_goals
    first|(have _:=ar5_1;have hE:Blk (w2.alloc (.cells #[.int .i64 m'.root,.int .i64 m'.old,.bool m'.had,.slice gA m'.gone.length gc,.slice mA m'.made.length mc] 264)) w2.heap.size [.int .i64 m'.root,.int .i64 m'.old,.bool m'.had,.slice gA m'.gone.length gc,.slice mA m'.made.length mc] 264:=Blk.new w2 _ 264;have hO3:=HO2.out.alloc (.cells #[.int .i64 m'.root,.int .i64 m'.old,.bool m'.had,.slice gA m'.gone.length gc,.slice mA m'.made.length mc] 264);have hP3:=H1.out.alloc (.cells #[.int .i64 m'.root,.int .i64 m'.old,.bool m'.had,.slice gA m'.gone.length gc,.slice mA m'.made.length mc] 264);have hR3:=(Qn (b':=wo.heap.size+1) H3.out (by simp)).alloc (.cells #[.int .i64 m'.root,.int .i64 m'.old,.bool m'.had,.slice gA m'.gone.length gc,.slice mA m'.made.length mc] 264);have hQ3:=(Qn (b':=wo.heap.size+1) H2.out (by simp)).alloc (.cells #[.int .i64 m'.root,.int .i64 m'.old,.bool m'.had,.slice gA m'.gone.length gc,.slice mA m'.made.length mc] 264);(have hne3:∀k,(Value.slice gA m'.gone.length gc).ownBlock=some k→k≠w2.heap.size:=fun k hk=>by have:=(H2.out.lt k hk).2;omega);(have hne4:∀k,(Value.slice mA m'.made.length mc).ownBlock=some k→k≠w2.heap.size:=fun k hk=>by have:=(H3.out.lt k hk).2;omega);(have hes:wo.heap.size<w2.heap.size:=by have:=HO2.out.size;simp at this;omega);generalize w2.alloc (.cells #[.int .i64 m'.root,.int .i64 m'.old,.bool m'.had,.slice gA m'.gone.length gc,.slice mA m'.made.length mc] 264)=W3 at hE hO3 hP3 hR3 hQ3 ⊢;generalize w2.heap.size=eb at hE hes hne3 hne4 ⊢)|(have hrw:=Qn (b':=wo.heap.size+1+1) H3.out (by simp);have hrg:=Qn (b':=wo.heap.size+1+1) H2.out (by simp);(have hallw:∀k∈L.all,k<wo.heap.size+1:=fun k hk=>by have:=HMS.out.low k hk;have:=HMS.out.room;omega);obtain⟨hE,hO3,hP3,hR3⟩:=putB' (b:=wo.heap.size+1) (.int .i64 m'.root) (.int .i64 m'.old) (.bool m'.had) (.slice gA m'.gone.length gc) (.slice mA m'.made.length mc) HEB2.out HO2.out (by simp) H1.out hallw hrw;obtain⟨_,_,_,hQ3⟩:=putB' (b:=wo.heap.size+1) (.int .i64 m'.root) (.int .i64 m'.old) (.bool m'.had) (.slice gA m'.gone.length gc) (.slice mA m'.made.length mc) HEB2.out HO2.out (by simp) H1.out hallw hrg;have hes:wo.heap.size<wo.heap.size+1:=Nat.lt_succ_self _;(have hne3:∀k,(Value.slice gA m'.gone.length gc).ownBlock=some k→k≠wo.heap.size+1:=fun k hk=>by have:=(hrg.lt k hk).1;omega);(have hne4:∀k,(Value.slice mA m'.made.length mc).ownBlock=some k→k≠wo.heap.size+1:=fun k hk=>by have:=(hrw.lt k hk).1;omega);replace hR3:=Qn (b':=wo.heap.size+1) hR3 (by omega);replace hQ3:=Qn (b':=wo.heap.size+1) hQ3 (by omega);clear hrw hrg hallw;generalize (((((w2.setCell ⟨wo.heap.size+1,0,none⟩ (.int .i64 m'.root)).setCell ⟨wo.heap.size+1,1,none⟩ (.int .i64 m'.old)).setCell ⟨wo.heap.size+1,2,none⟩ (.bool m'.had)).setCell ⟨wo.heap.size+1,3,none⟩ (.slice gA m'.gone.length gc)).setCell ⟨wo.heap.size+1,4,none⟩ (.slice mA m'.made.length mc))=W3 at hE hO3 hP3 hR3 hQ3 ⊢;generalize hebE:wo.heap.size+1=eb at hE hes hne3 hne4 hn1 hn2 hn3 hn4 ⊢;clear hebE)
    have hM3:MgSt w L S1 c gv mv W3:=(HMS.out.new HO0.out).pool hO3 hP3
    have hsz3:wo.heap.size+1≤W3.heap.size:=by have:=hO3.size;simp at this;omega
    have hgl:=HMS.out.g
    have hml:=HMS.out.m
    have hasd:∀b,wo.heap.size<b→b<W3.heap.size→Aside w b gv mv W3:=fun b h1 h2=>⟨by have:=HRM.out;omega,h2,fun e=>by have:=(hgl.lt b e).2;omega,fun e=>by have:=(hml.lt b e).2;omega⟩
    obtain⟨gA',gc',hge,hgr,hgn⟩:=Qc hQ3
    simp only[Value.slice.injEq,true_and] at hge
    obtain⟨rfl,rfl⟩:=hge
    obtain⟨mA',mc',hme,hmr,hmn⟩:=Qc hR3
    simp only[Value.slice.injEq,true_and] at hme
    obtain⟨rfl,rfl⟩:=hme
    have hEd3:EdSt w eb m' gA mA gc mc gv mv W3:=⟨hE,hasd eb hes hE.lt,hgr,hmr,fun b hb=>by
     subst hb
     have:=row_block hQ3
     exact hasd _ (by omega) this.2,fun b hb=>by
     subst hb
     have:=row_block hR3
     exact hasd _ (by omega) this.2,hgn,hmn⟩
    have HM3:=hid hM3
    have HED3:=hid hEd3
    have e0:=hE.cell (i:=0) rfl
    have d0:=hM3.b.cell (i:=0) rfl
    have d7:=hM3.b.cell (i:=7) rfl
    have df:=hM3.b.frozen
    have e3:=hE.cell (i:=3) rfl
    have hwr1:wrap64 (c.told.many+1)=c.told.many+1:=IntWalk.wrap64_in _ (by have:=HP6.out;have:=HP7.out;omega)
    have hwr2:IntKind.i64.wrap (c.told.many+1)=c.told.many+1:=IntWalk.i64_in _ (by have:=HP6.out;have:=HP7.out;omega)
    obtain⟨c1,hc1⟩:∃c1:ChangeS,c1={c with root:=m'.root,told:={c.told with many:=c.told.many+(if m'.root≠c.root then 1 else 0)}}:=⟨_,rfl⟩
    have hgb1:=HE2.out
    rw[←hc1] at hgb1
    have HGB1:=hid hgb1
    have HC1:=hid hc1
    clear hE hO3 hP3 hR3 hQ3 hM3 hEd3 hne3 hne4 hsz3 hgl hml hasd hgr hgn hmr hmn hn1 hn2 hn3 hn4 c0 s3 s4 hkb hkb1 HO2 H1 H2 H3 H4 hgb1 hc1
    try clear qf q0 q1 q2 q3 q4 HEB2
    clear ho2
    by_cases hrt:m'.root=c.root
    all_goals
     have HRT:=hid hrt
     first
      |(
       have hq1:(m'.root != c.root)=false:=by simp[hrt]
       have hq2:(m'.root == c.root)=true:=by simp[hrt]
       clear hrt
       go_wp2_with fail
       obtain⟨W4,hW4⟩:∃W4,W3.setCell ⟨w.heap.size+1,0,none⟩ (.int .i64 m'.root)=W4:=⟨_,rfl⟩
       rw[hW4]
       have hM4:MgSt w L S1 c1 gv mv W4:=by
        rw[←hW4,HC1.out,if_neg (by simpa using HRT.out),Int.add_zero]
        exact HM3.out.own rfl rfl rfl
       have HO4:Hid (Only [w.heap.size+1] W3 W4):=hid (by rw[←hW4];exact (Only.refl _ _).setCell (.inl (by simp)) _)
       have HM4:=hid hM4
       clear hM4 hW4 hq1 hq2)
      |(
       have hq1:(m'.root != c.root)=true:=by simpa using hrt
       have hq2:(m'.root == c.root)=false:=by simpa using hrt
       clear hrt
       go_wp2_with fail
       obtain⟨W4,hW4⟩:∃W4,(W3.setCell ⟨w.heap.size+1,7,none⟩ (.int .i64 (c.told.many+1))).setCell ⟨w.heap.size+1,0,none⟩ (.int .i64 m'.root)=W4:=⟨_,rfl⟩
       rw[hW4]
       have hM4:MgSt w L S1 c1 gv mv W4:=by
        rw[←hW4,HC1.out,if_pos (by simpa using HRT.out)]
        exact (HM3.out.own (i:=7) (c':={c with told:={c.told with many:=c.told.many+1}}) rfl rfl rfl).own rfl rfl rfl
       have HO4:Hid (Only [w.heap.size+1] W3 W4):=hid (by rw[←hW4];exact ((Only.refl _ _).setCell (.inl (by simp)) _).setCell (.inl (by simp)) _)
       have HM4:=hid hM4
       clear hM4 hW4 hq1 hq2)
     have hed4:=HED3.out.step HO4.out (fun b hb=>hb.low (by simp)) (.inl rfl) (.inl rfl)
     have HED4:=hid hed4
     clear hed4 hwr1 hwr2 d0 d7 df e0 e3
     have hstI:MiRel L eb m' gA mA gc mc (c2,S2) w m'.gone.length (.int .i64 0) W4:=
      ⟨0,c1,S1,gv,mv,Nat.zero_le _,rfl,rfl,HGB1.out,by rw[HC1.out];exact HP4.out,by rw[HC1.out];have:=HP5.out;show c.gone.length≤10000+0;omega,HM4.out,HED4.out⟩
     have HSTI:=hid hstI
     clear hstI
     go_loopg [65] m'.gone.length (fun k s65 wi=>MiRel L eb m' gA mA gc mc (c2,S2) w k s65 wi)
     case atStart=>exact HSTI.out
     case round=>
      clear HSTI
      obtain⟨jj,ci,Si,gvi,mvi,hjj,rfl,rfl,hgb,hmd,hgd,hmi,hedi⟩:=hrel
      obtain⟨gAi,gci,rfl,_,_⟩:=Qc hmi.g
      obtain⟨mAi,mci,rfl,hmri,_⟩:=Qc hmi.m
      have HMI:=hid hmi
      have HEDI:=hid hedi
      have HMD:=hid hmd
      have HGD:=hid hgd
      have HJJ:=hid hjj
      have hf:=hmi.b.frozen
      have r1:=hmi.b.cell (i:=1) rfl
      have r2:=hmi.b.cell (i:=2) rfl
      by_cases hlti:jj<m'.gone.length
      ·have hlti':(jj:Int)<m'.gone.length:=by omega
       obtain⟨x,hx⟩:∃x,m'.gone[jj]?=some x:=⟨_,List.getElem?_eq_getElem hlti⟩
       obtain⟨gb,goff,hgA,hgc⟩:=hedi.gr jj _ (ints_get hx)
       subst hgA
       have hdr:m'.gone.drop jj=x :: m'.gone.drop (jj+1):=by
        have h1:=(List.getElem?_eq_some_iff.1 hx).2
        rw[List.drop_eq_getElem_cons hlti,h1]
       rw[hdr] at hgb
       have hidx:=indexInt_any wr mAi mci x ci.made (by have:=hmd;omega) hmri
       have hjw:wrap64 ((jj:Int)+1)=(jj:Int)+1:=IntWalk.wrap64_in _ (by have:=HE4.out;omega)
       have HJW:=hid hjw
       rcases goneBack_cons hgb with ⟨hno,hrest⟩|⟨ii,Si',hso,hii,hgive,hrest⟩
       ·rw[hno] at hidx
        have HRS:=hid hrest
        have hrn:=Zg wr [.int .i64 x] 3
        have HRN:=hid hrn
        have HM1:=hid (show ci.gone.length+1≤maxLen from by have:=HE4.out;unfold maxLen;omega)
        have HM2:=hid (show (ci.gone.length+1)*8≤140737488355328 from by have:=HE4.out;omega)
        have HBS:=hid (show w.heap.size+2≤(wr.alloc (.cells #[.int .i64 x] 3)).heap.size from Nat.le_trans hmi.room (Qg _ _))
        have HOA:=hid (show Only [] wr (wr.alloc (.cells #[.int .i64 x] 3)) from (Only.refl _ _).alloc _)
        clear hgb hmd hgd hmi hedi hno hrest hrn hx hjw hdr hmri hjj
        go_wp2_with (first|(go_at_call 167;refine hidx.mono ?_;rintro e w7 ⟨rfl,hw7⟩;obtain rfl:wr=w7:=hw7.symm)|(at_builtin;refine Qj rfl (.tmp 76) (.tmp 78) rfl elemInt rfl (HMI.out.g.alloc (.cells #[.int .i64 x] 3)) _ 1 _ [.int .i64 x] rfl HRN.out rfl (by simp[Value.oneCell']) HM1.out HM2.out HBS.out (fun e=>by cases e) ?_;intro v2 w8 hown2 hgr2 hat2;obtain⟨A2,c2',rfl,_,_⟩:=Qc hown2;have hb8:=Qm (HMI.out.b.alloc (.cells #[.int .i64 x] 3)) hgr2 (fun e=>by have:=(HMI.out.g.lt _ e).1;omega);have f8:=hb8.frozen;have r8:=hb8.cell (i:=1) rfl;have HOWN:=hid hown2;have HGR2:=hid hgr2;have HAT2:=hid hat2;clear hb8 hown2 hgr2 hat2))
        have hown3:w8.ownsRow (w.heap.size+2) 3 1 (.slice A2 (ci.gone.length+1) c2') (ci.gone ++ [x]).length (Zc (ci.gone ++ [x])):=by
         rw[List.length_append,ints_snoc]
         exact HOWN.out
        obtain⟨hmE,hoE⟩:=(HMI.out.new HOA.out).setGone HGR2.out hown3 (HAT2.out.imp id (fun h=>⟨_,h,Nat.le_refl _⟩))
        have hedE:=(HEDI.out.step HOA.out (fun b hb=>by simp) (.inl rfl) (.inl rfl)).step hoE (fun b hb=>hb.gone) (HAT2.out.imp id (fun h=>⟨_,h,Nat.le_refl _⟩)) (.inl rfl)
        have HME:=hid hmE
        have HEDE:=hid hedE
        clear hmE hoE hedE hown3
        go_roundg (m'.gone.length-(jj+1))
        case measure=>omega
        case rel=>exact⟨jj+1,_,Si,_,_,by omega,by first|(rw[HJW.out];rfl)|go_num,rfl,HRS.out,HMD.out,by have:=HGD.out;simp only[List.length_append,List.length_singleton];omega,HME.out,HEDE.out⟩
       ·rw[hso] at hidx
        have HRS:=hid hrest
        have HSO:=hid hso
        have HII:=hid hii
        have hgv:=give_any wr L Si hmi.p x Si' hgive
        have hw0o:=hmi.only
        have t3:=Qa hw0o HH3.out HX5.out
        have p3:=(HPT.out.only hw0o HX3.out).cell (i:=3) rfl
        have hidn:idxI (some ii)=(ii:Int):=rfl
        rw[hidn] at hidx
        have hi0:¬((ii:Int)<0):=by omega
        have hiw:IntKind.i64.wrap ((ii:Int)+1)=(ii:Int)+1:=IntWalk.i64_in _ (by omega)
        have hiw2:wrap64 ((ii:Int)+1)=(ii:Int)+1:=IntWalk.wrap64_in _ (by omega)
        have hlw:∀W,Only L.blocks wr W→PoolAt W L Si'→MgSt w L Si' ci (.slice gAi ci.gone.length gci) (.slice mAi ci.made.length mci) W:=fun W ho hp=>hmi.pool ho hp
        have HLW:=hid hlw
        have HGV:=hid hgv
        unfold Stored ptr at HGV
        clear hgb hmd hgd hmi hedi hso hrest hx hjw hdr hmri hjj hgive hgv hw0o hidn hlw hii
        go_wp2_with (first|(go_at_call 167;refine hidx.mono ?_;rintro e w7 ⟨rfl,hw7⟩;obtain rfl:wr=w7:=hw7.symm)|(go_at_call 138;refine HGV.out.mono ?_;rintro e w6 ⟨rfl,hp6,ho6⟩;have hm6:=HLW.out w6 ho6 hp6;have q2:=hm6.b.cell (i:=2) rfl;have HM6:=hid hm6;have HO6:=hid ho6;clear hm6 hp6 ho6)|(go_at_call 168;refine (deleteInt_any _ (w.heap.size+2) _ ci.made.length (Zc ci.made) HM6.out.m (ints_one _) ii HII.out (by have:=HMD.out;omega)).mono ?_;rintro e w8 ⟨v8,rfl,hown8,hv8,hg8⟩;obtain⟨A8,c8,rfl,_,_⟩:=Qc hown8;have hb8:=Qm HM6.out.b hg8 (fun e=>by have:=(HM6.out.m.lt _ e).1;omega);have f8:=hb8.frozen;have r8:=hb8.cell (i:=2) rfl;have HOWN:=hid hown8;have HV8:=hid hv8;have HG8:=hid hg8;clear hb8 hown8 hv8 hg8))
        have hle:(ci.made.eraseIdx ii).length=ci.made.length-1:=by rw[List.length_eraseIdx,if_pos HII.out]
        have hown3:w8.ownsRow (w.heap.size+2) 3 1 (.slice A8 (ci.made.length-1) c8) (ci.made.eraseIdx ii).length (Zc (ci.made.eraseIdx ii)):=by
         have:=HOWN.out
         rw[ints_erase] at this
         rw[hle]
         exact this
        obtain⟨hmE,hoE⟩:=HM6.out.setMade HG8.out hown3 (.inl HV8.out)
        have hedE:=(HEDI.out.step HO6.out (fun b hb=>hb.low (fun k hk=>by have:=HMI.out.low k (Qf hk);omega)) (.inl rfl) (.inl rfl)).step hoE (fun b hb=>hb.made) (.inl rfl) (.inl HV8.out)
        have HME:=hid hmE
        have HEDE:=hid hedE
        have HLE:=hid hle
        clear hmE hoE hedE hown3 hle
        go_roundg (m'.gone.length-(jj+1))
        case measure=>omega
        case rel=>exact⟨jj+1,_,Si',_,_,by omega,by first|(rw[HJW.out];rfl)|go_num,rfl,HRS.out,by have:=HMD.out;have:=HLE.out;dsimp only;omega,by have:=HGD.out;dsimp only;omega,HME.out,HEDE.out⟩
      ·have hjl:jj=m'.gone.length:=by omega
       rw[hjl,List.drop_length] at hgb
       cases hgb
       have HM1:=hid (show c2.made.length+m'.made.length≤maxLen from by have:=HE3.out;unfold maxLen;omega)
       have HM2:=hid (show (c2.made.length+m'.made.length)*8≤140737488355328 from by have:=HE3.out;omega)
       have x4:=hedi.b.cell (i:=4) rfl
       clear hmd hgd hmi hedi hjj hmri
       go_wp2_with (at_builtin;refine Qj rfl (.tmp 97) (.tmp 99) rfl elemInt rfl HMI.out.m mA m'.made.length mc (Zc m'.made) rfl HEDI.out.mr (by simp[ints_length]) (ints_one _) HM1.out HM2.out HMI.out.room HEDI.out.mn ?_;intro v2 w8 hown2 hgr2 hat2;obtain⟨A2,c2',rfl,_,_⟩:=Qc hown2;have hb8:=Qm HMI.out.b hgr2 (fun e=>by have:=(HMI.out.m.lt _ e).1;omega);have f8:=hb8.frozen;have r8:=hb8.cell (i:=2) rfl;have HOWN:=hid hown2;have HGR2:=hid hgr2;have HAT2:=hid hat2;clear hb8 hown2 hgr2 hat2)
       have hown3:w8.ownsRow (w.heap.size+2) 3 1 (.slice A2 (c2.made.length+m'.made.length) c2') (c2.made ++ m'.made).length (Zc (c2.made ++ m'.made)):=by
        rw[List.length_append]
        have:=HOWN.out
        unfold Zc at this ⊢
        rw[List.map_append]
        exact this
       obtain⟨hmE,hoE⟩:=HMI.out.setMade HGR2.out hown3 (HAT2.out.imp id (fun h=>⟨_,h,Nat.le_refl _⟩))
       have HME:=hid hmE
       clear hmE hoE hown3
       go_roundg (pairs.length-(j+1))
       case measure=>omega
       case rel=>
        have hj1:wrap64 ((j:Int)+1)=(j:Int)+1:=IntWalk.wrap64_in ((j:Int)+1) (by have:=HPL.out;omega)
        exact⟨j+1,_,S2,_,_,by omega,by first|(rw[hj1];rfl)|go_num,rfl,HE7.out,HME.out⟩
  ·have hjl:j=pairs.length:=by omega
   rw[hjl,List.drop_length] at hmw
   have hmw:(c,Sj)=(cF,SF):=hmw
   cases hmw
   obtain⟨gA,gc,rfl,_,_⟩:=Qc hms.g
   obtain⟨mA,mc,rfl,_,_⟩:=Qc hms.m
   have hf:=hms.b.frozen
   have e0:=hms.b.cell (i:=0) rfl
   have e1:=hms.b.cell (i:=1) rfl
   have e2:=hms.b.cell (i:=2) rfl
   have e3:=hms.b.cell (i:=3) rfl
   have e4:=hms.b.cell (i:=4) rfl
   have e5:=hms.b.cell (i:=5) rfl
   have e6:=hms.b.cell (i:=6) rfl
   have e7:=hms.b.cell (i:=7) rfl
   have g0:=hms.r.cell (i:=0) rfl
   have g1:=hms.r.cell (i:=1) rfl
   have g2:=hms.r.cell (i:=2) rfl
   have g3:=hms.r.cell (i:=3) rfl
   have g4:=hms.r.cell (i:=4) rfl
   have g5:=hms.r.cell (i:=5) rfl
   have g6:=hms.r.cell (i:=6) rfl
   have g7:=hms.r.cell (i:=7) rfl
   have gf:=hms.r.frozen
   have hlt0:=hms.r.lt
   have hlt1:=hms.b.lt
   clear hms
   go_wp2_with fail
   have hfin:∀W,Only [w.heap.size,w.heap.size+1] wo W→Zi L {cF with told:={cF.told with new:=decide (cF.root≠root)}} 0 SF w (.returned (.tuple #[.agg #[.int .i64 cF.root,.slice gA cF.gone.length gc,.slice mA cF.made.length mc,.int .i64 cF.told.value,.bool cF.told.had,.int .i64 cF.told.number,.bool (decide (cF.root≠root)),.int .i64 cF.told.many],.int .i64 0])) W:=fun W g=>by
    refine⟨_,_,rfl,HMS.out.p.only g (fun k hk e=>by have:=HMS.out.low k hk;simp at e;omega),?_,?_,?_⟩
    ·exact Qn (Qe HMS.out.g g (fun k hk e=>by have:=(HMS.out.g.lt k hk).1;simp at e this;omega)) (by omega)
    ·exact Qn (Qe HMS.out.m g (fun k hk e=>by have:=(HMS.out.m.lt k hk).1;simp at e this;omega)) (by omega)
    ·exact ((HMS.out.only.mono (Y:=w.heap.size :: (w.heap.size+1) :: L.blocks) (by intro k hk;simp[hk])).trans (g.mono (by intro k hk;simp at hk;rcases hk with h|h <;> simp[h]))).fresh (fun k hk hl=>by
      rcases List.mem_cons.1 hk with rfl|hk
      ·omega
      ·rcases List.mem_cons.1 hk with rfl|hk
       ·omega
       ·exact hk)
   have hbe:(cF.root != root)=decide (cF.root≠root):=by by_cases h:cF.root=root <;> simp[h]
   rw[hbe]
   refine bodyPost_ret (v:=.tuple #[.agg #[.int .i64 cF.root,.slice gA cF.gone.length gc,.slice mA cF.made.length mc,.int .i64 cF.told.value,.bool cF.told.had,.int .i64 cF.told.number,.bool (decide (cF.root≠root)),.int .i64 cF.told.many],.int .i64 0]) (by simp[results,Tryz.results164,go_sem,g0,g1,g2,g3,g4,g5,g6,g7,hlt0]) rfl (hfin _ ?_)
   exact (((((((((Only.refl [w.heap.size,w.heap.size+1] wo).setCell (.inl (by simp)) _).setCell (.inl (by simp)) _).setCell (.inl (by simp)) _).setCell (.inl (by simp)) _).setCell (.inl (by simp)) _).setCell (.inl (by simp)) _).setCell (.inl (by simp)) _).setCell (.inl (by simp)) _).setCell (.inl (by simp)) _
def PmRel (keys:List Int)(w:World)(k:Nat)(s8 s15:Value)(wr:World):Prop:=
 ∃j:Nat,j≤keys.length∧s15=.int .i64 (j:Int)∧k=keys.length-j∧wr.ownsRow w.heap.size 3 1 s8 j (Zc (keys.take j))∧Only [] w wr
theorem pair_cells {w:World}{A:Option Addr}{l:List (Int × Int)}(h:Row w A (Qd l)){j:Nat}{k v:Int}(hj:l[j]?=some (k,v)):
  ∃b off,A=some ⟨b,off,none⟩∧w.cell? ⟨b,off+j*2,none⟩=some (.int .i64 k)∧w.cell? ⟨b,off+j*2+1,none⟩=some (.int .i64 v):=by
 have hg:=Qz (fun p:Int × Int=>[Value.int .i64 p.1,.int .i64 p.2]) 2 (fun _=>rfl) l j (k,v) hj
 obtain⟨b,off,e,h0⟩:=h (j*2+0) (.int .i64 k) (by rw[Qd,hg 0 (by decide)];rfl)
 obtain⟨b',off',e',h1⟩:=h (j*2+1) (.int .i64 v) (by rw[Qd,hg 1 (by decide)];rfl)
 rw[e] at e'
 injection e' with e'
 injection e' with e1 e2
 subst e1 e2
 exact⟨b,off,e,h0,by rw[Nat.add_assoc];exact h1⟩
theorem partMany_gen (w:World)(Y:StoreL)(ed:Option Nat)(D:Nat→List Nat)(X X':StoreS)(h:StoreIn w Y ed D X)(i:Nat)(told:ToldS)(err:Int)(l:List (Int × Int))(hl:l.length≤1000)(A:Option Addr)(cap:Nat)(hrow:Row w A (Qd l))(hA:A=none→l.length=0)(hcl:∀W,Only [] w W→Calls prog 154 #[.slice A l.length cap] W fun e w'=>∃v,e=.returned v∧w'.ownsRow W.heap.size 36 2 v l.length (Qd l)∧Only [] W w')
  (hdo:∀W b5 b3 A5 c5 kA kc,Only [] w W→Blk W b5 [.slice A5 l.length c5] 29→Blk W b3 [ptr (Y.pt i)] 107→w.heap.size≤b5→w.heap.size≤b3→Row W A5 (Qd l)→(∀b,A5=some b→w.heap.size≤b.block)→Row W kA (Zc (l.map (·.1))) →
   Calls prog 114 #[ptr (Y.pt i),.pointer none,.agg #[.slice kA l.length kc,.func (.func 164) #[] #[ptr b5,ptr b3]]] W (Qh Y ed D told err X' W)):
  Calls prog 97 #[ptr (Y.pt i),.pointer none,.slice A l.length cap] w (Qh Y ed D told err X' w):=by
 have hmf:∀(fn:Fn) (first cap:Array Value) (w:World),(Instr.makeFunc fn first cap).run prog w=.ok (.func fn first cap) w:=fun _ _ _ _=>rfl
 obtain⟨w0,hw0⟩:∃w0,((w.alloc (.cells #[ptr (Y.pt i)] 107)).alloc (.cells #[.slice A l.length cap] 29)).alloc (.cells #[.int .i64 0,.bool false,.int .i64 0,.bool false,.int .i64 0] 57)=w0:=⟨_,rfl⟩
 have ho0:Only [] w w0:=by rw[←hw0];exact (((Only.refl _ _).alloc _).alloc _).alloc _
 have hb3:Blk w0 w.heap.size [ptr (Y.pt i)] 107:=by rw[←hw0];exact ((Blk.new w _ 107).alloc _).alloc _
 have hb5:Blk w0 (w.heap.size+1) [.slice A l.length cap] 29:=by
  have:=Blk.new (w.alloc (.cells #[ptr (Y.pt i)] 107)) [.slice A l.length cap] 29
  rw[World.size_alloc] at this
  rw[←hw0]
  exact this.alloc _
 have hbR:Blk w0 (w.heap.size+1+1) [.int .i64 0,.bool false,.int .i64 0,.bool false,.int .i64 0] 57:=by
  have:=Blk.new ((w.alloc (.cells #[ptr (Y.pt i)] 107)).alloc (.cells #[.slice A l.length cap] 29)) [.int .i64 0,.bool false,.int .i64 0,.bool false,.int .i64 0] 57
  rw[World.size_alloc,World.size_alloc] at this
  rw[←hw0]
  exact this
 have hcl0:=hcl w0 ho0
 have c5:=hb5.cell (i:=0) rfl
 have f5:=hb5.frozen
 have HB3:=hid hb3;have HB5:=hid hb5;have HBR:=hid hbR;have HO0:=hid ho0;have H:=hid h;have HDO:=hid hdo;have HL:=hid hl
 obtain⟨t0,t1,t2,t3,t4⟩:=told
 unfold Qh ToldS.val at HDO
 unfold Qh ToldS.val
 unfold ptr at *
 dsimp only at HDO ⊢
 have hml:(l.map (·.1)).length=l.length:=List.length_map _
 have HML:=hid hml
 clear h hdo hrow hA hcl ho0 hb3 hb5 hbR hl hml
 go_enter func97,ntmps97
 go_wp2_with (go_at_call 154;refine hcl0.mono ?_;rintro e w1 ⟨v,rfl,hown,ho1⟩;obtain⟨A5,c5',rfl,_,_⟩:=Qc hown;have hb51:=HB5.out.only ho1 (by simp);have c51:=hb51.cell (i:=0) rfl;have f51:=hb51.frozen;have HB51:=hid hb51;have HOWN:=hid hown;have HO1:=hid ho1;clear hown ho1 hb51)
 obtain⟨W2,hW2⟩:∃W2,w1.setCell ⟨w.heap.size+1,0,none⟩ (.slice A5 l.length c5')=W2:=⟨_,rfl⟩
 rw[hW2]
 have hs2:Only [w.heap.size+1] w1 W2:=by rw[←hW2];exact (Only.refl _ _).setCell (.inl (by simp)) _
 have hb52:Blk W2 (w.heap.size+1) [.slice A5 l.length c5'] 29:=by rw[←hW2];exact HB51.out.set 0 _
 have hb32:Blk W2 w.heap.size [.pointer (some ⟨Y.pt i,0,none⟩)] 107:=(HB3.out.only HO1.out (by simp)).only hs2 (by simp)
 have hbR2:Blk W2 (w.heap.size+1+1) [.int .i64 0,.bool false,.int .i64 0,.bool false,.int .i64 0] 57:=(HBR.out.only HO1.out (by simp)).only hs2 (by simp)
 have hlt0:=HBR.out.lt
 have hown2:=Qe HOWN.out hs2 (fun k hk e=>by have:=(HOWN.out.lt k hk).1;simp at e;omega)
 have ho2:Only [] w W2:=(((HO0.out.trans HO1.out).mono (Y:=[w.heap.size+1]) (by simp)).trans hs2).fresh (fun k hk hl=>by simp at hk;omega)
 obtain⟨A5',c5'',h5e,hrow2,hn2⟩:=Qc hown2
 simp only[Value.slice.injEq,true_and] at h5e
 obtain⟨rfl,rfl⟩:=h5e
 have h5b:∀b,A5=some b→w.heap.size≤b.block:=fun b hb=>by subst hb;have:=(row_block hown2).1;omega
 have HB52:=hid hb52;have HB32:=hid hb32;have HBR2:=hid hbR2;have HO2:=hid ho2;have HROW2:=hid hrow2;have H5B:=hid h5b
 have d5:=hb52.cell (i:=0) rfl
 clear hW2 hs2 hb52 hb32 hbR2 hown2 ho2 hrow2 h5b hn2 c5 f5 c51 f51 hcl0 HOWN HO1 HB51 HB5 HB3 HO0 hw0
 go_wp2_with fail
 go_loopg [8,15] l.length (fun k s8 s15 wr=>PmRel (l.map (·.1)) W2 k s8 s15 wr)
 case atStart=>exact⟨0,Nat.zero_le _,rfl,by simp,World.ownsRow_nil _ _ 3 1,Only.refl _ _⟩
 case round=>
  obtain⟨j,hj,rfl,rfl,hown,ho⟩:=hrel
  obtain⟨kA,kc,rfl,hkr,_⟩:=Qc hown
  have HO:=hid ho
  have HW:=hid hown
  rw[HML.out] at hj
  by_cases hlt:j<l.length
  ·have hlt':(j:Int)<l.length:=by omega
   obtain⟨⟨k,v⟩,hx⟩:∃x,l[j]?=some x:=⟨_,List.getElem?_eq_getElem hlt⟩
   obtain⟨pb,po,rfl,hk0,hk1⟩:=pair_cells (HROW2.out.below ho.below) hx
   have hxm:(l.map (·.1))[j]?=some k:=by rw[List.getElem?_map,hx];rfl
   have HXM:=hid hxm
   obtain⟨wa,hwa⟩:∃wa,wr.alloc (.cells #[.int .i64 k,.int .i64 v] 36)=wa:=⟨_,rfl⟩
   have hoa:Only [] wr wa:=by rw[←hwa];exact (Only.refl _ _).alloc _
   have hka:wa.cell? ⟨wr.heap.size,0,none⟩=some (.int .i64 k):=by rw[←hwa];exact (Blk.new wr [.int .i64 k,.int .i64 v] 36).cell rfl
   have HRN:=hid (Zg wa [.int .i64 k] 3)
   have HOA:=hid hoa
   have HM1:=hid (show j+1≤maxLen from by have:=HL.out;unfold maxLen;omega)
   have HM2:=hid (show (j+1)*8≤140737488355328 from by have:=HL.out;omega)
   have HBS:=hid (show W2.heap.size≤(wa.alloc (.cells #[.int .i64 k] 3)).heap.size from Nat.le_trans (Nat.le_trans ho.size hoa.size) (Qg _ _))
   have HWA:=hid ((Qe hown hoa (by simp)).alloc (.cells #[.int .i64 k] 3))
   clear hkr ho hown hx hxm hoa hj d5
   go_wp2_with (at_builtin;refine Qj rfl (.tmp 19) (.tmp 22) rfl elemInt rfl HWA.out _ 1 _ [.int .i64 k] rfl HRN.out rfl (by simp[Value.oneCell']) HM1.out HM2.out HBS.out (fun e=>by cases e) ?_;intro v2 w8 hown2 hgr2 hat2;obtain⟨A2,c2',rfl,_,_⟩:=Qc hown2;have HOWN:=hid hown2;have HGR2:=hid hgr2;clear hown2 hgr2 hat2)
   go_roundg (l.length-(j+1))
   case measure=>have:=HML.out;omega
   case rel=>
    have hj1:wrap64 ((j:Int)+1)=(j:Int)+1:=IntWalk.wrap64_in ((j:Int)+1) (by have:=HL.out;omega)
    refine⟨j+1,by rw[HML.out];omega,by first|(rw[hj1];rfl)|go_num,by rw[HML.out],?_,?_⟩
    ·rw[Zd HXM.out,ints_snoc]
     exact HOWN.out
    ·have hlow:∀k',(Value.slice kA j kc).ownBlock=some k'→W2.heap.size≤k':=fun k' hk'=>(HW.out.lt k' hk').1
     refine ((((HO.out.trans HOA.out).alloc _).mono (Y:=(Value.slice kA j kc).ownBlock.toList) (by simp)).grown HGR2.out (fun k' hk'=>.inr (by rw[show (Value.slice kA j kc).ownBlock=some k' from hk'];simp))).fresh (fun k' hk' hl=>?_)
     have:=hlow k' (by simpa using hk')
     omega
  ·have hjl:j=l.length:=by omega
   subst hjl
   rw[List.take_of_length_le (by rw[HML.out];exact Nat.le_refl _)] at hkr
   have hd3:=(HB32.out.only ho (by simp)).cell (i:=0) rfl
   have hdw:=HDO.out wr (w.heap.size+1) w.heap.size A5 c5' kA kc (HO2.out.trans ho) (HB52.out.only ho (by simp)) (HB32.out.only ho (by simp)) (by omega) (Nat.le_refl _) (HROW2.out.below ho.below) H5B.out hkr
   have HB8:=hid (HBR2.out.only ho (by simp));have HOW:=hid (HO2.out.trans ho)
   clear ho hown hkr d5 hj
   go_wp2_with (go_at_call 114;refine hdw.mono ?_;rintro e w2 ⟨D',rfl,hs2,hm2⟩;have hbr2:=wrote_blk H.out hm2 (by omega) HB8.out;have rf:=hbr2.frozen;have r0:=hbr2.cell (i:=0) rfl;have r1:=hbr2.cell (i:=1) rfl;have r2:=hbr2.cell (i:=2) rfl;have r3:=hbr2.cell (i:=3) rfl;have r4:=hbr2.cell (i:=4) rfl;have HFIN:=hid (wrote_fin H.out hs2 HOW.out hm2 (by omega) HB8.out.lt);clear hs2 hm2 hbr2)
   exact bodyPost_ret (v:=.tuple #[.agg #[.int .i64 t0,.bool t1,.int .i64 t2,.bool t3,.int .i64 t4],.int .i64 err]) (by simp[results,Tryz.results97,go_sem,r0,r1,r2,r3,r4]) rfl ⟨D',rfl,HFIN.out _ (only5 _ _ _ _ _ _ _)⟩
theorem Row.moves {w W:World}{Y:StoreL}{ed:Option Nat}{D:Nat→List Nat}{dy:Nat→Prop}{A:Option Addr}{xs:List Value}(h:Row w A xs)(hm:Moves Y (Qw Y ed D) dy w W)(hb:∀b,A=some b→Y.base≤b.block∧¬Qw Y ed D b.block):Row W A xs:=fun j u hu=>by
 obtain⟨b,off,e,hc⟩:=h j u hu
 exact⟨b,off,e,hm.cell hc (hb _ e).1 (hb _ e).2⟩
theorem wayMany (w:World)(Y:StoreL)(ed:Option Nat)(D:Nat→List Nat)(X:StoreS)(i:Nat)(hi:i<Y.n)(l:List (Int × Int))(C:ChainS)(hd:Int)(S1:PoolS)(n:NodeS)(hn:NewestP X i C hd S1 n)(r:Int ⊕ ChangeS)(S2:PoolS)(hf:manyE l n.a S1=some (r,S2))(ho:ManyOk l n.a S1)(hl:S2.slots.length=X.pool.slots.length)
  (told:ToldS) (err:Int) (X2:StoreS) (he:EndP X i C hd n r S2 told err X2) (q5 q3:Nat) (A:Option Addr) (cap:Nat) (h5:BoxV w Y ed D q5 (.slice A l.length cap)) (h3:BoxV w Y ed D q3 (ptr (Y.pt i))) (hrow:Row w A (Qd l)) (hrb:∀b,A=some b→Y.base≤b.block∧¬Qw Y ed D b.block):
  WayDoes Y ed D i (.func (.func 164) #[] #[ptr q5,ptr q3]) told err X X2 w:=by
 intro W b0 b1 b2 hs hm hb hbd
 obtain⟨hsm,y,hy⟩:=ho
 unfold manyE at hf
 rw[hy.is] at hf
 obtain⟨cF,SF⟩:=y
 simp only[bind,Option.bind_some,Option.some.injEq,Prod.mk.injEq] at hf
 obtain⟨rfl,rfl⟩:=hf
 have hcl:∀W',StoreIn W' Y ed D {X with pool:=S1}→Moves Y (Qw Y ed D) (Qw Y ed D) W W'→Calls prog 164 #[.pointer none,.int .i64 n.a,ptr q5,ptr q3] W' (Zi Y.pool {cF with told:={cF.told with new:=decide (cF.root≠n.a)}} 0 SF W'):=fun W' hs' hm'=>
  manyCl_any W' Y.pool S1 (Y.pt i) (Y.pg i) _ _ _ _ _ hs'.pool (hs'.fixed.pg i hi) (hs'.fixed.pt i hi) (pg_far hs' hi) (pt_far hs' hi) q5 q3 (hs'.far_pool h5.ge) (hs'.far_pool h3.ge) n.a (hs'.pool.read_ok hn.hn).1 A cap l hsm (h5.moves (hm.trans hm')) (h3.moves (hm.trans hm')) (hrow.moves (hm.trans hm') hrb) (fun b hb=>hs'.far_pool (hrb b hb).1) cF SF hy
 obtain⟨rfl,⟨h1,rfl,rfl⟩|⟨h1,rfl,C',S3,hpu,rfl⟩⟩:=he
 ·exact does2Stay_164 W Y ed D X hs i C hd S1 n hn _ SF hl b0 b1 b2 q5 q3 hcl hb hbd h1
 ·exact does2Push_164 W Y ed D X hs i C hd S1 n hn _ SF hl b0 b1 b2 q5 q3 hcl hb hbd h1 C' S3 hpu
theorem cloneEither (W:World)(l:List (Int × Int))(hl:l.length≤1000)(A:Option Addr)(cap:Nat)(hrow:Row W A (Qd l))(h0:A=none↔l.length=0)(hc:A=none→cap=0):Calls prog 154 #[.slice A l.length cap] W fun e w'=>∃v,e=.returned v∧w'.ownsRow W.heap.size 36 2 v l.length (Qd l)∧Only [] W w':=by
 cases A with
 |none=>
  have hl0:=h0.1 rfl
  obtain rfl:=List.eq_nil_of_length_eq_zero hl0
  rw[hc rfl]
  refine (clonePairs_nil W).mono ?_
  rintro e w' ⟨rfl,rfl⟩
  exact⟨_,rfl,World.ownsRow_nil _ _ _ _,Only.refl _ _⟩
 |some a=>
  have hl0:0<l.length:=by
   rcases Nat.eq_zero_or_pos l.length with e|e
   ·exact absurd (h0.2 e) (by simp)
   ·exact e
  obtain⟨⟨k,v⟩,hx⟩:∃x,l[0]?=some x:=⟨_,List.getElem?_eq_getElem hl0⟩
  obtain⟨b,off,e,_⟩:=pair_cells hrow hx
  cases e
  exact clonePairs_any W b off cap l hl0 (by omega) hrow
theorem partManyOp_any (w:World)(Y:StoreL)(ed:Option Nat)(D:Nat→List Nat)(X X':StoreS)(h:StoreIn w Y ed D X)(i:Nat)(told:ToldS)(err:Int)(l:List (Int × Int))(A:Option Addr)(cap:Nat)(hrow:Row w A (Qd l))(h0:A=none↔l.length=0)(hc:A=none→cap=0)(hks:((l.map (·.1)).any fun k=>!hasB k Y.n i)=false)(hp:WriteP Y X i (manyE l) (ManyOk l) told err X'):
  Calls prog 97 #[ptr (Y.pt i),.pointer none,.slice A l.length cap] w (Qh Y ed D told err X' w):=by
 have hi:=hp.lt h
 obtain⟨X1,C,hd,S1,n,r,S2,X2,hrd,hdp,hn,hf,ho,hl,he,rfl⟩:=hp
 have hsm:=ho.1
 refine partMany_gen w Y ed D X _ h i told err l hsm A cap hrow h0.1 (fun W hw=>cloneEither W l hsm A cap (hrow.below hw.below) h0 hc) ?_
 intro W b5 b3 A5 c5 kA kc hw hb5 hb3 hg5 hg3 hr5 hrb hkr
 have hnd:∀b,w.heap.size≤b→Y.base≤b∧¬Qw Y ed D b:=fun b hb=>⟨Nat.le_trans h.room hb,fun e=>by have:=(h.dyn_lt e).2;omega⟩
 have hway:=wayMany W Y ed D {X1 with epoch:=X1.epoch.enter} i hi l C hd S1 n hn r S2 hf ho hl told err X2 he b5 b3 A5 c5 ⟨hb5.cell rfl,(hnd _ hg5).1,(hnd _ hg5).2⟩ ⟨hb3.cell rfl,(hnd _ hg3).1,(hnd _ hg3).2⟩ hr5 (fun b hb=>hnd _ (hrb b hb))
 have:=doesE_any W Y ed D X X1 X2 (h.new hw) i hi hrd hdp kA kc (l.map (·.1)) (by rw[List.length_map];omega) hkr hks 164 _ told err he.zero hway he.epoch
 rw[List.length_map] at this
 exact this
theorem partManyNo_any (w:World)(Y:StoreL)(ed:Option Nat)(D:Nat→List Nat)(X:StoreS)(h:StoreIn w Y ed D X)(i:Nat)(hi:i<Y.n)(l:List (Int × Int))(hsm:l.length≤1000)(A:Option Addr)(cap:Nat)(hrow:Row w A (Qd l))(h0:A=none↔l.length=0)(hc:A=none→cap=0)(hks:((l.map (·.1)).any fun k=>!hasB k Y.n i)=true):
  Calls prog 97 #[ptr (Y.pt i),.pointer none,.slice A l.length cap] w (Qh Y ed D ToldS.zero 161 X w):=by
 refine partMany_gen w Y ed D X _ h i ToldS.zero 161 l hsm A cap hrow h0.1 (fun W hw=>cloneEither W l hsm A cap (hrow.below hw.below) h0 hc) ?_
 intro W b5 b3 A5 c5 kA kc hw hb5 hb3 hg5 hg3 hr5 hrb hkr
 have:=doesNo_any W Y ed D X (h.new hw) i hi kA kc (l.map (·.1)) (by rw[List.length_map];omega) hkr hks 164 #[ptr b5,ptr b3]
 rw[List.length_map] at this
 exact this
def Qk:List (Int × Int)→Int→Option Int
 |[],_=>none
 |p :: l,k=>if p.1=k then some p.2 else Qk l k
theorem findL_none {l:List (Int × Int)}{k:Int}(h:∀p∈l,p.1≠k):Qk l k=none:=by
 induction l with
 |nil=>rfl
 |cons p l ih=>
  unfold Qk
  rw[if_neg (h p (by simp))]
  exact ih (fun q hq=>h q (by simp[hq]))
theorem findL_at {l:List (Int × Int)}{k v:Int}:∀{j:Nat},(∀p∈l.take j,p.1≠k)→l[j]?=some (k,v)→Qk l k=some v:=by
 induction l with
 |nil=>intro j _ h;cases h
 |cons p l ih=>
  intro j h hx
  cases j with
  |zero=>
   injection hx with hx
   subst hx
   unfold Qk
   rw[if_pos rfl]
  |succ j=>
   unfold Qk
   rw[if_neg (h p (by simp))]
   exact ih (fun q hq=>h q (by simp[hq])) hx
def FdRel (l:List (Int × Int))(key:Int)(w:World)(k:Nat)(s6:Value)(wr:World):Prop:=
 ∃j:Nat,j≤l.length∧s6=.int .i64 (j:Int)∧k=l.length-j∧(∀p∈l.take j,p.1≠key)∧wr=w
theorem lawFind_any (w:World)(b off:Nat)(A:Option Addr)(c:Nat)(l:List (Int × Int))(hl:l.length≤1000000)(h0:w.cell? ⟨b,off,none⟩=some (.slice A l.length c))(hrow:Row w A (Qd l))(key:Int):
  Calls prog 48 #[.pointer (some ⟨b,off,none⟩),.int .i64 key] w fun e w'=>e=.returned (.tuple #[.int .i64 ((Qk l key).getD 0),.bool (Qk l key).isSome])∧w'=w:=by
 have HR:=hid hrow;have HL:=hid hl
 clear hrow hl
 go_enter func48,ntmps48
 go_wp2_with fail
 go_loopg [6] l.length (fun k s6 wr=>FdRel l key w k s6 wr)
 case atStart=>exact⟨0,Nat.zero_le _,rfl,rfl,by simp,rfl⟩
 case round=>
  obtain⟨j,hj,rfl,rfl,hno,hw⟩:=hrel
  obtain rfl:w=wr:=hw.symm
  have HNO:=hid hno
  clear hno hw
  by_cases hlt:j<l.length
  ·have hlt':(j:Int)<l.length:=by omega
   obtain⟨⟨k,v⟩,hx⟩:∃x,l[j]?=some x:=⟨_,List.getElem?_eq_getElem hlt⟩
   obtain⟨pb,po,rfl,hk0,hk1⟩:=pair_cells HR.out hx
   have HX:=hid hx
   clear hx
   by_cases hk:k=key
   ·subst hk
    have hq:(k == k)=true:=by simp
    go_wp2_with fail
    go_ret2
    rw[findL_at HNO.out HX.out]
    exact⟨rfl,rfl⟩
   ·have hq:(k == key)=false:=by simpa using hk
    have HK:=hid hk
    clear hk
    go_wp2_with fail
    go_roundg (l.length-(j+1))
    case measure=>omega
    case rel=>
     have hj1:wrap64 ((j:Int)+1)=(j:Int)+1:=IntWalk.wrap64_in ((j:Int)+1) (by have:=HL.out;omega)
     exact⟨j+1,by omega,by first|(rw[hj1];rfl)|go_num,rfl,by
      rw[Zd HX.out]
      intro p hp
      rcases List.mem_append.1 hp with hp|hp
      ·exact HNO.out p hp
      ·obtain rfl:=List.mem_singleton.1 hp
       exact HK.out,rfl⟩
  ·have hjl:j=l.length:=by omega
   have HJ:=hid hjl
   clear hjl
   go_wp2_with fail
   go_ret2
   have hno:=HNO.out
   rw[HJ.out,List.take_length] at hno
   rw[findL_none hno]
   exact⟨rfl,rfl⟩
theorem lawFindIn_any (w:World)(A:Option Addr)(c:Nat)(l:List (Int × Int))(hl:l.length≤1000000)(hrow:Row w A (Qd l))(key:Int):
  Calls prog 111 #[.slice A l.length c,.int .i64 key] w fun e w'=>e=.returned (.tuple #[.int .i64 ((Qk l key).getD 0),.bool (Qk l key).isSome])∧Only [] w w':=by
 have hb:=Blk.new w [.slice A l.length c,.int .i64 0,.bool false] 49
 have hf:=lawFind_any _ w.heap.size 0 A c l hl (hb.cell rfl) (hrow.alloc (.cells #[.slice A l.length c,.int .i64 0,.bool false] 49)) key
 have HO:=hid (show Only [] w (w.alloc (.cells #[.slice A l.length c,.int .i64 0,.bool false] 49)) from (Only.refl _ _).alloc _)
 clear hrow hl hb
 generalize (Qk l key).getD 0=x at *
 generalize (Qk l key).isSome=y at *
 go_enter func111,ntmps111
 go_wp2_with (go_at_call 48;refine hf.mono ?_;rintro e w' ⟨rfl,hw⟩;subst hw)
 go_ret2
 exact⟨rfl,HO.out⟩
def Qy (key v:Int)(x:List (Int × Int) × Bool)(p:Int × Int):List (Int × Int) × Bool:=
 ((if key≤p.1∧x.2=false then x.1 ++ [(key,v)] else x.1) ++ (if p.1=key then [] else [p]),x.2 || decide (key≤p.1))
def putL (l:List (Int × Int))(key v:Int):List (Int × Int):=if (l.foldl (Qy key v) ([],false)).2 then (l.foldl (Qy key v) ([],false)).1 else (l.foldl (Qy key v) ([],false)).1 ++ [(key,v)]
def dropL (l:List (Int × Int))(key:Int):List (Int × Int):=l.filter fun p=>decide (p.1≠key)
theorem putStep_len (key v:Int):∀(l:List (Int × Int)) (x:List (Int × Int) × Bool),(l.foldl (Qy key v) x).1.length≤x.1.length+2*l.length
 |[],x=>by simp
 |p :: l,x=>by
  have h:=putStep_len key v l (Qy key v x p)
  have h2:(Qy key v x p).1.length≤x.1.length+2:=by
   unfold Qy
   dsimp only
   rw[List.length_append]
   split <;> split <;> simp
  simp only[List.foldl_cons,List.length_cons]
  omega
theorem pairCells_snoc (l:List (Int × Int))(k v:Int):Qd (l ++ [(k,v)])=Qd l ++ [.int .i64 k,.int .i64 v]:=by simp[Qd]
def PtRel (l:List (Int × Int))(key v:Int)(w:World)(k:Nat)(s7 s8 s9:Value)(wr:World):Prop:=
 ∃j:Nat,j≤l.length∧s9=.int .i64 (j:Int)∧k=l.length-j∧s8=.bool ((l.take j).foldl (Qy key v) ([],false)).2 ∧
  wr.ownsRow w.heap.size 36 2 s7 ((l.take j).foldl (Qy key v) ([],false)).1.length (Qd ((l.take j).foldl (Qy key v) ([],false)).1)∧Only [] w wr
theorem own_grow {w wr wa w8:World}{e s n:Nat}{v:Value}{xs:List Value}(h:wr.ownsRow w.heap.size e s v n xs)(ho:Only [] w wr)(ha:Only [] wr wa)(hg:wa.grownBy w8 v.ownBlock):Only [] w w8:=by
 refine (((ho.trans ha).mono (Y:=v.ownBlock.toList) (by simp)).grown hg (fun k hk=>.inr (by rw[hk];simp))).fresh (fun k hk hl=>?_)
 have:=(h.lt k (by simpa using hk)).1
 omega
theorem lawPut_any (w:World)(A:Option Addr)(c:Nat)(l:List (Int × Int))(hl:l.length≤100000)(hrow:Row w A (Qd l))(key v:Int):
  Calls prog 14 #[.slice A l.length c,.int .i64 key,.int .i64 v] w fun e w'=>∃u,e=.returned u∧w'.ownsRow w.heap.size 36 2 u (putL l key v).length (Qd (putL l key v))∧Only [] w w':=by
 have HR:=hid hrow;have HL:=hid hl
 clear hrow hl
 go_enter func14,ntmps14
 go_wp2_with fail
 go_loopg [7,8,9] l.length (fun k s7 s8 s9 wr=>PtRel l key v w k s7 s8 s9 wr)
 case atStart=>exact⟨0,Nat.zero_le _,rfl,rfl,rfl,World.ownsRow_nil _ _ 36 2,Only.refl _ _⟩
 case round=>
  obtain⟨j,hj,rfl,rfl,rfl,hown,ho⟩:=hrel
  have HO:=hid ho
  have hlen:((l.take j).foldl (Qy key v) ([],false)).1.length≤200000:=by
   have h1:=putStep_len key v (l.take j) ([],false)
   have h2:=HL.out
   rw[List.length_take] at h1
   simp at h1
   omega
  by_cases hlt:j<l.length
  ·have hlt':(j:Int)<l.length:=by omega
   obtain⟨⟨k,u⟩,hx⟩:∃x,l[j]?=some x:=⟨_,List.getElem?_eq_getElem hlt⟩
   obtain⟨pb,po,rfl,hk0,hk1⟩:=pair_cells (HR.out.below ho.below) hx
   have HST:=hid (show (l.take (j+1)).foldl (Qy key v) ([],false)=Qy key v ((l.take j).foldl (Qy key v) ([],false)) (k,u) from by rw[Zd hx,List.foldl_append];rfl)
   have HX:=hid hx
   have hj1:wrap64 ((j:Int)+1)=(j:Int)+1:=IntWalk.wrap64_in ((j:Int)+1) (by have:=HL.out;omega)
   have HJ1:=hid hj1
   have hbase:w.heap.size≤wr.heap.size:=ho.size
   clear hj1 hx hj ho
   obtain⟨st,hst⟩:∃st,(l.take j).foldl (Qy key v) ([],false)=st:=⟨_,rfl⟩
   rw[hst] at hown hlen HST ⊢
   clear hst
   obtain⟨out,done⟩:=st
   dsimp only at hown hlen ⊢
   obtain⟨oA,oc,rfl,_,_⟩:=Qc hown
   have HOWN:=hid hown
   have HBASE:=hid hbase
   have HLEN:=hid hlen
   have HM1:=hid (show out.length+1≤maxLen from by unfold maxLen;omega)
   have HM2:=hid (show (out.length+1)*16≤140737488355328 from by omega)
   have HM3:=hid (show out.length+1+1≤maxLen from by unfold maxLen;omega)
   have HM4:=hid (show (out.length+1+1)*16≤140737488355328 from by omega)
   have HRN:=hid (Zg wr [.int .i64 key,.int .i64 v] 36)
   have HRK:=hid (Zg wr [.int .i64 k,.int .i64 u] 36)
   have HS1:=hid (Qg wr (.cells #[.int .i64 key,.int .i64 v] 36))
   have HS2:=hid (Qg wr (.cells #[.int .i64 k,.int .i64 u] 36))
   have HKP:=hid (show ∀W,Only [] w W→W.cell? ⟨pb,po+j*2,none⟩=some (.int .i64 k)∧W.cell? ⟨pb,po+j*2+1,none⟩=some (.int .i64 u) from fun W ho=>by
    obtain⟨b',o',e',x0,x1⟩:=pair_cells (HR.out.below ho.below) HX.out
    injection e' with e'
    injection e' with e1 e2
    subst e1 e2
    exact⟨x0,x1⟩)
   have hplow:∀kk,(Value.slice oA out.length oc).ownBlock=some kk→w.heap.size≤kk:=fun kk hk=>(hown.lt kk hk).1
   have HPLOW:=hid hplow
   have hpbw:pb<w.heap.size∨w.heap.size≤pb:=by omega
   clear hown hbase hlen hplow hpbw
   by_cases hk:k=key
   ·have hq:(k != key)=false:=by simp[hk]
    have hge:k≥key:=by omega
    have HK:=hid hk
    clear hk
    cases done with
    |false=>
     have HC:=hid (show Qy key v (out,false) (k,u)=(out ++ [(key,v)],true) from by unfold Qy;simp[HK.out])
     go_wp2_with (at_builtin;refine Qj rfl (.tmp 27) (.tmp 31) rfl elemPair rfl (HOWN.out.alloc (.cells #[.int .i64 key,.int .i64 v] 36)) _ 1 _ [.int .i64 key,.int .i64 v] rfl HRN.out rfl (by simp[Value.oneCell']) HM1.out HM2.out (Nat.le_trans HBASE.out HS1.out) (fun e=>by cases e) ?_;intro v2 w8 hown2 hgr2 hat2;have HO8:=hid (own_grow HOWN.out HO.out ((Only.refl [] wr).alloc _) hgr2);obtain⟨A2,c2',rfl,_,_⟩:=Qc hown2;have HOWN2:=hid hown2;obtain⟨y0,y1⟩:=HKP.out _ HO8.out;have HRK8:=hid (Zg w8 [.int .i64 k,.int .i64 u] 36);have HB8:=hid (Nat.le_trans HO8.out.size (Qg w8 (.cells #[.int .i64 k,.int .i64 u] 36)));clear hown2 hgr2 hat2)
     go_roundg (l.length-(j+1))
     case measure=>omega
     case rel=>
      refine⟨j+1,hlt,by first|(rw[HJ1.out];rfl)|go_num,rfl,by rw[HST.out,HC.out],?_,HO8.out⟩
      rw[HST.out,HC.out]
      have h:=HOWN2.out
      rw[←pairCells_snoc] at h
      rw[List.length_append]
      exact h
    |true=>
     have HC:=hid (show Qy key v (out,true) (k,u)=(out,true) from by unfold Qy;simp[HK.out])
     obtain⟨y0,y1⟩:=HKP.out _ HO.out
     go_wp2_with fail
     go_roundg (l.length-(j+1))
     case measure=>omega
     case rel=>
      refine⟨j+1,hlt,by first|(rw[HJ1.out];rfl)|go_num,rfl,by rw[HST.out,HC.out],?_,HO.out⟩
      rw[HST.out,HC.out]
      exact HOWN.out
   ·have hq:(k != key)=true:=by simpa using hk
    have HK:=hid hk
    by_cases hge:k≥key
    ·cases done with
     |false=>
      have HC:=hid (show Qy key v (out,false) (k,u)=(out ++ [(key,v)] ++ [(k,u)],true) from by unfold Qy;rw[if_neg HK.out,if_pos ⟨hge,rfl⟩];simp[hge])
      clear hk
      go_wp2_with (first|(at_builtin;refine Qj rfl (.tmp 27) (.tmp 31) rfl elemPair rfl (HOWN.out.alloc (.cells #[.int .i64 key,.int .i64 v] 36)) _ 1 _ [.int .i64 key,.int .i64 v] rfl HRN.out rfl (by simp[Value.oneCell']) HM1.out HM2.out (Nat.le_trans HBASE.out HS1.out) (fun e=>by cases e) ?_;intro v2 w8 hown2 hgr2 hat2;have HO8:=hid (own_grow HOWN.out HO.out ((Only.refl [] wr).alloc _) hgr2);obtain⟨A2,c2',rfl,_,_⟩:=Qc hown2;have HOWN2:=hid hown2;obtain⟨y0,y1⟩:=HKP.out _ HO8.out;have HRK8:=hid (Zg w8 [.int .i64 k,.int .i64 u] 36);have HB8:=hid (Nat.le_trans HO8.out.size (Qg w8 (.cells #[.int .i64 k,.int .i64 u] 36)));clear hown2 hgr2 hat2)|(at_builtin;refine Qj rfl (.tmp 40) (.tmp 45) rfl elemPair rfl (HOWN2.out.alloc (.cells #[.int .i64 k,.int .i64 u] 36)) _ 1 _ [.int .i64 k,.int .i64 u] rfl HRK8.out rfl (by simp[Value.oneCell']) HM3.out HM4.out HB8.out (fun e=>by cases e) ?_;intro v3 w9 hown3 hgr3 hat3;have HO9:=hid (own_grow HOWN2.out HO8.out ((Only.refl [] w8).alloc _) hgr3);obtain⟨A3,c3',rfl,_,_⟩:=Qc hown3;have HOWN3:=hid hown3;clear hown3 hgr3 hat3))
      go_roundg (l.length-(j+1))
      case measure=>omega
      case rel=>
       refine⟨j+1,hlt,by first|(rw[HJ1.out];rfl)|go_num,rfl,by rw[HST.out,HC.out],?_,HO9.out⟩
       rw[HST.out,HC.out]
       have h:=HOWN3.out
       rw[←pairCells_snoc,←pairCells_snoc] at h
       rw[List.length_append,List.length_append]
       exact h
     |true=>
      have HC:=hid (show Qy key v (out,true) (k,u)=(out ++ [(k,u)],true) from by unfold Qy;rw[if_neg HK.out];simp)
      clear hk
      go_wp2_with (at_builtin;refine Qj rfl (.tmp 40) (.tmp 45) rfl elemPair rfl (HOWN.out.alloc (.cells #[.int .i64 k,.int .i64 u] 36)) _ 1 _ [.int .i64 k,.int .i64 u] rfl HRK.out rfl (by simp[Value.oneCell']) HM1.out HM2.out (Nat.le_trans HBASE.out HS2.out) (fun e=>by cases e) ?_;intro v2 w8 hown2 hgr2 hat2;have HO8:=hid (own_grow HOWN.out HO.out ((Only.refl [] wr).alloc _) hgr2);obtain⟨A2,c2',rfl,_,_⟩:=Qc hown2;have HOWN2:=hid hown2;clear hown2 hgr2 hat2)
      go_roundg (l.length-(j+1))
      case measure=>omega
      case rel=>
       refine⟨j+1,hlt,by first|(rw[HJ1.out];rfl)|go_num,rfl,by rw[HST.out,HC.out],?_,HO8.out⟩
       rw[HST.out,HC.out]
       have h:=HOWN2.out
       rw[←pairCells_snoc] at h
       rw[List.length_append]
       exact h
    ·have HC:=hid (show Qy key v (out,done) (k,u)=(out ++ [(k,u)],done) from by unfold Qy;rw[if_neg HK.out];have:¬key≤k:=hge;simp[this])
     have hlt2:k<key:=by omega
     clear hk
     cases done
     all_goals
      go_wp2_with (at_builtin;refine Qj rfl (.tmp 40) (.tmp 45) rfl elemPair rfl (HOWN.out.alloc (.cells #[.int .i64 k,.int .i64 u] 36)) _ 1 _ [.int .i64 k,.int .i64 u] rfl HRK.out rfl (by simp[Value.oneCell']) HM1.out HM2.out (Nat.le_trans HBASE.out HS2.out) (fun e=>by cases e) ?_;intro v2 w8 hown2 hgr2 hat2;have HO8:=hid (own_grow HOWN.out HO.out ((Only.refl [] wr).alloc _) hgr2);obtain⟨A2,c2',rfl,_,_⟩:=Qc hown2;have HOWN2:=hid hown2;clear hown2 hgr2 hat2)
      go_roundg (l.length-(j+1))
      case measure=>omega
      case rel=>
       refine⟨j+1,hlt,by first|(rw[HJ1.out];rfl)|go_num,rfl,by rw[HST.out,HC.out],?_,HO8.out⟩
       rw[HST.out,HC.out]
       have h:=HOWN2.out
       rw[←pairCells_snoc] at h
       rw[List.length_append]
       exact h
  ·have hjl:j=l.length:=by omega
   subst hjl
   rw[List.take_of_length_le (Nat.le_refl _)] at hown hlen ⊢
   have hbase:w.heap.size≤wr.heap.size:=ho.size
   have HPL:=hid (show putL l key v=if (l.foldl (Qy key v) ([],false)).2 then (l.foldl (Qy key v) ([],false)).1 else (l.foldl (Qy key v) ([],false)).1 ++ [(key,v)] from rfl)
   obtain⟨st,hst⟩:∃st,l.foldl (Qy key v) ([],false)=st:=⟨_,rfl⟩
   rw[hst] at hown hlen HPL ⊢
   clear hst
   obtain⟨out,done⟩:=st
   dsimp only at hown hlen HPL ⊢
   obtain⟨oA,oc,rfl,_,_⟩:=Qc hown
   have HOWN:=hid hown
   have HBASE:=hid hbase
   have HM1:=hid (show out.length+1≤maxLen from by unfold maxLen;omega)
   have HM2:=hid (show (out.length+1)*16≤140737488355328 from by omega)
   have HRN:=hid (Zg wr [.int .i64 key,.int .i64 v] 36)
   have HS1:=hid (Qg wr (.cells #[.int .i64 key,.int .i64 v] 36))
   clear hown hbase hlen hj ho
   cases done with
   |true=>
    go_wp2_with fail
    go_ret
    refine⟨_,rfl,?_,HO.out⟩
    rw[HPL.out]
    exact HOWN.out
   |false=>
    go_wp2_with (at_builtin;refine Qj rfl (.tmp 49) (.tmp 53) rfl elemPair rfl (HOWN.out.alloc (.cells #[.int .i64 key,.int .i64 v] 36)) _ 1 _ [.int .i64 key,.int .i64 v] rfl HRN.out rfl (by simp[Value.oneCell']) HM1.out HM2.out (Nat.le_trans HBASE.out HS1.out) (fun e=>by cases e) ?_;intro v2 w8 hown2 hgr2 hat2;have HO8:=hid (own_grow HOWN.out HO.out ((Only.refl [] wr).alloc _) hgr2);obtain⟨A2,c2',rfl,_,_⟩:=Qc hown2;have HOWN2:=hid hown2;clear hown2 hgr2 hat2)
    go_ret
    refine⟨_,rfl,?_,HO8.out⟩
    rw[HPL.out]
    have h:=HOWN2.out
    rw[←pairCells_snoc] at h
    simp only[Bool.false_eq_true,if_false]
    rw[List.length_append]
    exact h
def DpRel (l:List (Int × Int))(key:Int)(w:World)(k:Nat)(s5 s6:Value)(wr:World):Prop:=
 ∃j:Nat,j≤l.length∧s6=.int .i64 (j:Int)∧k=l.length-j∧wr.ownsRow w.heap.size 36 2 s5 (dropL (l.take j) key).length (Qd (dropL (l.take j) key))∧Only [] w wr
theorem dropL_snoc (l:List (Int × Int))(key:Int)(p:Int × Int):dropL (l ++ [p]) key=dropL l key ++ (if p.1=key then [] else [p]):=by
 unfold dropL
 rw[List.filter_append]
 congr 1
 by_cases h:p.1=key <;> simp[h]
theorem lawDrop_any (w:World)(A:Option Addr)(c:Nat)(l:List (Int × Int))(hl:l.length≤100000)(hrow:Row w A (Qd l))(key:Int):
  Calls prog 110 #[.slice A l.length c,.int .i64 key] w fun e w'=>∃u,e=.returned u∧w'.ownsRow w.heap.size 36 2 u (dropL l key).length (Qd (dropL l key))∧Only [] w w':=by
 have HR:=hid hrow;have HL:=hid hl
 clear hrow hl
 go_enter func110,ntmps110
 go_wp2_with fail
 go_loopg [5,6] l.length (fun k s5 s6 wr=>DpRel l key w k s5 s6 wr)
 case atStart=>exact⟨0,Nat.zero_le _,rfl,rfl,World.ownsRow_nil _ _ 36 2,Only.refl _ _⟩
 case round=>
  obtain⟨j,hj,rfl,rfl,hown,ho⟩:=hrel
  have HO:=hid ho
  by_cases hlt:j<l.length
  ·have hlt':(j:Int)<l.length:=by omega
   obtain⟨⟨k,u⟩,hx⟩:∃x,l[j]?=some x:=⟨_,List.getElem?_eq_getElem hlt⟩
   obtain⟨pb,po,rfl,hk0,hk1⟩:=pair_cells (HR.out.below ho.below) hx
   have HST:=hid (show dropL (l.take (j+1)) key=dropL (l.take j) key ++ (if k=key then [] else [(k,u)]) from by rw[Zd hx,dropL_snoc])
   have hj1:wrap64 ((j:Int)+1)=(j:Int)+1:=IntWalk.wrap64_in ((j:Int)+1) (by have:=HL.out;omega)
   have HJ1:=hid hj1
   have hbase:w.heap.size≤wr.heap.size:=ho.size
   have hlen:(dropL (l.take j) key).length≤100000:=by
    have h1:(dropL (l.take j) key).length≤(l.take j).length:=List.length_filter_le _ _
    have h2:=HL.out
    rw[List.length_take] at h1
    omega
   clear hj1 hx hj ho
   obtain⟨out,hout⟩:∃out,dropL (l.take j) key=out:=⟨_,rfl⟩
   rw[hout] at hown hlen HST
   clear hout
   obtain⟨oA,oc,rfl,_,_⟩:=Qc hown
   have HOWN:=hid hown
   have HBASE:=hid hbase
   have HM1:=hid (show out.length+1≤maxLen from by unfold maxLen;omega)
   have HM2:=hid (show (out.length+1)*16≤140737488355328 from by omega)
   have HRK:=hid (Zg wr [.int .i64 k,.int .i64 u] 36)
   have HS2:=hid (Qg wr (.cells #[.int .i64 k,.int .i64 u] 36))
   clear hown hbase hlen
   by_cases hk:k=key
   ·have hq:(k != key)=false:=by simp[hk]
    have HK:=hid hk
    clear hk
    go_wp2_with fail
    go_roundg (l.length-(j+1))
    case measure=>omega
    case rel=>
     refine⟨j+1,hlt,by first|(rw[HJ1.out];rfl)|go_num,rfl,?_,HO.out⟩
     rw[HST.out,if_pos HK.out,List.append_nil]
     exact HOWN.out
   ·have hq:(k != key)=true:=by simpa using hk
    have HK:=hid hk
    clear hk
    go_wp2_with (at_builtin;refine Qj rfl (.tmp 20) (.tmp 25) rfl elemPair rfl (HOWN.out.alloc (.cells #[.int .i64 k,.int .i64 u] 36)) _ 1 _ [.int .i64 k,.int .i64 u] rfl HRK.out rfl (by simp[Value.oneCell']) HM1.out HM2.out (Nat.le_trans HBASE.out HS2.out) (fun e=>by cases e) ?_;intro v2 w8 hown2 hgr2 hat2;have HO8:=hid (own_grow HOWN.out HO.out ((Only.refl [] wr).alloc _) hgr2);obtain⟨A2,c2',rfl,_,_⟩:=Qc hown2;have HOWN2:=hid hown2;clear hown2 hgr2 hat2)
    go_roundg (l.length-(j+1))
    case measure=>omega
    case rel=>
     refine⟨j+1,hlt,by first|(rw[HJ1.out];rfl)|go_num,rfl,?_,HO8.out⟩
     rw[HST.out,if_neg HK.out]
     have h:=HOWN2.out
     rw[←pairCells_snoc] at h
     rw[List.length_append]
     exact h
  ·have hjl:j=l.length:=by omega
   subst hjl
   rw[List.take_of_length_le (Nat.le_refl _)] at hown
   have HOWN:=hid hown
   clear hown hj ho
   go_wp2_with fail
   go_ret
   exact⟨_,rfl,HOWN.out,HO.out⟩
def PsRel (a b:List (Int × Int))(w:World)(k:Nat)(s5:Value)(wr:World):Prop:=
 ∃j n:Nat,j≤a.length∧s5=.int .i64 (j:Int)∧k=a.length-j∧wr=w.drewN n
theorem pairsSame_any (w:World)(A B:Option Addr)(c d:Nat)(l:List (Int × Int))(hl:l.length≤1000000)(ha:Row w A (Qd l))(hb:Row w B (Qd l)):
  Calls prog 109 #[.slice A l.length c,.slice B l.length d] w fun e w'=>e=.returned (.bool true)∧Only [] w w':=by
 have HA:=hid ha;have HB:=hid hb;have HL:=hid hl
 clear ha hb hl
 go_enter func109,ntmps109
 go_wp2_with fail
 go_loopg [5] l.length (fun k s5 wr=>PsRel l l w k s5 wr)
 case atStart=>exact⟨0,0,Nat.zero_le _,rfl,rfl,rfl⟩
 case round=>
  obtain⟨j,n,hj,rfl,rfl,hw⟩:=hrel
  by_cases hlt:j<l.length
  ·have hlt':(j:Int)<l.length:=by omega
   obtain⟨⟨k,u⟩,hx⟩:∃x,l[j]?=some x:=⟨_,List.getElem?_eq_getElem hlt⟩
   subst hw
   obtain⟨pb,po,rfl,hk0,hk1⟩:=pair_cells HA.out hx
   obtain⟨qb,qo,rfl,hq0,hq1⟩:=pair_cells HB.out hx
   have hj1:wrap64 ((j:Int)+1)=(j:Int)+1:=IntWalk.wrap64_in ((j:Int)+1) (by have:=HL.out;omega)
   have HJ1:=hid hj1
   clear hx hj1 hj
   go_wp2_with fail
   go_quiet (fail)
   go_wp2_with fail
   go_roundg (l.length-(j+1))
   case measure=>omega
   case rel=>exact⟨j+1,_,hlt,by first|(rw[HJ1.out];rfl)|go_num,rfl,rfl⟩
  ·go_wp2_with fail
   go_ret
   exact⟨rfl,(Only.refl _ _).drewN _⟩
end Go.Proofs.YteeefedoffplmaaGreat
