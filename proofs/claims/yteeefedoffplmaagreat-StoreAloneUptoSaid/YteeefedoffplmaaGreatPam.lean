/- StoreAlone, part Pam: ChangeW, ChangeX, KeysIn, Newest, Does. -/
import Derived.Test.YteeefedoffplmaaGreatPal
import Derived.Test.YteeefedoffplmaaGreatPaj
import Derived.Test.YteeefedoffplmaaGreatPah
import Derived.Test.YteeefedoffplmaaGreatPai
import Derived.Test.YteeefedoffplmaaGreatPad
set_option linter.unusedSimpArgs false
set_option linter.unusedVariables false
set_option maxRecDepth 100000
set_option maxHeartbeats 51200000
namespace Go.Proofs.YteeefedoffplmaaGreat
open Go.RowKit Lib Go.Proofs.Tryz
def ChangeS.val (c:ChangeS)(gv mv:Value):Value:=.agg #[.int .i64 c.root,gv,mv,.int .i64 c.told.value,.bool c.told.had,.int .i64 c.told.number,.bool c.told.new,.int .i64 c.told.many]
def Zi (L:PoolL)(c:ChangeS)(err:Int)(S':PoolS)(w:World)(e:Ending)(w':World):Prop:=
 ∃gv mv,e=.returned (.tuple #[c.val gv mv,.int .i64 err])∧PoolAt w' L S'∧w'.ownsRow w.heap.size 3 1 gv c.gone.length (Zc c.gone)∧w'.ownsRow w.heap.size 3 1 mv c.made.length (Zc c.made)∧Only L.blocks w w'
theorem change_nil {w w':World}{L:PoolL}{S:PoolS}(c:ChangeS)(err:Int)(hp:PoolAt w L S)(h1:c.gone=[])(h2:c.made=[])(ho:Only [w.heap.size] w w'){u:Value}(hu:u=c.val (.slice none 0 0) (.slice none 0 0)):Zi L c err S w (.returned (.tuple #[u,.int .i64 err])) w':=by
 subst hu
 refine⟨_,_,rfl,hp.only ho (fun k hk e=>by have:=hp.lt k hk;simp at e;omega),?_,?_,ho.fresh (fun k hk hl=>by simp at hk;omega)⟩
 ·rw[h1];exact World.ownsRow_nil _ _ _ _
 ·rw[h2];exact World.ownsRow_nil _ _ _ _
theorem putsAny_any (w:World)(L:PoolL)(S:PoolS)(pt pg:Nat)(x0 x1 x2 x5 x6:Value)(hp:PoolAt w L S)(ht:Blk w pg [ptr L.pb] 187)(hpt:Blk w pt [x0,x1,x2,ptr L.pb,ptr pg,x5,x6] 152)(hx2:pg∉L.blocks)
  (root k v:Int) (hk:Qt k=true) (hv:Ql v) (hw:WayIn S root k) (m':EditS) (S':PoolS) (hS:S.trieput root k v=some (m',S')):
  Calls prog 116 #[ptr pt,.pointer none,.int .i64 root,.int .i64 k,.int .i64 v] w (Zi L (changed root m') 0 S' w):=by
 have ho0:Only [] w (w.alloc (.cells #[.int .i64 0,.slice none 0 0,.slice none 0 0,.int .i64 0,.bool false,.int .i64 0,.bool false,.int .i64 0] 209)):=(Only.refl _ _).alloc _
 have hput:=trieput_any _ pg L S (hp.only ho0 (by simp)) (ht.only ho0 (by simp)) hx2 root k v hk hv hw m' S' hS
 have c4:=(hpt.only ho0 (by simp)).cell (i:=4) rfl
 have hch:=fun W gv mv gA gn gc mA mn mc h1 h2=>changed_any W root m'.root m'.old m'.had gv mv gA mA gn gc mn mc h1 h2
 have hrn:w.heap.size∉L.blocks:=fun m=>by have:=hp.lt _ (Qf m);omega
 have HRN:=hid hrn;have HO0:=hid ho0;have HCH:=hid hch;have HLT:=hid hp.lt
 unfold Putted Edit2 at hput
 unfold ptr at *
 clear hp ht hpt hx2 hk hv hw hS ho0 hch hrn
 go_enter func116,ntmps116
 go_wp2_with (first|(go_at_call 165;refine hput.mono ?_;rintro e w1 ⟨gv,mv,rfl,h1,h2,h3,h4,ho1⟩;obtain⟨gA,gc,rfl,_,_⟩:=Qc h2;obtain⟨mA,mc,rfl,_,_⟩:=Qc h3;have hbr:=(Blk.new w [.int .i64 0,.slice none 0 0,.slice none 0 0,.int .i64 0,.bool false,.int .i64 0,.bool false,.int .i64 0] 209).only ho1 HRN.out;have HBR:=hid hbr;have H1:=hid h1;have H2:=hid h2;have H3:=hid h3;have HO1:=hid ho1;clear h1 h2 h3 h4 ho1 hbr)|(go_at_call 182;refine (HCH.out _ _ _ _ _ _ _ _ _ rfl rfl).mono ?_;rintro e w2 ⟨rfl,ho2⟩;have hbr2:=(HBR.out.alloc (.cells #[.int .i64 m'.root,.int .i64 m'.old,.bool m'.had,.slice gA m'.gone.length gc,.slice mA m'.made.length mc] 264)).only ho2 (by simp);have hlt2:=hbr2.lt;have f0:=hbr2.frozen;have e0:=hbr2.cell (i:=0) rfl;have e1:=hbr2.cell (i:=1) rfl;have e2:=hbr2.cell (i:=2) rfl;have e3:=hbr2.cell (i:=3) rfl;have e4:=hbr2.cell (i:=4) rfl;have e5:=hbr2.cell (i:=5) rfl;have e6:=hbr2.cell (i:=6) rfl;have e7:=hbr2.cell (i:=7) rfl;have HO2:=hid ho2;clear ho2 hbr2))
 have hfin:∀W,Only [w.heap.size] w2 W→Zi L (changed root m') 0 S' w (.returned (.tuple #[.agg #[.int .i64 m'.root,.slice gA m'.gone.length gc,.slice mA m'.made.length mc,.int .i64 m'.old,.bool m'.had,.int .i64 0,.bool (decide (m'.root≠root)),.int .i64 0],.int .i64 0])) W:=fun W g=>by
  have g1:Only [w.heap.size] w1 W:=(((Only.refl [] w1).alloc _).trans HO2.out).mono (by simp) |>.trans g
  refine⟨_,_,rfl,H1.out.only g1 (fun k hk e=>by have:=HLT.out k hk;simp at e;omega),?_,?_,?_⟩
  ·exact Qn (Qe H2.out g1 (fun k hk e=>by have:=(H2.out.lt k hk).1;simp at e this;omega)) (by simp)
  ·exact Qn (Qe H3.out g1 (fun k hk e=>by have:=(H3.out.lt k hk).1;simp at e this;omega)) (by simp)
  ·exact ((HO0.out.mono (Y:=w.heap.size :: L.blocks) (by simp)).trans ((HO1.out.mono (by intro k hk;simp[hk])).trans (g1.mono (by intro k hk;simp at hk;simp[hk])))).fresh (fun k hk hl=>by
    rcases List.mem_cons.1 hk with rfl|hk
    ·omega
    ·exact hk)
 refine bodyPost_ret (v:=.tuple #[.agg #[.int .i64 m'.root,.slice gA m'.gone.length gc,.slice mA m'.made.length mc,.int .i64 m'.old,.bool m'.had,.int .i64 0,.bool (decide (m'.root≠root)),.int .i64 0],.int .i64 0]) (by simp[results,Tryz.results116,go_sem,e0,e1,e2,e3,e4,e5,e6,e7,hlt2]) rfl (hfin _ ?_)
 exact (((((((((Only.refl [w.heap.size] w2).setCell (.inl (by simp)) _).setCell (.inl (by simp)) _).setCell (.inl (by simp)) _).setCell (.inl (by simp)) _).setCell (.inl (by simp)) _).setCell (.inl (by simp)) _).setCell (.inl (by simp)) _).setCell (.inl (by simp)) _)
theorem putCl_any (w:World)(L:PoolL)(S:PoolS)(pt pg:Nat)(x0 x1 x2 x5 x6:Value)(hp:PoolAt w L S)(ht:Blk w pg [ptr L.pb] 187)(hpt:Blk w pt [x0,x1,x2,ptr L.pb,ptr pg,x5,x6] 152)(hx2:pg∉L.blocks)(b4 b6 b7:Nat)
  (root k v:Int) (h4:w.cell? ⟨b4,0,none⟩=some (ptr pt)) (h6:w.cell? ⟨b6,0,none⟩=some (.int .i64 k)) (h7:w.cell? ⟨b7,0,none⟩=some (.int .i64 v)) (hk:Qt k=true) (hv:Ql v) (hw:WayIn S root k) (m':EditS) (S':PoolS) (hS:S.trieput root k v=some (m',S')):
  Calls prog 115 #[.pointer none,.int .i64 root,ptr b4,ptr b6,ptr b7] w (Zi L (changed root m') 0 S' w):=by
 have ho0:Only [] w (w.alloc (.cells #[.int .i64 0,.slice none 0 0,.slice none 0 0,.int .i64 0,.bool false,.int .i64 0,.bool false,.int .i64 0] 209)):=(Only.refl _ _).alloc _
 have hput:=putsAny_any _ L S pt pg x0 x1 x2 x5 x6 (hp.only ho0 (by simp)) (ht.only ho0 (by simp)) (hpt.only ho0 (by simp)) hx2 root k v hk hv hw m' S' hS
 have c4:=Qa ho0 h4 (by simp)
 have c6:=Qa ho0 h6 (by simp)
 have c7:=Qa ho0 h7 (by simp)
 have hrn:w.heap.size∉L.blocks:=fun m=>by have:=hp.lt _ (Qf m);omega
 have HRN:=hid hrn;have HO0:=hid ho0;have HLT:=hid hp.lt
 unfold Zi ChangeS.val changed at hput
 dsimp only at hput
 unfold ptr at *
 clear hp ht hpt hx2 hk hv hw hS ho0 hrn h4 h6 h7
 go_enter func115,ntmps115
 go_wp2_with (go_at_call 116;refine hput.mono ?_;rintro e w2 ⟨gv,mv,rfl,h1,h2,h3,ho1⟩;obtain⟨gA,gc,rfl,_,_⟩:=Qc h2;obtain⟨mA,mc,rfl,_,_⟩:=Qc h3;have hbr2:=(Blk.new w [.int .i64 0,.slice none 0 0,.slice none 0 0,.int .i64 0,.bool false,.int .i64 0,.bool false,.int .i64 0] 209).only ho1 HRN.out;have hlt2:=hbr2.lt;have f0:=hbr2.frozen;have e0:=hbr2.cell (i:=0) rfl;have e1:=hbr2.cell (i:=1) rfl;have e2:=hbr2.cell (i:=2) rfl;have e3:=hbr2.cell (i:=3) rfl;have e4:=hbr2.cell (i:=4) rfl;have e5:=hbr2.cell (i:=5) rfl;have e6:=hbr2.cell (i:=6) rfl;have e7:=hbr2.cell (i:=7) rfl;have H1:=hid h1;have H2:=hid h2;have H3:=hid h3;have HO1:=hid ho1;clear h1 h2 h3 ho1 hbr2)
 have hfin:∀W,Only [w.heap.size] w2 W→Zi L (changed root m') 0 S' w (.returned (.tuple #[.agg #[.int .i64 m'.root,.slice gA m'.gone.length gc,.slice mA m'.made.length mc,.int .i64 m'.old,.bool m'.had,.int .i64 0,.bool (decide (m'.root≠root)),.int .i64 0],.int .i64 0])) W:=fun W g1=>by
  refine⟨_,_,rfl,H1.out.only g1 (fun k hk e=>by have:=HLT.out k hk;simp at e;omega),?_,?_,?_⟩
  ·exact Qn (Qe H2.out g1 (fun k hk e=>by have:=(H2.out.lt k hk).1;simp at e this;omega)) (by simp)
  ·exact Qn (Qe H3.out g1 (fun k hk e=>by have:=(H3.out.lt k hk).1;simp at e this;omega)) (by simp)
  ·exact ((HO0.out.mono (Y:=w.heap.size :: L.blocks) (by simp)).trans ((HO1.out.mono (by intro k hk;simp[hk])).trans (g1.mono (by intro k hk;simp at hk;simp[hk])))).fresh (fun k hk hl=>by
    rcases List.mem_cons.1 hk with rfl|hk
    ·omega
    ·exact hk)
 refine bodyPost_ret (v:=.tuple #[.agg #[.int .i64 m'.root,.slice gA m'.gone.length gc,.slice mA m'.made.length mc,.int .i64 m'.old,.bool m'.had,.int .i64 0,.bool (decide (m'.root≠root)),.int .i64 0],.int .i64 0]) (by simp[results,Tryz.results115,go_sem,e0,e1,e2,e3,e4,e5,e6,e7,hlt2]) rfl (hfin _ ?_)
 exact (((((((((Only.refl [w.heap.size] w2).setCell (.inl (by simp)) _).setCell (.inl (by simp)) _).setCell (.inl (by simp)) _).setCell (.inl (by simp)) _).setCell (.inl (by simp)) _).setCell (.inl (by simp)) _).setCell (.inl (by simp)) _).setCell (.inl (by simp)) _)
theorem dropCl_any (w:World)(L:PoolL)(S:PoolS)(pt pg:Nat)(x0 x1 x2 x5 x6:Value)(hp:PoolAt w L S)(ht:Blk w pg [ptr L.pb] 187)(hpt:Blk w pt [x0,x1,x2,ptr L.pb,ptr pg,x5,x6] 152)(hx2:pg∉L.blocks)(hx3:pt∉L.blocks)(b4 b6:Nat)(hx4:b4∉L.blocks)(hx6:b6∉L.blocks)
  (root k:Int) (h4:w.cell? ⟨b4,0,none⟩=some (ptr pt)) (h6:w.cell? ⟨b6,0,none⟩=some (.int .i64 k)) (hk:Qt k=true) (hw:WayIn S root k) (m':EditS) (S':PoolS) (hS:S.triedrop root k=some (some (m',S'))):
  Calls prog 211 #[.pointer none,.int .i64 root,ptr b4,ptr b6] w (Zi L (changed root m') 0 S' w):=by
 have HO0:=hid (show Only [] w (w.alloc (.cells #[.int .i64 0,.slice none 0 0,.slice none 0 0,.int .i64 0,.bool false,.int .i64 0,.bool false,.int .i64 0] 209)) from (Only.refl _ _).alloc _)
 have HPO:=hid (show ∀W,Only [] w W→Calls prog 212 #[ptr pg,.pointer none,.int .i64 root,.int .i64 k] W (Putted L m' S' W) from fun W ho=>triedrop_any W pg L S (hp.only ho (by simp)) (ht.only ho (by simp)) hx2 root k hk hw m' S' hS)
 have c4:=(hpt.only HO0.out (by simp)).cell (i:=4) rfl
 have q4:=Qa HO0.out h4 (by simp)
 have q6:=Qa HO0.out h6 (by simp)
 have HX3:=hid hx3
 have HX4:=hid hx4
 have HX6:=hid hx6
 have HB0:=hid (Blk.new w [.int .i64 0,.slice none 0 0,.slice none 0 0,.int .i64 0,.bool false,.int .i64 0,.bool false,.int .i64 0] 209)
 have heb0:Blk ((w.alloc (.cells #[.int .i64 0,.slice none 0 0,.slice none 0 0,.int .i64 0,.bool false,.int .i64 0,.bool false,.int .i64 0] 209)).alloc (.cells #[.int .i64 0,.int .i64 0,.bool false,.slice none 0 0,.slice none 0 0] 264)) (w.heap.size+1) [.int .i64 0,.int .i64 0,.bool false,.slice none 0 0,.slice none 0 0] 264:=by
  have:=Blk.new (w.alloc (.cells #[.int .i64 0,.slice none 0 0,.slice none 0 0,.int .i64 0,.bool false,.int .i64 0,.bool false,.int .i64 0] 209)) [.int .i64 0,.int .i64 0,.bool false,.slice none 0 0,.slice none 0 0] 264
  rw[World.size_alloc] at this
  exact this
 have HEB:=hid heb0
 have HCH:=hid (fun W gv mv gA gn gc mA mn mc h1 h2=>changed_any W root m'.root m'.old m'.had gv mv gA mA gn gc mn mc h1 h2)
 have HLT:=hid hp.lt
 have HRN:=hid (show w.heap.size∉L.blocks from fun m=>by have:=hp.lt _ (Qf m);omega)
 have HRN2:=hid (show w.heap.size+1∉L.blocks from fun m=>by have:=hp.lt _ (Qf m);omega)
 have hlp:=hpt.lt
 have hl4:=cell_lt h4
 have hl6:=cell_lt h6
 dsimp only at hl4 hl6
 have hn1:pt≠w.heap.size+1:=by omega
 have hn2:b4≠w.heap.size+1:=by omega
 have hn3:b6≠w.heap.size+1:=by omega
 unfold Putted Edit2 ptr at HPO
 unfold ptr at *
 clear hp ht hpt hx2 hk hw hS h4 h6 hx3 hx4 hx6 hlp hl4 hl6 heb0
 go_enter func211,ntmps211
 go_wp2_with fail
 go_region_held3 (fun W=>W.cell? ⟨pt,4,none⟩=some (.pointer (some ⟨pg,0,none⟩))∧W.cell? ⟨b4,0,none⟩=some (.pointer (some ⟨pt,0,none⟩))∧W.cell? ⟨b6,0,none⟩=some (.int .i64 k))
  (first|with_reducible exact⟨Qa ho2 c4 HX3.out,Qa ho2 q4 HX4.out,Qa ho2 q6 HX6.out⟩|with_reducible exact⟨Qa (ho2.alloc _) c4 HX3.out,Qa (ho2.alloc _) q4 HX4.out,Qa (ho2.alloc _) q6 HX6.out⟩|with_reducible exact⟨keep5' (Qa ho2 c4 HX3.out) hn1,keep5' (Qa ho2 q4 HX4.out) hn2,keep5' (Qa ho2 q6 HX6.out) hn3⟩|(go_keep;done))
  (first|(go_simp;go_at_call 212;refine (HPO.out _ HO0.out.drew').mono ?_;rintro e w2 ⟨gv,mv,rfl,h1,h2,h3,h4,ho2'⟩;obtain⟨gA,gc,rfl,_,_⟩:=Qc h2;obtain⟨mA,mc,rfl,hmr,hmn⟩:=Qc h3;have H1:=hid h1;have H2:=hid h2;have H3:=hid h3;clear h1 h2 h3 h4 hmr hmn;have ho2:Only L.blocks (w.alloc (.cells #[.int .i64 0,.slice none 0 0,.slice none 0 0,.int .i64 0,.bool false,.int .i64 0,.bool false,.int .i64 0] 209)) w2:=⟨ho2'.os,ho2'.tape,ho2'.output,ho2'.size,ho2'.block⟩;have HO2:=hid ho2;clear ho2')|(go_simp;go_at_call 212;refine (HPO.out _ (HO0.out.alloc _).drew').mono ?_;rintro e w2 ⟨gv,mv,rfl,h1,h2,h3,h4,ho2'⟩;obtain⟨gA,gc,rfl,_,_⟩:=Qc h2;obtain⟨mA,mc,rfl,hmr,hmn⟩:=Qc h3;have H1:=hid h1;have H2:=hid h2;have H3:=hid h3;clear h1 h2 h3 h4 hmr hmn;have ho2:Only L.blocks (w.alloc (.cells #[.int .i64 0,.slice none 0 0,.slice none 0 0,.int .i64 0,.bool false,.int .i64 0,.bool false,.int .i64 0] 209)) w2:=((Only.refl _ _).alloc _).trans ⟨ho2'.os,ho2'.tape,ho2'.output,ho2'.size,ho2'.block⟩;have heb:Blk w2 (w.heap.size+1) [.int .i64 0,.int .i64 0,.bool false,.slice none 0 0,.slice none 0 0] 264:=HEB.out.only (X:=L.blocks) ⟨ho2'.os,ho2'.tape,ho2'.output,ho2'.size,ho2'.block⟩ HRN2.out;have q0:=heb.cell (i:=0) rfl;have q1:=heb.cell (i:=1) rfl;have q2:=heb.cell (i:=2) rfl;have q3:=heb.cell (i:=3) rfl;have q4':=heb.cell (i:=4) rfl;have qf:=heb.frozen;have HEB2:=hid heb;clear heb ho2';have HO2:=hid ho2))
 have ar1_1:=0;rotate_left
 rotate_left
 all_goals
  first|(have _:=ar1_1;have hE:Blk (w2.alloc (.cells #[.int .i64 m'.root,.int .i64 m'.old,.bool m'.had,.slice gA m'.gone.length gc,.slice mA m'.made.length mc] 264)) w2.heap.size [.int .i64 m'.root,.int .i64 m'.old,.bool m'.had,.slice gA m'.gone.length gc,.slice mA m'.made.length mc] 264:=Blk.new w2 _ 264;have hO3:=HO2.out.alloc (.cells #[.int .i64 m'.root,.int .i64 m'.old,.bool m'.had,.slice gA m'.gone.length gc,.slice mA m'.made.length mc] 264);have hP3:=H1.out.alloc (.cells #[.int .i64 m'.root,.int .i64 m'.old,.bool m'.had,.slice gA m'.gone.length gc,.slice mA m'.made.length mc] 264);have hR3:=(Qn (b':=w.heap.size+1) H3.out (by simp)).alloc (.cells #[.int .i64 m'.root,.int .i64 m'.old,.bool m'.had,.slice gA m'.gone.length gc,.slice mA m'.made.length mc] 264);have hQ3:=(Qn (b':=w.heap.size+1) H2.out (by simp)).alloc (.cells #[.int .i64 m'.root,.int .i64 m'.old,.bool m'.had,.slice gA m'.gone.length gc,.slice mA m'.made.length mc] 264);(have hes:w.heap.size<w2.heap.size:=by have:=HO2.out.size;simp at this;omega);generalize w2.alloc (.cells #[.int .i64 m'.root,.int .i64 m'.old,.bool m'.had,.slice gA m'.gone.length gc,.slice mA m'.made.length mc] 264)=W3 at hE hO3 hP3 hR3 hQ3 ⊢;generalize w2.heap.size=eb at hE hes ⊢)|(have hrw:=Qn (b':=w.heap.size+1+1) H3.out (by simp);have hrg:=Qn (b':=w.heap.size+1+1) H2.out (by simp);obtain⟨hE,hO3,hP3,hR3⟩:=putB' (b:=w.heap.size+1) (.int .i64 m'.root) (.int .i64 m'.old) (.bool m'.had) (.slice gA m'.gone.length gc) (.slice mA m'.made.length mc) HEB2.out HO2.out (by simp) H1.out (fun k hk=>by have:=HLT.out k hk;omega) hrw;obtain⟨_,_,_,hQ3⟩:=putB' (b:=w.heap.size+1) (.int .i64 m'.root) (.int .i64 m'.old) (.bool m'.had) (.slice gA m'.gone.length gc) (.slice mA m'.made.length mc) HEB2.out HO2.out (by simp) H1.out (fun k hk=>by have:=HLT.out k hk;omega) hrg;have hes:w.heap.size<w.heap.size+1:=Nat.lt_succ_self _;replace hR3:=Qn (b':=w.heap.size+1) hR3 (by omega);replace hQ3:=Qn (b':=w.heap.size+1) hQ3 (by omega);clear hrw hrg;generalize (((((w2.setCell ⟨w.heap.size+1,0,none⟩ (.int .i64 m'.root)).setCell ⟨w.heap.size+1,1,none⟩ (.int .i64 m'.old)).setCell ⟨w.heap.size+1,2,none⟩ (.bool m'.had)).setCell ⟨w.heap.size+1,3,none⟩ (.slice gA m'.gone.length gc)).setCell ⟨w.heap.size+1,4,none⟩ (.slice mA m'.made.length mc))=W3 at hE hO3 hP3 hR3 hQ3 ⊢;generalize hebE:w.heap.size+1=eb at hE hes ⊢;clear hebE)
  have hb3:=HB0.out.only hO3 HRN.out
  have hbf:=hb3.frozen
  have e0:=hE.cell (i:=0) rfl
  have e1:=hE.cell (i:=1) rfl
  have e2:=hE.cell (i:=2) rfl
  have e3:=hE.cell (i:=3) rfl
  have e4:=hE.cell (i:=4) rfl
  have E3:=hid hE
  have O3:=hid hO3
  have P3:=hid hP3
  have R3:=hid hR3
  have Q3:=hid hQ3
  have HB3:=hid hb3
  have HES:=hid hes
  clear hE hO3 hP3 hR3 hQ3 hb3 hes c4 q4 q6 hn1 hn2 hn3
  try clear qf q0 q1 q2 q3 q4'
  clear ho2
  go_wp2_with (go_at_call 182;refine (HCH.out _ _ _ _ _ _ _ _ _ rfl rfl).mono ?_;rintro e w4 ⟨rfl,ho4⟩;have hb4:=HB3.out.only ho4 (by simp);have hlt4:=hb4.lt;have f0:=hb4.frozen;have d0:=hb4.cell (i:=0) rfl;have d1:=hb4.cell (i:=1) rfl;have d2:=hb4.cell (i:=2) rfl;have d3:=hb4.cell (i:=3) rfl;have d4:=hb4.cell (i:=4) rfl;have d5:=hb4.cell (i:=5) rfl;have d6:=hb4.cell (i:=6) rfl;have d7:=hb4.cell (i:=7) rfl;have HO4:=hid ho4;clear ho4 hb4)
  have hfin:∀W,Only [w.heap.size] w4 W→Zi L (changed root m') 0 S' w (.returned (.tuple #[.agg #[.int .i64 m'.root,.slice gA m'.gone.length gc,.slice mA m'.made.length mc,.int .i64 m'.old,.bool m'.had,.int .i64 0,.bool (decide (m'.root≠root)),.int .i64 0],.int .i64 0])) W:=fun W g=>by
   have g1:Only [w.heap.size] W3 W:=(HO4.out.mono (by simp)).trans g
   refine⟨_,_,rfl,P3.out.only g1 (fun k hk e=>by have:=HLT.out k hk;simp at e;omega),?_,?_,?_⟩
   ·exact Qn (Qe Q3.out g1 (fun k hk e=>by have:=(Q3.out.lt k hk).1;simp at e this;omega)) (by simp)
   ·exact Qn (Qe R3.out g1 (fun k hk e=>by have:=(R3.out.lt k hk).1;simp at e this;omega)) (by simp)
   ·exact ((HO0.out.mono (Y:=w.heap.size :: L.blocks) (by simp)).trans ((O3.out.mono (by intro k hk;simp[hk])).trans (g1.mono (by intro k hk;simp at hk;simp[hk])))).fresh (fun k hk hl=>by
     rcases List.mem_cons.1 hk with rfl|hk
     ·omega
     ·exact hk)
  refine bodyPost_ret (v:=.tuple #[.agg #[.int .i64 m'.root,.slice gA m'.gone.length gc,.slice mA m'.made.length mc,.int .i64 m'.old,.bool m'.had,.int .i64 0,.bool (decide (m'.root≠root)),.int .i64 0],.int .i64 0]) (by simp[results,Tryz.results211,go_sem,d0,d1,d2,d3,d4,d5,d6,d7,hlt4]) rfl (hfin _ ?_)
  exact (((((((((Only.refl [w.heap.size] w4).setCell (.inl (by simp)) _).setCell (.inl (by simp)) _).setCell (.inl (by simp)) _).setCell (.inl (by simp)) _).setCell (.inl (by simp)) _).setCell (.inl (by simp)) _).setCell (.inl (by simp)) _).setCell (.inl (by simp)) _)
theorem dropClNone_any (w:World)(L:PoolL)(S:PoolS)(pt pg:Nat)(x0 x1 x2 x5 x6:Value)(hp:PoolAt w L S)(ht:Blk w pg [ptr L.pb] 187)(hpt:Blk w pt [x0,x1,x2,ptr L.pb,ptr pg,x5,x6] 152)(b4 b6:Nat)
  (root k:Int) (h4:w.cell? ⟨b4,0,none⟩=some (ptr pt)) (h6:w.cell? ⟨b6,0,none⟩=some (.int .i64 k)) (hk:Qt k=true) (hw:WayIn S root k) (hS:S.triedrop root k=some none):
  Calls prog 211 #[.pointer none,.int .i64 root,ptr b4,ptr b6] w (Zi L ⟨root,[],[],ToldS.zero⟩ 0 S w):=by
 have HO0:=hid (show Only [] w (w.alloc (.cells #[.int .i64 0,.slice none 0 0,.slice none 0 0,.int .i64 0,.bool false,.int .i64 0,.bool false,.int .i64 0] 209)) from (Only.refl _ _).alloc _)
 have HPO:=hid (show ∀W,Only [] w W→Calls prog 212 #[ptr pg,.pointer none,.int .i64 root,.int .i64 k] W (DropNone W) from fun W ho=>triedropNone_any W pg L S (hp.only ho (by simp)) (ht.only ho (by simp)) root k hk hw hS)
 have c4:=(hpt.only HO0.out (by simp)).cell (i:=4) rfl
 have q4:=Qa HO0.out h4 (by simp)
 have q6:=Qa HO0.out h6 (by simp)
 have HB0:=hid (Blk.new w [.int .i64 0,.slice none 0 0,.slice none 0 0,.int .i64 0,.bool false,.int .i64 0,.bool false,.int .i64 0] 209)
 have heb0:Blk ((w.alloc (.cells #[.int .i64 0,.slice none 0 0,.slice none 0 0,.int .i64 0,.bool false,.int .i64 0,.bool false,.int .i64 0] 209)).alloc (.cells #[.int .i64 0,.int .i64 0,.bool false,.slice none 0 0,.slice none 0 0] 264)) (w.heap.size+1) [.int .i64 0,.int .i64 0,.bool false,.slice none 0 0,.slice none 0 0] 264:=by
  have:=Blk.new (w.alloc (.cells #[.int .i64 0,.slice none 0 0,.slice none 0 0,.int .i64 0,.bool false,.int .i64 0,.bool false,.int .i64 0] 209)) [.int .i64 0,.int .i64 0,.bool false,.slice none 0 0,.slice none 0 0] 264
  rw[World.size_alloc] at this
  exact this
 have HEB:=hid heb0
 have HP:=hid hp
 have hlp:=hpt.lt
 have hl4:=cell_lt h4
 have hl6:=cell_lt h6
 dsimp only at hl4 hl6
 have hn1:pt≠w.heap.size+1:=by omega
 have hn2:b4≠w.heap.size+1:=by omega
 have hn3:b6≠w.heap.size+1:=by omega
 unfold DropNone ptr at HPO
 unfold ptr at *
 clear hp ht hpt hk hw hS h4 h6 hlp hl4 hl6 heb0
 go_enter func211,ntmps211
 go_wp2_with fail
 go_region_held3 (fun W=>W.cell? ⟨pt,4,none⟩=some (.pointer (some ⟨pg,0,none⟩))∧W.cell? ⟨b4,0,none⟩=some (.pointer (some ⟨pt,0,none⟩))∧W.cell? ⟨b6,0,none⟩=some (.int .i64 k))
  (first|with_reducible exact⟨Qa ho2 c4 (by simp),Qa ho2 q4 (by simp),Qa ho2 q6 (by simp)⟩|with_reducible exact⟨Qa (ho2.alloc _) c4 (by simp),Qa (ho2.alloc _) q4 (by simp),Qa (ho2.alloc _) q6 (by simp)⟩|with_reducible exact⟨keep5' (Qa ho2 c4 (by simp)) hn1,keep5' (Qa ho2 q4 (by simp)) hn2,keep5' (Qa ho2 q6 (by simp)) hn3⟩|(go_keep;done))
  (first|(go_simp;go_at_call 212;refine (HPO.out _ HO0.out.drew').mono ?_;rintro e w2 ⟨rfl,ho2'⟩;have ho2:Only [] (w.alloc (.cells #[.int .i64 0,.slice none 0 0,.slice none 0 0,.int .i64 0,.bool false,.int .i64 0,.bool false,.int .i64 0] 209)) w2:=⟨ho2'.os,ho2'.tape,ho2'.output,ho2'.size,ho2'.block⟩;have HO2:=hid ho2;clear ho2')|(go_simp;go_at_call 212;refine (HPO.out _ (HO0.out.alloc _).drew').mono ?_;rintro e w2 ⟨rfl,ho2'⟩;have ho2:Only [] (w.alloc (.cells #[.int .i64 0,.slice none 0 0,.slice none 0 0,.int .i64 0,.bool false,.int .i64 0,.bool false,.int .i64 0] 209)) w2:=((Only.refl _ _).alloc _).trans ⟨ho2'.os,ho2'.tape,ho2'.output,ho2'.size,ho2'.block⟩;have heb:Blk w2 (w.heap.size+1) [.int .i64 0,.int .i64 0,.bool false,.slice none 0 0,.slice none 0 0] 264:=HEB.out.only (X:=[]) ⟨ho2'.os,ho2'.tape,ho2'.output,ho2'.size,ho2'.block⟩ (by simp);have q0:=heb.cell (i:=0) rfl;have q1:=heb.cell (i:=1) rfl;have q2:=heb.cell (i:=2) rfl;have q3:=heb.cell (i:=3) rfl;have q4':=heb.cell (i:=4) rfl;have qf:=heb.frozen;have HEB2:=hid heb;clear heb ho2';have HO2:=hid ho2))
 have ar1_1:=0;rotate_left
 rotate_left
 all_goals
  first|(have _:=ar1_1;obtain⟨W3,hW3⟩:∃W3,w2.alloc (.cells #[.int .i64 0,.int .i64 0,.bool false,.slice none 0 0,.slice none 0 0] 264)=W3:=⟨_,rfl⟩)|(obtain⟨W3,hW3⟩:∃W3,(((((w2.setCell ⟨w.heap.size+1,0,none⟩ (.int .i64 0)).setCell ⟨w.heap.size+1,1,none⟩ (.int .i64 0)).setCell ⟨w.heap.size+1,2,none⟩ (.bool false)).setCell ⟨w.heap.size+1,3,none⟩ (.slice none 0 0)).setCell ⟨w.heap.size+1,4,none⟩ (.slice none 0 0))=W3:=⟨_,rfl⟩)
  rw[hW3]
  first|(have _:=ar1_1;have hO3:Only [w.heap.size+1] (w.alloc (.cells #[.int .i64 0,.slice none 0 0,.slice none 0 0,.int .i64 0,.bool false,.int .i64 0,.bool false,.int .i64 0] 209)) W3:=hW3 ▸ ((HO2.out.mono (by simp)).alloc _))|(have hO3:Only [w.heap.size+1] (w.alloc (.cells #[.int .i64 0,.slice none 0 0,.slice none 0 0,.int .i64 0,.bool false,.int .i64 0,.bool false,.int .i64 0] 209)) W3:=hW3 ▸ ((((((HO2.out.mono (by simp)).setCell (.inl (by simp)) _).setCell (.inl (by simp)) _).setCell (.inl (by simp)) _).setCell (.inl (by simp)) _).setCell (.inl (by simp)) _))
  have hb3:=HB0.out.only hO3 (by simp)
  have hlt3:=hb3.lt
  have f0:=hb3.frozen
  have d0:=hb3.cell (i:=0) rfl
  have d1:=hb3.cell (i:=1) rfl
  have d2:=hb3.cell (i:=2) rfl
  have d3:=hb3.cell (i:=3) rfl
  have d4:=hb3.cell (i:=4) rfl
  have d5:=hb3.cell (i:=5) rfl
  have d6:=hb3.cell (i:=6) rfl
  have d7:=hb3.cell (i:=7) rfl
  have O3:=hid hO3
  clear hb3 hO3 hW3 c4 q4 q6 hn1 hn2 hn3
  try clear qf q0 q1 q2 q3 q4'
  clear ho2
  go_wp2_with fail
  refine bodyPost_ret (v:=.tuple #[.agg #[.int .i64 root,.slice none 0 0,.slice none 0 0,.int .i64 0,.bool false,.int .i64 0,.bool false,.int .i64 0],.int .i64 0]) (by simp[results,Tryz.results211,go_sem,d0,d1,d2,d3,d4,d5,d6,d7,hlt3]) rfl (change_nil ⟨root,[],[],ToldS.zero⟩ 0 HP.out rfl rfl ?_ rfl)
  have g:Only [w.heap.size,w.heap.size+1] w W3:=(HO0.out.mono (by simp)).trans (O3.out.mono (by simp))
  exact ((((((((g.setCell (.inl (by simp)) _).setCell (.inl (by simp)) _).setCell (.inl (by simp)) _).setCell (.inl (by simp)) _).setCell (.inl (by simp)) _).setCell (.inl (by simp)) _).setCell (.inl (by simp)) _).setCell (.inl (by simp)) _).fresh (fun k hk hl=>by simp at hk;omega)
theorem swapClStay_any (w:World)(L:PoolL)(S:PoolS)(pt pg:Nat)(x0 x1 x2 x5 x6:Value)(hp:PoolAt w L S)(ht:Blk w pg [ptr L.pb] 187)(hpt:Blk w pt [x0,x1,x2,ptr L.pb,ptr pg,x5,x6] 152)(b4 b6 b7 b8:Nat)
  (root k old v x:Int) (had:Bool) (h4:w.cell? ⟨b4,0,none⟩=some (ptr pt)) (h6:w.cell? ⟨b6,0,none⟩=some (.int .i64 k)) (h7:w.cell? ⟨b7,0,none⟩=some (.int .i64 old)) (h8:w.cell? ⟨b8,0,none⟩=some (.int .i64 v)) (hk:Qt k=true) (hS:S.find root k=some (x,had)) (c:ChangeS) (err:Int)
  (hc:(had=false∧c=⟨0,[],[],ToldS.zero⟩∧err=122)∨(had=true∧x≠old∧c=⟨0,[],[],ToldS.zero⟩∧err=162)∨(had=true∧x=old∧old=v∧c=⟨root,[],[],⟨x,true,0,false,0⟩⟩∧err=0)):
  Calls prog 213 #[.pointer none,.int .i64 root,ptr b4,ptr b6,ptr b7,ptr b8] w (Zi L c err S w):=by
 have HO0:=hid (show Only [] w (w.alloc (.cells #[.int .i64 0,.slice none 0 0,.slice none 0 0,.int .i64 0,.bool false,.int .i64 0,.bool false,.int .i64 0] 209)) from (Only.refl _ _).alloc _)
 have HPO:=hid (fun W (ho:Only [] w W)=>find_any W pg L S (hp.only ho (by simp)) (ht.only ho (by simp)) root k x had hk hS)
 have c4:=(hpt.only HO0.out (by simp)).cell (i:=4) rfl
 have q4:=Qa HO0.out h4 (by simp)
 have q6:=Qa HO0.out h6 (by simp)
 have Q7:=hid (Qa HO0.out h7 (by simp))
 have Q8:=hid (Qa HO0.out h8 (by simp))
 have HB0:=hid (Blk.new w [.int .i64 0,.slice none 0 0,.slice none 0 0,.int .i64 0,.bool false,.int .i64 0,.bool false,.int .i64 0] 209)
 have HP:=hid hp
 have HC:=hid hc
 unfold ptr at HPO
 unfold ptr at *
 clear hp ht hpt hk hS h4 h6 h7 h8 hc
 go_enter func213,ntmps213
 go_wp2_with fail
 go_region_held3 (fun W=>W.cell? ⟨pt,4,none⟩=some (.pointer (some ⟨pg,0,none⟩))∧W.cell? ⟨b4,0,none⟩=some (.pointer (some ⟨pt,0,none⟩))∧W.cell? ⟨b6,0,none⟩=some (.int .i64 k))
  (first|with_reducible exact⟨Qa ho2 c4 (by simp),Qa ho2 q4 (by simp),Qa ho2 q6 (by simp)⟩|(go_keep;done))
  (first|(go_simp;go_at_call 145;refine (HPO.out _ HO0.out.drew').mono ?_;rintro e w2 ⟨rfl,ho2'⟩;have ho2:Only [] (w.alloc (.cells #[.int .i64 0,.slice none 0 0,.slice none 0 0,.int .i64 0,.bool false,.int .i64 0,.bool false,.int .i64 0] 209)) w2:=⟨ho2'.os,ho2'.tape,ho2'.output,ho2'.size,ho2'.block⟩;have HO2:=hid ho2;clear ho2'))
 have q7:=Qa HO2.out Q7.out (by simp)
 have q8:=Qa HO2.out Q8.out (by simp)
 have hb3:=HB0.out.only HO2.out (by simp)
 have hlt3:=hb3.lt
 have f0:=hb3.frozen
 have d0:=hb3.cell (i:=0) rfl
 have d1:=hb3.cell (i:=1) rfl
 have d2:=hb3.cell (i:=2) rfl
 have d3:=hb3.cell (i:=3) rfl
 have d4:=hb3.cell (i:=4) rfl
 have d5:=hb3.cell (i:=5) rfl
 have d6:=hb3.cell (i:=6) rfl
 have d7:=hb3.cell (i:=7) rfl
 have O3:=hid HO2.out
 have hgo:∀W,Only [w.heap.size] w2 W→Only [w.heap.size] w W:=fun W g=>((HO0.out.mono (by simp)).trans (O3.out.mono (by simp))).trans g
 have HGO:=hid hgo
 clear hb3 c4 q4 q6 ho2 hgo
 rcases HC.out with ⟨h1,h2,h3⟩|⟨h1,h4,h2,h3⟩|⟨h1,h4,h5,h2,h3⟩
 ·subst h1 h2 h3
  go_wp2_with fail
  refine bodyPost_ret (v:=.tuple #[.agg #[.int .i64 0,.slice none 0 0,.slice none 0 0,.int .i64 0,.bool false,.int .i64 0,.bool false,.int .i64 0],.int .i64 122]) (by simp[results,Tryz.results213,go_sem,d0,d1,d2,d3,d4,d5,d6,d7,hlt3]) rfl (change_nil ⟨0,[],[],ToldS.zero⟩ 122 HP.out rfl rfl (HGO.out _ ?_) rfl)
  exact (((((((((Only.refl [w.heap.size] w2).setCell (.inl (by simp)) _).setCell (.inl (by simp)) _).setCell (.inl (by simp)) _).setCell (.inl (by simp)) _).setCell (.inl (by simp)) _).setCell (.inl (by simp)) _).setCell (.inl (by simp)) _).setCell (.inl (by simp)) _)
 ·subst h1 h2 h3
  have hq:(x != old)=true:=by simpa using h4
  go_wp2_with fail
  refine bodyPost_ret (v:=.tuple #[.agg #[.int .i64 0,.slice none 0 0,.slice none 0 0,.int .i64 0,.bool false,.int .i64 0,.bool false,.int .i64 0],.int .i64 162]) (by simp[results,Tryz.results213,go_sem,d0,d1,d2,d3,d4,d5,d6,d7,hlt3]) rfl (change_nil ⟨0,[],[],ToldS.zero⟩ 162 HP.out rfl rfl (HGO.out _ ?_) rfl)
  exact (((((((((Only.refl [w.heap.size] w2).setCell (.inl (by simp)) _).setCell (.inl (by simp)) _).setCell (.inl (by simp)) _).setCell (.inl (by simp)) _).setCell (.inl (by simp)) _).setCell (.inl (by simp)) _).setCell (.inl (by simp)) _).setCell (.inl (by simp)) _)
 ·subst h1 h4 h5 h2 h3
  have hq:(x != x)=false:=by simp
  have hq2:(x == x)=true:=by simp
  go_wp2_with fail
  refine bodyPost_ret (v:=.tuple #[.agg #[.int .i64 root,.slice none 0 0,.slice none 0 0,.int .i64 x,.bool true,.int .i64 0,.bool false,.int .i64 0],.int .i64 0]) (by simp[results,Tryz.results213,go_sem,d0,d1,d2,d3,d4,d5,d6,d7,hlt3]) rfl (change_nil ⟨root,[],[],⟨x,true,0,false,0⟩⟩ 0 HP.out rfl rfl (HGO.out _ ?_) rfl)
  exact (((((((((Only.refl [w.heap.size] w2).setCell (.inl (by simp)) _).setCell (.inl (by simp)) _).setCell (.inl (by simp)) _).setCell (.inl (by simp)) _).setCell (.inl (by simp)) _).setCell (.inl (by simp)) _).setCell (.inl (by simp)) _).setCell (.inl (by simp)) _)
theorem swapClPut_any (w:World)(L:PoolL)(S:PoolS)(pt pg:Nat)(x0 x1 x2 x5 x6:Value)(hp:PoolAt w L S)(ht:Blk w pg [ptr L.pb] 187)(hpt:Blk w pt [x0,x1,x2,ptr L.pb,ptr pg,x5,x6] 152)(hx2:pg∉L.blocks)(b4 b6 b7 b8:Nat)
  (root k old v:Int) (hne:old≠v) (h4:w.cell? ⟨b4,0,none⟩=some (ptr pt)) (h6:w.cell? ⟨b6,0,none⟩=some (.int .i64 k)) (h7:w.cell? ⟨b7,0,none⟩=some (.int .i64 old)) (h8:w.cell? ⟨b8,0,none⟩=some (.int .i64 v)) (hk:Qt k=true) (hv:Ql v) (hw:WayIn S root k) (hf:S.find root k=some (old,true))
  (m':EditS) (S':PoolS) (hS:S.trieput root k v=some (m',S')):
  Calls prog 213 #[.pointer none,.int .i64 root,ptr b4,ptr b6,ptr b7,ptr b8] w (Zi L (changed root m') 0 S' w):=by
 have HO0:=hid (show Only [] w (w.alloc (.cells #[.int .i64 0,.slice none 0 0,.slice none 0 0,.int .i64 0,.bool false,.int .i64 0,.bool false,.int .i64 0] 209)) from (Only.refl _ _).alloc _)
 have HPO:=hid (fun W (ho:Only [] w W)=>find_any W pg L S (hp.only ho (by simp)) (ht.only ho (by simp)) root k old true hk hf)
 have HPUT:=hid (fun W (ho:Only [] w W)=>putsAny_any W L S pt pg x0 x1 x2 x5 x6 (hp.only ho (by simp)) (ht.only ho (by simp)) (hpt.only ho (by simp)) hx2 root k v hk hv hw m' S' hS)
 have c4:=(hpt.only HO0.out (by simp)).cell (i:=4) rfl
 have q4:=Qa HO0.out h4 (by simp)
 have q6:=Qa HO0.out h6 (by simp)
 have Q7:=hid (Qa HO0.out h7 (by simp))
 have Q8:=hid (Qa HO0.out h8 (by simp))
 have HB0:=hid (Blk.new w [.int .i64 0,.slice none 0 0,.slice none 0 0,.int .i64 0,.bool false,.int .i64 0,.bool false,.int .i64 0] 209)
 have HLT:=hid hp.lt
 have HRN:=hid (show w.heap.size∉L.blocks from fun m=>by have:=hp.lt _ (Qf m);omega)
 have HNE:=hid hne
 unfold Zi ChangeS.val changed ptr at HPUT
 unfold ptr at HPO
 unfold ptr at *
 dsimp only at HPUT
 clear hp ht hpt hx2 hk hv hw hf hS h4 h6 h7 h8 hne
 go_enter func213,ntmps213
 go_wp2_with fail
 go_region_held3 (fun W=>W.cell? ⟨pt,4,none⟩=some (.pointer (some ⟨pg,0,none⟩))∧W.cell? ⟨b4,0,none⟩=some (.pointer (some ⟨pt,0,none⟩))∧W.cell? ⟨b6,0,none⟩=some (.int .i64 k))
  (first|with_reducible exact⟨Qa ho2 c4 (by simp),Qa ho2 q4 (by simp),Qa ho2 q6 (by simp)⟩|(go_keep;done))
  (first|(go_simp;go_at_call 145;refine (HPO.out _ HO0.out.drew').mono ?_;rintro e w2 ⟨rfl,ho2'⟩;have ho2:Only [] (w.alloc (.cells #[.int .i64 0,.slice none 0 0,.slice none 0 0,.int .i64 0,.bool false,.int .i64 0,.bool false,.int .i64 0] 209)) w2:=⟨ho2'.os,ho2'.tape,ho2'.output,ho2'.size,ho2'.block⟩;have HO2:=hid ho2;clear ho2'))
 have p4:=Qa HO2.out q4 (by simp)
 have p6:=Qa HO2.out q6 (by simp)
 have p7:=Qa HO2.out Q7.out (by simp)
 have p8:=Qa HO2.out Q8.out (by simp)
 have hput:=HPUT.out w2 (HO0.out.trans HO2.out)
 have hq:(old != old)=false:=by simp
 have hq2:(old == v)=false:=by have:=HNE.out;simpa using this
 have HB3:=hid (HB0.out.only HO2.out (by simp))
 clear c4 q4 q6 ho2
 go_wp2_with (go_at_call 116;refine hput.mono ?_;rintro e w4 ⟨gv,mv,rfl,h1,h2,h3,ho1⟩;obtain⟨gA,gc,rfl,_,_⟩:=Qc h2;obtain⟨mA,mc,rfl,_,_⟩:=Qc h3;have hbr2:=HB3.out.only ho1 HRN.out;have hlt2:=hbr2.lt;have f0:=hbr2.frozen;have e0:=hbr2.cell (i:=0) rfl;have e1:=hbr2.cell (i:=1) rfl;have e2:=hbr2.cell (i:=2) rfl;have e3:=hbr2.cell (i:=3) rfl;have e4:=hbr2.cell (i:=4) rfl;have e5:=hbr2.cell (i:=5) rfl;have e6:=hbr2.cell (i:=6) rfl;have e7:=hbr2.cell (i:=7) rfl;have H1:=hid h1;have H2:=hid h2;have H3:=hid h3;have HO1:=hid ho1;clear h1 h2 h3 ho1 hbr2)
 have hfin:∀W,Only [w.heap.size] w4 W→Zi L (changed root m') 0 S' w (.returned (.tuple #[.agg #[.int .i64 m'.root,.slice gA m'.gone.length gc,.slice mA m'.made.length mc,.int .i64 m'.old,.bool m'.had,.int .i64 0,.bool (decide (m'.root≠root)),.int .i64 0],.int .i64 0])) W:=fun W g1=>by
  have hsz:w.heap.size<w2.heap.size:=HB3.out.lt
  refine⟨_,_,rfl,H1.out.only g1 (fun k hk e=>by have:=HLT.out k hk;simp at e;omega),?_,?_,?_⟩
  ·exact Qn (Qe H2.out g1 (fun k hk e=>by have:=(H2.out.lt k hk).1;simp at e this;omega)) (by omega)
  ·exact Qn (Qe H3.out g1 (fun k hk e=>by have:=(H3.out.lt k hk).1;simp at e this;omega)) (by omega)
  ·exact (((HO0.out.trans HO2.out).mono (Y:=w.heap.size :: L.blocks) (by simp)).trans ((HO1.out.mono (by intro k hk;simp[hk])).trans (g1.mono (by intro k hk;simp at hk;simp[hk])))).fresh (fun k hk hl=>by
    rcases List.mem_cons.1 hk with rfl|hk
    ·omega
    ·exact hk)
 refine bodyPost_ret (v:=.tuple #[.agg #[.int .i64 m'.root,.slice gA m'.gone.length gc,.slice mA m'.made.length mc,.int .i64 m'.old,.bool m'.had,.int .i64 0,.bool (decide (m'.root≠root)),.int .i64 0],.int .i64 0]) (by simp[results,Tryz.results213,go_sem,e0,e1,e2,e3,e4,e5,e6,e7,hlt2]) rfl (hfin _ ?_)
 exact (((((((((Only.refl [w.heap.size] w4).setCell (.inl (by simp)) _).setCell (.inl (by simp)) _).setCell (.inl (by simp)) _).setCell (.inl (by simp)) _).setCell (.inl (by simp)) _).setCell (.inl (by simp)) _).setCell (.inl (by simp)) _).setCell (.inl (by simp)) _)
def hasB (key:Int)(n i:Nat):Bool:=Qt key && decide (Qu key n=(i:Int))
theorem has_no (w:World)(Y:StoreL)(hy:Y.Ok)(hf:Fixed w Y)(i:Nat)(hi:i<Y.n)(key:Int)(hk:Qt key=true)(hp:Qu key Y.n≠(i:Int)):
  Calls prog 140 #[ptr (Y.pt i),.int .i64 key] w fun e w'=>e=.returned (.bool false)∧w'=w:=by
 have hpy:=part_yes key Y.n w hk (by have:=hy.n;omega) (by have:=hy.n;omega)
 have c1:=(hf.pt i hi).cell (i:=1) rfl
 have c2:=(hf.pt i hi).cell (i:=2) rfl
 have hq:(Qu key (Y.n:Int) == (i:Int))=false:=by simpa using hp
 unfold ptr
 generalize Qu key (Y.n:Int)=pp at *
 generalize (Y.n:Int)=nn at *
 generalize (i:Int)=ii at *
 clear hf hk hp hy hi
 go_enter func140,ntmps140
 go_wp2_with (go_at_call 47;refine hpy.mono ?_;rintro e w' ⟨rfl,rfl⟩)
 go_ret
 exact⟨by simp,rfl⟩
theorem has_bad (w:World)(Y:StoreL)(hf:Fixed w Y)(i:Nat)(hi:i<Y.n)(key:Int)(hk:Qt key=false):
  Calls prog 140 #[ptr (Y.pt i),.int .i64 key] w fun e w'=>e=.returned (.bool false)∧w'=w:=by
 have hpy:=part_no key Y.n w hk
 have c1:=(hf.pt i hi).cell (i:=1) rfl
 have c2:=(hf.pt i hi).cell (i:=2) rfl
 unfold ptr
 generalize (Y.n:Int)=nn at *
 generalize (i:Int)=ii at *
 clear hf hk hi
 go_enter func140,ntmps140
 go_wp2_with (go_at_call 47;refine hpy.mono ?_;rintro e w' ⟨rfl,rfl⟩)
 go_ret
 exact⟨by simp,rfl⟩
theorem has_any (w:World)(Y:StoreL)(hy:Y.Ok)(hf:Fixed w Y)(i:Nat)(hi:i<Y.n)(key:Int):
  Calls prog 140 #[ptr (Y.pt i),.int .i64 key] w fun e w'=>e=.returned (.bool (hasB key Y.n i))∧w'=w:=by
 unfold hasB
 cases hk:Qt key
 ·exact has_bad w Y hf i hi key hk
 ·by_cases hp:Qu key Y.n=(i:Int)
  ·rw[decide_eq_true hp]
   exact has_yes w Y hy hf i hi key hk hp
  ·rw[decide_eq_false hp]
   exact has_no w Y hy hf i hi key hk hp
theorem hasNot_any (w:World)(Y:StoreL)(hy:Y.Ok)(hf:Fixed w Y)(i:Nat)(hi:i<Y.n)(key:Int)(b:Nat)(hb:w.cell? ⟨b,0,none⟩=some (ptr (Y.pt i))):
  Calls prog 177 #[.int .i64 key,ptr b] w fun e w'=>e=.returned (.bool (!hasB key Y.n i))∧w'=w:=by
 have hh:=has_any w Y hy hf i hi key
 unfold ptr at *
 clear hf hy hi
 generalize hasB key Y.n i=q at *
 go_enter func177,ntmps177
 go_wp2_with (go_at_call 140;refine hh.mono ?_;rintro e w' ⟨rfl,rfl⟩)
 go_ret
 exact⟨by simp,rfl⟩
def IxKRel (xs:List Int)(p:Int→Bool)(w:World)(k:Nat)(s:Value)(wr:World):Prop:=
 ∃j:Nat,j≤xs.length∧s=.int .i64 (j:Int)∧k=xs.length-j∧(∀x∈xs.take j,p x=false)∧wr=w
theorem indexKeys_any (w:World)(A:Option Addr)(cap b:Nat)(p:Int→Bool)(xs:List Int)(hsm:xs.length≤1000000)(hrow:Row w A (Zc xs))(hcl:∀x,Calls prog 177 #[.int .i64 x,ptr b] w fun e w'=>e=.returned (.bool (p x))∧w'=w):
  Calls prog 125 #[.slice A xs.length cap,.func (.func 177) #[] #[ptr b]] w fun e w'=>e=.returned (.int .i64 (idxI (xs.findIdx? p)))∧w'=w:=by
 have HR:=hid hrow;have HCL:=hid hcl
 unfold ptr at *
 clear hrow hcl
 go_enter func125,ntmps125
 go_wp2_with fail
 go_loopg [8] xs.length (fun k i wr=>IxKRel xs p w k i wr)
 case atStart=>exact⟨0,Nat.zero_le _,rfl,rfl,by simp,rfl⟩
 case round=>
  obtain⟨j,hj,rfl,rfl,hno,rfl⟩:=hrel
  have HNO:=hid hno
  clear hno
  by_cases hlt:j<xs.length
  ·have hlt':(j:Int)<xs.length:=by omega
   obtain⟨x,hx⟩:∃x,xs[j]?=some x:=⟨_,List.getElem?_eq_getElem hlt⟩
   obtain⟨b',off,hA,h1⟩:=HR.out j _ (ints_get hx)
   subst hA
   have HX:=hid hx
   clear hx
   cases hb:p x
   all_goals
    have HB:=hid hb
    have hcx:=HCL.out x
    rw[hb] at hcx
    have HCX:=hid hcx
    clear hb hcx
    go_wp2_with (go_at_call 177;refine HCX.out.mono ?_;rintro e w1 ⟨rfl,rfl⟩)
   ·go_roundg (xs.length-(j+1))
    case measure=>omega
    case rel=>exact⟨j+1,by omega,by go_num,rfl,by
     rw[Zd HX.out]
     intro y hy
     rcases List.mem_append.1 hy with hy|hy
     ·exact HNO.out y hy
     ·obtain rfl:=List.mem_singleton.1 hy
      exact HB.out,rfl⟩
   ·go_ret
    exact⟨ret_int (by rw[findIdx_some HNO.out HX.out HB.out];rfl),rfl⟩
  ·have hjl:j=xs.length:=by omega
   have HJ:=hid hjl
   clear hjl
   go_wp2_with fail
   go_ret
   have:=HNO.out
   rw[HJ.out,List.take_length] at this
   exact⟨ret_int (by rw[findIdx_none this];rfl),rfl⟩
theorem idxI_ge (xs:List Int)(p:Int→Bool):decide (0≤idxI (xs.findIdx? p))=xs.any p:=by
 cases h:xs.findIdx? p with
 |none=>
  rw[List.findIdx?_eq_none_iff] at h
  simp[idxI]
  simpa using h
 |some i=>
  have h2:=List.findIdx?_isSome (xs:=xs) (p:=p)
  rw[h] at h2
  rw[←h2]
  simp[idxI]
theorem containsKeys_any (w:World)(Y:StoreL)(hy:Y.Ok)(hf:Fixed w Y)(i:Nat)(hi:i<Y.n)(A:Option Addr)(cap b:Nat)(xs:List Int)(hsm:xs.length≤1000000)(hrow:Row w A (Zc xs))(hb:w.cell? ⟨b,0,none⟩=some (ptr (Y.pt i))):
  Calls prog 68 #[.slice A xs.length cap,.func (.func 177) #[] #[ptr b]] w fun e w'=>e=.returned (.bool (xs.any fun k=>!hasB k Y.n i))∧w'=w:=by
 have hi':=indexKeys_any w A cap b (fun k=>!hasB k Y.n i) xs hsm hrow (fun x=>hasNot_any w Y hy hf i hi x b hb)
 have hge:=idxI_ge xs (fun k=>!hasB k Y.n i)
 have HGE:=hid hge
 unfold ptr at *
 clear hy hf hi hrow hb hge
 generalize idxI (xs.findIdx? fun k=>!hasB k Y.n i)=q at *
 go_enter func68,ntmps68
 go_wp2_with (go_at_call 125;refine hi'.mono ?_;rintro e w' ⟨rfl,rfl⟩)
 go_ret
 refine⟨ret_bool ?_,rfl⟩
 rw[←HGE.out]
end Go.Proofs.YteeefedoffplmaaGreat
namespace Go.Proofs.YteeefedoffplmaaGreat
open Lib Go.Proofs.Tryz
open Go.RowKit
end Go.Proofs.YteeefedoffplmaaGreat
/- A part's newest version; puts of a key whose value differs, where the tree is a leaf of that key. Conditions: the store lies in memory; the plain functions answer. -/
namespace Go.Proofs.YteeefedoffplmaaGreat
open Lib Go.Proofs.Tryz
open Go.RowKit
theorem settle_len {now h v:Int}{S S':PoolS}(hs:settle now S h=some (v,S')):S'.slots.length=S.slots.length:=by
 simp only[settle,bind,Option.bind_eq_some_iff] at hs
 obtain⟨s,_,hs⟩:=hs
 split at hs
 ·simp only[Option.some.injEq,Prod.mk.injEq] at hs
  rw[hs.2]
 ·simp only[Option.bind_eq_some_iff,Option.some.injEq,Prod.mk.injEq] at hs
  obtain⟨S2,h2,_,rfl⟩:=hs
  exact setMark_len h2
theorem top_len {C:ChainS}{now h v:Int}{S S':PoolS}(hs:C.top now S=some (h,v,S')):S'.slots.length=S.slots.length:=by
 unfold ChainS.top at hs
 split at hs
 ·cases hs
 ·simp only[bind,Option.bind_eq_some_iff,Option.some.injEq,Prod.mk.injEq] at hs
  obtain⟨⟨v',S2⟩,h2,_,_,rfl⟩:=hs
  exact settle_len h2
theorem newest_any (w:World)(Y:StoreL)(ed:Option Nat)(D:Nat→List Nat)(X:StoreS)(h:StoreIn w Y ed D X)(i:Nat)(C:ChainS)(hC:X.chains[i]?=some C)(hd v:Int)(S':PoolS)(ht:C.top X.clock.now X.pool=some (hd,v,S'))(n:NodeS)(hn:S'.read hd=some n):
  Calls prog 144 #[ptr (Y.pt i),.pointer none] w fun e w'=>e=.returned (.tuple #[.int .i64 hd,n.val,.int .i64 0])∧StoreIn w' Y ed D {X with pool:=S'}∧Moves Y (Qw Y ed D) (Qw Y ed D) w w':=by
 have hi:i<Y.n:=by rw[←h.chains];exact (List.getElem?_eq_some_iff.1 hC).1
 have hs0:=h.new (w':=w.alloc (.cells #[.int .i64 0,.int .i64 0,.int .i64 0,.int .i64 0] 218)) ((Only.refl [] w).alloc _)
 have c0:=(hs0.fixed.pt i hi).cell (i:=0) rfl
 have htop:=top_any _ (Y.chain i) Y.pool X.pool Y.clock X.clock Y.base (D i) C hs0.pool hs0.clock (hs0.chain i C hC) hd v S' ht
 have hread:=fun W (hp:PoolAt W Y.pool S')=>read_any W Y.pool S' hp hd n hn
 have hlen:=top_len ht
 have H:=hid h;have H0:=hid hs0;have HR:=hid hread;have HI:=hid hi;have HL:=hid hlen
 have hrn:w.heap.size∉Y.pool.blocks:=fun m=>by have:=(h.ok.pool _ (Qf m)).1;have:=h.room;omega
 have HRN:=hid hrn
 unfold Settled I3 at htop
 unfold NodeS.val at HR ⊢
 unfold ptr at *
 clear h hC ht hn hs0 hread hi hlen hrn
 obtain⟨na,nb,nc,nd⟩:=n
 go_enter func144,ntmps144
 go_wp2_with (first|(go_at_call 186;refine htop.mono ?_;rintro e w1 ⟨rfl,hp1,ho1⟩;have hs1:=H0.out.poolStep ho1 hp1 HL.out;have c3:=(hs1.fixed.pt i HI.out).cell (i:=3) rfl;have hbr:=(Blk.new w [.int .i64 0,.int .i64 0,.int .i64 0,.int .i64 0] 218).only ho1 HRN.out;have HP1:=hid hp1;have HS1:=hid hs1;have HO1:=hid ho1;have HBR:=hid hbr;clear hp1 ho1 hs1 hbr)|(go_at_call 159;refine (HR.out _ HS1.out.pool).mono ?_;rintro e w2 ⟨rfl,hb2⟩;have hbr2:=HBR.out.only (Only.of_below (X:=[]) hb2) (by simp);have hlt2:=hbr2.lt;have f0:=hbr2.frozen;have e0:=hbr2.cell (i:=0) rfl;have e1:=hbr2.cell (i:=1) rfl;have e2:=hbr2.cell (i:=2) rfl;have e3:=hbr2.cell (i:=3) rfl;have HB2:=hid hb2;clear hb2 hbr2))
 go_region
 all_goals (try go_wp2_with fail)
 all_goals
  refine bodyPost_ret (v:=.tuple #[.int .i64 hd,.agg #[.int .i64 na,.int .i64 nb,.int .i64 nc,.int .i64 nd],.int .i64 0]) (by simp[results,Tryz.results144,go_sem,e0,e1,e2,e3,hlt2]) rfl ⟨rfl,?_⟩
  rw[and_comm]
  have hm:∀W,Only [w.heap.size] w2 W→StoreIn W Y ed D {X with pool:=S'}∧Moves Y (Qw Y ed D) (Qw Y ed D) w W:=fun W g=>by
   have ho:Only Y.pool.blocks w W:=((((Only.refl [] w).alloc _).mono (Y:=w.heap.size :: Y.pool.blocks) (by simp)).trans ((HO1.out.mono (by intro k hk;simp[hk])).trans (((Only.of_below (X:=[]) HB2.out).mono (by simp)).trans (g.mono (by intro k hk;simp at hk;simp[hk]))))).fresh (fun k hk hl=>by
    rcases List.mem_cons.1 hk with rfl|hk
    ·omega
    ·exact hk)
   have hp2:PoolAt W Y.pool S':=(HP1.out.below HB2.out).only g (fun k hk e=>by
    have:=(H.out.ok.pool k hk).1
    have:=H.out.room
    simp at e
    omega)
   exact⟨H.out.poolStep ho hp2 HL.out,H.out.poolMoves ho⟩
  rw[and_comm]
  exact hm _ ((((((((Only.refl [w.heap.size] w2).setCell (.inl (by simp)) _).setCell (.inl (by simp)) _).setCell (.inl (by simp)) _).setCell (.inl (by simp)) _).alloc _).drew'))
end Go.Proofs.YteeefedoffplmaaGreat
namespace Go.Proofs.YteeefedoffplmaaGreat
open Go.RowKit Lib Go.Proofs.Tryz
theorem Moves.cell {Y:StoreL}{dy dy':Nat→Prop}{w w':World}(hm:Moves Y dy dy' w w'){b i:Nat}{v:Value}(h:w.cell? ⟨b,i,none⟩=some v)(h1:Y.base≤b)(h2:¬dy b):w'.cell? ⟨b,i,none⟩=some v:=by
 have:=hm.block b (cell_lt h) (fun e=>by omega) h2
 simp only[World.cell?] at h ⊢
 rw[this]
 exact h
theorem StoreIn.far_chX {w:World}{Y:StoreL}{ed:Option Nat}{D:Nat→List Nat}{X:StoreS}(h:StoreIn w Y ed D X){i:Nat}(hi:i<Y.n){b:Nat}(hb:Y.base≤b):b∉chX (Y.chain i) Y.pool:=fun m=>by
 simp only[chX,List.mem_cons] at m
 rcases m with m|m|m
 ·have:=(h.ok.xb i hi).1;omega
 ·have:=(h.ok.sets i hi).1;omega
 ·have:=(h.ok.pool _ (Qf m)).1;omega
theorem StoreIn.far_pool {w:World}{Y:StoreL}{ed:Option Nat}{D:Nat→List Nat}{X:StoreS}(h:StoreIn w Y ed D X){b:Nat}(hb:Y.base≤b):b∉Y.pool.blocks:=fun m=>by
 have:=(h.ok.pool _ (Qf m)).1;omega
theorem push_len {C C':ChainS}{now old h:Int}{S S':PoolS}{x:NodeS}{l:List Int}(hs:C.push now S old x l=some (h,C',S')):S'.slots.length=S.slots.length∧C'.sets.length=C.sets.length:=by
 simp only[ChainS.push,bind,Option.bind_eq_some_iff] at hs
 obtain⟨⟨h1,S1⟩,ht,hs⟩:=hs
 split at hs
 ·simp only[Option.bind_eq_some_iff,Option.some.injEq,Prod.mk.injEq] at hs
  obtain⟨⟨_,S2⟩,hse,rfl,rfl,rfl⟩:=hs
  exact⟨(settle_len hse).trans (take_len ht),by simp⟩
 ·cases hs
theorem Moves.fresh {Y:StoreL}{dy dy':Nat→Prop}{w w' w'':World}{Z:List Nat}(h:Moves Y dy dy' w w')(ho:Only Z w' w'')(hz:∀k∈Z,w.heap.size≤k):Moves Y dy dy' w w'':=
 ⟨ho.os.trans h.os,ho.tape.trans h.tape,ho.output.trans h.output,Nat.le_trans h.size ho.size,fun k h1 h2 h3=>(ho.block k (Nat.lt_of_lt_of_le h1 h.size) (fun m=>by have:=hz k m;omega)).trans (h.block k h1 h2 h3),h.dyn⟩
end Go.Proofs.YteeefedoffplmaaGreat
