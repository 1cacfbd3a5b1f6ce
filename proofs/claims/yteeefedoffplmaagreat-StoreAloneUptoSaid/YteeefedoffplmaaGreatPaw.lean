/- StoreAlone, part Paw: NewG, LawM. -/
import Derived.Test.YteeefedoffplmaaGreatPaa
import Derived.Test.YteeefedoffplmaaGreatPav
import Derived.Test.YteeefedoffplmaaGreatPau
set_option linter.unusedSimpArgs false
set_option linter.unusedVariables false
set_option maxRecDepth 100000
set_option maxHeartbeats 51200000
namespace Go.Proofs.YteeefedoffplmaaGreat
open Go.RowKit Lib Go.Proofs.Tryz
def StoreMade (w:World)(n m sl le:Nat)(src:List (Int × Int))(f:Int)(e:Ending)(w':World):Prop:=
 ∃(Y:StoreL) (bt:Nat),e=.returned (.tuple #[ptr Y.sb,.int .i64 0])∧StoreIn w' Y none (fun _=>[]) (StoreS.new n m sl le src f)∧Y.n=n∧w.heap.size≤Y.base∧Only [] w w'∧(∀k,k<w.heap.size→Y.col k=0)∧w'.heap.size≤Y.base ∧
  Blk w' Y.nm [ptr bt] 177∧Blk w' bt [.slice none 0 0] 170∧Y.col Y.nm=0∧Y.col bt=0∧Y.nm≠bt∧w.heap.size≤Y.sb∧w.heap.size≤Y.nm∧w.heap.size≤bt
theorem storeNewG_any (w:World)(n m sl le:Nat)(sA:Option Addr)(src:List (Int × Int))(sc:Nat)(f:Int)(hf:f≤0)(hok:SetupOk n m sl le src)(hrow:Row w sA (Qd src)):
  Calls prog 10 #[.agg #[.int .i64 (n:Int),.int .i64 (m:Int),.int .i64 (sl:Int),.int .i64 (le:Int),.slice sA src.length sc,.int .i64 f]] w (StoreMade w n m sl le src f):=by
 obtain⟨wa,hwa⟩:∃wa,w.alloc (.cells #[.int .i64 (n:Int),.int .i64 (m:Int),.int .i64 (sl:Int),.int .i64 (le:Int),.slice sA src.length sc,.int .i64 f] 31)=wa:=⟨_,rfl⟩
 have hoa:Only [] w wa:=by rw[←hwa];exact (Only.refl _ _).alloc _
 have hsu:Blk wa w.heap.size [.int .i64 (n:Int),.int .i64 (m:Int),.int .i64 (sl:Int),.int .i64 (le:Int),.slice sA src.length sc,.int .i64 f] 31:=by rw[←hwa];exact Blk.new w _ 31
 have hr:=rightG_any wa n m sl le sA src sc f hok (hrow.below hoa.below)
 have u0:=hsu.cell (i:=0) rfl
 have u1:=hsu.cell (i:=1) rfl
 have u2:=hsu.cell (i:=2) rfl
 have u3:=hsu.cell (i:=3) rfl
 have u4:=hsu.cell (i:=4) rfl
 have u5:=hsu.cell (i:=5) rfl
 have HOK:=hid hok;have HROW:=hid hrow;have HF:=hid hf
 have HR:=hid (show Calls prog 38 #[.agg #[.int .i64 (n:Int),.int .i64 (m:Int),.int .i64 (sl:Int),.int .i64 (le:Int),.slice sA src.length sc,.int .i64 f]] wa _ from hr);have HOA:=hid hoa;have HSU:=hid hsu
 unfold ptr at *
 clear hr hoa hsu hok hrow hf
 go_enter func10,ntmps10
 go_wp2_with (go_at_call 38;refine HR.out.mono ?_;rintro e w1 ⟨rfl,ho1⟩;have HO1:=hid ho1;have hsu1:=(HSU.out.only ho1 (by simp)).alloc (.cells #[.pointer none,.pointer none,.pointer none,.pointer none,.pointer none,.pointer none,.slice none 0 0] 94);have x2:=hsu1.cell (i:=2) rfl;clear ho1 hsu1)
 obtain⟨W1,hW1⟩:∃W1,w1.alloc (.cells #[.pointer none,.pointer none,.pointer none,.pointer none,.pointer none,.pointer none,.slice none 0 0] 94)=W1:=⟨_,rfl⟩
 rw[hW1]
 have ho1:Only [] w W1:=by rw[←hW1];exact (HOA.out.trans HO1.out).alloc _
 have hsb1:Blk W1 w1.heap.size [.pointer none,.pointer none,.pointer none,.pointer none,.pointer none,.pointer none,.slice none 0 0] 94:=by rw[←hW1];exact Blk.new w1 _ 94
 have hsu1:Blk W1 w.heap.size [.int .i64 (n:Int),.int .i64 (m:Int),.int .i64 (sl:Int),.int .i64 (le:Int),.slice sA src.length sc,.int .i64 f] 31:=by rw[←hW1];exact (HSU.out.only HO1.out (by simp)).alloc _
 have hlt1:w.heap.size<w1.heap.size:=Nat.lt_of_lt_of_le HSU.out.lt HO1.out.size
 have hslt:=hsb1.lt
 clear hW1 u0 u1 u2 u3 u4 u5 x2
 generalize w1.heap.size=sb at *
 have hpn:=poolNew_any W1 sl HOK.out.hsl
 have HPN:=hid hpn
 have HO2:=hid ho1;have HSB1:=hid hsb1;have HSU1:=hid hsu1
 unfold ptr at HPN
 clear hpn ho1 hsb1 hsu1
 go_wp2_with (go_at_call 39;refine HPN.out.mono ?_;rintro e w2 ⟨L,rfl,hp2,ho2,hl2⟩;have HP2:=hid hp2;have HO3:=hid ho2;have HL2:=hid hl2;have hsb2:=HSB1.out.only ho2 (by simp);have s0:=hsb2.cell (i:=0) rfl;have sf:=hsb2.frozen;have hsu2:=HSU1.out.only ho2 (by simp);have hne:¬w.heap.size=sb:=(by omega);have x3:=(hsu2.other hne 0 (.pointer (some ⟨L.pb,0,none⟩))).cell (i:=3) rfl;clear hp2 ho2 hl2 hsb2 hsu2)
 obtain⟨W2,hW2⟩:∃W2,w2.setCell ⟨sb,0,none⟩ (.pointer (some ⟨L.pb,0,none⟩))=W2:=⟨_,rfl⟩
 rw[hW2]
 have ho2:Only [sb] w2 W2:=by rw[←hW2];exact (Only.refl _ _).setCell (.inl (by simp)) _
 have hlp:∀k∈L.all,sb<k∧k<W2.heap.size:=fun k hk=>⟨by have:=HL2.out k hk;omega,Nat.lt_of_lt_of_le (HP2.out.lt k hk) ho2.size⟩
 have hp2:PoolAt W2 L (PoolS.new sl):=HP2.out.only ho2 (fun k hk e=>by have:=(hlp k hk).1;simp at e;omega)
 have hsb2:Blk W2 sb [.pointer (some ⟨L.pb,0,none⟩),.pointer none,.pointer none,.pointer none,.pointer none,.pointer none,.slice none 0 0] 94:=by rw[←hW2];exact (HSB1.out.only HO3.out (by simp)).set 0 _
 have hsu2:Blk W2 w.heap.size [.int .i64 (n:Int),.int .i64 (m:Int),.int .i64 (sl:Int),.int .i64 (le:Int),.slice sA src.length sc,.int .i64 f] 31:=by rw[←hW2];exact (HSU1.out.only HO3.out (by simp)).other (by omega) _ _
 have hoo:Only [] w W2:=(((HO2.out.trans HO3.out).mono (Y:=[sb]) (by simp)).trans ho2).fresh (fun k hk hl=>by simp at hk;omega)
 have hcn:=clockNew_any W2 le HOK.out.hle
 have HCN:=hid hcn;have HLP:=hid hlp;have HP3:=hid hp2;have HSB2:=hid hsb2;have HSU2:=hid hsu2;have HO4:=hid hoo
 unfold ptr at HCN
 clear hW2 ho2 hlp hp2 hsb2 hsu2 hoo hcn s0 sf x3
 go_wp2_with (go_at_call 40;refine HCN.out.mono ?_;rintro e w3 ⟨rfl,hp3,ho3⟩;have HC3:=hid hp3;have HO5:=hid ho3;have hsb3:=HSB2.out.only ho3 (by simp);have s0:=hsb3.cell (i:=1) rfl;have sf:=hsb3.frozen;clear hp3 ho3 hsb3)
 obtain⟨K,hK⟩:∃K:ClockL,K=⟨W2.heap.size+1,W2.heap.size⟩:=⟨_,rfl⟩
 obtain⟨W3,hW3⟩:∃W3,w3.setCell ⟨sb,1,none⟩ (.pointer (some ⟨W2.heap.size+1,0,none⟩))=W3:=⟨_,rfl⟩
 rw[hW3]
 have ho3:Only [sb] w3 W3:=by rw[←hW3];exact (Only.refl _ _).setCell (.inl (by simp)) _
 have hsbl:sb<W2.heap.size:=HSB2.out.lt
 have hc3:ClockAt W3 K ⟨1,List.replicate le 0⟩:=by rw[hK];exact HC3.out.only ho3 (by simp;omega) (by simp;omega)
 have hp3:PoolAt W3 L (PoolS.new sl):=(HP3.out.only HO5.out (by simp)).only ho3 (fun k hk e=>by have:=(HLP.out k hk).1;simp at e;omega)
 have hsb3:Blk W3 sb [.pointer (some ⟨L.pb,0,none⟩),.pointer (some ⟨K.cb,0,none⟩),.pointer none,.pointer none,.pointer none,.pointer none,.slice none 0 0] 94:=by rw[←hW3,hK];exact (HSB2.out.only HO5.out (by simp)).set 1 _
 have hsu3:Blk W3 w.heap.size [.int .i64 (n:Int),.int .i64 (m:Int),.int .i64 (sl:Int),.int .i64 (le:Int),.slice sA src.length sc,.int .i64 f] 31:=by rw[←hW3];exact (HSU2.out.only HO5.out (by simp)).other (by omega) _ _
 have hoo:Only [] w W3:=(((HO4.out.trans HO5.out).mono (Y:=[sb]) (by simp)).trans ho3).fresh (fun k hk hl=>by simp at hk;omega)
 have hk1:K.lb<K.cb:=by rw[hK];simp
 have hk2:K.cb<W3.heap.size:=by have:=hc3.c.lt;exact this
 have hk3:∀k∈L.all,sb<k∧k<K.lb:=by rw[hK];exact HLP.out
 have hbn:=boardNew_any W3
 have HBN:=hid hbn;have HK3:=hid hk3;have HC4:=hid hc3;have HP4:=hid hp3;have HSB3:=hid hsb3;have HSU3:=hid hsu3;have HO6:=hid hoo
 unfold ptr at HBN
 clear hW3 hK ho3 hc3 hp3 hsb3 hsu3 hoo hk3 hbn s0 sf
 go_wp2_with (go_at_call 41;refine HBN.out.mono ?_;rintro e w4 ⟨nm,bt,rfl,hb1,hb2,hb3,hb4,hb5,ho4⟩;have HB1:=hid hb1;have HB2:=hid hb2;have HB3:=hid hb3;have HB4:=hid hb4;have HB5:=hid hb5;have HO7:=hid ho4;have hsb4:=HSB3.out.only ho4 (by simp);have s0:=hsb4.cell (i:=4) rfl;have sf:=hsb4.frozen;clear hb1 hb2 hb3 hb4 hb5 ho4 hsb4)
 obtain⟨W4,hW4⟩:∃W4,w4.setCell ⟨sb,4,none⟩ (.pointer (some ⟨nm,0,none⟩))=W4:=⟨_,rfl⟩
 rw[hW4]
 have ho4:Only [sb] w4 W4:=by rw[←hW4];exact (Only.refl _ _).setCell (.inl (by simp)) _
 have hsk:sb<K.lb:=by have:=HK3.out L.pb (by simp[PoolL.all]);omega
 have hnm:K.cb<nm:=by have:=HB2.out;omega
 have hbt:K.cb<bt:=by have:=HB1.out;omega
 have hnb:NbG w W4 [.int .i64 (n:Int),.int .i64 (m:Int),.int .i64 (sl:Int),.int .i64 (le:Int),.slice sA src.length sc,.int .i64 f] w.heap.size sb L K nm bt W4.heap.size sl le:=by
  have hsb':nm≠sb:=by omega
  have ho5:Only [sb] W3 W4:=(HO7.out.mono (by simp)).trans ho4
  have q1:=HB5.out.lt
  have q2:=HB4.out.lt
  have q3:=ho4.size
  refine⟨HSU3.out.only ho5 (by simp;omega),HP4.out.only ho5 (fun k hk e=>by have:=(HK3.out k hk).1;simp at e;omega),HC4.out.only ho5 (by simp;omega) (by simp;omega),HB5.out.only ho4 (by simp;omega),HB4.out.only ho4 (by simp;omega),((HO6.out.mono (Y:=[sb]) (by simp)).trans ho5).fresh (fun k hk hl=>by simp at hk;omega),⟨Nat.le_refl _,hlt1⟩,HK3.out,⟨hsk,hk1,hnm,hbt,HB3.out,by omega,by omega⟩,Nat.le_refl _⟩
 have hsb4:Blk W4 sb [.pointer (some ⟨L.pb,0,none⟩),.pointer (some ⟨K.cb,0,none⟩),.pointer none,.pointer none,.pointer (some ⟨nm,0,none⟩),.pointer none,.slice none 0 0] 94:=by rw[←hW4];exact (HSB3.out.only HO7.out (by simp)).set 4 _
 have hen:=fun W=>epochNew_any W L.pb m HOK.out.hm
 have htr:=fun W=>trieNew_any W L.pb
 have hsn:sb<nm:=by omega
 have d0:=hsb4.cell (i:=0) rfl
 have d2:=hsb4.cell (i:=2) rfl
 have d5:=hsb4.cell (i:=5) rfl
 have df:=hsb4.frozen
 have e1:=hnb.st.cell (i:=1) rfl
 have hnl:nm<W4.heap.size:=hnb.high.2.2.2.2.2.1
 have HEN:=hid hen;have HTR:=hid htr;have HNB:=hid hnb;have HSB4:=hid hsb4
 unfold ptr at HEN HTR
 clear hW4 ho4 hen htr hnb hsb4 s0 sf hk1 hk2
 obtain⟨t0,ht0⟩:∃t0,t0=W4.heap.size:=⟨_,rfl⟩
 rw[←ht0] at HNB
 go_cut [] (fun wx=>NgE w [.int .i64 (n:Int),.int .i64 (m:Int),.int .i64 (sl:Int),.int .i64 (le:Int),.slice sA src.length sc,.int .i64 f] w.heap.size sb L K nm bt t0 n m sl le wx)
 case first=>
  have hne:¬w.heap.size=sb:=by omega
  go_region_held3 (fun W=>W.cell? ⟨sb,0,none⟩=some (.pointer (some ⟨L.pb,0,none⟩))∧W.cell? ⟨w.heap.size,1,none⟩=some (.int .i64 (m:Int)))
   (first|with_reducible exact⟨Qa hx5 d0 (by simp),Qa hx5 e1 (by simp)⟩|with_reducible exact⟨Qa hx6 d0 (by simp),Qa hx6 e1 (by simp)⟩|with_reducible exact keep_sb g0 g1 hne _ (by decide) _|with_reducible exact keep_sb (keep_sb g0 g1 hne _ (by decide) _).1 (keep_sb g0 g1 hne _ (by decide) _).2 hne _ (by decide) _|(go_keep;done))
   (first|(go_simp;go_at_call 42;refine (HEN.out _).mono ?_;rintro e w5 ⟨rfl,he5,ho5⟩;have HE5:=hid he5;have HO51:=hid ho5;have hx5:Only [] W4 w5:=⟨ho5.os,ho5.tape,ho5.output,ho5.size,ho5.block⟩;have HX5:=hid hx5;have g0:=Qa hx5 d0 (by simp);have g1:=Qa hx5 e1 (by simp);have g2:=Qa hx5 d2 (by simp);have g5:=Qa hx5 d5 (by simp);have gf:=(HSB4.out.only hx5 (by simp)).frozen;clear he5 ho5)|(go_simp;go_at_call 42;refine (HEN.out _).mono ?_;rintro e w5 ⟨rfl,he5,ho5⟩;have HE5:=hid he5;have HO51:=hid ho5;have hx5:Only [] W4 w5:=HX6.out.trans ho5;have HX5:=hid hx5;have g0:=Qa hx5 d0 (by simp);have g1:=Qa hx5 e1 (by simp);have g2:=Qa hx5 d2 (by simp);have g5:=Qa hx5 d5 (by simp);have gf:=(HSB4.out.only hx5 (by simp)).frozen;clear he5 ho5)|(go_simp;go_at_call 43;refine (HTR.out _).mono ?_;rintro e w6 ⟨ts,rfl,ht6,hl6,ho6⟩;have HT6:=hid ht6;have HL6:=hid hl6;have HO61:=hid ho6;have hx6:Only [] W4 w6:=⟨ho6.os,ho6.tape,ho6.output,ho6.size,ho6.block⟩;have HX6:=hid hx6;have g0:=Qa hx6 d0 (by simp);have g1:=Qa hx6 e1 (by simp);have g2:=Qa hx6 d2 (by simp);have g5:=Qa hx6 d5 (by simp);have gf:=(HSB4.out.only hx6 (by simp)).frozen;clear ht6 hl6 ho6)|(go_simp;go_at_call 43;refine (HTR.out _).mono ?_;rintro e w6 ⟨ts,rfl,ht6,hl6,ho6⟩;have HT6:=hid ht6;have HL6:=hid hl6;have HO61:=hid ho6;have hx6:Only [] W4 w6:=HX5.out.trans ho6;have HX6:=hid hx6;have g0:=Qa hx6 d0 (by simp);have g1:=Qa hx6 e1 (by simp);have g2:=Qa hx6 d2 (by simp);have g5:=Qa hx6 d5 (by simp);have gf:=(HSB4.out.only hx6 (by simp)).frozen;clear ht6 hl6 ho6))
  go_wp2_with fail
  go_meet
  have hw5:W4.heap.size≤w5.heap.size:=HX5.out.size
  have hl6:=HL6.out
  have hel:W4.heap.size<w5.heap.size:=HE5.out.ex.elim fun lv h=>h.1.lt
  exact finE HNB.out hx6 (HE5.out.only HO61.out (by simp) (by simp)) HT6.out (by omega) (by omega) (by change W4.heap.size≠ts;omega) HSB4.out
 case rest=>
  obtain⟨eb,ts,be,hn,he,ht,h1,h2,h3,hs⟩:=hcut
  have u0:=hn.st.cell (i:=0) rfl
  have hn64:=HOK.out.hn
  have HN:=hid hn;have HE:=hid he;have HT:=hid ht;have HS:=hid hs;have HN64:=hid hn64
  clear hn he ht hs d2 d5 df e1 d0 hn64
  go_wp2_with fail
  obtain⟨Wc,hWc⟩:∃Wc,Wc=wc:=⟨_,rfl⟩
  subst hWc
  have HH:=hid HN.out.high;have HRM:=hid HN.out.room;have HLOW:=hid HN.out.low
  go_loopg [5,62] n (fun k s5 s62 wr=>LcRel Wc L K sl n k s5 s62 wr)
  case atStart=>exact⟨[],Nat.zero_le _,rfl,rfl,LcAt.nil _ _ _ _⟩
  case round=>
   obtain⟨Xs,hj,rfl,rfl,hc⟩:=hrel
   have ho:=hc.only
   have hnr:=HN.out.step ho (by simp)
   have hs:=HS.out.only ho (by simp)
   have u0:=hnr.st.cell (i:=0) rfl
   obtain⟨rA,rc,rfl,_,_⟩:=Qc hc.row
   have HC:=hid hc;have HNR:=hid hnr
   by_cases hlt:Xs.length<n
   ·have hlt':(Xs.length:Int)<n:=by omega
    have d0:=hs.cell (i:=0) rfl
    have d1:=hs.cell (i:=1) rfl
    have hch:=fun W (ho:Only [] wr W)=>chainNew_any W L (PoolS.new sl) K.cb (hnr.pool.only ho (by simp)) (by simp[PoolS.new])
    have hls:(PoolS.new sl).slots.length=sl+1:=by simp[PoolS.new]
    unfold NewChain at hch
    rw[hls] at hch
    have HCH:=hid hch
    have HM1:=hid (show Xs.length+1≤maxLen from by have:=HN64.out;unfold maxLen;omega)
    have HM2:=hid (show (Xs.length+1)*8≤140737488355328 from by have:=HN64.out;omega)
    have hj1:wrap64 ((Xs.length:Int)+1)=(Xs.length:Int)+1:=IntWalk.wrap64_in _ (by have:=HN64.out;omega)
    have HJ1:=hid hj1
    have HGS:=hid (show (Value.slice rA Xs.length rc).ownBlock≠some sb from fun e=>by have h1:=(hc.row.lt sb e).1;have h2:=HRM.out;have h3:=HH.out;omega)
    have d0a:=hid d0;have d1a:=hid d1
    have HHS:=hid ho.size
    unfold ptr at HCH
    clear hch hls hc ho hnr hs hj hj1
    go_wp2_with fail
    go_region_held3 (fun W=>W.cell? ⟨sb,0,none⟩=some (.pointer (some ⟨L.pb,0,none⟩))∧W.cell? ⟨sb,1,none⟩=some (.pointer (some ⟨K.cb,0,none⟩)))
     (first|with_reducible exact⟨Qa hx7 d0 (by simp),Qa hx7 d1 (by simp)⟩|with_reducible exact⟨Qa (hx7.alloc _) d0 (by simp),Qa (hx7.alloc _) d1 (by simp)⟩|with_reducible exact⟨z1,z2⟩|(go_keep;done))
     (first|(go_simp;go_at_call 44;refine (HCH.out _ ((Only.refl [] wr).drew')).mono ?_;rintro e w7 ⟨X1,b1,rfl,hx0,hx1,hx2,ho5⟩;have HX10:=hid hx0;have HX11:=hid hx1;have HX12:=hid hx2;have hx7:Only [] wr w7:=⟨ho5.os,ho5.tape,ho5.output,ho5.size,ho5.block⟩;have HX7:=hid hx7;have HRN1:=hid (Zg w7 [.pointer (some ⟨X1.xb,0,none⟩)] 104);have HBS1:=hid (show Wc.heap.size≤(w7.alloc (.cells #[.pointer (some ⟨X1.xb,0,none⟩)] 104)).heap.size from Nat.le_trans HHS.out (Nat.le_trans hx7.size (Qg _ _)));have HOWN8:=hid ((Qe HC.out.row hx7 (fun k hk=>by simp)).alloc (.cells #[.pointer (some ⟨X1.xb,0,none⟩)] 104));clear hx0 hx1 hx2 ho5)|(refine Zb rfl (.tmp 64) (.tmp 76) rfl elemCh rfl HOWN8.out _ 1 _ [.pointer (some ⟨X1.xb,0,none⟩)] rfl HRN1.out rfl (by simp[Value.oneCell']) HM1.out HM2.out HBS1.out (fun e=>by cases e) ?_;intro v5 w8 hown5 hg5 hat5;obtain⟨g7,c7,rfl⟩:=own_some hown5 (by omega);have z1:=cell_far5 (Qa (HX7.out.alloc (.cells #[.pointer (some ⟨X1.xb,0,none⟩)] 104)) d0a.out (by simp)) hg5 HGS.out;have z2:=cell_far5 (Qa (HX7.out.alloc (.cells #[.pointer (some ⟨X1.xb,0,none⟩)] 104)) d1a.out (by simp)) hg5 HGS.out;have HC9:=hid (HC.out.snoc HX7.out HX10.out HX11.out HX12.out hg5 hat5 hown5);clear hown5 hg5 hat5))
    go_wp2_with fail
    go_roundg (n-(Xs.length+1))
    case measure=>omega
    case rel=>
     refine⟨Xs ++ [X1],by rw[List.length_append,List.length_singleton];exact hlt,?_,by rw[List.length_append,List.length_singleton],HC9.out⟩
     rw[List.length_append]
     first|(rw[HJ1.out];rfl)|go_num
   ·have hjl:Xs.length=n:=by omega
    have HJ:=hid hjl
    clear hc ho hnr hs hj hlt
    obtain⟨wo,hwo⟩:∃wo,wo=wr:=⟨_,rfl⟩
    subst hwo
    obtain⟨g7,rfl⟩:∃g7,rA=some ⟨g7,0,none⟩:=by
     obtain⟨g,c,e⟩:=own_some HC.out.row (by have:=HN64.out;omega)
     injection e with e
     exact⟨g,e⟩
    obtain⟨X0,hX0⟩:∃X0,Xs[0]?=some X0:=⟨_,List.getElem?_eq_getElem (by have:=HN64.out;omega)⟩
    obtain⟨X,hX⟩:∃X:Nat→ChainL,∀i,i<n→Xs[i]?=some (X i):=⟨fun i=>(Xs[i]?).getD X0,fun i hi=>by
     have hi':i<Xs.length:=by omega
     show Xs[i]?=some ((Xs[i]?).getD X0)
     rw[List.getElem?_eq_getElem hi']
     rfl⟩
    have hrow:=HC.out.row
    have ho:=HC.out.only
    have hcell:∀i,i<n→wo.cell? ⟨g7,i,none⟩=some (ptr (X i).xb):=fun i hi=>own_cell (by rw[hjl] at hrow;exact hrow) (by rw[List.getElem?_map,hX i hi];rfl)
    have hg7:=hrow.lt g7 rfl
    have hs8:=HS.out.only ho (by simp)
    have hrs:=HROW.out.below (HNR.out.only).below
    have hln:=fun W (ho:Only [] wo W)=>loadNewG_any W L.pb g7 rc (fun i=>(X i).xb) n HN64.out (fun i hi=>Qa ho (hcell i hi) (by simp)) src HOK.out.few sA sc (hrs.below ho.below) HOK.out.keys f HF.out
    have he8:=HE.out.only ho (by simp) (by simp)
    have ht8:=HT.out.only ho (by simp)
    have v4:=HNR.out.st.cell (i:=4) rfl
    have v5:=HNR.out.st.cell (i:=5) rfl
    have z1:=hs8.cell (i:=0) rfl
    have s3:=hs8.cell (i:=3) rfl
    have hwr:=ho.size
    unfold LoadMade at hln
    have HLN:=hid hln;have HE8:=hid he8;have HT8:=hid ht8;have HS8:=hid hs8;have HCELL:=hid hcell;have HX:=hid hX
    unfold ptr at HLN
    have hne:¬w.heap.size=sb:=by have:=HLOW.out;omega
    have hlt':¬((n:Int)<(n:Int)):=by omega
    have hg7b:¬g7=sb:=by have:=HH.out;have:=HRM.out;omega
    have HG7:=hid hg7
    rw[hjl]
    clear hln hrow ho hcell hs8 hrs he8 ht8 hX hX0 hjl hg7
    go_wp2_with fail
    go_region_held3 (fun W=>W.cell? ⟨sb,0,none⟩=some (.pointer (some ⟨L.pb,0,none⟩))∧W.cell? ⟨w.heap.size,4,none⟩=some (.slice sA src.length sc)∧W.cell? ⟨w.heap.size,5,none⟩=some (.int .i64 f))
     (first|with_reducible exact⟨f0,f4,f5⟩|with_reducible exact⟨(World.cell?_setCell_other w9 ⟨sb,3,none⟩ ⟨sb,0,none⟩ _ (by simp)).trans f0,(World.cell?_setCell_other w9 ⟨sb,3,none⟩ ⟨w.heap.size,4,none⟩ _ (by simp[Ne.symm hne])).trans f4,(World.cell?_setCell_other w9 ⟨sb,3,none⟩ ⟨w.heap.size,5,none⟩ _ (by simp[Ne.symm hne])).trans f5⟩|(go_keep;done))
     ((go_simp;go_at_call 45;refine (HLN.out _ ((Only.refl [] wo).drew')).mono ?_;rintro e w9 ⟨ld,lt,lg,lc,lp,pvv,B,rfl,hb1,hb2,hb3,hb4,hb5,hb6,hb7,ho9'⟩;have ho9:Only [] wo w9:=⟨ho9'.os,ho9'.tape,ho9'.output,ho9'.size,ho9'.block⟩;have f0:=Qa ho9 z1 (by simp);have f4:=Qa ho9 v4 (by simp);have f5:=Qa ho9 v5 (by simp);have f3:=Qa ho9 s3 (by simp);have ff:=(HS8.out.only ho9 (by simp)).frozen;have HB1:=hid hb1;have HB2:=hid hb2;have HB3:=hid hb3;have HB4:=hid hb4;have HB5:=hid (show wo.heap.size≤lt∧lt<ld∧ld<lg from hb5);have HB6:=hid hb6;have HB7:=hid hb7;have HO9:=hid ho9;clear hb1 hb2 hb3 hb4 hb5 hb6 hb7 ho9'))
    obtain⟨W9,hW9⟩:∃W9,w9.setCell ⟨sb,3,none⟩ (.pointer (some ⟨ld,0,none⟩))=W9:=⟨_,rfl⟩
    rw[hW9]
    have hos9:Only [sb] w9 W9:=by rw[←hW9];exact (Only.refl _ _).setCell (.inl (by simp)) _
    have ho89:Only [sb] wo W9:=(HO9.out.mono (by simp)).trans hos9
    obtain⟨hh1,hh2,hh3,hh4,hh5,hh6,hh7⟩:=HH.out
    have hrm:=HRM.out
    have hsz:sb<wo.heap.size:=by omega
    obtain⟨l1,l2,l3⟩:=HB5.out
    have hn9:=HNR.out.step ho89 (by simp)
    have he9:=HE8.out.only ho89 (by simp;omega) (by simp)
    have ht9:=HT8.out.only ho89 (by simp;omega)
    have hs9:Blk W9 sb (storeCells L K (pv eb) (pv ld) (pv nm) (pv ts) (.slice none 0 0)) 94:=by rw[←hW9];exact (HS8.out.only HO9.out (by simp)).set 3 _
    have hld9:=HB1.out.only hos9 (by simp;omega)
    have hlt9:=HB2.out.only hos9 (by simp;omega)
    have hsg9:∀j,j<n→SG sb w.heap.size g7 j L.pb eb ld (X j).xb n W9:=fun j hj=>⟨hs9.cell rfl,hs9.cell rfl,hs9.cell rfl,hn9.st.cell rfl,Qa ho89 (HCELL.out j hj) (by simpa using hg7b)⟩
    have hl9:sb<W9.heap.size:=hs9.lt
    have hrr:=hn9.room
    have hpn:=fun i xb W=>partNew_any W i n L.pb eb xb ld
    have hu9:=hn9.st.cell (i:=0) rfl
    have HG7W:=hid (show g7<W9.heap.size from Nat.lt_of_lt_of_le HG7.out.2 ho89.size)
    have HSL:=hid hl9;have HO89:=hid ho89;have HOS9:=hid hos9;have HN9:=hid hn9;have HE9:=hid he9;have HT9:=hid ht9;have HS9:=hid hs9;have HLD9:=hid hld9;have HLT9:=hid hlt9;have HSG9:=hid hsg9;have HPN:=hid hpn
    unfold ptr at HPN
    clear hW9 hos9 ho89 hn9 he9 ht9 hs9 hld9 hlt9 hsg9 hpn z1 s3 v4 v5 f0 f4 f5 f3 ff ho9 hh1 hh2 hh3 hh4 hh5 hh6 hh7 hsz hl9 hrr l1 l2 l3 u0
    go_wp2_with fail
    go_loopg [96] n (fun k s96 wr=>PtsRel W9 L K (fun i=>(X i).xb) n eb ld nm ts sb k s96 wr)
    case atStart=>exact⟨[],.slice none 0 0,Nat.zero_le _,rfl,rfl,World.ownsRow_nil _ _ 107 1,HS9.out,by simp,Only.refl _ _⟩
    case round=>
     obtain⟨ps,rv,hj,rfl,rfl,hp⟩:=hrel
     obtain⟨rA,pc,rfl,_,_⟩:=Qc hp.row
     obtain⟨wp,hwp⟩:∃wp,wp=wr:=⟨_,rfl⟩
     subst hwp
     have HP:=hid hp
     have hplt:=hp.store.lt
     by_cases hlt:ps.length<n
     ·have hlt2:(ps.length:Int)<n:=by omega
      have hrw:=hp.row.lt
      have hsg:SG sb w.heap.size g7 ps.length L.pb eb ld (X ps.length).xb n wp:=⟨hp.store.cell rfl,hp.store.cell rfl,hp.store.cell rfl,Qa hp.only (HSG9.out _ hlt).2.2.2.1 (by simpa using hne),Qa hp.only (HSG9.out _ hlt).2.2.2.2 (by simpa using hg7b)⟩
      have hw9:=hp.only.size
      have HGN:=hid (show (Value.slice rA ps.length pc).ownBlock≠some sb∧(Value.slice rA ps.length pc).ownBlock≠some w.heap.size∧(Value.slice rA ps.length pc).ownBlock≠some g7 from by
       have q1:=HSL.out
       have q2:=HG7W.out
       have q3:=HN9.out.st.lt
       exact⟨fun e=>by have:=(hrw _ e).1;omega,fun e=>by have:=(hrw _ e).1;omega,fun e=>by have:=(hrw _ e).1;omega⟩)
      have d6p:=hp.store.cell (i:=6) rfl
      have HSGp:=hid hsg
      obtain⟨t0c,t2c,t3c,tu,tg⟩:=hsg
      have HPN1:=hid (HPN.out ps.length (X ps.length).xb)
      have HBW1:=hid hw9
      have HM3:=hid (show ps.length+1≤maxLen from by have:=HN64.out;unfold maxLen;omega)
      have HM4:=hid (show (ps.length+1)*8≤140737488355328 from by have:=HN64.out;omega)
      have HJ1:=hid (show wrap64 ((ps.length:Int)+1)=(ps.length:Int)+1 from IntWalk.wrap64_in _ (by have:=HN64.out;omega))
      obtain⟨xj,hxj⟩:∃xj,(X ps.length).xb=xj:=⟨_,rfl⟩
      rw[hxj] at HSGp HPN1 tg
      have HXJ:=hid hxj
      clear hp hrw hw9 hj hxj
      go_upto_block 3 with fail
      go_cut [96] (fun s96 wx=>s96=.int .i64 (ps.length:Int)∧∃pt pg rv2,PtsAt W9 wx L K (fun i=>(X i).xb) n eb ld nm ts sb (ps ++ [(pt,pg)]) rv2)
      case first=>
       go_wp2_with fail
       refine wp_region_held_drew (S:=(fun W=>W.cell? ⟨sb,0,none⟩=some (.pointer (some ⟨L.pb,0,none⟩))∧W.cell? ⟨sb,2,none⟩=some (.pointer (some ⟨eb,0,none⟩))∧W.cell? ⟨sb,3,none⟩=some (.pointer (some ⟨ld,0,none⟩))∧W.cell? ⟨w.heap.size,0,none⟩=some (.int .i64 (n:Int))∧W.cell? ⟨g7,ps.length,none⟩=some (.pointer (some ⟨xj,0,none⟩)))) (by kernel_rfl) ?_ (fun hHeld=>?_)
       ·(try dsimp only);first|with_reducible exact m10|with_reducible exact sg_only m10 ((Only.refl [] _).alloc _) (by simp) (by simp) (by simp)|with_reducible exact m11|with_reducible exact sg_set m11 hne hg7b _|(go_keep;done)
       refine tk 0 ?_
       refine tk 1 ?_
       refine tk 2 ?_
       refine tk 3 ?_
       refine tk 5 ?_
       refine tk 6 ?_
       refine tk 7 ?_
       refine tk 8 ?_
       refine tk 9 ?_
       refine tk 10 ?_
       refine tk 11 ?_
       refine tk 12 ?_
       refine tk 13 ?_
       refine tk 14 ?_
       refine tk 15 ?_
       refine tk 16 ?_
       refine tk 17 ?_
       refine tk 18 ?_
       refine tk 19 ?_
       refine tk 20 ?_
       refine tk 21 ?_
       refine tk 22 ?_
       refine tk 23 ?_
       refine tk 24 ?_
       refine tk 25 ?_
       refine tk 26 ?_
       refine on2 4 27 (fun K hK=>?_) (fun K hK=>?_)
       go_simp
       refine hK.out _ _ ?_ (fun hHeld=>?_)
       ·(try dsimp only);first|with_reducible exact m10|with_reducible exact sg_only m10 ((Only.refl [] _).alloc _) (by simp) (by simp) (by simp)|with_reducible exact m11|with_reducible exact sg_set m11 hne hg7b _|(go_keep;done)
       clear hK K
       try simp only[sp]
       refine on1 27 (fun K hK=>?_)
       go_simp;go_at_call 46;refine (HPN1.out _).mono ?_;rintro e w12 ⟨pt1,pg1,rfl,hb1,hb2,hb3,hb4,hb5,ho9'⟩;have ho10:Only [] wp w12:=⟨ho9'.os,ho9'.tape,ho9'.output,ho9'.size,ho9'.block⟩;have m10:=sg_only HSGp.out ho10 (by simp) (by simp) (by simp);have M101:=hid m10;have e6:=Qa ho10 d6p (by simp);have e6b:=Qa (ho10.alloc (.cells #[.pointer (some ⟨pt1,0,none⟩)] 107)) d6p (by simp);have HP11:=hid (show wp.heap.size≤pt1 from hb1);have HP21:=hid (show wp.heap.size≤pg1 from hb2);have HP31:=hid hb3;have HP41:=hid hb4;have HP51:=hid hb5;have HO101:=hid ho10;have HRNP1:=hid (Zg w12 [.pointer (some ⟨pt1,0,none⟩)] 107);have HBSP1:=hid (show W9.heap.size≤(w12.alloc (.cells #[.pointer (some ⟨pt1,0,none⟩)] 107)).heap.size from Nat.le_trans HBW1.out (Nat.le_trans ho10.size (Qg _ _)));have HOWB:=hid ((Qe HP.out.row ho10 (fun k hk=>by simp)).alloc (.cells #[.pointer (some ⟨pt1,0,none⟩)] 107));clear hb1 hb2 hb3 hb4 hb5 ho9'
       refine hK.out _ _ ?_ (fun hHeld=>?_)
       ·(try dsimp only);first|with_reducible exact m10|with_reducible exact sg_only m10 ((Only.refl [] _).alloc _) (by simp) (by simp) (by simp)|with_reducible exact m11|with_reducible exact sg_set m11 hne hg7b _|(go_keep;done)
       clear hK K
       try simp only[sp]
       refine on1 28 (fun K hK=>?_)
       go_simp
       refine hK.out _ _ ?_ (fun hHeld=>?_)
       ·(try dsimp only);first|with_reducible exact m10|with_reducible exact sg_only m10 ((Only.refl [] _).alloc _) (by simp) (by simp) (by simp)|with_reducible exact m11|with_reducible exact sg_set m11 hne hg7b _|(go_keep;done)
       clear hK K
       try simp only[sp]
       refine on1 29 (fun K hK=>?_)
       refine Zb rfl (.tmp 103) (.tmp 127) rfl elemPt rfl HOWB.out _ 1 _ [.pointer (some ⟨pt1,0,none⟩)] rfl HRNP1.out rfl (by simp[Value.oneCell']) HM3.out HM4.out HBSP1.out (fun e=>by cases e) ?_;intro v5 w13 hown5 hg5 hat5;obtain⟨gq,cq,rfl⟩:=own_some hown5 (by omega);have m11:=sg_far (sg_only M101.out ((Only.refl [] w12).alloc (.cells #[.pointer (some ⟨pt1,0,none⟩)] 107)) (by simp) (by simp) (by simp)) hg5 HGN.out.1 HGN.out.2.1 HGN.out.2.2;have hb11:=Qm (HP.out.store.only (HO101.out.alloc (.cells #[.pointer (some ⟨pt1,0,none⟩)] 107)) (by simp)) hg5 HGN.out.1;have f6:=hb11.cell (i:=6) rfl;have ff:=hb11.frozen;have HEND:=hid (HP.out.snoc HSL.out HO101.out HP11.out HP21.out (by rw[HXJ.out];exact HP41.out) HP51.out hg5 hat5 hown5);clear hown5 hg5 hat5 hb11
       refine hK.out _ _ ?_ (fun hHeld=>?_)
       ·(try dsimp only);first|with_reducible exact m10|with_reducible exact sg_only m10 ((Only.refl [] _).alloc _) (by simp) (by simp) (by simp)|with_reducible exact m11|with_reducible exact sg_set m11 hne hg7b _|(go_keep;done)
       clear hK K
       try simp only[sp]
       refine tk 30 ?_
       refine tk 31 ?_
       refine on1 32 (fun K hK=>?_)
       go_simp
       refine hK.out _ _ ?_ (fun hHeld=>?_)
       ·(try dsimp only);first|with_reducible exact m10|with_reducible exact sg_only m10 ((Only.refl [] _).alloc _) (by simp) (by simp) (by simp)|with_reducible exact m11|with_reducible exact sg_set m11 hne hg7b _|(go_keep;done)
       clear hK K
       try simp only[sp]
       refine wpAnyH_done (by kernel_rfl) ?_ _
       rotate_left 1
       go_simp;go_at_call 46;refine (HPN1.out _).mono ?_;rintro e w12 ⟨pt1,pg1,rfl,hb1,hb2,hb3,hb4,hb5,ho9'⟩;have ho10:Only [] wp w12:=⟨ho9'.os,ho9'.tape,ho9'.output,ho9'.size,ho9'.block⟩;have m10:=sg_only HSGp.out ho10 (by simp) (by simp) (by simp);have M101:=hid m10;have e6:=Qa ho10 d6p (by simp);have e6b:=Qa (ho10.alloc (.cells #[.pointer (some ⟨pt1,0,none⟩)] 107)) d6p (by simp);have HP11:=hid (show wp.heap.size≤pt1 from hb1);have HP21:=hid (show wp.heap.size≤pg1 from hb2);have HP31:=hid hb3;have HP41:=hid hb4;have HP51:=hid hb5;have HO101:=hid ho10;have HRNP1:=hid (Zg w12 [.pointer (some ⟨pt1,0,none⟩)] 107);have HBSP1:=hid (show W9.heap.size≤(w12.alloc (.cells #[.pointer (some ⟨pt1,0,none⟩)] 107)).heap.size from Nat.le_trans HBW1.out (Nat.le_trans ho10.size (Qg _ _)));have HOWB:=hid ((Qe HP.out.row ho10 (fun k hk=>by simp)).alloc (.cells #[.pointer (some ⟨pt1,0,none⟩)] 107));clear hb1 hb2 hb3 hb4 hb5 ho9'
       refine hK.out _ _ ?_ (fun hHeld=>?_)
       ·(try dsimp only);first|with_reducible exact m10|with_reducible exact sg_only m10 ((Only.refl [] _).alloc _) (by simp) (by simp) (by simp)|with_reducible exact m11|with_reducible exact sg_set m11 hne hg7b _|(go_keep;done)
       clear hK K
       try simp only[sp]
       refine on2 4 28 (fun K hK=>?_) (fun K hK=>?_)
       go_simp
       refine hK.out _ _ ?_ (fun hHeld=>?_)
       ·(try dsimp only);first|with_reducible exact m10|with_reducible exact sg_only m10 ((Only.refl [] _).alloc _) (by simp) (by simp) (by simp)|with_reducible exact m11|with_reducible exact sg_set m11 hne hg7b _|(go_keep;done)
       clear hK K
       try simp only[sp]
       refine on1 28 (fun K hK=>?_)
       go_simp
       refine hK.out _ _ ?_ (fun hHeld=>?_)
       ·(try dsimp only);first|with_reducible exact m10|with_reducible exact sg_only m10 ((Only.refl [] _).alloc _) (by simp) (by simp) (by simp)|with_reducible exact m11|with_reducible exact sg_set m11 hne hg7b _|(go_keep;done)
       clear hK K
       try simp only[sp]
       refine on1 29 (fun K hK=>?_)
       refine Zb rfl (.tmp 103) (.tmp 127) rfl elemPt rfl HOWB.out _ 1 _ [.pointer (some ⟨pt1,0,none⟩)] rfl HRNP1.out rfl (by simp[Value.oneCell']) HM3.out HM4.out HBSP1.out (fun e=>by cases e) ?_;intro v5 w13 hown5 hg5 hat5;obtain⟨gq,cq,rfl⟩:=own_some hown5 (by omega);have m11:=sg_far (sg_only M101.out ((Only.refl [] w12).alloc (.cells #[.pointer (some ⟨pt1,0,none⟩)] 107)) (by simp) (by simp) (by simp)) hg5 HGN.out.1 HGN.out.2.1 HGN.out.2.2;have hb11:=Qm (HP.out.store.only (HO101.out.alloc (.cells #[.pointer (some ⟨pt1,0,none⟩)] 107)) (by simp)) hg5 HGN.out.1;have f6:=hb11.cell (i:=6) rfl;have ff:=hb11.frozen;have HEND:=hid (HP.out.snoc HSL.out HO101.out HP11.out HP21.out (by rw[HXJ.out];exact HP41.out) HP51.out hg5 hat5 hown5);clear hown5 hg5 hat5 hb11
       refine hK.out _ _ ?_ (fun hHeld=>?_)
       ·(try dsimp only);first|with_reducible exact m10|with_reducible exact sg_only m10 ((Only.refl [] _).alloc _) (by simp) (by simp) (by simp)|with_reducible exact m11|with_reducible exact sg_set m11 hne hg7b _|(go_keep;done)
       clear hK K
       try simp only[sp]
       refine tk 30 ?_
       refine tk 31 ?_
       refine on1 32 (fun K hK=>?_)
       go_simp
       refine hK.out _ _ ?_ (fun hHeld=>?_)
       ·(try dsimp only);first|with_reducible exact m10|with_reducible exact sg_only m10 ((Only.refl [] _).alloc _) (by simp) (by simp) (by simp)|with_reducible exact m11|with_reducible exact sg_set m11 hne hg7b _|(go_keep;done)
       clear hK K
       try simp only[sp]
       refine wpAnyH_done (by kernel_rfl) ?_ _
       rotate_left 1
       go_simp
       refine hK.out _ _ ?_ (fun hHeld=>?_)
       ·(try dsimp only);first|with_reducible exact m10|with_reducible exact sg_only m10 ((Only.refl [] _).alloc _) (by simp) (by simp) (by simp)|with_reducible exact m11|with_reducible exact sg_set m11 hne hg7b _|(go_keep;done)
       clear hK K
       try simp only[sp]
       refine on1 4 (fun K hK=>?_)
       go_simp
       refine hK.out _ _ ?_ (fun hHeld=>?_)
       ·(try dsimp only);first|with_reducible exact m10|with_reducible exact sg_only m10 ((Only.refl [] _).alloc _) (by simp) (by simp) (by simp)|with_reducible exact m11|with_reducible exact sg_set m11 hne hg7b _|(go_keep;done)
       clear hK K
       try simp only[sp]
       refine on1 29 (fun K hK=>?_)
       refine Zb rfl (.tmp 103) (.tmp 127) rfl elemPt rfl HOWB.out _ 1 _ [.pointer (some ⟨pt1,0,none⟩)] rfl HRNP1.out rfl (by simp[Value.oneCell']) HM3.out HM4.out HBSP1.out (fun e=>by cases e) ?_;intro v5 w13 hown5 hg5 hat5;obtain⟨gq,cq,rfl⟩:=own_some hown5 (by omega);have m11:=sg_far (sg_only M101.out ((Only.refl [] w12).alloc (.cells #[.pointer (some ⟨pt1,0,none⟩)] 107)) (by simp) (by simp) (by simp)) hg5 HGN.out.1 HGN.out.2.1 HGN.out.2.2;have hb11:=Qm (HP.out.store.only (HO101.out.alloc (.cells #[.pointer (some ⟨pt1,0,none⟩)] 107)) (by simp)) hg5 HGN.out.1;have f6:=hb11.cell (i:=6) rfl;have ff:=hb11.frozen;have HEND:=hid (HP.out.snoc HSL.out HO101.out HP11.out HP21.out (by rw[HXJ.out];exact HP41.out) HP51.out hg5 hat5 hown5);clear hown5 hg5 hat5 hb11
       refine hK.out _ _ ?_ (fun hHeld=>?_)
       ·(try dsimp only);first|with_reducible exact m10|with_reducible exact sg_only m10 ((Only.refl [] _).alloc _) (by simp) (by simp) (by simp)|with_reducible exact m11|with_reducible exact sg_set m11 hne hg7b _|(go_keep;done)
       clear hK K
       try simp only[sp]
       refine tk 30 ?_
       refine tk 31 ?_
       refine on1 32 (fun K hK=>?_)
       go_simp
       refine hK.out _ _ ?_ (fun hHeld=>?_)
       ·(try dsimp only);first|with_reducible exact m10|with_reducible exact sg_only m10 ((Only.refl [] _).alloc _) (by simp) (by simp) (by simp)|with_reducible exact m11|with_reducible exact sg_set m11 hne hg7b _|(go_keep;done)
       clear hK K
       try simp only[sp]
       refine wpAnyH_done (by kernel_rfl) ?_ _
       all_goals
        go_wp2_with fail
        go_meet
        exact⟨rfl,pt1,pg1,_,HEND.out⟩
      case rest=>
       obtain⟨rfl,pt1,pg1,rv2,hend⟩:=hcut
       have HEND:=hid hend
       clear hend
       go_wp2_with fail
       go_roundg (n-(ps.length+1))
       case measure=>omega
       case rel=>
        refine⟨ps ++ [(pt1,pg1)],rv2,by rw[List.length_append,List.length_singleton];exact hlt,?_,by rw[List.length_append,List.length_singleton],HEND.out⟩
        rw[List.length_append]
        first|(rw[HJ1.out];rfl)|go_num
     ·have hjl:ps.length=n:=by omega
      have HJP:=hid hjl
      rw[hjl]
      clear hj hlt hjl hp
      go_wp2_with fail
      go_ret2
      have hpl:ps.length=n:=HJP.out
      have hxl:Xs.length=n:=HJ.out
      have hnp:=HN64.out
      obtain⟨gq,rfl⟩:∃gq,rA=some ⟨gq,0,none⟩:=by
       obtain⟨g,c,e⟩:=own_some HP.out.row (by omega)
       injection e with e
       exact⟨g,e⟩
      have hp:=HP.out
      have hfo:=hp.only
      have hx:=HX.out
      obtain⟨hh1,hh2,hh3,hh4,hh5,hh6,hh7⟩:=HH.out
      have hrm:=HRM.out
      obtain⟨l1,l2,l3⟩:=HB5.out
      have hw1:=HC.out.only.size
      have hw2:=HO9.out.size
      have hw3:=HOS9.out.size
      have hw4:=HP.out.only.size
      have hebl:eb<Wc.heap.size:=HE.out.ex.elim fun lv h=>h.1.lt
      have htsl:=HT.out.lt
      have hmono:Only [sb] wo wp:=HO89.out.trans hfo
      obtain⟨P,hP⟩:∃P:Nat→Nat × Nat,∀i,i<n→ps[i]?=some (P i):=⟨fun i=>(ps[i]?).getD (0,0),fun i hi=>by
       have hi':i<ps.length:=by omega
       show ps[i]?=some ((ps[i]?).getD (0,0))
       rw[List.getElem?_eq_getElem hi']
       rfl⟩
      have hb9:∀b cs t,Blk w9 b cs t→b≠sb→Blk wp b cs t:=fun b cs t h h2=>(h.only HOS9.out (by simpa using h2)).only hfo (by simpa using h2)
      have hall:AllMade w wp [.int .i64 (n:Int),.int .i64 (m:Int),.int .i64 (sl:Int),.int .i64 (le:Int),.slice sA src.length sc,.int .i64 f] w.heap.size sb L K nm bt t0 Wc.heap.size wo.heap.size W9.heap.size eb ts be ld lt lg lc gq pc B n m sl le X lp (fun i=>(P i).1) (fun i=>(P i).2) pvv src:=by
       have hrow:=hp.row
       rw[hpl] at hrow
       refine⟨HN9.out.step hfo (by simp),HE9.out.only hfo (by simp;omega) (by simp),HT9.out.only hfo (by simp;omega),⟨h1,h2,h3,hebl,htsl⟩,fun i hi=>?_,fun i j hi hj hij=>HC.out.apart i j _ _ (hx i hi) (hx j hj) hij,HLD9.out.only hfo (by simp;omega),HLT9.out.only hfo (by simp;omega),fun i hi=>?_,fun i hi=>?_,⟨l1,l2,l3,?_⟩,fun i hi=>?_,HB7.out,fun i hi=>?_,fun i hi=>own_cell hrow (by rw[List.getElem?_map,hP i hi];rfl),⟨(hrow.lt gq rfl).1,by omega,hw1⟩,?_⟩
       ·obtain⟨⟨b0,q0⟩,q1,q2,q3,q4,_,_⟩:=HC.out.each i _ (hx i hi)
        exact⟨⟨b0,q0.only hmono (by simp;omega) (by simp;omega) (by simp)⟩,q1,q2,q3,q4⟩
       ·exact Qa hfo (Qa HOS9.out (HB3.out i hi) (by simp;omega)) (by simp;omega)
       ·obtain⟨q1,q2⟩:=HB4.out i hi
        have q3:=HB6.out i hi
        refine⟨hb9 _ _ _ q1 (by omega),Qe (Qe q2 HOS9.out (fun k hk=>?_)) hfo (fun k hk=>?_)⟩
        ·have:=(q2.lt k hk).1;simp;omega
        ·have:=(q2.lt k hk).1;simp;omega
       ·have:=cell_lt (HB3.out 0 (by omega));simp at this;omega
       ·have q3:=HB6.out i hi
        have q4:=(HB4.out i hi).1.lt
        exact⟨q3.1,q3.2.1,q3.2.2,by omega⟩
       ·obtain⟨q1,q2,q3,q4,_,_⟩:=hp.each i _ (hP i hi)
        exact⟨q1,q2,q3,q4⟩
       ·have:=hp.store
        rw[hpl] at this
        exact this
      have hS:=made_inG hall hnp f HF.out
      have hN:=hall.nb
      have hlow:=hN.low
      have hcz:=hall.z
      refine⟨_,bt,rfl,hS,rfl,?_,?_,fun k hk=>?_,Nat.le_refl _,hN.names,hN.table,(hcz nm hN.names.lt (.inr (.inl ⟨by omega,by omega⟩))).2,(hcz bt hN.table.lt (.inr (.inl ⟨by omega,by omega⟩))).2,hh5,?_,?_,?_⟩
      ·exact hN.only.size
      ·exact hN.only
      ·exact (hcz k (Nat.lt_of_lt_of_le hk hN.only.size) (.inl (by omega))).2
      ·dsimp only;omega
      ·dsimp only;omega
      ·omega
def Safe (w:World)(Y:StoreL)(ed:Option Nat)(D:Nat→List Nat)(k:Nat):Prop:=k<w.heap.size∧Y.base≤k∧¬Qw Y ed D k
def RO (w:World)(Y:StoreL)(ed:Option Nat)(D:Nat→List Nat)(mb lb:Nat)(sv:Value)(k:Nat):Prop:=Safe w Y ed D k∧k≠mb∧k≠lb∧sv.ownBlock≠some k
def RowE (w:World)(P:Nat→Prop)(v:Value)(l:List (Int × Int)):Prop:=∃A c,v=.slice A l.length c∧Row w A (Qd l)∧(∀a,A=some a→P a.block)∧(A=none→l.length=0)
abbrev snC (s:SnapL × Value):List Value:=[.int .i64 (s.1.lease:Int),.int .i64 s.1.stamp,s.2,.bool s.1.is]
structure LawM (w:World)(Y:StoreL)(ed:Option Nat)(D:Nat→List Nat)(mb lb:Nat)(els:List PlEl)(sv:Value)(sns:List (SnapL × Value)):Prop where
 m:Blk w mb [ptr Y.sb,.slice (some ⟨lb,0,none⟩) els.length els.length,sv] 47
 l:Blk w lb (els.flatMap PlEl.cells) 49
 ms:Safe w Y ed D mb
 ls:Safe w Y ed D lb
 ne:mb≠lb
 rows:∀e∈els,RowE w (RO w Y ed D mb lb sv) e.1 e.2.1
 snaps:w.ownsRow Y.base 115 4 sv sns.length (sns.flatMap snC)
 svs:∀k,sv.ownBlock=some k→Safe w Y ed D k∧k≠mb∧k≠lb
 parts:∀s∈sns,∃pb pc,s.2=.slice (some ⟨pb,0,none⟩) s.1.parts.length pc∧RO w Y ed D mb lb sv pb∧PlAt w (RO w Y ed D mb lb sv) pb 0 s.1.parts
theorem Qp {w w':World}{b i:Nat}{v:Value}(h:w.cell? ⟨b,i,none⟩=some v)(hb:w'.heap[b]?=w.heap[b]?):w'.cell? ⟨b,i,none⟩=some v:=by
 simp only[World.cell?] at h ⊢
 rw[hb]
 exact h
theorem Blk.heap {w w':World}{b:Nat}{cs:List Value}{t:TypeId}(h:Blk w b cs t)(hb:w'.heap[b]?=w.heap[b]?):Blk w' b cs t:=hb.trans h
theorem own_block {w w':World}{base e size n:Nat}{v:Value}{xs:List Value}(h:w.ownsRow base e size v n xs)(hb:∀k,v.ownBlock=some k→w'.heap[k]?=w.heap[k]?):w'.ownsRow base e size v n xs:=by
 refine⟨h.1,h.2.imp id ?_⟩
 rintro ⟨g,cap,cur,rfl,h1,h2,h3⟩
 exact⟨g,cap,cur,rfl,h1,by rw[hb g rfl];exact h2,h3⟩
theorem RowE.keep {w w':World}{P Q:Nat→Prop}{v:Value}{l:List (Int × Int)}(h:RowE w P v l)(hq:∀k,P k→Q k∧w'.heap[k]?=w.heap[k]?):RowE w' Q v l:=by
 obtain⟨A,c,rfl,hr,hp,ha⟩:=h
 refine⟨A,c,rfl,fun j u hu=>?_,fun a e=>(hq _ (hp a e)).1,ha⟩
 obtain⟨b,off,e,hc⟩:=hr j u hu
 exact⟨b,off,e,Qp hc (hq b (hp _ e)).2⟩
theorem PlAt.keep {w w':World}{P Q:Nat→Prop}{b off:Nat}{ps:List PlainS}(h:PlAt w P b off ps)(hb:w'.heap[b]?=w.heap[b]?)(hq:∀k,P k→Q k∧w'.heap[k]?=w.heap[k]?):PlAt w' Q b off ps:=by
 intro i p hp
 obtain⟨A,c,h1,h2,h3,h4,h5,h6⟩:=h i p hp
 refine⟨A,c,Qp h1 hb,Qp h2 hb,Qp h3 hb,fun j u hu=>?_,fun a e=>(hq _ (h5 a e)).1,h6⟩
 obtain⟨b',o,e,hc⟩:=h4 j u hu
 exact⟨b',o,e,Qp hc (hq b' (h5 _ e)).2⟩
theorem own_set {w:World}{base e size n g c:Nat}{xs:List Value}(h:w.ownsRow base e size (.slice (some ⟨g,0,none⟩) n c) n xs)(j:Nat)(u:Value):(w.setCell ⟨g,j,none⟩ u).ownsRow base e size (.slice (some ⟨g,0,none⟩) n c) n (xs.set j u):=by
 obtain⟨h1,h2⟩:=h
 refine⟨by rw[List.length_set];exact h1,.inr ?_⟩
 rcases h2 with ⟨h2,_⟩|⟨g',cap,cur,hv,a1,a2,a3,a4,a5,a6⟩
 ·cases h2
 ·injection hv with e1 e2 e3
  injection e1 with e1
  injection e1 with e1
  subst e1 e3
  refine⟨g,c,cur.setIfInBounds j u,rfl,a1,heap_setCell_same w g j cur e u a2,a3,a4,by rw[Array.size_setIfInBounds];exact a5,?_⟩
  rw[Array.toList_setIfInBounds,←a6]
  rw[List.take_set]
section
variable {w w':World}{Y:StoreL}{ed ed':Option Nat}{D D':Nat→List Nat}{mb lb:Nat}{els:List PlEl}{sv:Value}{sns:List (SnapL × Value)}
theorem Safe.moves (hm:Moves Y (Qw Y ed D) (Qw Y ed' D') w w'){k:Nat}(h:Safe w Y ed D k):Safe w' Y ed' D' k∧w'.heap[k]?=w.heap[k]?:=by
 refine⟨⟨Nat.lt_of_lt_of_le h.1 hm.size,h.2.1,fun e=>?_⟩,hm.block k h.1 (fun e=>by have:=h.2.1;omega) h.2.2⟩
 rcases hm.dyn k e with e|e
 ·exact h.2.2 e
 ·have:=h.1;omega
theorem Safe.new (ho:Only [] w w'){k:Nat}(h:Safe w Y ed D k):Safe w' Y ed D k∧w'.heap[k]?=w.heap[k]?:=Safe.moves (Moves.of_new ho) h
theorem RO.safe {k:Nat}(h:RO w Y ed D mb lb sv k)(hk:Safe w Y ed D k→Safe w' Y ed' D' k∧w'.heap[k]?=w.heap[k]?):RO w' Y ed' D' mb lb sv k∧w'.heap[k]?=w.heap[k]?:=⟨⟨(hk h.1).1,h.2⟩,(hk h.1).2⟩
theorem LawM.keep (h:LawM w Y ed D mb lb els sv sns)(hk:∀k,Safe w Y ed D k→Safe w' Y ed' D' k∧w'.heap[k]?=w.heap[k]?):LawM w' Y ed' D' mb lb els sv sns:=by
 refine⟨h.m.heap (hk _ h.ms).2,h.l.heap (hk _ h.ls).2,(hk _ h.ms).1,(hk _ h.ls).1,h.ne,fun e he=>(h.rows e he).keep (fun k q=>q.safe (hk k)),own_block h.snaps (fun k e=>(hk k (h.svs k e).1).2),fun k e=>⟨(hk k (h.svs k e).1).1,(h.svs k e).2⟩,fun s hs=>?_⟩
 obtain⟨pb,pc,q1,q2,q3⟩:=h.parts s hs
 exact⟨pb,pc,q1,(q2.safe (hk pb)).1,q3.keep (hk pb q2.1).2 (fun k q=>q.safe (hk k))⟩
theorem LawM.moves (h:LawM w Y ed D mb lb els sv sns)(hm:Moves Y (Qw Y ed D) (Qw Y ed' D') w w'):LawM w' Y ed' D' mb lb els sv sns:=h.keep (fun _=>Safe.moves hm)
theorem LawM.new (h:LawM w Y ed D mb lb els sv sns)(ho:Only [] w w'):LawM w' Y ed D mb lb els sv sns:=h.keep (fun _=>Safe.new ho)
theorem LawM.plAt (h:LawM w Y ed D mb lb els sv sns):PlAt w (RO w Y ed D mb lb sv) lb 0 (els.map (·.2)):=by
 intro i p hp
 rw[List.getElem?_map] at hp
 cases he:els[i]? with
 |none=>rw[he] at hp;cases hp
 |some e=>
  rw[he] at hp
  injection hp with hp
  subst hp
  have hg:=Qz PlEl.cells 3 (fun _=>rfl) els i e he
  obtain⟨A,c,hv,hr,hq,hn⟩:=h.rows e (List.mem_of_getElem? he)
  refine⟨A,c,?_,?_,?_,hr,hq,hn⟩
  ·have:=h.l.cell (i:=i*3+0) (by rw[hg 0 (by decide)];rfl)
   rw[←hv]
   simpa using this
  ·have:=h.l.cell (i:=i*3+1) (by rw[hg 1 (by decide)];rfl)
   simpa [Nat.add_assoc] using this
  ·have:=h.l.cell (i:=i*3+2) (by rw[hg 2 (by decide)];rfl)
   simpa [Nat.add_assoc] using this
theorem Safe.other {b:Nat}(ho:Only [b] w w'){k:Nat}(h:Safe w Y ed D k)(hne:k≠b):Safe w' Y ed D k∧w'.heap[k]?=w.heap[k]?:=⟨⟨Nat.lt_of_lt_of_le h.1 ho.size,h.2⟩,ho.block k h.1 (by simpa using hne)⟩
theorem LawM.setPart (h:LawM w Y ed D mb lb els sv sns){i:Nat}{e:PlEl}(he:els[i]?=some e){v:Value}{l:List (Int × Int)}{num:Int}(hr:RowE w (RO w Y ed D mb lb sv) v l):
  LawM ((w.setCell ⟨lb,i*3+1,none⟩ (.int .i64 num)).setCell ⟨lb,i*3,none⟩ v) Y ed D mb lb (els.set i (v,(l,num))) sv sns:=by
 have ho:Only [lb] w ((w.setCell ⟨lb,i*3+1,none⟩ (.int .i64 num)).setCell ⟨lb,i*3,none⟩ v):=((Only.refl _ _).setCell (.inl (by simp)) _).setCell (.inl (by simp)) _
 have hl:Blk ((w.setCell ⟨lb,i*3+1,none⟩ (.int .i64 num)).setCell ⟨lb,i*3,none⟩ v) lb ((els.set i (v,(l,num))).flatMap PlEl.cells) 49:=by
  have h1:=(h.l.set (i*3+1) (.int .i64 num)).set (i*3) v
  rw[flatMap_set PlEl.cells 3 (fun _=>rfl) els i e he 1 (.int .i64 num) (e.1,(e.2.1,num)) (by decide) rfl] at h1
  have h2:=flatMap_set PlEl.cells 3 (fun _=>rfl) (els.set i (e.1,(e.2.1,num))) i (e.1,(e.2.1,num)) (List.getElem?_set_self (List.getElem?_eq_some_iff.1 he).1) 0 v (v,(e.2.1,num)) (by decide) rfl
  rw[Nat.add_zero] at h2
  rw[h2,List.set_set] at h1
  have h3:∀(xs:List PlEl) (i:Nat),(xs.set i (v,(e.2.1,num))).flatMap PlEl.cells=(xs.set i (v,(l,num))).flatMap PlEl.cells:=by
   intro xs
   induction xs with
   |nil=>intro i;rfl
   |cons x xs ih=>
    intro i
    cases i with
    |zero=>rfl
    |succ i=>simp only[List.set_cons_succ,List.flatMap_cons,ih i]
  rw[h3] at h1
  exact h1
 have hk:∀k,RO w Y ed D mb lb sv k→RO ((w.setCell ⟨lb,i*3+1,none⟩ (.int .i64 num)).setCell ⟨lb,i*3,none⟩ v) Y ed D mb lb sv k∧((w.setCell ⟨lb,i*3+1,none⟩ (.int .i64 num)).setCell ⟨lb,i*3,none⟩ v).heap[k]?=w.heap[k]?:=fun k q=>q.safe (fun s=>s.other ho q.2.2.1)
 refine⟨?_,hl,(h.ms.other ho h.ne).1,⟨Nat.lt_of_lt_of_le h.ls.1 ho.size,h.ls.2⟩,h.ne,fun x hx=>?_,own_block h.snaps (fun k e=>((h.svs k e).1.other ho (h.svs k e).2.2).2),fun k e=>⟨((h.svs k e).1.other ho (h.svs k e).2.2).1,(h.svs k e).2⟩,fun s hs=>?_⟩
 ·rw[List.length_set]
  exact h.m.only ho (by simpa using h.ne)
 ·rcases List.mem_or_eq_of_mem_set hx with hx|rfl
  ·exact (h.rows x hx).keep hk
  ·exact hr.keep hk
 ·obtain⟨pb,pc,q1,q2,q3⟩:=h.parts s hs
  exact⟨pb,pc,q1,(hk pb q2).1,q3.keep (hk pb q2).2 hk⟩
theorem LawM.unset {g c:Nat}{sns:List (SnapL × Value)}(h:LawM w Y ed D mb lb els (.slice (some ⟨g,0,none⟩) sns.length c) sns){a:Nat}{s:SnapL × Value}(hs:sns[a]?=some s):
  LawM (w.setCell ⟨g,a*4+3,none⟩ (.bool false)) Y ed D mb lb els (.slice (some ⟨g,0,none⟩) (sns.set a ({s.1 with is:=false},s.2)).length c) (sns.set a ({s.1 with is:=false},s.2)):=by
 have ho:Only [g] w (w.setCell ⟨g,a*4+3,none⟩ (.bool false)):=(Only.refl _ _).setCell (.inl (by simp)) _
 have hg:=h.svs g rfl
 rw[List.length_set]
 have hk:∀k,RO w Y ed D mb lb (.slice (some ⟨g,0,none⟩) sns.length c) k→RO (w.setCell ⟨g,a*4+3,none⟩ (.bool false)) Y ed D mb lb (.slice (some ⟨g,0,none⟩) sns.length c) k∧(w.setCell ⟨g,a*4+3,none⟩ (.bool false)).heap[k]?=w.heap[k]?:=
  fun k q=>q.safe (fun s=>s.other ho (fun e=>q.2.2.2 (by subst e;rfl)))
 refine⟨h.m.only ho (by simpa using (Ne.symm hg.2.1)),h.l.only ho (by simpa using (Ne.symm hg.2.2)),(h.ms.other ho (Ne.symm hg.2.1)).1,(h.ls.other ho (Ne.symm hg.2.2)).1,h.ne,fun e he=>(h.rows e he).keep hk,?_,fun k e=>?_,fun t ht=>?_⟩
 ·have h1:=own_set h.snaps (a*4+3) (.bool false)
  rw[flatMap_set snC 4 (fun _=>rfl) sns a s hs 3 (.bool false) ({s.1 with is:=false},s.2) (by decide) rfl] at h1
  rw[List.length_set]
  exact h1
 ·injection e with e
  have e:g=k:=e
  subst e
  exact⟨⟨Nat.lt_of_lt_of_le hg.1.1 ho.size,hg.1.2⟩,hg.2⟩
 ·have:∃t0∈sns,t0.2=t.2∧t0.1.parts=t.1.parts:=by
   rcases List.mem_or_eq_of_mem_set ht with ht|rfl
   ·exact⟨t,ht,rfl,rfl⟩
   ·exact⟨s,List.mem_of_getElem? hs,rfl,rfl⟩
  obtain⟨t0,h0,e1,e2⟩:=this
  obtain⟨pb,pc,q1,q2,q3⟩:=h.parts t0 h0
  rw[←e1,←e2]
  exact⟨pb,pc,q1,(hk pb q2).1,q3.keep (hk pb q2).2 hk⟩
theorem LawM.push {w2:World}{o:Obj}{sv2:Value}{s:SnapL × Value}(h:LawM w Y ed D mb lb els sv sns)(hg:(w.alloc o).grownBy w2 sv.ownBlock)(hat:sv2.ownBlock=sv.ownBlock∨sv2.ownBlock=some (w.alloc o).heap.size)(hdy:∀k,w.heap.size≤k→¬Qw Y ed D k)(hbase:Y.base≤w.heap.size)
  (hown:w2.ownsRow Y.base 115 4 sv2 (sns.length+1) (sns.flatMap snC ++ snC s)) (hp:∃pb pc,s.2=.slice (some ⟨pb,0,none⟩) s.1.parts.length pc∧RO w Y ed D mb lb sv pb∧PlAt w (RO w Y ed D mb lb sv) pb 0 s.1.parts):
  LawM (w2.setCell ⟨mb,2,none⟩ sv2) Y ed D mb lb els sv2 (sns ++ [s]):=by
 have hsa:=Qg w o
 have hs2:=hg.size
 have hom:Only [mb] w2 (w2.setCell ⟨mb,2,none⟩ sv2):=(Only.refl _ _).setCell (.inl (by simp)) _
 have hoc:Only sv.ownBlock.toList w w2:=(((Only.refl [] w).alloc o).mono (Y:=sv.ownBlock.toList) (by simp)).grown hg (fun k hk=>.inr (by rw[hk];simp))
 have hin:∀k,k∈sv.ownBlock.toList→sv.ownBlock=some k:=fun k hk=>by
  cases hv:sv.ownBlock with
  |none=>rw[hv] at hk;simp at hk
  |some x=>rw[hv] at hk;simp at hk;rw[hk]
 have hne2:∀k,k<w.heap.size→sv.ownBlock≠some k→sv2.ownBlock≠some k:=fun k h1 h2=>by
  rcases hat with e|e
  ·rw[e];exact h2
  ·rw[e];intro e2;injection e2 with e2;omega
 have hsz:∀k,k<w.heap.size→k<(w2.setCell ⟨mb,2,none⟩ sv2).heap.size:=fun k hk=>Nat.lt_of_lt_of_le hk (Nat.le_trans (Nat.le_trans hsa hs2) hom.size)
 have hk:∀k,RO w Y ed D mb lb sv k→RO (w2.setCell ⟨mb,2,none⟩ sv2) Y ed D mb lb sv2 k∧(w2.setCell ⟨mb,2,none⟩ sv2).heap[k]?=w.heap[k]?:=fun k q=>by
  refine⟨⟨⟨hsz k q.1.1,q.1.2⟩,q.2.1,q.2.2.1,hne2 k q.1.1 q.2.2.2⟩,?_⟩
  rw[hom.block k (Nat.lt_of_lt_of_le q.1.1 (Nat.le_trans hsa hs2)) (by simpa using q.2.1)]
  exact hoc.block k q.1.1 (fun e=>q.2.2.2 (hin k e))
 have hmn:sv.ownBlock≠some mb:=fun e=>(h.svs mb e).2.1 rfl
 have hln:sv.ownBlock≠some lb:=fun e=>(h.svs lb e).2.2 rfl
 have h2n:sv2.ownBlock≠some mb:=hne2 mb h.ms.1 hmn
 refine⟨(h.m.only hoc (fun e=>hmn (hin _ e))).set 2 _,(h.l.only hoc (fun e=>hln (hin _ e))).only hom (by simpa using (Ne.symm h.ne)),⟨hsz _ h.ms.1,h.ms.2⟩,⟨hsz _ h.ls.1,h.ls.2⟩,h.ne,fun e he=>(h.rows e he).keep hk,?_,fun k e=>?_,fun t ht=>?_⟩
 ·rw[List.length_append,List.flatMap_append]
  have:=Qe hown hom (fun k e=>by
   simp
   intro e2
   subst e2
   exact h2n e)
  simpa using this
 ·have hlt:=hown.lt k e
  have hkm:k≠mb:=fun e2=>by subst e2;exact h2n e
  rcases hat with e3|e3
  ·rw[e3] at e
   obtain⟨q1,q2,q3⟩:=h.svs k e
   exact⟨⟨hsz k q1.1,q1.2⟩,q2,q3⟩
  ·rw[e3] at e
   injection e with e
   have q1:=h.ms.1
   have q2:=h.ls.1
   exact⟨⟨Nat.lt_of_lt_of_le hlt.2 hom.size,hlt.1,hdy k (by omega)⟩,hkm,by omega⟩
 ·rcases List.mem_append.1 ht with ht|ht
  ·obtain⟨pb,pc,q1,q2,q3⟩:=h.parts t ht
   exact⟨pb,pc,q1,(hk pb q2).1,q3.keep (hk pb q2).2 hk⟩
  ·obtain rfl:=List.mem_singleton.1 ht
   obtain⟨pb,pc,q1,q2,q3⟩:=hp
   exact⟨pb,pc,q1,(hk pb q2).1,q3.keep (hk pb q2).2 hk⟩
end
structure KeepB (Y:StoreL)(w w':World):Prop where
 os:w'.os=w.os
 tape:w'.tape=w.tape
 output:w'.output=w.output
 size:w.heap.size≤w'.heap.size
 block:∀k,k<Y.base→Y.col k=0→k<w.heap.size→w'.heap[k]?=w.heap[k]?
theorem KeepB.refl (Y:StoreL)(w:World):KeepB Y w w:=⟨rfl,rfl,rfl,Nat.le_refl _,fun _ _ _ _=>rfl⟩
theorem KeepB.trans {Y:StoreL}{a b c:World}(h:KeepB Y a b)(k:KeepB Y b c):KeepB Y a c:=⟨k.os.trans h.os,k.tape.trans h.tape,k.output.trans h.output,Nat.le_trans h.size k.size,fun i h1 h2 h3=>(k.block i h1 h2 (Nat.lt_of_lt_of_le h3 h.size)).trans (h.block i h1 h2 h3)⟩
theorem KeepB.moves {Y:StoreL}{w w':World}{dy dy':Nat→Prop}(h:Moves Y dy dy' w w')(hd:∀k,dy k→Y.base≤k):KeepB Y w w':=⟨h.os,h.tape,h.output,h.size,fun k h1 h2 h3=>h.block k h3 (fun e=>e.2 h2) (fun e=>by have:=hd k e;omega)⟩
theorem KeepB.only {Y:StoreL}{w w':World}{Z:List Nat}(h:Only Z w w')(hz:∀k∈Z,Y.base≤k):KeepB Y w w':=⟨h.os,h.tape,h.output,h.size,fun k h1 _ h3=>h.block k h3 (fun e=>by have:=hz k e;omega)⟩
def LawIn (w:World)(Y:StoreL)(le mb lb:Nat)(ps:List PlainS)(sn:List SnapL)(B j:Nat):Prop:=
 ∃(ed:Option Nat) (D:Nat→List Nat) (X:StoreS) (els:List PlEl) (sv:Value) (sns:List (SnapL × Value)),StoreIn w Y ed D X∧LawR X Y.n le ps sn B j∧LawM w Y ed D mb lb els sv sns∧els.map (·.2)=ps∧sns.map (·.1)=sn
end Go.Proofs.YteeefedoffplmaaGreat
