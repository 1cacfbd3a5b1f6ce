/- StoreAlone, part Pau: LoadG, NewR, PlainB, PlainC, PlainD. -/
import Derived.Test.YteeefedoffplmaaGreatPaa
import Derived.Test.YteeefedoffplmaaGreatPat
import Derived.Test.YteeefedoffplmaaGreatPas
set_option linter.unusedSimpArgs false
set_option linter.unusedVariables false
set_option maxRecDepth 100000
set_option maxHeartbeats 51200000
namespace Go.Proofs.YteeefedoffplmaaGreat
open Go.RowKit Lib Go.Proofs.Tryz
def Qq (src:List (Int × Int))(n i:Nat):List (Int × Int):=src.filter fun x=>decide (Qu x.1 n=(i:Int))
theorem partSrc_snoc (src:List (Int × Int))(n i j:Nat)(p:Int × Int)(h:src[j]?=some p):Qq (src.take (j+1)) n i=Qq (src.take j) n i ++ (if Qu p.1 n=(i:Int) then [p] else []):=by
 unfold Qq
 rw[Zd h,List.filter_append]
 congr 1
 by_cases e:Qu p.1 n=(i:Int)
 ·simp[e]
 ·simp[e]
theorem partOf_range {k:Int}(hk:Qt k=true)(n:Nat)(hn:1≤n):0≤Qu k n∧Qu k n<n:=by
 obtain⟨h0,h1⟩:=keyB_range hk
 have hn':(0:Int)≤n:=by omega
 unfold Qu K32
 constructor
 ·exact Int.ediv_nonneg (Int.mul_nonneg h0 hn') (by decide)
 ·refine Int.ediv_lt_of_lt_mul (by decide) ?_
  have:k*(n:Int)≤4294967295*n:=Int.mul_le_mul_of_nonneg_right h1 hn'
  omega
def Ln1 (w:World)(pb lt ld:Nat)(xs:Nat→Nat)(n:Nat)(k:Nat)(s23:Value)(wr:World):Prop:=
 ∃(lps:List Nat) (rv:Value),lps.length≤n∧s23=.int .i64 (lps.length:Int)∧k=n-lps.length∧Blk wr ld [ptr pb,ptr lt,rv] 194∧Blk wr lt [ptr pb] 187∧wr.ownsRow (ld+1) 195 1 rv lps.length (lps.map ptr) ∧
  (∀i p,lps[i]?=some p→Blk wr p [.int .i64 0,ptr (xs i),.slice none 0 0,.int .i64 0] 197∧ld<p∧rv.ownBlock≠some p)∧lps.Nodup∧Only [] w wr∧ld<wr.heap.size
def Ln2 (w:World)(B pb lt ld g c:Nat)(xs lp:Nat→Nat)(n:Nat)(src:List (Int × Int))(k:Nat)(s44:Value)(wr:World):Prop:=
 ∃(j:Nat) (pv:Nat→Value),j≤src.length∧s44=.int .i64 (j:Int)∧k=src.length-j∧Blk wr ld [ptr pb,ptr lt,.slice (some ⟨g,0,none⟩) n c] 194∧Blk wr lt [ptr pb] 187∧(∀i,i<n→wr.cell? ⟨g,i,none⟩=some (ptr (lp i))) ∧
  (∀i,i<n→Blk wr (lp i) [.int .i64 0,ptr (xs i),pv i,.int .i64 0] 197∧wr.ownsRow B 36 2 (pv i) (Qq (src.take j) n i).length (Qd (Qq (src.take j) n i)))∧(∀a b,a<n→b<n→a≠b→∀k,(pv a).ownBlock=some k→(pv b).ownBlock≠some k)∧Only [] w wr∧B≤wr.heap.size
def LoadMade (w:World)(pb:Nat)(xs:Nat→Nat)(n:Nat)(src:List (Int × Int))(e:Ending)(w':World):Prop:=
 ∃(ld lt g c:Nat) (lp:Nat→Nat) (pv:Nat→Value) (B:Nat),e=.returned (ptr ld)∧Blk w' ld [ptr pb,ptr lt,.slice (some ⟨g,0,none⟩) n c] 194∧Blk w' lt [ptr pb] 187∧(∀i,i<n→w'.cell? ⟨g,i,none⟩=some (ptr (lp i))) ∧
  (∀i,i<n→Blk w' (lp i) [.int .i64 0,ptr (xs i),pv i,.int .i64 0] 197∧w'.ownsRow B 36 2 (pv i) (Qq src n i).length (Qd (Qq src n i)))∧(w.heap.size≤lt∧lt<ld∧ld<g)∧(∀i,i<n→ld<lp i∧lp i≠g∧lp i<B)∧(∀a b,a<n→b<n→a≠b→lp a≠lp b)∧Only [] w w'
theorem loadNewG_any (w:World)(pb ca cc:Nat)(xs:Nat→Nat)(n:Nat)(hn:1≤n∧n≤64)(hch:∀i,i<n→w.cell? ⟨ca,i,none⟩=some (ptr (xs i)))(src:List (Int × Int))(hsl:src.length≤256)(sA:Option Addr)(sc:Nat)(hrow:Row w sA (Qd src))(hkeys:∀p∈src,Qt p.1=true)(f:Int)(hf:f≤0):
  Calls prog 45 #[ptr pb,.slice (some ⟨ca,0,none⟩) n cc,.slice sA src.length sc,.int .i64 f] w (LoadMade w pb xs n src):=by
 have htr:=trieNew_any w pb
 have hmx:(if f<0 then 0 else f)=0:=by split <;> omega
 have HCH:=hid hch;have HROW:=hid hrow;have HKEYS:=hid hkeys;have HN:=hid hn;have HSL:=hid hsl
 unfold ptr at *
 clear hch hrow hkeys
 go_enter func45,ntmps45
 go_wp2_with (go_at_call 43;refine htr.mono ?_;rintro e w1 ⟨lt,rfl,hl1,hl2,ho1⟩;have HL1:=hid hl1;have HL2:=hid hl2;have HO1:=hid ho1;clear hl1 hl2 ho1)
 obtain⟨W1,hW1⟩:∃W1,w1.alloc (.cells #[.pointer (some ⟨pb,0,none⟩),.pointer (some ⟨lt,0,none⟩),.slice none 0 0] 194)=W1:=⟨_,rfl⟩
 rw[hW1]
 have ho1:Only [] w W1:=by rw[←hW1];exact HO1.out.alloc _
 have hld:Blk W1 w1.heap.size [.pointer (some ⟨pb,0,none⟩),.pointer (some ⟨lt,0,none⟩),.slice none 0 0] 194:=by rw[←hW1];exact Blk.new w1 _ 194
 have hlt:Blk W1 lt [.pointer (some ⟨pb,0,none⟩)] 187:=by rw[←hW1];exact HL1.out.alloc _
 have hll:lt<w1.heap.size:=HL1.out.lt
 clear hW1 htr
 generalize w1.heap.size=ld at *
 have HST:=hid (show Ln1 w pb lt ld xs n n (.int .i64 0) W1 from ⟨[],.slice none 0 0,Nat.zero_le _,rfl,rfl,hld,hlt,World.ownsRow_nil _ _ _ _,(fun i p h=>by cases h),List.nodup_nil,ho1,hld.lt⟩)
 have HLL:=hid hll
 clear ho1 hld hlt hll
 go_loopg [23] n (fun k s23 wr=>Ln1 w pb lt ld xs n k s23 wr)
 case atStart=>exact HST.out
 case round=>
  clear HST
  obtain⟨lps,rv,hj,rfl,rfl,hbd,hbt,hown,hlp,hnd,ho,hlds⟩:=hrel
  obtain⟨rA,rc,rfl,hrr,hrn⟩:=Qc hown
  have HBD:=hid hbd;have HBT:=hid hbt;have HOWN:=hid hown;have HLP:=hid hlp;have HND:=hid hnd;have HO:=hid ho;have HLDS:=hid hlds
  by_cases hlt:lps.length<n
  ·have hlt':(lps.length:Int)<n:=by omega
   have hc:=Qa ho (HCH.out lps.length hlt) (by simp)
   unfold ptr at hc
   have d2:=hbd.cell (i:=2) rfl
   have df:=hbd.frozen
   have HRN:=hid (row_new1 wr (.cells #[.int .i64 0,.pointer (some ⟨xs lps.length,0,none⟩),.slice none 0 0,.int .i64 0] 197) [.pointer (some ⟨wr.heap.size,0,none⟩)] 195)
   have HWA:=hid ((hown.alloc (.cells #[.int .i64 0,.pointer (some ⟨xs lps.length,0,none⟩),.slice none 0 0,.int .i64 0] 197)).alloc (.cells #[.pointer (some ⟨wr.heap.size,0,none⟩)] 195))
   have HM1:=hid (show lps.length+1≤maxLen from by have:=HN.out;unfold maxLen;omega)
   have HM2:=hid (show (lps.length+1)*8≤140737488355328 from by have:=HN.out;omega)
   have HBS:=hid (show ld+1≤((wr.alloc (.cells #[.int .i64 0,.pointer (some ⟨xs lps.length,0,none⟩),.slice none 0 0,.int .i64 0] 197)).alloc (.cells #[.pointer (some ⟨wr.heap.size,0,none⟩)] 195)).heap.size from Nat.le_trans (Nat.succ_le_of_lt hlds) (Nat.le_trans (Qg _ _) (Qg _ _)))
   have HNE:=hid (show ∀k,(Value.slice rA lps.length rc).ownBlock=some k→ld<k∧k<wr.heap.size from fun k hk=>by have:=hown.lt k hk;omega)
   clear hbd hbt hown hlp hnd ho hlds hrr hj
   go_wp2_with ((at_builtin;refine Qj rfl (.tmp 31) (.tmp 37) rfl elemLp rfl HWA.out _ 1 _ [.pointer (some ⟨wr.heap.size,0,none⟩)] rfl HRN.out rfl (by simp[Value.oneCell']) HM1.out HM2.out HBS.out (fun e=>by cases e) ?_;intro v2 w2 hown2 hg2 hat2;obtain⟨A2,c2,rfl,_,_⟩:=Qc hown2;have hld2:=Qm ((HBD.out.alloc (.cells #[.int .i64 0,.pointer (some ⟨xs lps.length,0,none⟩),.slice none 0 0,.int .i64 0] 197)).alloc (.cells #[.pointer (some ⟨wr.heap.size,0,none⟩)] 195)) hg2 (fun e=>by have:=(HNE.out _ e).1;omega);have d22:=hld2.cell (i:=2) rfl;have f22:=hld2.frozen;have HLD2:=hid hld2;have HOWN2:=hid hown2;have HG2:=hid hg2;have HAT2:=hid hat2;clear hld2 hown2 hg2 hat2))
   obtain⟨W2,hW2⟩:∃W2,w2.setCell ⟨ld,2,none⟩ (.slice A2 (lps.length+1) c2)=W2:=⟨_,rfl⟩
   rw[hW2]
   go_roundg (n-(lps.length+1))
   case measure=>omega
   case rel=>
    have hm1:wrap64 ((lps.length:Int)+1)=(lps.length:Int)+1:=IntWalk.wrap64_in _ (by have:=HN.out;omega)
    have hgr:World.grownBy ((wr.alloc (.cells #[.int .i64 0,.pointer (some ⟨xs lps.length,0,none⟩),.slice none 0 0,.int .i64 0] 197)).alloc (.cells #[.pointer (some ⟨wr.heap.size,0,none⟩)] 195)) w2 (Value.slice rA lps.length rc).ownBlock:=HG2.out
    have hat:(Value.slice A2 (lps.length+1) c2).ownBlock=(Value.slice rA lps.length rc).ownBlock∨(Value.slice A2 (lps.length+1) c2).ownBlock=some ((wr.alloc (.cells #[.int .i64 0,.pointer (some ⟨xs lps.length,0,none⟩),.slice none 0 0,.int .i64 0] 197)).alloc (.cells #[.pointer (some ⟨wr.heap.size,0,none⟩)] 195)).heap.size:=HAT2.out
    have hs2:Only [ld] w2 W2:=by rw[←hW2];exact (Only.refl _ _).setCell (.inl (by simp)) _
    have ho2:Only (Value.slice rA lps.length rc).ownBlock.toList wr w2:=((((Only.refl [] wr).alloc _).alloc _).mono (by simp)).grown hgr (fun k hk=>.inr (by rw[hk];simp))
    have ho3:Only (ld :: (Value.slice rA lps.length rc).ownBlock.toList) wr W2:=(ho2.mono (by intro k hk;simp[hk])).trans (hs2.mono (by simp))
    have hz:∀k∈ld :: (Value.slice rA lps.length rc).ownBlock.toList,ld≤k:=fun k hk=>by
     rcases List.mem_cons.1 hk with rfl|hk
     ·exact Nat.le_refl _
     ·have:=(HNE.out k (by simpa using hk)).1;omega
    have hwl:w.heap.size≤ld:=by have h1:=HL2.out;have h2:=HLL.out;omega
    refine⟨lps ++ [wr.heap.size],.slice A2 (lps.length+1) c2,by simp;omega,by first|(rw[hm1];simp)|(simp;done),by simp,?_,HBT.out.only ho3 (fun e=>by have:=hz _ e;have:=HLL.out;omega),?_,fun i p hp=>?_,?_,((HO.out.mono (Y:=ld :: (Value.slice rA lps.length rc).ownBlock.toList) (by simp)).trans ho3).fresh (fun k hk hl=>by have:=hz k hk;omega),Nat.lt_of_lt_of_le HLDS.out ho3.size⟩
    ·rw[←hW2];exact HLD2.out.set 2 _
    ·rw[List.length_append,List.map_append]
     exact Qe HOWN2.out hs2 (fun k hk e=>by have:=(HOWN2.out.lt k hk).1;simp at e;omega)
    ·by_cases hi:i<lps.length
     ·rw[List.getElem?_append_left hi] at hp
      obtain⟨p1,p2,p3⟩:=HLP.out i p hp
      refine⟨p1.only ho3 (fun e=>?_),p2,fun e=>?_⟩
      ·rcases List.mem_cons.1 e with e|e
       ·omega
       ·exact p3 (by simpa using e)
      ·rcases hat with h|h
       ·rw[h] at e;exact p3 e
       ·rw[h] at e
        injection e with e
        have:=p1.lt
        have h2:=Qg wr (.cells #[.int .i64 0,.pointer (some ⟨xs lps.length,0,none⟩),.slice none 0 0,.int .i64 0] 197)
        have h3:=Qg (wr.alloc (.cells #[.int .i64 0,.pointer (some ⟨xs lps.length,0,none⟩),.slice none 0 0,.int .i64 0] 197)) (.cells #[.pointer (some ⟨wr.heap.size,0,none⟩)] 195)
        omega
     ·have hie:i=lps.length:=by
       have:=(List.getElem?_eq_some_iff.1 hp).1
       simp at this
       omega
      subst hie
      rw[List.getElem?_append_right (Nat.le_refl _),Nat.sub_self] at hp
      injection hp with hp
      subst hp
      refine⟨?_,HLDS.out,fun e=>?_⟩
      ·refine Blk.only (Qm ((Blk.new wr [.int .i64 0,.pointer (some ⟨xs lps.length,0,none⟩),.slice none 0 0,.int .i64 0] 197).alloc (.cells #[.pointer (some ⟨wr.heap.size,0,none⟩)] 195)) hgr (fun e=>by have:=(HNE.out _ e).2;omega)) hs2 (by have:=HLDS.out;simp;omega)
      ·rcases hat with h|h
       ·rw[h] at e;have:=(HNE.out _ e).2;omega
       ·rw[h] at e
        injection e with e
        simp at e
        omega
    ·refine List.nodup_append.2 ⟨HND.out,by simp,fun a ha b hb e=>?_⟩
     obtain rfl:=List.mem_singleton.1 hb
     subst e
     obtain⟨i,hi⟩:=List.mem_iff_getElem?.1 ha
     have:=(HLP.out i _ hi).1.lt
     omega
  ·have hjl:lps.length=n:=by omega
   subst hjl
   obtain⟨g,hgA⟩:∃g,rA=some ⟨g,0,none⟩:=by
    obtain⟨g,c,hv⟩:=own_some hown (by have:=HN.out;omega)
    injection hv with hv
    exact⟨g,hv⟩
   subst hgA
   obtain⟨lp,hlpf⟩:∃lp:Nat→Nat,∀i,i<lps.length→lps[i]?=some (lp i):=⟨fun i=>(lps[i]?).getD 0,fun i hi=>by show _=some ((lps[i]?).getD 0);rw[List.getElem?_eq_getElem hi];rfl⟩
   obtain⟨wo,rfl⟩:∃wo,wo=wr:=⟨wr,rfl⟩
   have hg0:ld<g:=(hown.lt g rfl).1
   have hgc:∀i,i<lps.length→wo.cell? ⟨g,i,none⟩=some (ptr (lp i)):=fun i hi=>own_cell hown (by rw[List.getElem?_map,hlpf i hi];rfl)
   have hst2:Ln2 w wo.heap.size pb lt ld g rc xs lp lps.length src src.length (.int .i64 0) wo:=by
    refine⟨0,fun _=>.slice none 0 0,Nat.zero_le _,rfl,rfl,hbd,hbt,hgc,fun i hi=>⟨(hlp i _ (hlpf i hi)).1,?_⟩,(fun _ _ _ _ _ _ e=>by cases e),ho,Nat.le_refl _⟩
    exact World.ownsRow_nil _ _ _ _
   have hlps:∀i,i<lps.length→ld<lp i∧lp i≠g∧lp i<wo.heap.size:=fun i hi=>by
    obtain⟨p1,p2,p3⟩:=hlp i _ (hlpf i hi)
    exact⟨p2,fun e=>p3 (by rw[e];rfl),p1.lt⟩
   have hlpd:∀a b,a<lps.length→b<lps.length→a≠b→lp a≠lp b:=fun a b ha hb hab e=>by
    have h1:=hlpf a ha
    have h2:=hlpf b hb
    rw[e] at h1
    exact hab ((List.getElem?_inj ha hnd).1 (h1.trans h2.symm))
   have HST2:=hid hst2;have HLPS:=hid hlps;have HLPD:=hid hlpd;have HG0:=hid hg0
   have hgwo:g<wo.heap.size:=(hown.lt g rfl).2
   have HGWO:=hid hgwo
   clear hbd hbt hown hlp hnd ho hlds hrr hrn hj hst2 hlps hlpd hg0 hgc HBD HBT HOWN HLP HND HO hlpf hgwo
   go_wp2_with fail
   generalize lps.length=n at *
   clear lps
   go_loopg [44] src.length (fun k s44 wr=>Ln2 w wo.heap.size pb lt ld g rc xs lp n src k s44 wr)
   case atStart=>exact HST2.out
   case round=>
    clear HST2
    obtain⟨j,pv,hj,rfl,rfl,hbd,hbt,hgc,hpv,hap,ho,hB⟩:=hrel
    have HBD:=hid hbd;have HBT:=hid hbt;have HGC:=hid hgc;have HPV:=hid hpv;have HAP:=hid hap;have HO:=hid ho;have HB:=hid hB
    by_cases hlt:j<src.length
    ·have hlt':(j:Int)<src.length:=by omega
     obtain⟨⟨k,v⟩,hx⟩:∃x,src[j]?=some x:=⟨_,List.getElem?_eq_getElem hlt⟩
     obtain⟨qb,qo,rfl,hk0,hk1⟩:=pair_cells (HROW.out.below ho.below) hx
     have hkk:Qt k=true:=HKEYS.out _ (List.mem_of_getElem? hx)
     have hpy:=fun W=>part_yes k n W hkk (by have:=HN.out;omega) (by have:=HN.out;omega)
     obtain⟨pr0,pr1⟩:=partOf_range hkk n HN.out.1
     obtain⟨q,hq⟩:∃q:Nat,Qu k n=(q:Int):=⟨(Qu k n).toNat,by omega⟩
     have hqn:q<n:=by omega
     have hqn':(q:Int)<(n:Int):=by omega
     rw[hq] at hpy
     have HPY:=hid hpy;have HX:=hid hx;have HQ:=hid hq;have HQN:=hid hqn
     obtain⟨hbq,hoq⟩:=hpv q hqn
     obtain⟨pA,pc,hpe,_,_⟩:=Qc hoq
     have HPE:=hid hpe
     rw[hpe] at hbq hoq
     have e2:=hbd.cell (i:=2) rfl
     have p0:=hgc q hqn
     have HBQ:=hid hbq;have HOQ:=hid hoq
     have hqn0:(0:Int)≤(q:Int):=by omega
     unfold ptr at p0
     clear hbd hbt hgc hpv hap hB hkk hpy pr0 pr1 hx hbq hoq hpe hj hq hqn
     go_wp2_with (go_at_call 47;refine (HPY.out _).mono ?_;rintro e w5 ⟨rfl,rfl⟩)
     obtain⟨W4,hW4⟩:∃W4,wr.alloc (.cells #[.int .i64 k,.int .i64 v] 36)=W4:=⟨_,rfl⟩
     try rw[hW4]
     have ho4:Only [] wr W4:=by rw[←hW4];exact (Only.refl _ _).alloc _
     have hbp:Blk W4 wr.heap.size [.int .i64 k,.int .i64 v] 36:=by rw[←hW4];exact Blk.new wr _ 36
     have z0:=hbp.cell (i:=0) rfl
     have z1:=hbp.cell (i:=1) rfl
     have m2:=Qa ho4 e2 (by simp)
     have n0:=Qa ho4 p0 (by simp)
     have v2:=(HBQ.out.only ho4 (by simp)).cell (i:=2) rfl
     have HO4:=hid ho4
     have HB40:=hid (HBQ.out.only ho4 (by simp))
     have hll:=partSrc_snoc src n q j (k,v) HX.out
     have HM5:=hid (show (Qq (src.take j) n q).length+1≤maxLen from by
      have h1:(Qq (src.take j) n q).length≤(src.take j).length:=List.length_filter_le _ _
      have h2:=HSL.out
      rw[List.length_take] at h1
      unfold maxLen;omega)
     have HM6:=hid (show ((Qq (src.take j) n q).length+1)*16≤140737488355328 from by
      have h1:(Qq (src.take j) n q).length≤(src.take j).length:=List.length_filter_le _ _
      have h2:=HSL.out
      rw[List.length_take] at h1
      omega)
     have HRN4:=hid ((Zg W4 [.int .i64 k,.int .i64 v] 36).drewN 1)
     have HOQ4:=hid (show ((W4.alloc (.cells #[.int .i64 k,.int .i64 v] 36)).drew).ownsRow wo.heap.size 36 2 (.slice pA (Qq (src.take j) n q).length pc) (Qq (src.take j) n q).length (Qd (Qq (src.take j) n q)) from ((Qe HOQ.out ho4 (by simp)).alloc _).drew)
     have HBS4:=hid (show wo.heap.size≤((W4.alloc (.cells #[.int .i64 k,.int .i64 v] 36)).drew).heap.size from Nat.le_trans (Nat.le_trans HB.out ho4.size) (Qg _ _))
     have hlpq:=HLPS.out q HQN.out
     have hl40:lp q<W4.heap.size:=Nat.lt_of_lt_of_le hlpq.2.2 (Nat.le_trans HB.out ho4.size)
     have hl4e:lp q≠wr.heap.size:=by have:=HB.out;have:=hlpq.2.2;omega
     have hl4l:ld<wr.heap.size:=by have:=HB.out;have:=hlpq.1;have:=hlpq.2.2;omega
     have v2a:=(HB40.out.alloc (.cells #[.int .i64 k,.int .i64 v] 36)).cell (i:=2) rfl
     have m2a:=hid (show ((W4.alloc (.cells #[.int .i64 k,.int .i64 v] 36)).drew).cell? ⟨ld,2,none⟩=some (.slice (some ⟨g,0,none⟩) n rc) from Qb m2 (.cells #[.int .i64 k,.int .i64 v] 36))
     have n0a:=hid (show ((W4.alloc (.cells #[.int .i64 k,.int .i64 v] 36)).drew).cell? ⟨g,q,none⟩=some (.pointer (some ⟨lp q,0,none⟩)) from Qb n0 (.cells #[.int .i64 k,.int .i64 v] 36))
     have z0a:=hid (show ((W4.alloc (.cells #[.int .i64 k,.int .i64 v] 36)).drew).cell? ⟨wr.heap.size,0,none⟩=some (.int .i64 k) from Qb z0 (.cells #[.int .i64 k,.int .i64 v] 36))
     have z1a:=hid (show ((W4.alloc (.cells #[.int .i64 k,.int .i64 v] 36)).drew).cell? ⟨wr.heap.size,1,none⟩=some (.int .i64 v) from Qb z1 (.cells #[.int .i64 k,.int .i64 v] 36))
     have HB4a:=hid (show Blk ((W4.alloc (.cells #[.int .i64 k,.int .i64 v] 36)).drew) (lp q) [.int .i64 0,.pointer (some ⟨xs q,0,none⟩),.slice pA (Qq (src.take j) n q).length pc,.int .i64 0] 197 from HB40.out.alloc (.cells #[.int .i64 k,.int .i64 v] 36))
     have hpAl:∀k',(Value.slice pA (Qq (src.take j) n q).length pc).ownBlock=some k'→wo.heap.size≤k'∧k'<wr.heap.size:=fun k' hk'=>HOQ.out.lt k' hk'
     have HPAL:=hid hpAl
     have hne1:(Value.slice pA (Qq (src.take j) n q).length pc).ownBlock≠some ld:=fun e=>by have:=(HPAL.out _ e).1;have:=hlpq.1;have:=hlpq.2.2;omega
     have hne2:(Value.slice pA (Qq (src.take j) n q).length pc).ownBlock≠some g:=fun e=>by have:=(HPAL.out _ e).1;have:=HGWO.out;omega
     have hne3:(Value.slice pA (Qq (src.take j) n q).length pc).ownBlock≠some wr.heap.size:=fun e=>by have:=(HPAL.out _ e).2;omega
     have hne4:(Value.slice pA (Qq (src.take j) n q).length pc).ownBlock≠some (lp q):=fun e=>by have:=(HPAL.out _ e).1;have:=hlpq.2.2;omega
     have HNE1:=hid hne1;have HNE2:=hid hne2;have HNE3:=hid hne3;have HNE4:=hid hne4
     have HLPQ:=hid hlpq;have HL4E:=hid hl4e
     clear hW4 ho4 hbp e2 p0 hpAl hne1 hne2 hne3 hne4 ho hll hl4e
     refine wp_region_held_drew (S:=(fun W=>W.cell? ⟨ld,2,none⟩=some (.slice (some ⟨g,0,none⟩) n rc)∧W.cell? ⟨g,q,none⟩=some (.pointer (some ⟨lp q,0,none⟩))∧W.cell? ⟨wr.heap.size,0,none⟩=some (.int .i64 k)∧W.cell? ⟨wr.heap.size,1,none⟩=some (.int .i64 v))) (by kernel_rfl) ?_ (fun hHeld=>?_)
     ·exact⟨m2,n0,z0,z1⟩
     refine tk 0 ?_
     refine tk 1 ?_
     refine tk 2 ?_
     refine tk 3 ?_
     refine tk 4 ?_
     refine tk 5 ?_
     refine tk 6 ?_
     refine tk 7 ?_
     refine tk 8 ?_
     refine tk 9 ?_
     refine tk 10 ?_
     refine tk 11 ?_
     refine tk 12 ?_
     refine tk 13 ?_
     refine tk 14 ?_
     refine tk 15 ?_
     refine tk 17 ?_
     refine on2 16 18 (fun K hK=>?_) (fun K hK=>?_)
     go_simp
     refine hK.out _ _ ⟨m2,n0,z0,z1⟩ (fun hHeld=>?_)
     clear hK K
     try simp only[sp]
     refine on1 18 (fun K hK=>?_)
     go_simp
     refine hK.out _ _ ⟨Qb m2 _,Qb n0 _,Qb z0 _,Qb z1 _⟩ (fun hHeld=>?_)
     clear hK K
     try simp only[sp]
     refine on1 19 (fun K hK=>?_)
     refine Zb rfl (.tmp 74) (.tmp 76) rfl elemPair rfl HOQ4.out _ 1 _ [.int .i64 k,.int .i64 v] rfl HRN4.out rfl (by simp[Value.oneCell']) HM5.out HM6.out HBS4.out (fun e=>by cases e) ?_;intro v5 w5 hown5 hg5 hat5;obtain⟨A5,c5,rfl,_,_⟩:=Qc hown5;have hg5':World.grownBy ((W4.alloc (.cells #[.int .i64 k,.int .i64 v] 36)).drew) w5 (Value.slice pA (Qq (src.take j) n q).length pc).ownBlock:=hg5;have y1:=cell_far5 m2a.out hg5' HNE1.out;have y2:=cell_far5 n0a.out hg5' HNE2.out;have y3:=cell_far5 z0a.out hg5' HNE3.out;have y4:=cell_far5 z1a.out hg5' HNE3.out;have hb5:=Qm HB4a.out hg5' HNE4.out;have u2:=hb5.cell (i:=2) rfl;have uf:=hb5.frozen;have HB5:=hid hb5;have HOWN6:=hid hown5;have HG5:=hid hg5';have HAT5:=hid (show (Value.slice A5 ((Qq (src.take j) n q).length+1) c5).ownBlock=(Value.slice pA (Qq (src.take j) n q).length pc).ownBlock∨(Value.slice A5 ((Qq (src.take j) n q).length+1) c5).ownBlock=some ((W4.alloc (.cells #[.int .i64 k,.int .i64 v] 36)).drew).heap.size from hat5);have hsl:Only [lp q] w5 (w5.setCell ⟨lp q,2,none⟩ (.slice A5 ((Qq (src.take j) n q).length+1) c5)):=((Only.refl _ _).setCell (.inl (by simp)) _);clear hb5 hown5 hg5 hat5
     refine hK.out _ _ ⟨y1,y2,y3,y4⟩ (fun hHeld=>?_)
     clear hK K
     try simp only[sp]
     refine tk 20 ?_
     refine tk 21 ?_
     refine on1 22 (fun K hK=>?_)
     go_simp
     refine hK.out _ _ ⟨Qa hsl y1 (by have:=HLPQ.out;simp;omega),Qa hsl y2 (by have:=HLPQ.out;simp;omega),Qa hsl y3 (by have:=HL4E.out;simp;omega),Qa hsl y4 (by have:=HL4E.out;simp;omega)⟩ (fun hHeld=>?_)
     clear hK K
     try simp only[sp]
     refine wpAnyH_done (by kernel_rfl) ?_ _
     rotate_left 1
     go_simp
     refine hK.out _ _ ⟨Qb m2 _,Qb n0 _,Qb z0 _,Qb z1 _⟩ (fun hHeld=>?_)
     clear hK K
     try simp only[sp]
     refine on1 16 (fun K hK=>?_)
     go_simp
     refine hK.out _ _ ⟨Qb m2 _,Qb n0 _,Qb z0 _,Qb z1 _⟩ (fun hHeld=>?_)
     clear hK K
     try simp only[sp]
     refine on1 19 (fun K hK=>?_)
     refine Zb rfl (.tmp 74) (.tmp 76) rfl elemPair rfl HOQ4.out _ 1 _ [.int .i64 k,.int .i64 v] rfl HRN4.out rfl (by simp[Value.oneCell']) HM5.out HM6.out HBS4.out (fun e=>by cases e) ?_;intro v5 w5 hown5 hg5 hat5;obtain⟨A5,c5,rfl,_,_⟩:=Qc hown5;have hg5':World.grownBy ((W4.alloc (.cells #[.int .i64 k,.int .i64 v] 36)).drew) w5 (Value.slice pA (Qq (src.take j) n q).length pc).ownBlock:=hg5;have y1:=cell_far5 m2a.out hg5' HNE1.out;have y2:=cell_far5 n0a.out hg5' HNE2.out;have y3:=cell_far5 z0a.out hg5' HNE3.out;have y4:=cell_far5 z1a.out hg5' HNE3.out;have hb5:=Qm HB4a.out hg5' HNE4.out;have u2:=hb5.cell (i:=2) rfl;have uf:=hb5.frozen;have HB5:=hid hb5;have HOWN6:=hid hown5;have HG5:=hid hg5';have HAT5:=hid (show (Value.slice A5 ((Qq (src.take j) n q).length+1) c5).ownBlock=(Value.slice pA (Qq (src.take j) n q).length pc).ownBlock∨(Value.slice A5 ((Qq (src.take j) n q).length+1) c5).ownBlock=some ((W4.alloc (.cells #[.int .i64 k,.int .i64 v] 36)).drew).heap.size from hat5);have hsl:Only [lp q] w5 (w5.setCell ⟨lp q,2,none⟩ (.slice A5 ((Qq (src.take j) n q).length+1) c5)):=((Only.refl _ _).setCell (.inl (by simp)) _);clear hb5 hown5 hg5 hat5
     refine hK.out _ _ ⟨y1,y2,y3,y4⟩ (fun hHeld=>?_)
     clear hK K
     try simp only[sp]
     refine tk 20 ?_
     refine tk 21 ?_
     refine on1 22 (fun K hK=>?_)
     go_simp
     refine hK.out _ _ ⟨Qa hsl y1 (by have:=HLPQ.out;simp;omega),Qa hsl y2 (by have:=HLPQ.out;simp;omega),Qa hsl y3 (by have:=HL4E.out;simp;omega),Qa hsl y4 (by have:=HL4E.out;simp;omega)⟩ (fun hHeld=>?_)
     clear hK K
     try simp only[sp]
     refine wpAnyH_done (by kernel_rfl) ?_ _
     all_goals (try go_wp2_with fail)
     all_goals
      have ho5:Only ((Value.slice pA (Qq (src.take j) n q).length pc).ownBlock.toList) wr w5:=((HO4.out.mono (by simp)).trans (((((Only.refl [] W4).alloc _).drew').mono (by simp)).grown HG5.out (fun k' hk'=>.inr (by rw[hk'];simp))))
      obtain⟨W6,hW6⟩:∃W6,w5.setCell ⟨lp q,2,none⟩ (.slice A5 ((Qq (src.take j) n q).length+1) c5)=W6:=⟨_,rfl⟩
      rw[hW6]
      have hs6:Only [lp q] w5 W6:=by rw[←hW6];exact (Only.refl _ _).setCell (.inl (by simp)) _
      have hbq6:Blk W6 (lp q) [.int .i64 0,.pointer (some ⟨xs q,0,none⟩),.slice A5 ((Qq (src.take j) n q).length+1) c5,.int .i64 0] 197:=by rw[←hW6];exact HB5.out.set 2 _
      have ho6:Only (lp q :: (Value.slice pA (Qq (src.take j) n q).length pc).ownBlock.toList) wr W6:=(ho5.mono (by intro k' hk';simp[hk'])).trans (hs6.mono (by simp))
      have hown6:=Qe HOWN6.out hs6 (fun k' hk' e=>by have:=(HOWN6.out.lt k' hk').1;have:=HLPQ.out.2.2;simp at e;omega)
      have HO6:=hid ho6;have HBQ6:=hid hbq6;have HOWN7:=hid hown6;have HS6:=hid hs6
      clear hsl y1 y2 y3 y4 u2 uf hW6 hs6 hbq6 hown6 ho5 ho6 v2 v2a m2 n0 z0 z1
      go_roundg (src.length-(j+1))
      case measure=>omega
      case rel=>
       have hj1:wrap64 ((j:Int)+1)=(j:Int)+1:=IntWalk.wrap64_in ((j:Int)+1) (by have:=HSL.out;omega)
       have ho6:=HO6.out
       have hz:∀k'∈lp q :: (Value.slice pA (Qq (src.take j) n q).length pc).ownBlock.toList,k'=lp q∨(wo.heap.size≤k'∧(Value.slice pA (Qq (src.take j) n q).length pc).ownBlock=some k'):=fun k' hk'=>by
        rcases List.mem_cons.1 hk' with e|e
        ·exact .inl e
        ·exact .inr ⟨(HPAL.out k' (by simpa using e)).1,by simpa using e⟩
       have hlq:=HLPQ.out
       have hls:=HLL.out
       have hgw:=HGWO.out
       have hgd:=HG0.out
       have hl2:=HL2.out
       refine⟨j+1,fun i=>if i=q then .slice A5 ((Qq (src.take j) n q).length+1) c5 else pv i,hlt,by first|(go_num;done)|(rw[hj1];push_cast;rfl),rfl,HBD.out.only ho6 (fun e=>by rcases hz _ e with e|⟨e,_⟩ <;> omega),HBT.out.only ho6 (fun e=>by rcases hz _ e with e|⟨e,_⟩ <;> omega),fun i hi=>Qa ho6 (HGC.out i hi) (fun e=>by rcases hz _ e with e|⟨e,_⟩;exact hlq.2.1 e.symm;omega),fun i hi=>?_,fun a b ha hb hab k' hk'=>?_,((HO.out.mono (Y:=lp q :: (Value.slice pA (Qq (src.take j) n q).length pc).ownBlock.toList) (by simp)).trans ho6).fresh (fun k' hk' hl=>by rcases hz _ hk' with e|⟨e,_⟩ <;> omega),Nat.le_trans HB.out ho6.size⟩
       ·dsimp only
        have hsn:=partSrc_snoc src n i j (k,v) HX.out
        by_cases e:i=q
        ·subst e
         rw[if_pos rfl,hsn]
         dsimp only
         rw[if_pos HQ.out]
         refine⟨HBQ6.out,?_⟩
         rw[List.length_append]
         have:=HOWN7.out
         have hpp:Qd (Qq (src.take j) n i ++ [(k,v)])=Qd (Qq (src.take j) n i) ++ [.int .i64 k,.int .i64 v]:=by simp[Qd]
         rw[hpp]
         exact this
        ·rw[if_neg e,hsn]
         dsimp only
         rw[if_neg (fun h=>e (by have:=HQ.out;omega)),List.append_nil]
         obtain⟨h1,h2⟩:=HPV.out i hi
         have hlpi:=HLPS.out i hi
         refine⟨h1.only ho6 (fun m=>?_),Qe h2 ho6 (fun k' hk' m=>?_)⟩
         ·rcases hz _ m with m|⟨m,_⟩
          ·exact HLPD.out i q hi HQN.out e m
          ·omega
         ·rcases hz _ m with m|⟨_,m⟩
          ·have:=(h2.lt k' hk').1;omega
          ·refine HAP.out i q hi HQN.out e k' hk' ?_
           rw[HPE.out]
           exact m
       ·dsimp only at hk' ⊢
        have hnew:∀k',(Value.slice A5 ((Qq (src.take j) n q).length+1) c5).ownBlock=some k'→(pv q).ownBlock=some k'∨wr.heap.size≤k':=fun k' hk'=>by
         rcases HAT5.out with h|h
         ·rw[h] at hk'
          exact .inl (by rw[HPE.out];exact hk')
         ·rw[h] at hk'
          injection hk' with hk'
          have h1:=HO4.out.size
          have h2:=Qg W4 (.cells #[.int .i64 k,.int .i64 v] 36)
          have h3:((W4.alloc (.cells #[.int .i64 k,.int .i64 v] 36)).drew).heap.size=(W4.alloc (.cells #[.int .i64 k,.int .i64 v] 36)).heap.size:=rfl
          exact .inr (by omega)
        by_cases ea:a=q
        ·have eb:¬b=q:=fun e=>hab (ea.trans e.symm)
         rw[if_pos ea] at hk'
         rw[if_neg eb]
         rcases hnew k' hk' with h|h
         ·exact HAP.out q b HQN.out hb (fun e=>eb e.symm) k' h
         ·intro e;have:=((HPV.out b hb).2.lt k' e).2;omega
        ·rw[if_neg ea] at hk'
         by_cases eb:b=q
         ·rw[if_pos eb]
          intro e
          rcases hnew k' e with h|h
          ·exact HAP.out a q ha HQN.out ea k' hk' h
          ·have:=((HPV.out a ha).2.lt k' hk').2;omega
         ·rw[if_neg eb]
          exact HAP.out a b ha hb hab k' hk'
    ·have hjl:j=src.length:=by omega
     have HJL:=hid hjl
     clear hbd hbt hgc hpv hap ho hB hj hjl
     go_wp2_with fail
     go_ret
     have hpv:=HPV.out
     rw[HJL.out,List.take_length] at hpv
     exact⟨ld,lt,g,rc,lp,pv,wo.heap.size,rfl,HBD.out,HBT.out,HGC.out,hpv,⟨HL2.out,HLL.out,HG0.out⟩,HLPS.out,HLPD.out,HO.out⟩
structure SetupOk (n m sl le:Nat)(src:List (Int × Int)):Prop where
 hn:1≤n∧n≤64
 hm:1≤m∧m≤8
 hsl:1≤sl∧sl≤4096
 hle:1≤le∧le≤64
 few:src.length≤256
 keys:∀p∈src,Qt p.1=true
abbrev setupCells (n m sl le:Nat)(sA:Option Addr)(src:List (Int × Int))(sc:Nat)(f:Int):List Value:=[.int .i64 (n:Int),.int .i64 (m:Int),.int .i64 (sl:Int),.int .i64 (le:Int),.slice sA src.length sc,.int .i64 f]
def RtRel (w:World)(src:List (Int × Int))(k:Nat)(s41:Value)(wr:World):Prop:=
 ∃j:Nat,j≤src.length∧s41=.int .i64 (j:Int)∧k=src.length-j∧Only [] w wr
theorem rightG_any (w:World)(n m sl le:Nat)(sA:Option Addr)(src:List (Int × Int))(sc:Nat)(f:Int)(hok:SetupOk n m sl le src)(hrow:Row w sA (Qd src)):
  Calls prog 38 #[.agg (setupCells n m sl le sA src sc f).toArray] w fun e w'=>e=.returned (.bool true)∧Only [] w w':=by
 have hrow0:=hrow.alloc (.cells #[.int .i64 (n:Int),.int .i64 (m:Int),.int .i64 (sl:Int),.int .i64 (le:Int),.slice sA src.length sc,.int .i64 f] 31)
 have HO0:=hid ((Only.refl [] w).alloc (.cells #[.int .i64 (n:Int),.int .i64 (m:Int),.int .i64 (sl:Int),.int .i64 (le:Int),.slice sA src.length sc,.int .i64 f] 31))
 have hin:=fun n m a b W=>inRange_any n m a b W
 obtain⟨⟨n1,n2⟩,⟨m1,m2⟩,⟨sl1,sl2⟩,⟨le1,le2⟩,hsrc,hkeys⟩:=hok
 have hs2:¬((src.length:Int) > 256):=by omega
 have HIN:=hid hin;have HR:=hid hrow0;have HKEYS:=hid hkeys;have HS:=hid hsrc
 clear hrow hrow0 hin hkeys hsrc
 go_enter func38,ntmps38
 go_wp2_with (go_at_call 98;refine (HIN.out _ _ (by omega) (by omega) _).mono ?_;rintro e w' ⟨rfl,rfl⟩)
 obtain⟨W,hW⟩:∃W,w.alloc (.cells (setupCells n m sl le sA src sc f).toArray 31)=W:=⟨_,rfl⟩
 have HRW:=hid (show Row W sA (Qd src) from by rw[←hW];exact HR.out)
 have HOW:=hid (show Only [] w W from by rw[←hW];exact HO0.out)
 rw[hW]
 clear hW HR HO0
 go_loopg [41] src.length (fun k s41 wr=>RtRel W src k s41 wr)
 case atStart=>exact⟨0,Nat.zero_le _,rfl,rfl,Only.refl _ _⟩
 case round=>
  obtain⟨j,hj,rfl,rfl,ho⟩:=hrel
  have HO:=hid ho
  by_cases hlt:j<src.length
  ·have hlt':(j:Int)<src.length:=by omega
   obtain⟨⟨k,u⟩,hx⟩:∃x,src[j]?=some x:=⟨_,List.getElem?_eq_getElem hlt⟩
   obtain⟨pb,po,e,hk0,hk1⟩:=pair_cells (HRW.out.below ho.below) hx
   subst e
   have hkk:=keyB_range (HKEYS.out _ (List.mem_of_getElem? hx))
   dsimp only at hkk
   obtain⟨k1,k2⟩:=hkk
   have hk1':¬k<0:=by omega
   have hk2':¬k > 4294967295:=by omega
   have hj1:wrap64 ((j:Int)+1)=(j:Int)+1:=IntWalk.wrap64_in ((j:Int)+1) (by have:=HS.out;omega)
   have HJ1:=hid hj1
   clear hj1 hx hj ho k1 k2
   go_wp2_with fail
   go_roundg (src.length-(j+1))
   case measure=>omega
   case rel=>exact⟨j+1,hlt,by first|(rw[HJ1.out];rfl)|go_num,rfl,HO.out.alloc _⟩
  ·have hjl:j=src.length:=by omega
   have HJ:=hid hjl
   clear hjl
   go_wp2_with fail
   go_ret
   exact⟨rfl,HOW.out.trans HO.out⟩
theorem findL_app (a b:List (Int × Int))(k:Int):Qk (a ++ b) k=(Qk a k).or (Qk b k):=by
 induction a with
 |nil=>rfl
 |cons p a ih=>
  show (if p.1=k then some p.2 else Qk (a ++ b) k)=(if p.1=k then some p.2 else Qk a k).or (Qk b k)
  by_cases h:p.1=k
  ·rw[if_pos h,if_pos h];rfl
  ·rw[if_neg h,if_neg h,ih]
theorem findL_one (k v x:Int):Qk [(k,v)] x=if k=x then some v else none:=rfl
theorem putStep_find (key v:Int):∀(l:List (Int × Int)) (x:List (Int × Int) × Bool) (done:List (Int × Int)),Qk x.1 key=(if x.2 then some v else none)→(∀k,k≠key→Qk x.1 k=Qk done k) →
  Qk (l.foldl (Qy key v) x).1 key=(if (l.foldl (Qy key v) x).2 then some v else none)∧∀k,k≠key→Qk (l.foldl (Qy key v) x).1 k=Qk (done ++ l) k
 |[],x,done,h1,h2=>⟨h1,fun k hk=>by rw[List.append_nil];exact h2 k hk⟩
 |p :: l,x,done,h1,h2=>by
  have h:=putStep_find key v l (Qy key v x p) (done ++ [p]) ?_ ?_
  ·rw[List.append_assoc] at h
   exact h
  ·unfold Qy
   dsimp only
   rw[findL_app]
   by_cases hp:p.1=key
   ·rw[if_pos hp]
    by_cases hd:x.2=true
    ·rw[if_neg (by simp[hd]),h1,hd]
     simp[Qk]
    ·rw[if_pos ⟨by omega,by simpa using hd⟩,findL_app,h1]
     have hd':x.2=false:=by simpa using hd
     simp[hd',Qk,hp]
   ·rw[if_neg hp]
    by_cases hc:key≤p.1∧x.2=false
    ·rw[if_pos hc,findL_app,h1]
     simp[hc.1,hc.2,Qk,hp]
    ·rw[if_neg hc,h1]
     by_cases hd:x.2=true
     ·simp[hd,Qk,hp]
     ·have hd':x.2=false:=by simpa using hd
      have:¬key≤p.1:=fun e=>hc ⟨e,hd'⟩
      simp[hd',this,Qk,hp]
  ·intro k hk
   unfold Qy
   dsimp only
   rw[findL_app,findL_app]
   have e1:Qk (if key≤p.1∧x.2=false then x.1 ++ [(key,v)] else x.1) k=Qk done k:=by
    by_cases hc:key≤p.1∧x.2=false
    ·rw[if_pos hc,findL_app,h2 k hk,findL_one,if_neg (Ne.symm hk)]
     cases Qk done k <;> rfl
    ·rw[if_neg hc,h2 k hk]
   have e2:Qk (if p.1=key then [] else [p]) k=Qk [p] k:=by
    by_cases hp:p.1=key
    ·rw[if_pos hp]
     show none=(if p.1=k then some p.2 else none)
     rw[if_neg (by omega)]
    ·rw[if_neg hp]
   rw[e1,e2]
theorem findL_put (l:List (Int × Int))(k v x:Int):Qk (putL l k v) x=putF (Qk l) k v x:=by
 obtain⟨h1,h2⟩:=putStep_find k v l ([],false) [] rfl (fun _ _=>rfl)
 unfold putL putF
 generalize l.foldl (Qy k v) ([],false)=st at *
 obtain⟨out,done⟩:=st
 dsimp only at *
 by_cases hx:x=k
 ·subst hx
  rw[if_pos rfl]
  cases done with
  |true=>rw[if_pos rfl,h1];rfl
  |false=>
   rw[if_neg (by simp),findL_app,h1,findL_one,if_pos rfl]
   rfl
 ·rw[if_neg hx]
  cases done with
  |true=>rw[if_pos rfl,h2 x hx];rfl
  |false=>
   rw[if_neg (by simp),findL_app,h2 x hx,findL_one,if_neg (Ne.symm hx)]
   show (Qk l x).or none=_
   cases Qk l x <;> rfl
theorem findL_putF (l:List (Int × Int))(k v:Int):Qk (putL l k v)=putF (Qk l) k v:=funext (findL_put l k v)
theorem findL_drop (l:List (Int × Int))(k x:Int):Qk (dropL l k) x=if x=k then none else Qk l x:=by
 induction l with
 |nil=>simp[dropL,Qk]
 |cons p l ih=>
  unfold dropL at ih ⊢
  rw[List.filter_cons]
  by_cases hp:p.1=k
  ·rw[if_neg (by simp[hp]),ih]
   by_cases hx:x=k
   ·rw[if_pos hx,if_pos hx]
   ·rw[if_neg hx,if_neg hx]
    show _=if p.1=x then _ else _
    rw[if_neg (by omega)]
  ·rw[if_pos (by simp[hp])]
   show (if p.1=x then some p.2 else Qk (l.filter fun p=>decide (p.1≠k)) x)=_
   by_cases hpx:p.1=x
   ·rw[if_pos hpx,if_neg (by omega)]
    show _=if p.1=x then _ else _
    rw[if_pos hpx]
   ·rw[if_neg hpx,ih]
    by_cases hx:x=k
    ·rw[if_pos hx,if_pos hx]
    ·rw[if_neg hx,if_neg hx]
     show _=if p.1=x then _ else _
     rw[if_neg hpx]
theorem findL_dropF (l:List (Int × Int))(k:Int):Qk (dropL l k)=fun x=>if x=k then none else Qk l x:=funext (findL_drop l k)
def manyLStep (x:List (Int × Int) × Int)(p:Int × Int):List (Int × Int) × Int:=(putL x.1 p.1 p.2,x.2+if Qk x.1 p.1≠some p.2 then 1 else 0)
theorem manyL_find:∀(l:List (Int × Int)) (x:List (Int × Int) × Int) (y:(Int→Option Int) × Int),Qk x.1=y.1→x.2=y.2→Qk (l.foldl manyLStep x).1=(l.foldl manyStep y).1∧(l.foldl manyLStep x).2=(l.foldl manyStep y).2
 |[],_,_,h1,h2=>⟨h1,h2⟩
 |p :: l,x,y,h1,h2=>manyL_find l (manyLStep x p) (manyStep y p) (by unfold manyLStep manyStep;dsimp only;rw[findL_putF,h1]) (by unfold manyLStep manyStep;dsimp only;rw[h1,h2])
def srcL (l:List (Int × Int)):List (Int × Int):=l.foldl (fun m p=>putL m p.1 p.2) []
theorem srcL_find (l:List (Int × Int)):Qk (srcL l)=srcF l:=by
 have key:∀(l:List (Int × Int)) (m:List (Int × Int)) (f:Int→Option Int),Qk m=f→Qk (l.foldl (fun m p=>putL m p.1 p.2) m)=l.foldl (fun m p=>putF m p.1 p.2) f:=by
  intro l
  induction l with
  |nil=>intro m f h;exact h
  |cons p l ih=>
   intro m f h
   exact ih _ _ (by rw[findL_putF,h])
 exact key l [] _ rfl
def nd:Bool→Nat
 |true=>0
 |false=>1
theorem putStep_len1 (key v:Int):∀(l:List (Int × Int)) (x:List (Int × Int) × Bool),(l.foldl (Qy key v) x).1.length+nd (l.foldl (Qy key v) x).2≤x.1.length+nd x.2+l.length
 |[],x=>Nat.le_refl _
 |p :: l,x=>by
  have h:=putStep_len1 key v l (Qy key v x p)
  have h2:(Qy key v x p).1.length+nd (Qy key v x p).2≤x.1.length+nd x.2+1:=by
   obtain⟨xs,d⟩:=x
   unfold Qy
   dsimp only
   rw[List.length_append]
   by_cases hk:key≤p.1
   ·cases d
    ·simp[hk,nd]
     split <;> simp
    ·simp[hk,nd]
     split <;> simp
   ·cases d
    ·simp[hk,nd]
     split <;> simp
    ·simp[hk,nd]
     split <;> simp
  simp only[List.foldl_cons,List.length_cons]
  omega
theorem putL_len (l:List (Int × Int))(k v:Int):(putL l k v).length≤l.length+1:=by
 have h:=putStep_len1 k v l ([],false)
 unfold putL
 generalize l.foldl (Qy k v) ([],false)=st at *
 obtain⟨out,done⟩:=st
 cases done with
 |true=>
  simp[nd] at h ⊢
  omega
 |false=>
  simp[nd] at h ⊢
  omega
theorem dropL_len (l:List (Int × Int))(k:Int):(dropL l k).length≤l.length:=List.length_filter_le _ _
theorem manyL_len:∀(l:List (Int × Int)) (x:List (Int × Int) × Int),(l.foldl manyLStep x).1.length≤x.1.length+l.length
 |[],_=>Nat.le_refl _
 |p :: l,x=>by
  have h:=manyL_len l (manyLStep x p)
  have h2:(manyLStep x p).1.length≤x.1.length+1:=putL_len _ _ _
  simp only[List.foldl_cons,List.length_cons]
  omega
theorem srcL_len (l:List (Int × Int)):(srcL l).length≤l.length:=by
 have key:∀(l m:List (Int × Int)),(l.foldl (fun m p=>putL m p.1 p.2) m).length≤m.length+l.length:=by
  intro l
  induction l with
  |nil=>intro m;exact Nat.le_refl _
  |cons p l ih=>
   intro m
   have h1:=ih (putL m p.1 p.2)
   have h2:=putL_len m p.1 p.2
   simp only[List.foldl_cons,List.length_cons]
   omega
 have:=key l []
 simpa [srcL] using this
theorem ind_sum (x:Int):∀n:Nat,((List.range n).map fun (i:Nat)=>if x=(i:Int) then 1 else 0).sum≤1∧((n:Int)≤x→((List.range n).map fun (i:Nat)=>if x=(i:Int) then 1 else 0).sum=0)
 |0=>⟨by simp,by simp⟩
 |n+1=>by
  obtain⟨h1,h2⟩:=ind_sum x n
  rw[List.range_succ,List.map_append,List.sum_append]
  by_cases e:x=(n:Int)
  ·have:=h2 (by omega)
   refine⟨by simp only[List.map_cons,List.map_nil,List.sum_cons,List.sum_nil,if_pos e];omega,fun hc=>by omega⟩
  ·refine⟨by simp only[List.map_cons,List.map_nil,List.sum_cons,List.sum_nil,if_neg e];omega,fun hc=>?_⟩
   have:=h2 (by omega)
   simp only[List.map_cons,List.map_nil,List.sum_cons,List.sum_nil,if_neg e]
   omega
theorem parts_sum (f:Int × Int→Int)(n:Nat):∀l:List (Int × Int),((List.range n).map fun (i:Nat)=>(l.filter fun x=>decide (f x=(i:Int))).length).sum≤l.length
 |[]=>by
  have:∀r:List Nat,(r.map fun _=>0).sum=0:=by
   intro r
   induction r with
   |nil=>rfl
   |cons x r ih=>simp only[List.map_cons,List.sum_cons,ih]
  simp only[List.filter_nil,List.length_nil]
  rw[this]
  exact Nat.le_refl _
 |p :: l=>by
  have h:=parts_sum f n l
  have hi:=(ind_sum (f p) n).1
  have e:∀(r:List Nat),(r.map fun (i:Nat)=>((p :: l).filter fun x=>decide (f x=(i:Int))).length).sum=(r.map fun (i:Nat)=>(l.filter fun x=>decide (f x=(i:Int))).length).sum+(r.map fun (i:Nat)=>if f p=(i:Int) then 1 else 0).sum:=by
   intro r
   induction r with
   |nil=>rfl
   |cons i r ih=>
    simp only[List.map_cons,List.sum_cons,ih]
    have:((p :: l).filter fun x=>decide (f x=(i:Int))).length=(l.filter fun x=>decide (f x=(i:Int))).length+(if f p=(i:Int) then 1 else 0):=by
     rw[List.filter_cons]
     by_cases h:f p=(i:Int)
     ·simp[h]
     ·simp[h]
    omega
  rw[e]
  simp only[List.length_cons]
  omega
abbrev newPs (src:List (Int × Int))(n:Nat):List PlainS:=(List.range n).map fun i=>(srcL (Qq src n i),1)
abbrev mapOf (p:PlainS):MapS:=(Qk p.1,p.2)
theorem partSrc_len (src:List (Int × Int))(n i:Nat):(Qq src n i).length≤src.length:=List.length_filter_le _ _
theorem St.new {n m le:Nat}{N:Nat}{src:List (Int × Int)}{f:Int}(hok:SetupOk n m N le src)(hf:f≤0):St N n (StoreS.new n m N le src f) (List.replicate n []) ((newPs src n).map mapOf) (2*src.length+n) 0:=by
 have hmx:max f 0=0:=by omega
 have hsl:=hok.hsl
 have hown:owns (List.replicate n ([]:List Ver)) (StoreS.new n m N le src f).epoch=[]:=by
  unfold owns
  have:(List.replicate n ([]:List Ver)).flatMap vown=[]:=by
   rw[List.flatMap_eq_nil_iff]
   intro x hx
   rw[List.eq_of_mem_replicate hx]
   rfl
  rw[this]
  rfl
 refine⟨hsl.2,?_,by simp[StoreS.new],by simp[StoreS.new],by simp,by simp,?_,?_,rfl,rfl,Int.le_refl _,?_⟩
 ·rw[hown]
  exact PInv.new N hsl.1 (by omega)
 ·intro i C a vs mm hC ha hv hm
  have hvs:=List.mem_of_getElem? hv
  rw[List.eq_of_mem_replicate hvs]
  have hi:i<n:=by have:=(List.getElem?_eq_some_iff.1 hv).1;simpa using this
  simp only[StoreS.new,List.getElem?_map,List.getElem?_range hi,Option.map_some,Option.some.injEq,hmx] at ha
  simp only[StoreS.new,List.getElem?_replicate,if_pos hi,Option.some.injEq] at hC
  rw[List.getElem?_map,List.getElem?_map,List.getElem?_range hi] at hm
  simp only[Option.map_some,Option.some.injEq] at hm
  subst ha hC hm
  refine⟨rfl,Int.le_refl _,rfl,by simp,rfl,fun k=>?_,fun p hp=>?_,?_⟩
  ·show Qk (srcL (Qq src n i)) k=_
   rw[srcL_find]
   rfl
  ·exact keyB_range (hok.keys p (List.mem_filter.1 hp |>.1))
  ·exact Nat.le_trans (partSrc_len src n i) hok.few
 ·rw[hown]
  have h:=parts_sum (fun x=>Qu x.1 n) n src
  have key:∀r:List Nat,pend (r.map fun (p:Nat)=>(⟨0,src.filter (fun x=>decide (Qu x.1 n=(p:Int))),max f 0⟩:LPartS))=2*(r.map fun (i:Nat)=>(src.filter fun x=>decide (Qu x.1 n=(i:Int))).length).sum+r.length:=by
   intro r
   induction r with
   |nil=>rfl
   |cons i r ih=>
    unfold pend at ih ⊢
    simp only[List.map_cons,List.sum_cons,if_true,List.length_cons]
    rw[ih]
    omega
  have hk:=key (List.range n)
  rw[List.length_range] at hk
  show 0+pend ((List.range n).map _)≤_
  rw[hk]
  omega
 ·intro vs hvs
  rw[List.eq_of_mem_replicate hvs]
  intro v hv
  cases hv
theorem St.mono {N n:Nat}{X:StoreS}{V:List (List Ver)}{ms:List MapS}{B B':Nat}{G G':Int}(h:St N n X V ms B G)(hB:B≤B')(hG:G≤G'):St N n X V ms B' G':=
 {h with inv:=h.inv.later hG,size:=Nat.le_trans h.size hB}
structure SnapL where
 lease:Nat
 stamp:Int
 parts:List PlainS
 is:Bool
abbrev SnapL.s (s:SnapL):SnapS:=⟨s.lease,s.stamp,s.parts.map mapOf,s.is⟩
structure LawR (X:StoreS)(n le:Nat)(ps:List PlainS)(sn:List SnapL)(B j:Nat):Prop where
 ex:∃V,St 4096 n X V (ps.map mapOf) B (6000000*j)∧∀s∈sn,s.is=true→ShownIs V (ps.map mapOf) s.stamp (s.parts.map mapOf)
 snap:SnapsIs X.clock (sn.map SnapL.s)
 pairs:PairsOk X.loads
 num:∀p∈ps,1≤p.2∧p.2≤1+j
 size:∀p∈ps,p.1.length≤40+20*j
 parts:∀s∈sn,s.parts.length=n∧∀p∈s.parts,p.1.length≤40+20*j
 len:ps.length=n
 now:X.clock.now≤1+j
 time:X.epoch.now≤1+j
 few:sn.length≤j
 leases:X.clock.leases.length=le
section
variable {X:StoreS}{n le:Nat}{ps:List PlainS}{sn:List SnapL}{B B' j:Nat}
theorem LawR.stamps (h:LawR X n le ps sn B j){s:SnapL}(hs:s∈sn):1≤s.stamp∧s.stamp<X.clock.now:=h.snap.stamp s.s (List.mem_map.2 ⟨s,hs,rfl⟩)
theorem LawR.same (h:LawR X n le ps sn B j){X':StoreS}{V':List (List Ver)}{B1:Nat}{G1:Int}(hst:St 4096 n X' V' (ps.map mapOf) B1 G1)(hB:B1≤B')(hG:G1≤6000000*(j+1:Nat))(hsh:∀s∈sn,s.is=true→ShownIs V' (ps.map mapOf) s.stamp (s.parts.map mapOf))(hp:PairsOk X'.loads)(hc:X'.clock=X.clock)(he:X'.epoch.now≤1+(j+1:Nat)):
  LawR X' n le ps sn B' (j+1):=
 ⟨⟨V',hst.mono hB hG,hsh⟩,by rw[hc];exact h.snap,hp,fun p hp=>by have:=h.num p hp;omega,fun p hp=>by have:=h.size p hp;omega,fun s hs=>⟨(h.parts s hs).1,fun p hp=>by have:=(h.parts s hs).2 p hp;omega⟩,h.len,by rw[hc];have:=h.now;omega,he,by have:=h.few;omega,by rw[hc];exact h.leases⟩
theorem LawR.ready (Y:StoreL)(h:LawR X n le ps sn B j){i:Nat}(hi:i<n)(hB:B+36≤4096)(hj:j≤60):
  ∃X1 V1,ReadyP Y X i X1∧St 4096 n X1 V1 (ps.map mapOf) B (6000000*j+5000000)∧PairsOk X1.loads∧(∃v l,V1[i]?=some (v :: l))∧X1.clock=X.clock∧X1.epoch=X.epoch∧∀s∈sn,s.is=true→ShownIs V1 (ps.map mapOf) s.stamp (s.parts.map mapOf):=by
 obtain⟨V,hst,hsh⟩:=h.ex
 obtain⟨X1,V1,h1,h2,h3,h4,h5,h6,h7⟩:=readyP_is Y hst h.pairs hi hB (by unfold MaxTag;omega)
 exact⟨X1,V1,h1,h2,h3,h4,h5,h6,fun s hs hi=>(hsh s hs hi).ready h2 h7 (h.stamps hs).1⟩
theorem map_get {i:Nat}{p:PlainS}(hp:ps[i]?=some p):(ps.map mapOf)[i]?=some (mapOf p):=by rw[List.getElem?_map,hp];rfl
theorem LawR.lt (h:LawR X n le ps sn B j){i:Nat}{p:PlainS}(hp:ps[i]?=some p):i<n:=by rw[←h.len];exact (List.getElem?_eq_some_iff.1 hp).1
theorem LawR.get (Y:StoreL)(h:LawR X n le ps sn B j){i:Nat}{p:PlainS}(hp:ps[i]?=some p){k:Int}(h0:0≤k)(h1:k≤4294967295)(hB:B+36≤4096)(hB':B≤B')(hj:j≤60):
  ∃X',GetP Y X i k ⟨(Qk p.1 k).getD 0,(Qk p.1 k).isSome,p.2,false,0⟩ X'∧LawR X' n le ps sn B' (j+1):=by
 obtain⟨X1,V1,r1,r2,r3,⟨v,l,r4⟩,r5,r6,r7⟩:=h.ready Y (h.lt hp) hB hj
 exact⟨X1,getP_is Y r2 r4 (map_get hp) r1 h0 h1,h.same r2 hB' (by omega) r7 r3 r5 (by rw[r6];have:=h.time;omega)⟩
theorem LawR.see (Y:StoreL)(h:LawR X n le ps sn B j){i:Nat}{s:SnapL}(hs:s∈sn)(his:s.is=true){p:PlainS}(hp:s.parts[i]?=some p){k:Int}(h0:0≤k)(h1:k≤4294967295)(hB:B+36≤4096)(hB':B≤B')(hj:j≤60):
  ∃X' nd,SeeP Y X i s.stamp nd X'∧X'.pool.find nd.a k=some ((Qk p.1 k).getD 0,(Qk p.1 k).isSome)∧nd.b=p.2∧LawR X' n le ps sn B' (j+1):=by
 have hi:i<n:=by rw[←(h.parts s hs).1];exact (List.getElem?_eq_some_iff.1 hp).1
 obtain⟨X1,V1,r1,r2,r3,⟨v,l,r4⟩,r5,r6,r7⟩:=h.ready Y hi hB hj
 obtain⟨nd,q1,q2,q3⟩:=seeP_is Y r2 r4 (r7 s hs his) (m:=mapOf p) (by rw[List.getElem?_map,hp];rfl) r1 h0 h1
 exact⟨X1,nd,q1,q2,q3,h.same r2 hB' (by omega) r7 r3 r5 (by rw[r6];have:=h.time;omega)⟩
theorem LawR.write (Y:StoreL)(h:LawR X n le ps sn B j){i:Nat}{p:PlainS}(hp:ps[i]?=some p){f:Int→PoolS→Option ((Int ⊕ ChangeS) × PoolS)}{ok:Int→PoolS→Prop}{K:Nat}{D:Int}{told:ToldS}{m':Int→Option Int}{next:List (Int × Int)}
  (hf:Acts f K D (Qk p.1) (.inr (told,m'))) (hok:OkAt ok K D (Qk p.1)) (hB:B+36+K+1≤4096) (hB':B+K+1≤B') (hj:j≤60) (hK:K≤10000) (hD:0≤D∧D≤900000) (hnext:told.new=true→Qk next=m') (hln:next.length≤p.1.length+20):
  ∃X',WriteP Y X i f ok {told with number:=if told.new then p.2+1 else p.2} 0 X'∧LawR X' n le (if told.new then ps.set i (next,p.2+1) else ps) sn B' (j+1):=by
 have hnum:=h.num p (List.mem_of_getElem? hp)
 have hsz:=h.size p (List.mem_of_getElem? hp)
 obtain⟨X1,V1,r1,r2,r3,⟨v,l,r4⟩,r5,r6,r7⟩:=h.ready Y (h.lt hp) (by omega) hj
 have hw:=writeP_is Y r2 r4 (map_get hp) hf hok (by omega) (by unfold MaxTag;omega) r1 ⟨by show 0≤p.2;omega,by show p.2<_;omega⟩ hK
 dsimp only at hw
 obtain⟨X',w1,w2,w3,⟨w4,w5,w6,w7⟩|⟨w4,w5,u,w6,w7⟩⟩:=hw
 ·refine⟨X',?_,?_⟩
  ·rw[w4] at w5 ⊢;exact w5
  ·rw[w4]
   exact h.same w6 hB' (by omega) r7 (by rw[w3];exact r3) (by rw[w1,r5]) (by rw[w2,r6];have:=h.time;omega)
 ·refine⟨X',?_,?_⟩
  ·rw[w4] at w5 ⊢;exact w5
  ·rw[w4]
   have hms:(ps.map mapOf).set i (m',p.2+1)=(ps.set i (next,p.2+1)).map mapOf:=by
    rw[List.map_set]
    show _=(ps.map mapOf).set i (Qk next,p.2+1)
    rw[hnext w4]
   rw[hms] at w7
   refine⟨⟨_,w7.mono hB' (by omega),fun s hs hi=>?_⟩,by rw[w1,r5];exact h.snap,by rw[w3];exact r3,fun q hq=>?_,fun q hq=>?_,fun s hs=>⟨(h.parts s hs).1,fun p hp=>by have:=(h.parts s hs).2 p hp;omega⟩,by simpa using h.len,by rw[w1,r5];have:=h.now;omega,by rw[w2,r6];have:=h.time;omega,by have:=h.few;omega,by rw[w1,r5];exact h.leases⟩
   ·refine ShownIs.write (ms:=ps.map mapOf) r4 (by rw[w6,r5];exact (h.stamps hs).2) (fun k hk=>?_) (r7 s hs hi)
    rw[if_pos rfl,List.map_set,List.getElem?_set_ne (Ne.symm hk)]
   ·rcases List.mem_or_eq_of_mem_set hq with hq|rfl
    ·have:=h.num q hq;omega
    ·dsimp only;omega
   ·rcases List.mem_or_eq_of_mem_set hq with hq|rfl
    ·have:=h.size q hq;omega
    ·dsimp only;omega
theorem LawR.refuse (Y:StoreL)(h:LawR X n le ps sn B j){i:Nat}{p:PlainS}(hp:ps[i]?=some p){f:Int→PoolS→Option ((Int ⊕ ChangeS) × PoolS)}{ok:Int→PoolS→Prop}{K:Nat}{D:Int}{e:Int}
  (hf:Acts f K D (Qk p.1) (.inl e)) (he:e≠0) (hok:OkAt ok K D (Qk p.1)) (hB:B+36+K+1≤4096) (hB':B+K+1≤B') (hj:j≤60) (hK:K≤10000) (hD:0≤D∧D≤900000):
  ∃X',WriteP Y X i f ok ToldS.zero e X'∧LawR X' n le ps sn B' (j+1):=by
 have hnum:=h.num p (List.mem_of_getElem? hp)
 obtain⟨X1,V1,r1,r2,r3,⟨v,l,r4⟩,r5,r6,r7⟩:=h.ready Y (h.lt hp) (by omega) hj
 have hw:=writeP_is Y r2 r4 (map_get hp) hf hok (by omega) (by unfold MaxTag;omega) r1 ⟨by show 0≤p.2;omega,by show p.2<_;omega⟩ hK
 dsimp only at hw
 obtain⟨X',w1,w2,w3,w4,w5⟩:=hw he
 exact⟨X',w1,h.same w2 hB' (by omega) r7 (by rw[w5];exact r3) (by rw[w3,r5]) (by rw[w4,r6];have:=h.time;omega)⟩
theorem LawR.put (Y:StoreL)(h:LawR X n le ps sn B j){i:Nat}{p:PlainS}(hp:ps[i]?=some p){k v:Int}(h0:0≤k)(h1:k≤4294967295)(hv:Ql v)(hB:B+72≤4096)(hB':B+36≤B')(hj:j≤60){c:Bool}(hc:c=decide (Qk p.1 k≠some v)):
  ∃X',WriteP Y X i (putE k v) (PutOk k v) ⟨(Qk p.1 k).getD 0,(Qk p.1 k).isSome,if c then p.2+1 else p.2,c,0⟩ 0 X'∧LawR X' n le (if c then ps.set i (putL p.1 k v,p.2+1) else ps) sn B' (j+1):=by
 subst hc
 exact h.write Y hp (putE_acts h0 h1) (putOk_at h0 h1 hv) (by omega) (by omega) hj (by omega) (by omega) (fun _=>findL_putF _ _ _) (by have:=putL_len p.1 k v;omega)
theorem LawR.drop (Y:StoreL)(h:LawR X n le ps sn B j){i:Nat}{p:PlainS}(hp:ps[i]?=some p){k:Int}(h0:0≤k)(h1:k≤4294967295)(hB:B+72≤4096)(hB':B+36≤B')(hj:j≤60){c:Bool}(hc:c=(Qk p.1 k).isSome):
  ∃X',WriteP Y X i (dropE k) (DropOk k) ⟨(Qk p.1 k).getD 0,c,if c then p.2+1 else p.2,c,0⟩ 0 X'∧LawR X' n le (if c then ps.set i (dropL p.1 k,p.2+1) else ps) sn B' (j+1):=by
 subst hc
 cases hk:Qk p.1 k with
 |none=>exact h.write Y hp (next:=p.1) (dropE_none h0 h1 hk) (dropOk_at h0 h1) (by omega) (by omega) hj (by omega) (by omega) (fun e=>by cases e) (by omega)
 |some v=>exact h.write Y hp (dropE_some h0 h1 hk) (dropOk_at h0 h1) (by omega) (by omega) hj (by omega) (by omega) (fun _=>findL_dropF _ _) (by have:=dropL_len p.1 k;omega)
theorem LawR.swapNone (Y:StoreL)(h:LawR X n le ps sn B j){i:Nat}{p:PlainS}(hp:ps[i]?=some p){k o v:Int}(h0:0≤k)(h1:k≤4294967295)(hv:Ql v)(hB:B+72≤4096)(hB':B+36≤B')(hj:j≤60)(hk:Qk p.1 k=none):
  ∃X',WriteP Y X i (swapE k o v) (PutOk k v) ToldS.zero 122 X'∧LawR X' n le ps sn B' (j+1):=
 h.refuse Y hp (swapE_none h0 h1 hk) (by decide) (putOk_at h0 h1 hv) (by omega) (by omega) hj (by omega) (by omega)
theorem LawR.swapOther (Y:StoreL)(h:LawR X n le ps sn B j){i:Nat}{p:PlainS}(hp:ps[i]?=some p){k o v x:Int}(h0:0≤k)(h1:k≤4294967295)(hv:Ql v)(hB:B+72≤4096)(hB':B+36≤B')(hj:j≤60)(hk:Qk p.1 k=some x)(hx:x≠o):
  ∃X',WriteP Y X i (swapE k o v) (PutOk k v) ToldS.zero 162 X'∧LawR X' n le ps sn B' (j+1):=
 h.refuse Y hp (swapE_other h0 h1 hk hx) (by decide) (putOk_at h0 h1 hv) (by omega) (by omega) hj (by omega) (by omega)
theorem LawR.swapYes (Y:StoreL)(h:LawR X n le ps sn B j){i:Nat}{p:PlainS}(hp:ps[i]?=some p){k o v:Int}(h0:0≤k)(h1:k≤4294967295)(hv:Ql v)(hB:B+72≤4096)(hB':B+36≤B')(hj:j≤60)(hk:Qk p.1 k=some o){c:Bool}(hc:c=decide (o≠v)):
  ∃X',WriteP Y X i (swapE k o v) (PutOk k v) ⟨o,true,if c then p.2+1 else p.2,c,0⟩ 0 X'∧LawR X' n le (if c then ps.set i (putL p.1 k v,p.2+1) else ps) sn B' (j+1):=by
 subst hc
 by_cases e:o=v
 ·subst e
  have:=h.write Y hp (next:=p.1) (swapE_same h0 h1 hk) (putOk_at h0 h1 hv) (by omega) (by omega) (B':=B') hj (by omega) (by omega) (fun e=>by cases e) (by omega)
  simpa using this
 ·have:=h.write Y hp (swapE_put h0 h1 hk e) (putOk_at h0 h1 hv) (by omega) (by omega) (B':=B') hj (by omega) (by omega) (fun _=>findL_putF _ _ _) (by have:=putL_len p.1 k v;omega)
  simpa [e] using this
theorem LawR.many (Y:StoreL)(h:LawR X n le ps sn B j){i:Nat}{p:PlainS}(hp:ps[i]?=some p){l:List (Int × Int)}(hk:∀q∈l,0≤q.1∧q.1≤4294967295)(hv:∀q∈l,Ql q.2)(hl:l.length≤20)(hB:B+36*(1+l.length)+36≤4096)(hB':B+36*(1+l.length)≤B')(hj:j≤60)
  {x:List (Int × Int) × Int} (hx:l.foldl manyLStep (p.1,0)=x) {c:Bool} (hc:c=decide (x.2≠0)):
  ∃X',WriteP Y X i (manyE l) (ManyOk l) ⟨0,false,if c then p.2+1 else p.2,c,x.2⟩ 0 X'∧LawR X' n le (if c then ps.set i (x.1,p.2+1) else ps) sn B' (j+1):=by
 obtain⟨q1,q2⟩:=manyL_find l (p.1,0) (Qk p.1,0) rfl rfl
 have hlen:=manyL_len l (p.1,0)
 rw[hx] at q1 q2 hlen
 subst hc
 have ha:=manyE_acts (l:=l) (m:=Qk p.1) hk
 have hok:OkAt (ManyOk l) (34*l.length) (10000*l.length) (Qk p.1):=fun N S own G T hN h hn hG hi ho hd hsub hm=>manyOk_is hN h hn hG hi ho hd hsub hm hk hv
 rw[←q2] at ha
 exact h.write Y hp ha hok (by omega) (by omega) hj (by omega) (by omega) (fun _=>q1) (by dsimp only at hlen;omega)
end
section
variable {X:StoreS}{n le:Nat}{ps:List PlainS}{sn:List SnapL}{B B' j:Nat}
theorem TrimP.loads {X X2:StoreS}{i:Nat}{c:Int}(h:TrimP X i c X2):X2.loads=X.loads:=by
 obtain⟨_,C,S1,_,_,⟨_,_,rfl⟩|⟨_,_,_,_,_,_,_,rfl⟩⟩:=h <;> rfl
theorem LawR.trim (h:LawR X n le ps sn B j){i:Nat}(hi:i<n)(hB':B≤B'):∃c X',TrimP X i c X'∧LawR X' n le ps sn B' (j+1):=by
 obtain⟨V,hst,hsh⟩:=h.ex
 obtain⟨c,X',h1,h2⟩:=trimP_of hst hi
 obtain⟨c2,X2,V2,q1,q2,q3,q4,q5⟩:=trim_is hst hi
 rw[h2] at q1
 injection q1 with q1
 injection q1 with q0 q1
 subst q0 q1
 exact⟨c,X',h1,h.same q2 hB' (by omega) (fun s hs his=>q5 _ _ (least_le h.snap s.s (List.mem_map.2 ⟨s,hs,rfl⟩) his) (hsh s hs his)) (by rw[h1.loads];exact h.pairs) q3 (by rw[q4];have:=h.time;omega)⟩
theorem LawR.at0 (h:LawR X n le ps sn B j):X.epoch.at0=0:=by
 obtain⟨V,hst,_⟩:=h.ex
 exact hst.at0
theorem LawR.advance (h:LawR X n le ps sn B j)(hB':B≤B'):LawR {X with epoch:={X.epoch with now:=X.epoch.now+1}} n le ps sn B' (j+1):=by
 obtain⟨V,hst,hsh⟩:=h.ex
 exact h.same (advance_is hst).2 hB' (by omega) hsh h.pairs rfl (by dsimp only;have:=h.time;omega)
theorem LawR.collect (h:LawR X n le ps sn B j)(hB':B≤B'):∃r:Int × EpochS × PoolS,Go.Proofs.YteeefedoffplmaaGreat.collect X.epoch X.pool=some r∧X.epoch.list.length≤100000∧r.2.2.slots.length=X.pool.slots.length∧LawR {X with epoch:=r.2.1,pool:=r.2.2} n le ps sn B' (j+1):=by
 obtain⟨V,hst,hsh⟩:=h.ex
 obtain⟨c,X',q1,q2,q3,q4⟩:=collect_is hst
 have hl:X.epoch.list.length≤4096:=by
  have h1:=hst.inv.own_le
  simp only[owns,List.length_append,List.length_map] at h1
  omega
 unfold StoreS.collect at q1
 cases hc:Go.Proofs.YteeefedoffplmaaGreat.collect X.epoch X.pool with
 |none=>rw[hc] at q1;cases q1
 |some r=>
  rw[hc] at q1
  obtain⟨r1,r2,r3⟩:=r
  injection q1 with q1
  injection q1 with q0 q1
  subst q1
  exact⟨_,rfl,by omega,by have h1:=q2.inv.slots;have h2:=hst.inv.slots;dsimp only at h1 ⊢;omega,h.same q2 hB' (by omega) hsh h.pairs rfl (by rw[q4];have:=h.time;omega)⟩
theorem LawR.snapNone (h:LawR X n le ps sn B j)(hc:sn.countP (·.is)=le):X.clock.leases.findIdx? (fun x=>decide (x=0))=none:=by
 have h1:=(take_none h.snap).2 (by rw[List.countP_map,h.leases];exact hc)
 unfold ClockS.take at h1
 cases hf:X.clock.leases.findIdx? (·=0) with
 |none=>rfl
 |some i=>rw[hf] at h1;cases h1
theorem LawR.snapSome (h:LawR X n le ps sn B j)(hc:sn.countP (·.is)≠le)(hB':B≤B'):∃i:Nat,X.clock.leases.findIdx? (fun x=>decide (x=0))=some i∧i<le∧1≤X.clock.now ∧
  LawR {X with clock:=⟨X.clock.now+1,X.clock.leases.set i (X.clock.now+1)⟩} n le ps (sn ++ [⟨i,X.clock.now,ps,true⟩]) B' (j+1)∧∀s∈sn,s.stamp<X.clock.now∧(s.is=true→s.lease≠i):=by
 obtain⟨V,hst,hsh⟩:=h.ex
 obtain⟨i,q1,q2,q3,q4,q5⟩:=take_is h.snap hst.now (by rw[List.countP_map,h.leases];exact hc) (ps.map mapOf)
 have hf:X.clock.leases.findIdx? (fun x=>decide (x=0))=some i:=by
  unfold ClockS.take at q3
  cases hf:X.clock.leases.findIdx? (·=0) with
  |none=>rw[hf] at q3;cases q3
  |some k=>
   rw[hf] at q3
   injection q3 with q3
   injection q3 with q3 _
   have:k=i:=by omega
   subst this
   rfl
 have hst2:=(hst.clock (c:=⟨X.clock.now+1,X.clock.leases.set i (X.clock.now+1)⟩) (by dsimp only;omega)).mono hB' (show (6000000:Int)*j≤6000000*(j+1:Nat) by omega)
 have hnow:=h.now
 have hfew:=h.few
 refine⟨i,hf,by rw[←h.leases];exact q1,hst.now,⟨⟨V,hst2,fun s hs his=>?_⟩,?_,h.pairs,fun p hp=>by have:=h.num p hp;omega,fun p hp=>by have:=h.size p hp;omega,fun s hs=>?_,h.len,by dsimp only;omega,by have:=h.time;dsimp only;omega,by rw[List.length_append,List.length_singleton];omega,by rw[List.length_set];exact h.leases⟩,fun s hs=>q5 s.s (List.mem_map.2 ⟨s,hs,rfl⟩)⟩
 ·rcases List.mem_append.1 hs with hs|hs
  ·exact hsh s hs his
  ·obtain rfl:=List.mem_singleton.1 hs
   exact ShownIs.now hst (Int.le_refl _)
 ·rw[List.map_append]
  exact q4
 ·rcases List.mem_append.1 hs with hs|hs
  ·exact⟨(h.parts s hs).1,fun p hp=>by have:=(h.parts s hs).2 p hp;omega⟩
  ·obtain rfl:=List.mem_singleton.1 hs
   exact⟨h.len,fun p hp=>by have:=h.size p hp;omega⟩
theorem LawR.free (h:LawR X n le ps sn B j){a:Nat}{s:SnapL}(hs:sn[a]?=some s)(his:s.is=true)(hB':B≤B'):X.clock.leases[s.lease]?=some (s.stamp+1)∧s.stamp+1≠0 ∧
  LawR {X with clock:={X.clock with leases:=X.clock.leases.set s.lease 0}} n le ps (sn.set a {s with is:=false}) B' (j+1):=by
 obtain⟨V,hst,hsh⟩:=h.ex
 obtain⟨q1,q2,q3⟩:=free_is (j:=a) (s:=s.s) h.snap (by rw[List.getElem?_map,hs];rfl) his
 have hst2:=(hst.clock (c:=⟨X.clock.now,X.clock.leases.set s.lease 0⟩) (Int.le_refl _)).mono hB' (show (6000000:Int)*j≤6000000*(j+1:Nat) by omega)
 have hnow:=h.now
 have hfew:=h.few
 refine⟨q1,q2,⟨V,hst2,fun t ht hti=>?_⟩,?_,h.pairs,fun p hp=>by have:=h.num p hp;omega,fun p hp=>by have:=h.size p hp;omega,fun t ht=>?_,h.len,by dsimp only;omega,by have:=h.time;dsimp only;omega,by rw[List.length_set];omega,by rw[List.length_set];exact h.leases⟩
 ·rcases List.mem_or_eq_of_mem_set ht with ht|rfl
  ·exact hsh t ht hti
  ·cases hti
 ·rw[List.map_set]
  exact q3
 ·rcases List.mem_or_eq_of_mem_set ht with ht|rfl
  ·exact⟨(h.parts t ht).1,fun p hp=>by have:=(h.parts t ht).2 p hp;omega⟩
  ·have hm:=List.mem_of_getElem? hs
   exact⟨(h.parts s hm).1,fun p hp=>by have:=(h.parts s hm).2 p hp;omega⟩
theorem LawR.holds (h:LawR X n le ps sn B j){s:SnapL}(hs:s∈sn):holdsB X.clock s.lease s.stamp=s.is:=by
 have hm:s.s∈sn.map SnapL.s:=List.mem_map.2 ⟨s,hs,rfl⟩
 have h1:=h.snap.stamp _ hm
 have h2:=h.snap.lease _ hm
 unfold holdsB isB
 have e1:decide ((0:Int)≤(s.lease:Int))=true:=by simp
 have e2:decide ((s.lease:Int)<X.clock.leases.length)=true:=by
  have:s.lease<X.clock.leases.length:=h2
  simpa using this
 have e3:decide (1≤s.stamp)=true:=by simpa using h1.1
 rw[e1,e2,e3]
 simp only[Bool.true_and,Int.toNat_natCast]
 cases hi:s.is with
 |true=>simpa using h.snap.held _ hm hi
 |false=>simpa using h.snap.free _ hm hi
theorem LawR.new {m f:Nat}{src:List (Int × Int)}{g:Int}(hok:SetupOk n m 4096 le src)(hf:g≤0)(hs:src.length≤40)(hv:∀p∈src,Ql p.2):LawR (StoreS.new n m 4096 le src g) n le (newPs src n) [] (2*src.length+n) 0:=by
 refine⟨⟨_,St.new hok hf,by simp⟩,⟨by simp,by simp,by simp,by simp,by simp,fun x hx=>.inl ?_,?_⟩,fun a ha=>?_,fun p hp=>?_,fun p hp=>?_,(fun s hs=>by cases hs),(show ((List.range n).map _).length=n by rw[List.length_map,List.length_range]),(show (1:Int)≤1+(0:Nat) by omega),(show (1:Int)≤1+(0:Nat) by omega),Nat.le_refl _,(show (List.replicate le (0:Int)).length=le by rw[List.length_replicate])⟩
 ·have hx:x∈List.replicate le (0:Int):=hx
  rw[List.eq_of_mem_replicate hx]
 ·show 0=(List.replicate le (0:Int)).countP _
  rw[List.countP_eq_zero.2]
  intro x hx
  rw[List.eq_of_mem_replicate hx]
  simp
 ·have ha:a∈(List.range n).map fun (p:Nat)=>(⟨0,src.filter (fun x=>decide (Qu x.1 n=(p:Int))),max g 0⟩:LPartS):=ha
  obtain⟨i,_,rfl⟩:=List.mem_map.1 ha
  exact⟨by have:=partSrc_len src n i;unfold Qq at this;dsimp only;omega,fun p hp=>hv p (List.mem_filter.1 hp).1⟩
 ·obtain⟨i,_,rfl⟩:=List.mem_map.1 hp
  simp
 ·obtain⟨i,_,rfl⟩:=List.mem_map.1 hp
  have h1:=srcL_len (Qq src n i)
  have h2:=partSrc_len src n i
  dsimp only
  omega
end
end Go.Proofs.YteeefedoffplmaaGreat
