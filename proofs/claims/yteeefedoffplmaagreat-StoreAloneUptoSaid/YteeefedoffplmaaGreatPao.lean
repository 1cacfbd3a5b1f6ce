/- StoreAlone, part Pao: ClockOps, Getters, PartPut, StorePut. -/
import Derived.Test.YteeefedoffplmaaGreatPac
import Derived.Test.YteeefedoffplmaaGreatPah
import Derived.BigQuiet
import Derived.WalkMore
import Derived.Test.YteeefedoffplmaaGreatPan
import Derived.Test.YteeefedoffplmaaGreatPad
set_option linter.unusedSimpArgs false
set_option linter.unusedVariables false
set_option maxRecDepth 100000
set_option maxHeartbeats 51200000
namespace Go.Proofs.YteeefedoffplmaaGreat
open Go.RowKit Lib Go.Proofs.Tryz
def BgRel (C:ClockS)(w:World)(k:Nat)(i:Value)(wr:World):Prop:=
 ∃j:Nat,j≤C.leases.length∧i=.int .i64 (j:Int)∧k=C.leases.length-j∧(∀x∈C.leases.take j,decide (x=0)=false)∧w=wr
def begW (K:ClockL)(r:Option Nat)(w:World):World:=match r with|some i=>w.setCell ⟨K.lb,i,none⟩ (.int .i64 1)|none=>w
theorem begins_any (w:World)(K:ClockL)(C:ClockS)(h:ClockAt w K C):
  Calls prog 146 #[ptr K.cb,.pointer none] w fun e w'=>e=.returned (.int .i64 (idxI (C.leases.findIdx? fun x=>decide (x=0))))∧w'=begW K (C.leases.findIdx? fun x=>decide (x=0)) w:=by
 have H:=hid h
 have c1:w.cell? ⟨K.cb,1,none⟩=some (Qr K.lb C.leases.length):=h.c.cell rfl
 have hm:=h.most
 unfold ptr
 unfold Qr at c1
 clear h
 go_enter func146,ntmps146
 go_wp2_with fail
 go_loopg [11] C.leases.length (fun k i wr=>BgRel C w k i wr)
 case atStart=>exact⟨0,Nat.zero_le _,rfl,rfl,by simp,rfl⟩
 case round=>
  obtain⟨j,hj,rfl,rfl,hno,rfl⟩:=hrel
  have HNO:=hid hno
  clear hno
  by_cases hlt:j<C.leases.length
  ·obtain⟨x,hx⟩:∃x,C.leases[j]?=some x:=⟨_,List.getElem?_eq_getElem hlt⟩
   have hlt':(j:Int)<C.leases.length:=by omega
   have hcell:w.cell? ⟨K.lb,j,none⟩=some (.int .i64 x):=H.out.l.cell (by simp[Zc,hx])
   have hfz:w.frozen? ⟨K.lb,j,none⟩=false:=H.out.l.frozen _
   have HX:=hid hx
   clear hx
   by_cases hx0:x=0
   ·subst hx0
    have hcas:=atomCas K.lb j 0 w 1 hcell hfz
    clear hcell hfz
    go_wp2_with (first|(go_at_call 71;refine (Qx _).mono ?_;rintro e w' ⟨rfl,rfl⟩)|(go_at_call 135;refine hcas.mono ?_;rintro e w' ⟨rfl,rfl⟩))
    go_ret
    have hfi:=findIdx_some HNO.out HX.out (by simp)
    rw[hfi]
    exact⟨rfl,rfl⟩
   ·have HX0:=hid hx0
    have hcas:=atomCasMiss K.lb j x w 0 1 hx0 hcell hfz
    clear hx0 hcell hfz
    go_wp2_with (first|(go_at_call 71;refine (Qx _).mono ?_;rintro e w' ⟨rfl,rfl⟩)|(go_at_call 135;refine hcas.mono ?_;rintro e w' ⟨rfl,rfl⟩))
    go_roundg (C.leases.length-(j+1))
    case measure=>omega
    case rel=>exact⟨j+1,by omega,by go_num,rfl,by
     rw[Zd HX.out]
     intro y hy
     rcases List.mem_append.1 hy with hy|hy
     ·exact HNO.out y hy
     ·obtain rfl:=List.mem_singleton.1 hy
      simpa using HX0.out,rfl⟩
  ·have hjl:j=C.leases.length:=by omega
   have HJ:=hid hjl
   clear hjl
   go_wp2_with fail
   go_ret
   have hno:=HNO.out
   rw[HJ.out,List.take_length] at hno
   rw[findIdx_none hno]
   exact⟨rfl,rfl⟩
theorem ClockAt.setLease {w:World}{K:ClockL}{C:ClockS}(h:ClockAt w K C){i:Nat}(x:Int)(hx:0≤x∧x≤1099511627776):ClockAt (w.setCell ⟨K.lb,i,none⟩ (.int .i64 x)) K {C with leases:=C.leases.set i x}:=by
 refine⟨?_,?_,h.apart,by simpa using h.most,h.now,fun y hy=>?_⟩
 ·have:=h.c.other h.apart i (.int .i64 x)
  rw[List.length_set]
  exact this
 ·have:=h.l.set i (.int .i64 x)
  rw[show Zc (C.leases.set i x)=(Zc C.leases).set i (.int .i64 x) from by simp[Zc,List.map_set]]
  exact this
 ·rcases List.mem_or_eq_of_mem_set hy with hy|rfl
  ·exact h.ok y hy
  ·exact hx
theorem ClockAt.setNow {w:World}{K:ClockL}{C:ClockS}(h:ClockAt w K C)(x:Int)(hx:0≤x∧x≤1099511627776):ClockAt (w.setCell ⟨K.cb,0,none⟩ (.int .i64 x)) K {C with now:=x}:=
 ⟨h.c.set 0 _,h.l.other (Ne.symm h.apart) _ _,h.apart,h.most,hx,h.ok⟩
def snapV (l t:Int):Value:=.agg #[.int .i64 l,.int .i64 t]
theorem takeNone_any (w:World)(K:ClockL)(C:ClockS)(h:ClockAt w K C)(hn:C.leases.findIdx? (fun x=>decide (x=0))=none):
  Calls prog 77 #[ptr K.cb,.pointer none] w fun e w'=>e=.returned (.tuple #[snapV 0 0,.int .i64 132])∧Only [] w w':=by
 have hb:=Blk.new w [.int .i64 0,.int .i64 0] 75
 have hbg:=begins_any _ K C (h.only ((Only.refl [] w).alloc (.cells #[.int .i64 0,.int .i64 0] 75)) (by simp) (by simp))
 rw[hn] at hbg
 have r0:=hb.cell (i:=0) rfl
 have r1:=hb.cell (i:=1) rfl
 have rf:=hb.frozen
 have rlt:=hb.lt
 unfold snapV
 unfold idxI begW at hbg
 dsimp only at hbg
 unfold ptr at *
 clear h hn hb
 go_enter func77,ntmps77
 go_wp2_with fail
 go_step3
 go_wp2_with (go_at_call 146;refine hbg.mono ?_;rintro e w' ⟨rfl,rfl⟩)
 rw[Exit.noGoto_ret]
 exact bodyPost_ret (v:=.tuple #[.agg #[.int .i64 0,.int .i64 0],.int .i64 132]) (by simp[results,Tryz.results77,go_sem,r0,r1]) rfl ⟨rfl,(Only.refl [] w).alloc _⟩
theorem takeSome_any (w:World)(K:ClockL)(C:ClockS)(h:ClockAt w K C)(i:Nat)(hn:C.leases.findIdx? (fun x=>decide (x=0))=some i)(hs:C.now+1≤1099511627776):
  Calls prog 77 #[ptr K.cb,.pointer none] w fun e w'=>e=.returned (.tuple #[snapV i C.now,.int .i64 0])∧ClockAt w' K ⟨C.now+1,C.leases.set i (C.now+1)⟩∧Only [K.cb,K.lb] w w':=by
 have hil:i<C.leases.length:=(List.findIdx?_eq_some_iff_getElem.1 hn).1
 have hi0:C.leases[i]?=some 0:=by
  obtain⟨_,h2,_⟩:=List.findIdx?_eq_some_iff_getElem.1 hn
  rw[List.getElem?_eq_getElem hil,of_decide_eq_true h2]
 have hnow:=h.now
 obtain⟨w0,hw0⟩:∃w0,w.alloc (.cells #[.int .i64 0,.int .i64 0] 75)=w0:=⟨_,rfl⟩
 have ho0:Only [] w w0:=by rw[←hw0];exact (Only.refl _ _).alloc _
 have hb0:Blk w0 w.heap.size [.int .i64 0,.int .i64 0] 75:=by rw[←hw0];exact Blk.new w _ 75
 have h0:ClockAt w0 K C:=h.only ho0 (by simp) (by simp)
 have hcl:K.cb<w.heap.size:=h.c.lt
 have hll:K.lb<w.heap.size:=h.l.lt
 have hbg:=begins_any w0 K C h0
 rw[hn] at hbg
 obtain⟨w1,hw1⟩:∃w1,w0.setCell ⟨K.lb,i,none⟩ (.int .i64 1)=w1:=⟨_,rfl⟩
 have h1:ClockAt w1 K {C with leases:=C.leases.set i 1}:=by rw[←hw1];exact h0.setLease 1 (by omega)
 have hnw1:=clockNow w1 K _ h1
 obtain⟨w2,hw2⟩:∃w2,w1.setCell ⟨K.lb,i,none⟩ (.int .i64 (C.now+1))=w2:=⟨_,rfl⟩
 have h2:ClockAt w2 K ⟨C.now,C.leases.set i (C.now+1)⟩:=by
  rw[←hw2]
  have:=h1.setLease (i:=i) (C.now+1) (by omega)
  simpa using this
 have hst:=atomStore K.lb i 1 w1 (C.now+1) (h1.l.cell (by simp[Zc,hil])) (h1.l.frozen _)
 have hnw2:=clockNow w2 K _ h2
 have hcs:=atomCas K.cb 0 C.now w2 (C.now+1) (h2.c.cell rfl) (h2.c.frozen _)
 obtain⟨w3,hw3⟩:∃w3,w2.setCell ⟨K.cb,0,none⟩ (.int .i64 (C.now+1))=w3:=⟨_,rfl⟩
 have h3:ClockAt w3 K ⟨C.now+1,C.leases.set i (C.now+1)⟩:=by rw[←hw3];exact h2.setNow (C.now+1) (by omega)
 have ho3:Only [K.cb,K.lb] w w3:=by
  rw[←hw3,←hw2,←hw1]
  exact (((ho0.mono (by simp)).setCell (.inl (by simp)) _).setCell (.inl (by simp)) _).setCell (.inl (by simp)) _
 have hb3:Blk w3 w.heap.size [.int .i64 0,.int .i64 0] 75:=by
  rw[←hw3,←hw2,←hw1]
  exact ((hb0.other (by omega) _ _).other (by omega) _ _).other (by omega) _ _
 have c1:w1.cell? ⟨K.cb,1,none⟩=some (Qr K.lb C.leases.length):=by have:=h1.c.cell (i:=1) rfl;simpa using this
 rw[hw2] at hst
 rw[hw3] at hcs
 have r0:=hb3.cell (i:=0) rfl
 have r1:=hb3.cell (i:=1) rfl
 have rf:=hb3.frozen
 have rlt:=hb3.lt
 have hii:(i:Int)<(C.leases.length:Int):=by omega
 have hge:¬(i:Int)<0:=by omega
 have hmm:=h.most
 have H3:=hid h3;have HO3:=hid ho3;have HCL:=hid hcl;have HLL:=hid hll
 unfold idxI begW at hbg
 dsimp only at hbg
 rw[hw1] at hbg
 unfold snapV
 unfold Qr at c1
 unfold ptr at *
 dsimp only at hnw1 hnw2
 clear h hn hi0 ho0 hb0 h0 h1 h2 h3 ho3 hb3 hil hcl hll
 generalize C.now=now at *
 generalize C.leases.length=ln at *
 go_enter func77,ntmps77
 go_wp2_with fail
 go_step3
 go_wp2_with (first|(go_at_call 146;refine hbg.mono ?_;rintro e w' ⟨rfl,rfl⟩)|(go_at_call 60;first|(refine hnw1.mono ?_;rintro e w' ⟨rfl,rfl⟩)|(refine hnw2.mono ?_;rintro e w' ⟨rfl,rfl⟩))|(go_at_call 71;refine (Qx _).mono ?_;rintro e w' ⟨rfl,rfl⟩)|(go_at_call 100;refine hst.mono ?_;rintro e w' ⟨rfl,rfl⟩)|(go_at_call 135;refine hcs.mono ?_;rintro e w' ⟨rfl,rfl⟩))
 go_step3
 go_wp2_with (first|(go_at_call 146;refine hbg.mono ?_;rintro e w' ⟨rfl,rfl⟩)|(go_at_call 60;first|(refine hnw1.mono ?_;rintro e w' ⟨rfl,rfl⟩)|(refine hnw2.mono ?_;rintro e w' ⟨rfl,rfl⟩))|(go_at_call 71;refine (Qx _).mono ?_;rintro e w' ⟨rfl,rfl⟩)|(go_at_call 100;refine hst.mono ?_;rintro e w' ⟨rfl,rfl⟩)|(go_at_call 135;refine hcs.mono ?_;rintro e w' ⟨rfl,rfl⟩))
 rw[Exit.noGoto_ret]
 exact bodyPost_ret (v:=.tuple #[.agg #[.int .i64 (i:Int),.int .i64 now],.int .i64 0]) (by simp[results,Tryz.results77,go_sem,r0,r1,rf,rlt]) rfl ⟨rfl,H3.out.only (((Only.refl [w.heap.size] _).setCell (.inl (by simp)) _).setCell (.inl (by simp)) _) (by have:=HCL.out;simp;omega) (by have:=HLL.out;simp;omega),((HO3.out.mono (Y:=[w.heap.size,K.cb,K.lb]) (by simp)).trans ((((Only.refl [w.heap.size] _).setCell (.inl (by simp)) _).setCell (.inl (by simp)) _).mono (by simp))).fresh (fun k hk hl=>by
  simp at hk
  rcases hk with rfl|hk
  ·omega
  ·simpa using hk)⟩
def isB (C:ClockS)(l:Int):Bool:=decide (0≤l) && decide (l<C.leases.length)
theorem is_any (w:World)(K:ClockL)(C:ClockS)(h:ClockAt w K C)(l:Int):
  Calls prog 162 #[ptr K.cb,.int .i64 l] w fun e w'=>e=.returned (.bool (isB C l))∧w=w':=by
 have c1:w.cell? ⟨K.cb,1,none⟩=some (Qr K.lb C.leases.length):=h.c.cell rfl
 unfold ptr
 unfold Qr at c1
 unfold isB
 clear h
 generalize C.leases.length=n at *
 by_cases h0:0≤l
 ·by_cases h1:l<(n:Int)
  ·go_enter func162,ntmps162
   go_wp2_with fail
   go_ret
   simp[h0,h1]
  ·go_enter func162,ntmps162
   go_wp2_with fail
   go_ret
   simp[h0,h1]
 ·have h1:¬0≤l:=h0
  go_enter func162,ntmps162
  go_wp2_with fail
  go_ret
  refine⟨ret_bool ?_,rfl⟩
  rw[decide_eq_false (show ¬0≤l by omega),Bool.false_and]
theorem release_any (w:World)(K:ClockL)(C:ClockS)(h:ClockAt w K C)(i:Nat)(x:Int)(hi:C.leases[i]?=some x)(hx:x≠0):
  Calls prog 94 #[ptr K.cb,.pointer none,.int .i64 (i:Int)] w fun e w'=>e=.returned (.int .i64 0)∧ClockAt w' K {C with leases:=C.leases.set i 0}∧Only [K.cb,K.lb] w w':=by
 have hil:=(List.getElem?_eq_some_iff.1 hi).1
 have hisB:isB C i=true:=by unfold isB;simp;omega
 have hi':=is_any w K C h i
 rw[hisB] at hi'
 have c1:w.cell? ⟨K.cb,1,none⟩=some (Qr K.lb C.leases.length):=h.c.cell rfl
 have hsw:=atomSwap K.lb i x w 0 (h.l.cell (by simp[Zc,hi])) (h.l.frozen _)
 have h2:=h.setLease (i:=i) 0 (by omega)
 have ho:Only [K.cb,K.lb] w (w.setCell ⟨K.lb,i,none⟩ (.int .i64 0)):=(Only.refl _ _).setCell (.inl (by simp)) _
 have H2:=hid h2;have HO:=hid ho
 have hq:(x == 0)=false:=by simpa using hx
 have hii:(i:Int)<(C.leases.length:Int):=by omega
 have hmm:=h.most
 unfold ptr at *
 unfold Qr at c1
 clear h hi hx h2 ho hisB hil
 generalize C.leases.length=n at *
 go_enter func94,ntmps94
 go_wp2_with (first|(go_at_call 71;refine (Qx _).mono ?_;rintro e w' ⟨rfl,rfl⟩)|(go_at_call 162;refine hi'.mono ?_;rintro e w' ⟨rfl,rfl⟩)|(go_at_call 163;refine hsw.mono ?_;rintro e w' ⟨rfl,rfl⟩))
 go_ret
 exact⟨rfl,H2.out,HO.out⟩
def holdsB (C:ClockS)(l t:Int):Bool:=isB C l && decide (1≤t) && decide (C.leases[l.toNat]?=some (t+1))
theorem holdsNo_any (w:World)(K:ClockL)(C:ClockS)(h:ClockAt w K C)(l t:Int)(hl:isB C l=false):
  Calls prog 147 #[ptr K.cb,.pointer none,snapV l t] w fun e w'=>e=.returned (.bool false)∧Only [] w w':=by
 have hi:=fun W (ho:Only [] w W)=>is_any W K C (h.only ho (by simp) (by simp)) l
 rw[hl] at hi
 have hb:=Blk.new w [.int .i64 l,.int .i64 t] 75
 have r0:=hb.cell (i:=0) rfl
 have r1:=hb.cell (i:=1) rfl
 have HI:=hid hi
 have ho1:Only [] w (w.alloc (.cells #[.int .i64 l,.int .i64 t] 75)):=(Only.refl _ _).alloc _
 have HO1:=hid ho1
 unfold snapV
 unfold ptr at *
 clear h hl hb hi ho1
 go_enter func147,ntmps147
 go_wp2_with (first|(go_at_call 71;refine (Qx _).mono ?_;rintro e w' ⟨rfl,rfl⟩))
 go_quiet ((go_at_call 162;exact Calls.quiet_of_same ((HI.out _ (HO1.out.drewN _)).mono fun _ _ h=>⟨h.1,h.2.symm⟩)))
 try go_wp2_with fail
 go_ret
 exact⟨rfl,HO1.out.drewN _⟩
theorem holdsLow_any (w:World)(K:ClockL)(C:ClockS)(h:ClockAt w K C)(l t:Int)(hl:isB C l=true)(ht:¬1≤t):
  Calls prog 147 #[ptr K.cb,.pointer none,snapV l t] w fun e w'=>e=.returned (.bool false)∧Only [] w w':=by
 have hi:=fun W (ho:Only [] w W)=>is_any W K C (h.only ho (by simp) (by simp)) l
 rw[hl] at hi
 have hb:=Blk.new w [.int .i64 l,.int .i64 t] 75
 have r0:=hb.cell (i:=0) rfl
 have r1:=hb.cell (i:=1) rfl
 have HI:=hid hi
 have ho1:Only [] w (w.alloc (.cells #[.int .i64 l,.int .i64 t] 75)):=(Only.refl _ _).alloc _
 have HO1:=hid ho1
 have hd:decide (t≥1)=false:=decide_eq_false ht
 unfold snapV
 unfold ptr at *
 clear h hl hb hi ho1 ht
 go_enter func147,ntmps147
 go_wp2_with (first|(go_at_call 71;refine (Qx _).mono ?_;rintro e w' ⟨rfl,rfl⟩))
 go_quiet ((go_at_call 162;exact Calls.quiet_of_same ((HI.out _ (HO1.out.drewN _)).mono fun _ _ h=>⟨h.1,h.2.symm⟩)))
 try go_wp2_with fail
 go_ret
 exact⟨rfl,HO1.out.drewN _⟩
theorem holdsIn_any (w:World)(K:ClockL)(C:ClockS)(h:ClockAt w K C)(i:Nat)(x t:Int)(hx:C.leases[i]?=some x)(ht:1≤t)(b:Bool)(hb:decide (x-1=t)=b):
  Calls prog 147 #[ptr K.cb,.pointer none,snapV i t] w fun e w'=>e=.returned (.bool b)∧Only [] w w':=by
 have hil:=(List.getElem?_eq_some_iff.1 hx).1
 have hisB:isB C i=true:=by unfold isB;simp;omega
 have hi:=fun W (ho:Only [] w W)=>is_any W K C (h.only ho (by simp) (by simp)) i
 rw[hisB] at hi
 have hbk:=Blk.new w [.int .i64 (i:Int),.int .i64 t] 75
 have r0:=hbk.cell (i:=0) rfl
 have r1:=hbk.cell (i:=1) rfl
 have ho1:Only [] w (w.alloc (.cells #[.int .i64 (i:Int),.int .i64 t] 75)):=(Only.refl _ _).alloc _
 have c1:(w.alloc (.cells #[.int .i64 (i:Int),.int .i64 t] 75)).cell? ⟨K.cb,1,none⟩=some (Qr K.lb C.leases.length):=(h.c.only ho1 (by simp)).cell rfl
 have hld:=fun W (ho:Only [] w W)=>Zf K.lb i x W ((h.l.only ho (by simp)).cell (i:=i) (by simp[Zc,hx]))
 have hxo:=h.ok x (List.mem_of_getElem? hx)
 have hwr:IntKind.i64.wrap (x-1)=x-1:=IntWalk.i64_in (x-1) (by omega)
 have HI:=hid hi;have HLD:=hid hld;have HO1:=hid ho1;have HB:=hid hb
 have hd:decide (t≥1)=true:=decide_eq_true ht
 have hq:(x-1 == t)=b:=by rw[←hb];by_cases h:x-1=t <;> simp[h]
 have hii:(i:Int)<(C.leases.length:Int):=by omega
 have hii0:(0:Int)≤(i:Int):=by omega
 have hmm:=h.most
 unfold snapV
 unfold ptr at *
 unfold Qr at c1
 clear h hx hbk hi ho1 ht hisB hil hld hb
 generalize C.leases.length=n at *
 go_enter func147,ntmps147
 go_wp2_with (first|(go_at_call 71;refine (Qx _).mono ?_;rintro e w' ⟨rfl,rfl⟩))
 go_quiet (first|(go_at_call 162;exact Calls.quiet_of_same ((HI.out _ (HO1.out.drewN _)).mono fun _ _ h=>⟨h.1,h.2.symm⟩))|(go_at_call 51;exact Calls.quiet_of_same ((HLD.out _ (HO1.out.drewN _)).mono fun _ _ h=>⟨h.1,h.2.symm⟩)))
 try go_wp2_with fail
 go_ret
 exact⟨rfl,HO1.out.drewN _⟩
theorem holdsC_any (w:World)(K:ClockL)(C:ClockS)(h:ClockAt w K C)(l t:Int):
  Calls prog 147 #[ptr K.cb,.pointer none,snapV l t] w fun e w'=>e=.returned (.bool (holdsB C l t))∧Only [] w w':=by
 unfold holdsB
 cases hl:isB C l with
 |false=>exact holdsNo_any w K C h l t hl
 |true=>
  by_cases ht:1≤t
  ·have hl':=hl
   unfold isB at hl'
   simp only[Bool.and_eq_true,decide_eq_true_eq] at hl'
   obtain⟨i,rfl⟩:∃i:Nat,l=(i:Int):=⟨l.toNat,by omega⟩
   have hil:i<C.leases.length:=by omega
   have hx:C.leases[i]?=some C.leases[i]:=List.getElem?_eq_getElem hil
   refine holdsIn_any w K C h i C.leases[i] t hx ht _ ?_
   rw[decide_eq_true ht,Int.toNat_natCast,hx]
   simp only[Bool.true_and,Option.some.injEq]
   by_cases e:C.leases[i] - 1=t
   ·rw[decide_eq_true e,decide_eq_true (by omega)]
   ·rw[decide_eq_false e,decide_eq_false (by omega)]
  ·rw[decide_eq_false ht]
   exact holdsLow_any w K C h l t hl ht
end Go.Proofs.YteeefedoffplmaaGreat
namespace Go.Proofs.YteeefedoffplmaaGreat
open Lib Go.Proofs.Tryz
open Go.RowKit
theorem retiredStep {w:World}{Y:StoreL}{ed:Option Nat}{D:Nat→List Nat}{X:StoreS}{w':World}{E':EpochS}{ed':Option Nat}(h:StoreIn w Y ed D X)(he:EpochAt w' Y.eb Y.pool.pb Y.base ed' E')(ho:Only (Y.eb :: ed.toList) w w')(hed:ed'=ed∨∃g,ed'=some g∧w.heap.size≤g):StoreIn w' Y ed' D {X with epoch:=E'}∧Moves Y (Qw Y ed D) (Qw Y ed' D) w w':=by
 obtain⟨lv,hb,hown,hlv⟩:=he.ex
 exact⟨h.epochStep ho he hed (fun k e=>(hown.lt k (hlv.trans e)).2),h.epochMoves ho hed⟩
theorem Moves.fix {Y:StoreL}{dy dy':Nat→Prop}{w w':World}(hm:Moves Y dy dy' w w')(hd:∀k,dy k→Y.base≤k){b i:Nat}{v:Value}(h:w.cell? ⟨b,i,none⟩=some v)(hb:Y.is b 0):w'.cell? ⟨b,i,none⟩=some v:=by
 have:=hm.block b (cell_lt h) (fun e=>e.2 hb.2) (fun e=>by have:=hd b e;have:=hb.1;omega)
 simp only[World.cell?] at h ⊢
 rw[this]
 exact h
end Go.Proofs.YteeefedoffplmaaGreat
/- A store's Pool, Clock, Epoch, Parts, Chain; Advance, Collect. Conditions: the store lies in memory; nobody is within. -/
namespace Go.Proofs.YteeefedoffplmaaGreat
open Lib Go.Proofs.Tryz
open Go.RowKit
theorem getPool (w:World)(Y:StoreL)(hf:Fixed w Y):Calls prog 16 #[ptr Y.sb] w fun e w'=>e=.returned (ptr Y.pool.pb)∧w'=w:=by
 obtain⟨A,c,hsb,_⟩:=hf.sb
 have c0:=hsb.cell (i:=0) rfl
 unfold ptr at *
 clear hf hsb
 go_enter func16,ntmps16
 go_wp2_with fail
 go_ret
 exact⟨rfl,rfl⟩
theorem getClock (w:World)(Y:StoreL)(hf:Fixed w Y):Calls prog 59 #[ptr Y.sb] w fun e w'=>e=.returned (ptr Y.clock.cb)∧w'=w:=by
 obtain⟨A,c,hsb,_⟩:=hf.sb
 have c0:=hsb.cell (i:=1) rfl
 unfold ptr at *
 clear hf hsb
 go_enter func59,ntmps59
 go_wp2_with fail
 go_ret
 exact⟨rfl,rfl⟩
theorem getEpoch (w:World)(Y:StoreL)(hf:Fixed w Y):Calls prog 65 #[ptr Y.sb] w fun e w'=>e=.returned (ptr Y.eb)∧w'=w:=by
 obtain⟨A,c,hsb,_⟩:=hf.sb
 have c0:=hsb.cell (i:=2) rfl
 unfold ptr at *
 clear hf hsb
 go_enter func65,ntmps65
 go_wp2_with fail
 go_ret
 exact⟨rfl,rfl⟩
theorem getParts (w:World)(Y:StoreL)(hf:Fixed w Y):Calls prog 12 #[ptr Y.sb] w fun e w'=>e=.returned (.int .i64 (Y.n:Int))∧w'=w:=by
 obtain⟨A,c,hsb,_⟩:=hf.sb
 have c0:=hsb.cell (i:=6) rfl
 unfold ptr at *
 clear hf hsb
 go_enter func12,ntmps12
 go_wp2_with fail
 go_ret
 exact⟨rfl,rfl⟩
theorem getChain (w:World)(Y:StoreL)(hf:Fixed w Y)(i:Nat)(hi:i<Y.n):Calls prog 63 #[ptr Y.sb,.int .i64 (i:Int)] w fun e w'=>e=.returned (ptr (Y.chain i).xb)∧w'=w:=by
 obtain⟨A,c,hsb,hrow⟩:=hf.sb
 have c0:=hsb.cell (i:=6) rfl
 obtain⟨pb,rfl,_,hc⟩:=hrow i (ptr (Y.pt i)) (by simp[hi])
 have p0:=(hf.pt i hi).cell (i:=0) rfl
 have h1:(0:Int)≤(i:Int):=by omega
 have h2:(i:Int)<(Y.n:Int):=by omega
 unfold ptr at *
 clear hf hsb hrow
 generalize Y.n=n at *
 go_enter func63,ntmps63
 go_wp2_with fail
 all_goals (try (exfalso;omega))
 go_ret
 exact⟨rfl,rfl⟩
theorem storeAdvance_any (w:World)(Y:StoreL)(ed:Option Nat)(D:Nat→List Nat)(X:StoreS)(h:StoreIn w Y ed D X)(h0:X.epoch.at0=0)(hn:X.epoch.now+1≤1099511627776):
  Calls prog 25 #[ptr Y.sb,.pointer none] w fun e w'=>e=.returned (.bool true)∧StoreIn w' Y ed D {X with epoch:={X.epoch with now:=X.epoch.now+1}}∧Only [Y.eb] w w':=by
 obtain⟨A,c,hsb,_⟩:=h.fixed.sb
 have c0:=hsb.cell (i:=2) rfl
 have ha:=advance_any w Y.eb Y.pool.pb Y.base ed X.epoch h.epoch h0 hn
 have H:=hid h
 unfold Epoched at ha
 unfold ptr at *
 clear h hsb h0 hn
 go_enter func25,ntmps25
 go_wp2_with (go_at_call 73;refine ha.mono ?_;rintro e w1 ⟨rfl,he1,ho1⟩;have HE1:=hid he1;have HO1:=hid ho1;clear he1 ho1)
 go_ret
 exact⟨rfl,(epochEd H.out HE1.out HO1.out).1,HO1.out⟩
theorem storeCollect_any (w:World)(Y:StoreL)(ed:Option Nat)(D:Nat→List Nat)(X:StoreS)(h:StoreIn w Y ed D X)(r:Int × EpochS × PoolS)(hr:collect X.epoch X.pool=some r)(hm:X.epoch.list.length≤100000)(hl:r.2.2.slots.length=X.pool.slots.length):
  Calls prog 26 #[ptr Y.sb,.pointer none] w fun e w'=>e=.returned (I2 r.1)∧StoreIn w' Y ed D {X with epoch:=r.2.1,pool:=r.2.2}∧Only (coX Y.eb ed Y.pool) w w':=by
 obtain⟨A,c,hsb,_⟩:=h.fixed.sb
 have c0:=hsb.cell (i:=2) rfl
 have hco:=collect_any w Y.eb Y.pool.pb Y.base ed Y.pool X.epoch X.pool h.epoch h.pool rfl (fun k hk=>(h.ok.pool k hk).1) (fun e=>is_ne h.ok.eb (h.ok.pool _ e) (by decide) rfl) r hr hm
 have H:=hid h;have HL:=hid hl
 unfold Collected I2 at hco
 unfold I2
 unfold ptr at *
 clear h hsb hr hm hl
 go_enter func26,ntmps26
 go_wp2_with (go_at_call 74;refine hco.mono ?_;rintro e w1 ⟨rfl,he1,hp1,ho1⟩;have HE1:=hid he1;have HP1:=hid hp1;have HO1:=hid ho1;clear he1 ho1 hp1)
 go_ret2
 refine⟨rfl,?_,HO1.out⟩
 have h:=H.out
 have hk:=h.ok
 have hm:∀k∈coX Y.eb ed Y.pool,Y.is k 1∨Y.is k 3∨ed=some k:=fun k m=>by
  simp only[coX,List.mem_cons,List.mem_append,Option.mem_toList] at m
  rcases m with rfl|m|m
  ·exact .inr (.inl hk.eb)
  ·exact .inr (.inr m)
  ·exact .inl (hk.pool k (Qf m))
 have hb:∀k c,Y.is k c→c≠1→c≠3→k∉coX Y.eb ed Y.pool:=fun k c e h1 h2 m=>by
  rcases hm k m with e2|e2|e2
  ·exact is_ne e e2 h1 rfl
  ·exact is_ne e e2 h2 rfl
  ·have:=ed_ge h.epoch k e2
   have:=e.1
   omega
 have hn:∀k∈coX Y.eb ed Y.pool,¬Y.is k 0:=fun k m e=>hb k 0 e (by decide) (by decide) m
 have hd:∀k,Y.base≤k→ed≠some k→k∉coX Y.eb ed Y.pool:=fun k e1 e2 m=>by
  rcases hm k m with e3|e3|e3
  ·have:=e3.1;omega
  ·have:=e3.1;omega
  ·exact e2 e3
 have ho:=HO1.out
 refine⟨hk,h.fixed.only ho hk hn,HP1.out,h.clock.only ho (hb _ _ hk.cb (by decide) (by decide)) (hb _ _ hk.lb (by decide) (by decide)),HE1.out,fun i C hC=>?_,fun i a ha=>?_,h.chains,h.loads,fun C hC=>(h.sets C hC).trans HL.out.symm,by simpa [HL.out] using h.slots,h.apart,h.edD,fun k e=>Nat.lt_of_lt_of_le (h.edlt k e) ho.size,Nat.le_trans h.room ho.size⟩
 ·have hi:i<Y.n:=by rw[←h.chains];exact (List.getElem?_eq_some_iff.1 hC).1
  exact (h.chain i C hC).only ho (hb _ _ (hk.xb i hi) (by omega) (by omega)) (hb _ _ (hk.sets i hi) (by omega) (by omega)) (fun k e=>hd k ((h.chain i C hC).dlt k e).1 (h.edD i hi k e))
 ·have hi:i<Y.n:=by rw[←h.loads];exact (List.getElem?_eq_some_iff.1 ha).1
  exact (h.load i a ha).only ho (hb _ _ (hk.lp i hi) (by omega) (by omega)) hn
end Go.Proofs.YteeefedoffplmaaGreat
namespace Go.Proofs.YteeefedoffplmaaGreat
open Go.RowKit Lib Go.Proofs.Tryz
theorem only5 (w:World)(b:Nat)(x0 x1 x2 x3 x4:Value):Only [b] w (((((w.setCell ⟨b,0,none⟩ x0).setCell ⟨b,1,none⟩ x1).setCell ⟨b,2,none⟩ x2).setCell ⟨b,3,none⟩ x3).setCell ⟨b,4,none⟩ x4):=
 ((((((Only.refl [b] w).setCell (.inl (by simp)) _).setCell (.inl (by simp)) _).setCell (.inl (by simp)) _).setCell (.inl (by simp)) _).setCell (.inl (by simp)) _)
theorem wrote_fin {Y:StoreL}{ed:Option Nat}{D D':Nat→List Nat}{X X':StoreS}{w wA w2:World}{b:Nat}(h:StoreIn w Y ed D X)(hs:StoreIn w2 Y ed D' X')(m1:Only [] w wA)(m2:Moves Y (Qw Y ed D) (Qw Y ed D') wA w2)(hb1:w.heap.size≤b)(hb2:b<wA.heap.size):
  ∀W,Only [b] w2 W→StoreIn W Y ed D' X'∧Moves Y (Qw Y ed D) (Qw Y ed D') w W:=fun W g=>by
 refine⟨hs.only g (fun k hk=>?_),((Moves.of_new m1).trans m2).fresh g (fun k hk=>by simp at hk;omega)⟩
 simp at hk
 subst hk
 refine⟨Nat.le_trans h.room hb1,fun e=>?_⟩
 rcases m2.dyn _ e with e|e
 ·have:=(h.dyn_lt e).2
  omega
 ·omega
theorem wrote_blk {Y:StoreL}{ed:Option Nat}{D D':Nat→List Nat}{X:StoreS}{w wA w2:World}{b:Nat}{cs:List Value}{t:TypeId}(h:StoreIn w Y ed D X)(m2:Moves Y (Qw Y ed D) (Qw Y ed D') wA w2)(hb1:w.heap.size≤b)(hb:Blk wA b cs t):Blk w2 b cs t:=
 m2.blk hb (fun e=>by have:=h.room;omega) (fun e=>by have:=(h.dyn_lt e).2;omega)
theorem storeOf_any (w:World)(Y:StoreL)(hf:Fixed w Y)(hn:1≤Y.n∧Y.n≤64)(k:Int)(hk:Qt k=true):
  Calls prog 78 #[ptr Y.sb,.int .i64 k] w fun e w'=>e=.returned (.tuple #[.int .i64 (Qu k Y.n),.bool true])∧Only [] w w':=by
 obtain⟨A,c,hsb,_⟩:=hf.sb
 have c6:=hsb.cell (i:=6) rfl
 have hp:=fun W=>part_yes k Y.n W hk (by omega) (by omega)
 have HP:=hid hp
 unfold ptr at *
 clear hf hsb hk hp
 generalize Qu k ↑Y.n=p at *
 generalize Y.n=n at *
 go_enter func78,ntmps78
 go_wp2_with (go_at_call 47;refine (HP.out _).mono ?_;rintro e w1 ⟨rfl,rfl⟩)
 try go_quiet (fail)
 try go_wp2_with fail
 go_ret2
 exact⟨by simp,by first|exact Only.refl _ _|exact (Only.refl _ _).drewN _|exact (Only.refl _ _).drew'⟩
end Go.Proofs.YteeefedoffplmaaGreat
