/- StoreAlone, part Pag: Splits, PutMet, PutNew, PutAny. -/
import Derived.Test.YteeefedoffplmaaGreatPaa
import Derived.Test.YteeefedoffplmaaGreatPaf
import Derived.Handy
set_option linter.unusedSimpArgs false
set_option linter.unusedVariables false
set_option maxRecDepth 100000
set_option maxHeartbeats 51200000
namespace Go.Proofs.YteeefedoffplmaaGreat
open Go.RowKit Lib Go.Proofs.Tryz
theorem countInner_any (w:World)(h:Int)(p:Nat)(f l r c:Int):
  Calls prog 232 #[.agg #[.int .i64 h,(Shape.inner p f l r c).val]] w fun e w'=>e=.returned (.int .i64 c)∧Only [] w w':=by
 have hta:=assertInner (p:Int) f l r c
 unfold Shape.val
 go_enter func232,ntmps232
 go_wp2_with fail
 go_ret
 exact⟨rfl,((Only.refl _ _).alloc _).alloc _⟩
theorem placeOf_lt (a b:Nat)(ha:a<4294967296)(hb:b<4294967296):placeOf a b<32:=by
 have hx:a ^^^ b<2 ^ 32:=Nat.xor_lt_two_pow (by omega) (by omega)
 have h1:placeX 33 (a ^^^ b)=placeX 32 (a ^^^ b):=placeX_big 33 _ (by omega) 32 hx
 have h2:=(placeX_bound 32 (a ^^^ b)).2
 unfold placeOf
 omega
section
variable (w:World)(base mb tb:Nat)(L:PoolL)(S:PoolS)(m:EditS)(gv mv:Value)(hp:PoolAt w L S)(ht:Blk w tb [ptr L.pb] 187)(hm:EditAt w base mb tb m gv mv)(hx1:mb∉L.all)(hx2:tb∉L.blocks)(hx3:tb≠mb)(hx4:∀k∈L.all,k<base)(hx5:tb<base)(hlen:m.made.length<10000000)(h k v:Int)(hh:Ql h)(hk:0≤k∧k≤4294967295)(hv:Ql v)
include w base mb tb L S m gv mv hp ht hm hx1 hx2 hx3 hx4 hx5 hlen h k v hh hk hv
theorem splits_all:(∀(k' v':Int) (hkr:0≤k'∧k'≤4294967295) (r:EditS × PoolS) (hsp:splits h (.leaf k' v') k v (m,S)=some r) (hlt:k<k'),Calls prog 206 #[ptr mb,.agg #[.int .i64 h,.iface 307 (.agg #[.int .i64 k',.int .i64 v'])],.int .i64 k,.int .i64 v] w (Edited L base mb tb r.1 r.2 w)) ∧
  (∀(k' v':Int) (hkr:0≤k'∧k'≤4294967295) (r:EditS × PoolS) (hsp:splits h (.leaf k' v') k v (m,S)=some r) (hlt:¬k<k'),Calls prog 206 #[ptr mb,.agg #[.int .i64 h,.iface 307 (.agg #[.int .i64 k',.int .i64 v'])],.int .i64 k,.int .i64 v] w (Edited L base mb tb r.1 r.2 w)) ∧
  (∀(p':Nat) (f' l' r' c':Int) (hkr:0≤f'∧f'≤4294967295) (hp':p'<32) (hc':-4000000000≤c'∧c'≤4000000000) (r:EditS × PoolS) (hsp:splits h (.inner p' f' l' r' c') k v (m,S)=some r) (hlt:k<f'),Calls prog 206 #[ptr mb,.agg #[.int .i64 h,.iface 335 (.agg #[.int .i64 (p':Int),.int .i64 f',.int .i64 l',.int .i64 r',.int .i64 c'])],.int .i64 k,.int .i64 v] w (Edited L base mb tb r.1 r.2 w)) ∧
  (∀(p':Nat) (f' l' r' c':Int) (hkr:0≤f'∧f'≤4294967295) (hp':p'<32) (hc':-4000000000≤c'∧c'≤4000000000) (r:EditS × PoolS) (hsp:splits h (.inner p' f' l' r' c') k v (m,S)=some r) (hlt:¬k<f'),Calls prog 206 #[ptr mb,.agg #[.int .i64 h,.iface 335 (.agg #[.int .i64 (p':Int),.int .i64 f',.int .i64 l',.int .i64 r',.int .i64 c'])],.int .i64 k,.int .i64 v] w (Edited L base mb tb r.1 r.2 w)):=by
 refine⟨?_,?_,?_,?_⟩
 intro k' v' hkr r hsp hlt;have tg1:=0;have tg2:=0;have tg4:=0;rotate_left
 intro k' v' hkr r hsp hlt;have tg1:=0;have tg5:=0;rotate_left
 intro p' f' l' r' c' hkr hp' hc' r hsp hlt;have tg2:=0;have tg3:=0;have tg6:=0;rotate_left
 intro p' f' l' r' c' hkr hp' hc' r hsp hlt;have tg3:=0;rotate_left
 all_goals
  first
  |have _:=tg1
   obtain⟨⟨m1,S1⟩,hl,hsp⟩:∃x,mkLeaf k v (m,S)=some x∧(if 0≤placeOf k.toNat (k').toNat then mkFork (placeOf k.toNat (k').toNat).toNat (k' / Qi ((placeOf k.toNat (k').toNat).toNat+1)*Qi ((placeOf k.toNat (k').toNat).toNat+1)) (if k<k' then x.1.root else h) (if k<k' then h else x.1.root) (1+1) (x.1,x.2) else none)=some r:=by
    unfold splits at hsp
    simp only[bind,Option.bind_eq_some_iff] at hsp
    obtain⟨x,h1,h2⟩:=hsp
    exact⟨x,h1,h2⟩
  |obtain⟨⟨m1,S1⟩,hl,hsp⟩:∃x,mkLeaf k v (m,S)=some x∧(if 0≤placeOf k.toNat (f').toNat then mkFork (placeOf k.toNat (f').toNat).toNat (f' / Qi ((placeOf k.toNat (f').toNat).toNat+1)*Qi ((placeOf k.toNat (f').toNat).toNat+1)) (if k<f' then x.1.root else h) (if k<f' then h else x.1.root) (c'+1) (x.1,x.2) else none)=some r:=by
    unfold splits at hsp
    simp only[bind,Option.bind_eq_some_iff] at hsp
    obtain⟨x,h1,h2⟩:=hsp
    exact⟨x,h1,h2⟩
  have hpn:(k.toNat:Int)=k:=Int.toNat_of_nonneg hk.1
  first|(have _:=tg1;have hln:((k').toNat:Int)=k':=Int.toNat_of_nonneg hkr.1;have hpl:=place_any k.toNat (k').toNat)|(have hln:((f').toNat:Int)=f':=Int.toNat_of_nonneg hkr.1;have hpl:=place_any k.toNat (f').toNat)
  rw[hpn,hln] at hpl
  first|(have _:=tg1;have hplt:=placeOf_lt k.toNat (k').toNat (by omega) (by omega))|(have hplt:=placeOf_lt k.toNat (f').toNat (by omega) (by omega))
  split at hsp
  case isFalse=>cases hsp
  rename_i hp0
  dsimp only at hsp
  first|(have _:=tg1;obtain⟨q,hq⟩:∃q:Nat,placeOf k.toNat (k').toNat=(q:Int):=⟨_,(Int.toNat_of_nonneg hp0).symm⟩)|(obtain⟨q,hq⟩:∃q:Nat,placeOf k.toNat (f').toNat=(q:Int):=⟨_,(Int.toNat_of_nonneg hp0).symm⟩)
  rw[hq] at hsp hpl hplt
  rw[Int.toNat_natCast] at hsp
  first|(have _:=tg2;try simp only[if_pos hlt] at hsp)|(try simp only[if_neg hlt] at hsp)
  first
  |have _:=tg1
   have hFr:0≤k' / Qi (q+1)*Qi (q+1)∧k' / Qi (q+1)*Qi (q+1)≤k':=by
    have h1:=(pow32 (q+1) (by omega)).1
    have h2:=Int.ediv_mul_le (k') (show Qi (q+1)≠0 by omega)
    have h3:=Int.mul_nonneg (Int.ediv_nonneg hkr.1 (by omega:0≤Qi (q+1))) (by omega:0≤Qi (q+1))
    exact⟨h3,h2⟩
   have hF:IntKind.i64.wrap (k' / 2 ^ min (q+1) 64*2 ^ min (q+1) 64)=k' / Qi (q+1)*Qi (q+1):=by
    rw[show min (q+1) 64=q+1 by omega,pow_cast]
    exact IntWalk.i64_in _ (by omega)
   generalize k' / Qi (q+1) * Qi (q+1)=F at *
   have hspan:=fun W=>spanLeaf_any k' v' W
   have hcount:=fun W=>countLeaf_any W h k' v'
  |have hFr:0≤f' / Qi (q+1)*Qi (q+1)∧f' / Qi (q+1)*Qi (q+1)≤f':=by
    have h1:=(pow32 (q+1) (by omega)).1
    have h2:=Int.ediv_mul_le (f') (show Qi (q+1)≠0 by omega)
    have h3:=Int.mul_nonneg (Int.ediv_nonneg hkr.1 (by omega:0≤Qi (q+1))) (by omega:0≤Qi (q+1))
    exact⟨h3,h2⟩
   have hF:IntKind.i64.wrap (f' / 2 ^ min (q+1) 64*2 ^ min (q+1) 64)=f' / Qi (q+1)*Qi (q+1):=by
    rw[show min (q+1) 64=q+1 by omega,pow_cast]
    exact IntWalk.i64_in _ (by omega)
   generalize f' / Qi (q+1) * Qi (q+1)=F at *
   have hspan:=fun W=>spanInner_any p' f' l' r' c' hp' ⟨hkr.1,by omega⟩ W
   have hcount:=fun W=>countInner_any W h p' f' l' r' c'
  have hmk:=makes_root hl
  have hk64:Ql k:=by unfold Ql;omega
  first|(have _:=tg1;have hlf:=leaf2_any (w.alloc (.cells #[.int .i64 h,.iface 307 (.agg #[.int .i64 k',.int .i64 v'])] 303)) base mb tb L S m gv mv (hp.alloc _) (ht.alloc _) ⟨hm.blk.alloc _,Qe hm.gone ((Only.refl [] w).alloc _) (by simp),Qe hm.made ((Only.refl [] w).alloc _) (by simp),hm.low,hm.apart,Nat.le_trans hm.room (Qg _ _)⟩ hx1 hx2 hx3 hx4 hx5 (by omega) k v hk64 hv m1 S1 hl)|(have hlf:=leaf2_any (w.alloc (.cells #[.int .i64 h,.iface 335 (.agg #[.int .i64 (p':Int),.int .i64 f',.int .i64 l',.int .i64 r',.int .i64 c'])] 303)) base mb tb L S m gv mv (hp.alloc _) (ht.alloc _) ⟨hm.blk.alloc _,Qe hm.gone ((Only.refl [] w).alloc _) (by simp),Qe hm.made ((Only.refl [] w).alloc _) (by simp),hm.low,hm.apart,Nat.le_trans hm.room (Qg _ _)⟩ hx1 hx2 hx3 hx4 hx5 (by omega) k v hk64 hv m1 S1 hl)
  have hnb:w.heap.size∉mb :: L.blocks ++ mv.ownBlock.toList:=by
   have h1:=hm.low
   have h2:=hm.room
   simp only[List.cons_append,List.mem_cons,List.mem_append]
   rintro (e|e|e)
   ·omega
   ·have:=hx4 _ (Qf e)
    omega
   ·have:=(hm.made.lt _ (by simpa using e)).2
    omega
  have HPL:=hid (fun W=>hpl W (by omega) (by omega))
  first|(have _:=tg3;have HCB:=hid hc')|(skip)
  have HLF:=hid hlf
  have HNB:=hid hnb
  have HM:=hid hm
  have HT:=hid ht
  have HX1:=hid hx1
  have HX2:=hid hx2
  have HX3:=hid hx3
  have HX4:=hid hx4
  have HX5:=hid hx5
  have HLEN:=hid hlen
  have HSP:=hid hsp
  have HMK:=hid hmk
  have HKR:=hid hkr
  have HQ:=hid hplt
  have HFR:=hid hFr
  have HRI:=hid (show Ql m1.root from hmk.1)
  have HH:=hid hh
  have HSN:=hid hspan
  have HCO:=hid hcount
  have HMML:=hid (show ∀k,mv.ownBlock=some k→base≤k from fun k hk=>(hm.made.lt k hk).1)
  unfold ptr at *
  unfold Shape.val at HCO
  try unfold innerV at HSN
  first|(have _:=tg1;clear hFr hp ht hm hx1 hx2 hx3 hx4 hx5 hlen hh hk hv hkr hl hsp hpl hplt hmk hspan hcount hp0 hq hpn hln hk64 hlf hnb)|(clear hFr hp ht hm hx1 hx2 hx3 hx4 hx5 hlen hh hk hv hkr hl hsp hpl hplt hmk hspan hcount hp0 hq hpn hln hk64 hlf hnb hp' hc')
  go_enter func206,ntmps206
  go_wp2_with (first|(go_at_call 205;refine HLF.out.mono ?_;rintro e w1 he;obtain⟨mv1,rfl,hp1,hm1,ho1,hv1⟩:=he;(first|(have _:=tg1;have hn1:Blk w1 w.heap.size [.int .i64 h,.iface 307 (.agg #[.int .i64 k',.int .i64 v'])] 303:=(Blk.new w [.int .i64 h,.iface 307 (.agg #[.int .i64 k',.int .i64 v'])] 303).only ho1 HNB.out)|(have hn1:Blk w1 w.heap.size [.int .i64 h,.iface 335 (.agg #[.int .i64 (p':Int),.int .i64 f',.int .i64 l',.int .i64 r',.int .i64 c'])] 303:=(Blk.new w [.int .i64 h,.iface 335 (.agg #[.int .i64 (p':Int),.int .i64 f',.int .i64 l',.int .i64 r',.int .i64 c'])] 303).only ho1 HNB.out));have c0:=hn1.cell (i:=0) rfl;have c1:=hn1.cell (i:=1) rfl;have HN1:=hid hn1;have HP1:=hid hp1;have HM1:=hid hm1;have HO1:=hid ho1;have HV1:=hid hv1;clear hn1 hp1 hm1 ho1 hv1 HLF)|((first|(have _:=tg1;go_at_call 268)|(go_at_call 241));refine (HSN.out _).mono ?_;rintro e w2 ⟨rfl,ho2⟩;have hn2:=HN1.out.only ho2 (by simp);have hb2:=HM1.out.blk.only ho2 (by simp);clear c0 c1;have c0:=hn2.cell (i:=0) rfl;have c1:=hn2.cell (i:=1) rfl;have r2:=hb2.cell (i:=2) rfl;have HN2:=hid hn2;have HB2:=hid hb2;have HO2:=hid ho2;clear hn2 hb2 ho2)|(go_at_call 230;refine (HPL.out _).mono ?_;rintro e w' ⟨rfl,rfl⟩))
  go_quiet (fail)
  go_wp2_with fail
  first|(have _:=tg2;go_quiet (fail);go_wp2_with fail)|(skip)
  have hq0:(0:Int)≤(q:Int):=by omega
  have hq1:IntKind.i64.wrap ((q:Int)+1)=(q:Int)+1:=IntWalk.i64_in _ (by have:=HQ.out;omega)
  have hq2:(0:Int)≤(q:Int)+1:=by omega
  first|(have _:=tg1;refine wp_region_held_drew (S:=(fun W=>W.cell? ⟨w.heap.size,0,none⟩=some (.int .i64 h)∧W.cell? ⟨w.heap.size,1,none⟩=some (.iface 307 (.agg #[.int .i64 k',.int .i64 v'])))) (by kernel_rfl) ?_ (fun hHeld=>?_))|(have hc1:IntKind.i64.wrap (c'+1)=c'+1:=IntWalk.i64_in _ (by have:=HCB.out;omega);refine wp_region_held_drew (S:=(fun W=>W.cell? ⟨w.heap.size,0,none⟩=some (.int .i64 h)∧W.cell? ⟨w.heap.size,1,none⟩=some (.iface 335 (.agg #[.int .i64 (p':Int),.int .i64 f',.int .i64 l',.int .i64 r',.int .i64 c'])))) (by kernel_rfl) ?_ (fun hHeld=>?_))
  ·first|(have _:=tg2;exact⟨(HN2.out.only ((((Only.refl [] w2).drewN _).drewN _).drew') (by simp)).cell (i:=0) rfl,(HN2.out.only ((((Only.refl [] w2).drewN _).drewN _).drew') (by simp)).cell (i:=1) rfl⟩)|(exact⟨(HN2.out.only (((Only.refl [] w2).drewN _).drew') (by simp)).cell (i:=0) rfl,(HN2.out.only (((Only.refl [] w2).drewN _).drew') (by simp)).cell (i:=1) rfl⟩)
  refine tk 0 ?_
  refine tk 1 ?_
  refine tk 2 ?_
  refine tk 3 ?_
  refine tk 4 ?_
  refine tk 5 ?_
  refine tk 6 ?_
  refine tk 7 ?_
  refine tk 8 ?_
  refine tk 9 ?_
  refine tk 10 ?_
  refine tk 11 ?_
  refine on1 12 (fun K hK=>?_)
  go_simp
  go_at_call 232
  refine (HCO.out _).mono ?_
  rintro e w3 ⟨rfl,ho3'⟩
  have ho3:Only [] w2 w3:=((Only.refl [] w2).drewN _).trans ho3'
  have HO3:=hid ho3
  clear ho3 ho3'
  go_wp2_with fail
  refine hK.out _ _ (⟨(HN2.out.only HO3.out (by simp)).cell (i:=0) rfl,(HN2.out.only HO3.out (by simp)).cell (i:=1) rfl⟩) (fun hHeld=>?_)
  clear hK K
  try simp only[sp]
  refine tk 13 ?_
  first|(have _:=tg4;have hfk:=fork2_any w3 base mb tb L S1 m1 gv mv1 (HP1.out.only (HO2.out.trans HO3.out) (by simp)) (HT.out.only (((Only.refl [] w).alloc _).mono (Y:=mb :: L.blocks ++ mv.ownBlock.toList) (by simp) |>.trans (HO1.out.trans ((HO2.out.trans HO3.out).mono (by simp)))) (by simp only[List.cons_append,List.mem_cons,List.mem_append];rintro (e|e|e);exact HX3.out e;exact HX2.out e;have:=HMML.out tb (by simpa using e);have:=HX5.out;omega)) ⟨HM1.out.blk.only (HO2.out.trans HO3.out) (by simp),Qe HM1.out.gone (HO2.out.trans HO3.out) (by simp),Qe HM1.out.made (HO2.out.trans HO3.out) (by simp),HM1.out.low,HM1.out.apart,Nat.le_trans HM1.out.room (HO2.out.trans HO3.out).size⟩ HX1.out HX2.out HX3.out HX4.out HX5.out (by have:=HMK.out.2.1;have:=HLEN.out;omega) q F m1.root h (1+1) (by have:=HQ.out;omega) (by have:=HFR.out;have:=HKR.out;omega) HRI.out HH.out (by unfold Ql;omega) r.1 r.2 HSP.out)|(have _:=tg5;have hfk:=fork2_any w3 base mb tb L S1 m1 gv mv1 (HP1.out.only (HO2.out.trans HO3.out) (by simp)) (HT.out.only (((Only.refl [] w).alloc _).mono (Y:=mb :: L.blocks ++ mv.ownBlock.toList) (by simp) |>.trans (HO1.out.trans ((HO2.out.trans HO3.out).mono (by simp)))) (by simp only[List.cons_append,List.mem_cons,List.mem_append];rintro (e|e|e);exact HX3.out e;exact HX2.out e;have:=HMML.out tb (by simpa using e);have:=HX5.out;omega)) ⟨HM1.out.blk.only (HO2.out.trans HO3.out) (by simp),Qe HM1.out.gone (HO2.out.trans HO3.out) (by simp),Qe HM1.out.made (HO2.out.trans HO3.out) (by simp),HM1.out.low,HM1.out.apart,Nat.le_trans HM1.out.room (HO2.out.trans HO3.out).size⟩ HX1.out HX2.out HX3.out HX4.out HX5.out (by have:=HMK.out.2.1;have:=HLEN.out;omega) q F h m1.root (1+1) (by have:=HQ.out;omega) (by have:=HFR.out;have:=HKR.out;omega) HH.out HRI.out (by unfold Ql;omega) r.1 r.2 HSP.out)|(have _:=tg6;have hfk:=fork2_any w3 base mb tb L S1 m1 gv mv1 (HP1.out.only (HO2.out.trans HO3.out) (by simp)) (HT.out.only (((Only.refl [] w).alloc _).mono (Y:=mb :: L.blocks ++ mv.ownBlock.toList) (by simp) |>.trans (HO1.out.trans ((HO2.out.trans HO3.out).mono (by simp)))) (by simp only[List.cons_append,List.mem_cons,List.mem_append];rintro (e|e|e);exact HX3.out e;exact HX2.out e;have:=HMML.out tb (by simpa using e);have:=HX5.out;omega)) ⟨HM1.out.blk.only (HO2.out.trans HO3.out) (by simp),Qe HM1.out.gone (HO2.out.trans HO3.out) (by simp),Qe HM1.out.made (HO2.out.trans HO3.out) (by simp),HM1.out.low,HM1.out.apart,Nat.le_trans HM1.out.room (HO2.out.trans HO3.out).size⟩ HX1.out HX2.out HX3.out HX4.out HX5.out (by have:=HMK.out.2.1;have:=HLEN.out;omega) q F m1.root h (c'+1) (by have:=HQ.out;omega) (by have:=HFR.out;have:=HKR.out;omega) HRI.out HH.out (by have:=HCB.out;unfold Ql;omega) r.1 r.2 HSP.out)|(have hfk:=fork2_any w3 base mb tb L S1 m1 gv mv1 (HP1.out.only (HO2.out.trans HO3.out) (by simp)) (HT.out.only (((Only.refl [] w).alloc _).mono (Y:=mb :: L.blocks ++ mv.ownBlock.toList) (by simp) |>.trans (HO1.out.trans ((HO2.out.trans HO3.out).mono (by simp)))) (by simp only[List.cons_append,List.mem_cons,List.mem_append];rintro (e|e|e);exact HX3.out e;exact HX2.out e;have:=HMML.out tb (by simpa using e);have:=HX5.out;omega)) ⟨HM1.out.blk.only (HO2.out.trans HO3.out) (by simp),Qe HM1.out.gone (HO2.out.trans HO3.out) (by simp),Qe HM1.out.made (HO2.out.trans HO3.out) (by simp),HM1.out.low,HM1.out.apart,Nat.le_trans HM1.out.room (HO2.out.trans HO3.out).size⟩ HX1.out HX2.out HX3.out HX4.out HX5.out (by have:=HMK.out.2.1;have:=HLEN.out;omega) q F h m1.root (c'+1) (by have:=HQ.out;omega) (by have:=HFR.out;have:=HKR.out;omega) HH.out HRI.out (by have:=HCB.out;unfold Ql;omega) r.1 r.2 HSP.out)
  unfold ptr at hfk
  have hnb4:w.heap.size∉mb :: L.blocks ++ mv1.ownBlock.toList:=by
   have hn:=HNB.out
   simp only[List.cons_append,List.mem_cons,List.mem_append,not_or] at hn ⊢
   refine⟨hn.1,hn.2.1,fun e=>?_⟩
   rcases HV1.out with h1|⟨g,h1,h2⟩
   ·rw[h1] at e
    exact hn.2.2 e
   ·rw[h1] at e
    first|(have _:=tg1;have h3:(w.alloc (.cells #[.int .i64 h,.iface 307 (.agg #[.int .i64 k',.int .i64 v'])] 303)).heap.size=w.heap.size+1:=World.size_alloc _ _)|(have h3:(w.alloc (.cells #[.int .i64 h,.iface 335 (.agg #[.int .i64 (p':Int),.int .i64 f',.int .i64 l',.int .i64 r',.int .i64 c'])] 303)).heap.size=w.heap.size+1:=World.size_alloc _ _)
    simp at e
    omega
  refine on1 14 (fun K hK=>?_)
  go_simp
  go_at_call 231
  refine hfk.mono ?_
  rintro e w4 he
  obtain⟨mv4,rfl,hp4,hm4,ho4,_⟩:=he
  have HP4:=hid hp4
  have HM4:=hid hm4
  have HO4:=hid ho4
  clear hp4 hm4 ho4 hfk
  go_wp2_with fail
  refine hK.out _ _ (show _∧_ from ⟨(HN2.out.only (HO3.out.mono (Y:=mb :: L.blocks ++ mv1.ownBlock.toList) (by simp) |>.trans HO4.out) hnb4).cell (i:=0) rfl,(HN2.out.only (HO3.out.mono (Y:=mb :: L.blocks ++ mv1.ownBlock.toList) (by simp) |>.trans HO4.out) hnb4).cell (i:=1) rfl⟩) (fun hHeld=>?_)
  clear hK K
  try simp only[sp]
  refine tk 15 ?_
  refine wpAnyH_done (by kernel_rfl) ?_ _
  go_wp2_with fail
  go_ret
  refine⟨gv,mv4,mv.ownBlock.toList ++ mv1.ownBlock.toList,rfl,HP4.out,HM4.out,?_,?_⟩
  ·first|(have _:=tg1;have t0:Only [] w (w.alloc (.cells #[.int .i64 h,.iface 307 (.agg #[.int .i64 k',.int .i64 v'])] 303)):=(Only.refl [] w).alloc _)|(have t0:Only [] w (w.alloc (.cells #[.int .i64 h,.iface 335 (.agg #[.int .i64 (p':Int),.int .i64 f',.int .i64 l',.int .i64 r',.int .i64 c'])] 303)):=(Only.refl [] w).alloc _)
   have t1:=(t0.mono (Y:=mb :: L.blocks ++ (mv.ownBlock.toList ++ mv1.ownBlock.toList)) (by simp)).trans (HO1.out.mono (fun k hk=>by simp only[List.cons_append,List.mem_cons,List.mem_append] at hk ⊢;rcases hk with h|h|h <;> simp[h]))
   have t2:=(t1.trans ((HO2.out.trans HO3.out).mono (by simp))).trans (HO4.out.mono (fun k hk=>by simp only[List.cons_append,List.mem_cons,List.mem_append] at hk ⊢;rcases hk with h|h|h <;> simp[h]))
   exact t2
  ·intro k hk
   rcases List.mem_append.1 hk with hk|hk
   ·exact HMML.out k (by simpa using hk)
   ·exact (HM1.out.made.lt k (by simpa using hk)).1
abbrev splitsLeafLt_any:=(splits_all w base mb tb L S m gv mv hp ht hm hx1 hx2 hx3 hx4 hx5 hlen h k v hh hk hv).1
abbrev splitsLeafGe_any:=(splits_all w base mb tb L S m gv mv hp ht hm hx1 hx2 hx3 hx4 hx5 hlen h k v hh hk hv).2.1
abbrev splitsInnerLt_any:=(splits_all w base mb tb L S m gv mv hp ht hm hx1 hx2 hx3 hx4 hx5 hlen h k v hh hk hv).2.2.1
abbrev splitsInnerGe_any:=(splits_all w base mb tb L S m gv mv hp ht hm hx1 hx2 hx3 hx4 hx5 hlen h k v hh hk hv).2.2.2
end
theorem row_block {w:World}{base e size n c:Nat}{b:Addr}{xs:List Value}(h:w.ownsRow base e size (.slice (some b) n c) n xs):base≤b.block∧b.block<w.heap.size:=by
 rcases h.2 with ⟨h1,_⟩|⟨g,cap,cur,h1,_⟩
 ·cases h1
 ·injection h1 with h1 _ _
  injection h1 with h1
  subst h1
  exact h.lt g rfl
theorem down_iface (w:World)(tb:Nat)(L:PoolL)(S:PoolS)(hp:PoolAt w L S)(ht:Blk w tb [ptr L.pb] 187)(root key:Int)(way:List StepS)(h:Int)(s:Shape)(hr:S.down root key=some (way,h,s))(vt:TypeId)(vx:Value)(hv:s.val=.iface vt vx):
  Calls prog 197 #[ptr tb,.pointer none,.int .i64 root,.int .i64 key] w fun e w'=>∃v,e=.returned (.tuple #[v,.agg #[.int .i64 h,.iface vt vx],.int .i64 0])∧w'.ownsRow w.heap.size 339 7 v way.length (way.flatMap StepS.cells)∧Only [] w w':=
 (down_any w tb L S hp ht root key _ hr).mono fun e w' he=>by
  obtain⟨v,rfl,h1,h2⟩:=he
  exact⟨v,by rw[hv],h1,h2⟩
def oldEdit2 (v h:Int):EditS:={EditS.zero with old:=v,had:=true,gone:=[h]}
theorem putMet_any (w:World)(tb:Nat)(L:PoolL)(S:PoolS)(hp:PoolAt w L S)(ht:Blk w tb [ptr L.pb] 187)(hx2:tb∉L.blocks)(root h k v v':Int)(h0:root≠0)(hvv:v'≠v)(hk:Qt k=true)(hv:Ql v)(way:List StepS)(hx:S.down root k=some (way,h,.leaf k v'))(hst:∀x∈way,StepOk x)(hwl:way.length≤64)
  (m1 m':EditS) (S1 S':PoolS) (hS:mkLeaf k v (oldEdit2 v' h,S)=some (m1,S1)) (hU:Zl 0 way.reverse (m1,S1)=some (m',S')):
  Calls prog 165 #[ptr tb,.pointer none,.int .i64 root,.int .i64 k,.int .i64 v] w (Putted L m' S' w):=by
 have hkey:=fun W=>key_any k W
 rw[hk] at hkey
 have hk64:Ql k:=by unfold Qt K32 at hk;simp at hk;unfold Ql;omega
 have hd:=fun W (ho:Only [] w W)=>down_iface W tb L S (hp.only ho (by simp)) (ht.only ho (by simp)) root k way h _ hx 307 (.agg #[.int .i64 k,.int .i64 v']) rfl
 have hmk:=makes_root hS
 have hta:=assertLeaf2 k v'
 have hq:(root == 0)=false:=by simp[h0]
 have hq2:(v' == v)=false:=by simp[hvv]
 have ho0:Only [] w ((w.alloc (.cells #[.int .i64 0,.int .i64 0,.bool false,.slice none 0 0,.slice none 0 0] 264)).alloc (.cells #[.pointer (some ⟨tb,0,none⟩),.pointer none,.int .i64 0,.int .i64 0,.bool false,.slice none 0 0,.slice none 0 0] 320)):=((Only.refl _ _).alloc _).alloc _
 have hlt:=hp.lt
 have htl:=ht.lt
 have HK:=hid hkey;have HD:=hid hd;have HMK:=hid hmk;have HU:=hid hU;have HST:=hid hst;have HWL:=hid hwl;have HO0:=hid ho0;have HP:=hid hp;have HT:=hid ht;have HX:=hid hx2;have HS:=hid hS;have HV:=hid hv;have HK64:=hid hk64;have HLT:=hid hlt;have HTL:=hid htl
 unfold Shape.val ptr at *
 clear hmk hU hst hwl hp ht hx hd hkey hk ho0 hS hv hk64 hlt htl h0 hvv
 go_enter func165,ntmps165
 go_wp2_with (first|(go_at_call 195;refine (HK.out _).mono ?_;rintro e w' ⟨rfl,rfl⟩)|(go_at_call 197;refine (HD.out _ HO0.out).mono ?_;rintro e w1 ⟨wv,rfl,hwo,hb⟩;obtain⟨wA,wc,rfl,hwr,_⟩:=Qc hwo;have HWO:=hid hwo;have HWR:=hid hwr;clear hwo hwr;have hn:Blk w1 w.heap.size [.int .i64 0,.int .i64 0,.bool false,.slice none 0 0,.slice none 0 0] 264:=((Blk.new w [.int .i64 0,.int .i64 0,.bool false,.slice none 0 0,.slice none 0 0] 264).alloc _).only hb (by simp);have hbm:Blk w1 (w.heap.size+1) [.pointer (some ⟨tb,0,none⟩),.pointer none,.int .i64 0,.int .i64 0,.bool false,.slice none 0 0,.slice none 0 0] 320:=(show Blk _ (w.heap.size+1) _ 320 from by have:=Blk.new (w.alloc (.cells #[.int .i64 0,.int .i64 0,.bool false,.slice none 0 0,.slice none 0 0] 264)) [.pointer (some ⟨tb,0,none⟩),.pointer none,.int .i64 0,.int .i64 0,.bool false,.slice none 0 0,.slice none 0 0] 320;rw[World.size_alloc] at this;exact this).only hb (by simp);have HBM:=hid hbm;have HN:=hid hn;have HB:=hid hb;clear hb hn hbm))
 have hlt1:w.heap.size<w1.heap.size:=HN.out.lt
 have hlt2:w.heap.size+1<w1.heap.size:=HBM.out.lt
 have hf1:=HBM.out.frozen
 have m3:=HBM.out.cell (i:=3) rfl
 have m4:=HBM.out.cell (i:=4) rfl
 have m5:=HBM.out.cell (i:=5) rfl
 go_region
 obtain⟨W0,hW0⟩:∃W0:World,((((w1.setCell ⟨w.heap.size+1,3,none⟩ (.int .i64 v')).setCell ⟨w.heap.size+1,4,none⟩ (.bool true)).setCell ⟨w.heap.size+1,5,none⟩ (.slice (some ⟨w1.heap.size+1+1,0,none⟩) 1 1)).alloc (.cells #[.int .i64 h,.iface 307 (.agg #[.int .i64 k,.int .i64 v'])] 303)).alloc (.cells #[.int .i64 k,.int .i64 v'] 307)=W0:=⟨_,rfl⟩
 rw[hW0]
 have hsz2:W0.heap.size=w1.heap.size+1+1:=by rw[←hW0];simp
 obtain⟨W2,hW2⟩:∃W2:World,(W0.alloc (.cells #[.int .i64 h] 3)).drew=W2:=⟨_,rfl⟩
 rw[hW2]
 have ho1:Only [] w w1:=HO0.out.trans HB.out
 have ho2:Only [] w W2:=by
  rw[←hW2,←hW0]
  exact ((((((ho1.setCell (.inr (by simp)) _).setCell (.inr (by simp)) _).setCell (.inr (by simp)) _).alloc _).alloc _).alloc _).drew'
 have hmb2:Blk W2 (w.heap.size+1) [.pointer (some ⟨tb,0,none⟩),.pointer none,.int .i64 0,.int .i64 v',.bool true,.slice (some ⟨w1.heap.size+1+1,0,none⟩) 1 1,.slice none 0 0] 320:=by
  rw[←hW2,←hW0]
  exact (((((HBM.out.set 3 (.int .i64 v')).set 4 (.bool true)).set 5 (.slice (some ⟨w1.heap.size+1+1,0,none⟩) 1 1)).alloc _).alloc _).alloc _
 have hbr2:Blk W2 w.heap.size [.int .i64 0,.int .i64 0,.bool false,.slice none 0 0,.slice none 0 0] 264:=by
  rw[←hW2,←hW0]
  exact (((((HN.out.other (by omega) _ _).other (by omega) _ _).other (by omega) _ _).alloc _).alloc _).alloc _
 have hgo0:=World.ownsRow_lit (base:=w1.heap.size) (e:=3) (size:=1) W0 #[.int .i64 h] 1 (by omega) (by decide) rfl
 rw[hsz2] at hgo0
 have hgo:W2.ownsRow w1.heap.size 3 1 (.slice (some ⟨w1.heap.size+1+1,0,none⟩) 1 1) 1 (Zc [h]):=by
  rw[←hW2]
  exact hgo0
 have hroom:w1.heap.size≤W2.heap.size:=by have:=(hgo.lt (w1.heap.size+1+1) rfl).2;omega
 have hed:EditAt W2 w1.heap.size (w.heap.size+1) tb (oldEdit2 v' h) (.slice (some ⟨w1.heap.size+1+1,0,none⟩) 1 1) (.slice none 0 0):=⟨hmb2,hgo,World.ownsRow_nil _ _ 3 1,by omega,(fun g hg=>by simp[Value.ownBlock]),hroom⟩
 have hleaf:=leaf2_any W2 _ _ tb L S (oldEdit2 v' h) _ _ (HP.out.only ho2 (by simp)) (HT.out.only ho2 (by simp)) hed (fun e=>by have:=HLT.out _ e;omega) HX.out (by have:=HTL.out;omega) (fun k hk=>by have:=HLT.out k hk;omega) (by have:=HTL.out;omega) (by simp[oldEdit2,EditS.zero]) k v HK64.out HV.out m1 S1 HS.out
 have hw1l:w1.heap.size≤W2.heap.size:=hroom
 have howW:Only [] w1 W2→True:=fun _=>trivial
 have hwr2:Row W2 wA (way.flatMap StepS.cells):=by
  have hb2:Only [w.heap.size+1] w1 W2:=by
   rw[←hW2,←hW0]
   exact (((((((Only.refl _ _).setCell (.inl (by simp)) _).setCell (.inl (by simp)) _).setCell (.inl (by simp)) _).alloc _).alloc _).alloc _).drew'
  refine HWR.out.only hb2 (fun b hb hc=>?_)
  have hbl:=HWO.out.lt
  subst hb
  have h2:=(row_block HWO.out).1
  have h3:((w.alloc (.cells #[.int .i64 0,.int .i64 0,.bool false,.slice none 0 0,.slice none 0 0] 264)).alloc (.cells #[.pointer (some ⟨tb,0,none⟩),.pointer none,.int .i64 0,.int .i64 0,.bool false,.slice none 0 0,.slice none 0 0] 320)).heap.size=w.heap.size+2:=by simp
  simp at hc
  omega
 have hwA:∀b,wA=some b→w.heap.size+2≤b.block∧b.block<w1.heap.size:=by
  intro b hb
  subst hb
  have h2:=row_block HWO.out
  have h3:((w.alloc (.cells #[.int .i64 0,.int .i64 0,.bool false,.slice none 0 0,.slice none 0 0] 264)).alloc (.cells #[.pointer (some ⟨tb,0,none⟩),.pointer none,.int .i64 0,.int .i64 0,.bool false,.slice none 0 0,.slice none 0 0] 320)).heap.size=w.heap.size+2:=by simp
  omega
 have HO2:=hid ho2;have HBR:=hid hbr2;have HWR2:=hid hwr2;have HWA:=hid hwA;have HL12:=hid (show w.heap.size+1<w1.heap.size from hlt2);have HROOM:=hid hroom
 unfold ptr at hleaf
 clear howW hw1l hgo0 hW0 hW2 hsz2 ho1 ho2 hmb2 hbr2 hgo hroom hed hf1 m3 m4 m5 hlt1 hlt2 hwr2 hwA
 go_wp2_with (first|(go_at_call 205;refine hleaf.mono ?_;rintro e w3 he;obtain⟨mv3,rfl,h1,h2,h3,h4⟩:=he;have hup:=upwards_any w3 w1.heap.size (w.heap.size+1) tb L S1 m1 _ mv3 h1 (HT.out.only (HO2.out.mono (Y:=(w.heap.size+1) :: L.blocks ++ []) (by simp) |>.trans h3) (by simp only[List.cons_append,List.mem_cons,List.mem_append];rintro (e|e|e);have:=HTL.out;omega;exact HX.out e;simp[Value.ownBlock] at e)) h2 HMK.out.1 (fun e=>by have:=HLT.out _ e;omega) HX.out (by have:=HTL.out;omega) (fun k hk=>by have:=HLT.out k hk;have:=HL12.out;omega) (by have:=HTL.out;have:=HL12.out;omega) way wA wc (HWR2.out.only h3 (fun b hb hc=>by have:=HWA.out b hb;simp only[List.cons_append,List.mem_cons,List.mem_append] at hc;rcases hc with hc|hc|hc;omega;have:=HLT.out _ (Qf hc);omega;simp[Value.ownBlock] at hc)) (fun b hb=>by have:=HWA.out b hb;exact⟨this.2,by omega,fun hc=>by have:=HLT.out _ (Qf hc);omega⟩) HST.out HWL.out (by have:=HMK.out.2.1;rw[this];simp[oldEdit2,EditS.zero]) (by rw[HMK.out.2.2];simp[oldEdit2]) 0 (by omega) (m',S') HU.out;unfold ptr at hup;have HUP:=hid hup;have H3:=hid h3;clear h1 h2 h3 h4 hup hleaf)|(go_at_call 207;refine HUP.out.mono ?_;rintro e w4 he;obtain⟨gv,mv,D,rfl,h1,h2,h3,h4⟩:=he;obtain⟨gA,gc,rfl,_,_⟩:=Qc h2.gone;obtain⟨mA,mc,rfl,_,_⟩:=Qc h2.made;have hbr3:Blk w4 w.heap.size [.int .i64 0,.int .i64 0,.bool false,.slice none 0 0,.slice none 0 0] 264:=(HBR.out.only H3.out (by simp only[List.cons_append,List.mem_cons,List.mem_append];rintro (e|e|e);omega;have:=HLT.out _ (Qf e);omega;simp[Value.ownBlock] at e)).only h3 (by simp only[List.cons_append,List.mem_cons,List.mem_append];rintro (e|e|e);omega;have:=HLT.out _ (Qf e);omega;have:=h4 _ e;have:=HL12.out;omega);have d2:w4.cell? ⟨w.heap.size+1,2,none⟩=some (.int .i64 m'.root):=h2.blk.cell rfl;have d3:w4.cell? ⟨w.heap.size+1,3,none⟩=some (.int .i64 m'.old):=h2.blk.cell rfl;have d4:w4.cell? ⟨w.heap.size+1,4,none⟩=some (.bool m'.had):=h2.blk.cell rfl;have d5:w4.cell? ⟨w.heap.size+1,5,none⟩=some (.slice gA m'.gone.length gc):=h2.blk.cell rfl;have d6:w4.cell? ⟨w.heap.size+1,6,none⟩=some (.slice mA m'.made.length mc):=h2.blk.cell rfl;have f:=hbr3.frozen;have e0:=hbr3.cell (i:=0) rfl;have e1:=hbr3.cell (i:=1) rfl;have e2:=hbr3.cell (i:=2) rfl;have e3:=hbr3.cell (i:=3) rfl;have e4:=hbr3.cell (i:=4) rfl;have H1:=hid h1;have H2:=hid h2;have H3b:=hid h3;have H4:=hid h4;clear h1 h2 h3 h4 hbr3))
 have g:Only [w.heap.size] w4 (((((w4.setCell ⟨w.heap.size,0,none⟩ (.int .i64 m'.root)).setCell ⟨w.heap.size,1,none⟩ (.int .i64 m'.old)).setCell ⟨w.heap.size,2,none⟩ (.bool m'.had)).setCell ⟨w.heap.size,3,none⟩ (.slice gA m'.gone.length gc)).setCell ⟨w.heap.size,4,none⟩ (.slice mA m'.made.length mc)):=((((((Only.refl _ _).setCell (.inl (by simp)) _).setCell (.inl (by simp)) _).setCell (.inl (by simp)) _).setCell (.inl (by simp)) _).setCell (.inl (by simp)) _)
 have hall:Only L.blocks w (((((w4.setCell ⟨w.heap.size,0,none⟩ (.int .i64 m'.root)).setCell ⟨w.heap.size,1,none⟩ (.int .i64 m'.old)).setCell ⟨w.heap.size,2,none⟩ (.bool m'.had)).setCell ⟨w.heap.size,3,none⟩ (.slice gA m'.gone.length gc)).setCell ⟨w.heap.size,4,none⟩ (.slice mA m'.made.length mc)):=by
  have h1:=(HO2.out.mono (Y:=w.heap.size :: (w.heap.size+1) :: L.blocks ++ D) (by simp)).trans ((H3.out.mono (by intro k hk;simp[Value.ownBlock] at hk ⊢;rcases hk with h|h <;> simp[h])).trans ((H3b.out.mono (by intro k hk;simp at hk ⊢;rcases hk with h|h|h <;> simp[h])).trans (g.mono (by intro k hk;simp at hk ⊢;simp[hk]))))
  refine h1.fresh (fun k hk hlt=>?_)
  have h4:=H4.out k
  have hl12:=HL12.out
  simp at hk
  rcases hk with h|h|h|h
  ·omega
  ·omega
  ·exact h
  ·have:=h4 h
   omega
 refine bodyPost_ret (v:=Edit2 m' (.slice gA m'.gone.length gc) (.slice mA m'.made.length mc)) (by simp[results,Tryz.results165,go_sem,e0,e1,e2,e3,e4,Edit2]) rfl ⟨_,_,rfl,H1.out.only g (fun k hk e=>?_),?_,?_,H2.out.apart,hall⟩
 ·have:=HLT.out k hk
  simp at e
  omega
 ·exact Qn (Qe H2.out.gone g (fun k hk e=>by have:=(H2.out.gone.lt k hk).1;have:=HL12.out;simp at e;omega)) (by have:=HL12.out;omega)
 ·exact Qn (Qe H2.out.made g (fun k hk e=>by have:=(H2.out.made.lt k hk).1;have:=HL12.out;simp at e;omega)) (by have:=HL12.out;omega)
def ShIn:Shape→Prop
 |.leaf k _=>0≤k∧k≤4294967295
 |.inner p f _ _ c=>p<32∧(0≤f∧f≤4294967295)∧-4000000000≤c∧c≤4000000000
theorem splits_any (w:World)(base mb tb:Nat)(L:PoolL)(S:PoolS)(m:EditS)(gv mv:Value)(hp:PoolAt w L S)(ht:Blk w tb [ptr L.pb] 187)(hm:EditAt w base mb tb m gv mv)
  (hx1:mb∉L.all) (hx2:tb∉L.blocks) (hx3:tb≠mb) (hx4:∀k∈L.all,k<base) (hx5:tb<base) (hlen:m.made.length<10000000) (h k v:Int) (hh:Ql h) (hk:0≤k∧k≤4294967295) (hv:Ql v) (s:Shape) (hs:ShIn s)
  (r:EditS × PoolS) (hsp:splits h s k v (m,S)=some r):
  Calls prog 206 #[ptr mb,.agg #[.int .i64 h,s.val],.int .i64 k,.int .i64 v] w (Edited L base mb tb r.1 r.2 w):=by
 cases s with
 |leaf k' v'=>
  by_cases hlt:k<k'
  ·exact splitsLeafLt_any w base mb tb L S m gv mv hp ht hm hx1 hx2 hx3 hx4 hx5 hlen h k v hh hk hv k' v' hs r hsp hlt
  ·exact splitsLeafGe_any w base mb tb L S m gv mv hp ht hm hx1 hx2 hx3 hx4 hx5 hlen h k v hh hk hv k' v' hs r hsp hlt
 |inner p f l rr c=>
  by_cases hlt:k<f
  ·exact splitsInnerLt_any w base mb tb L S m gv mv hp ht hm hx1 hx2 hx3 hx4 hx5 hlen h k v hh hk hv p f l rr c hs.2.1 hs.1 hs.2.2 r hsp hlt
  ·exact splitsInnerGe_any w base mb tb L S m gv mv hp ht hm hx1 hx2 hx3 hx4 hx5 hlen h k v hh hk hv p f l rr c hs.2.1 hs.1 hs.2.2 r hsp hlt
theorem assertInner2 (p:Int)(f l r c:Int)(W:World):(Instr.typeAssert (.iface 335 (.agg #[.int .i64 p,.int .i64 f,.int .i64 l,.int .i64 r,.int .i64 c])) 301 307 true).run prog W=.ok (.tuple #[.agg #[.int .i64 0,.int .i64 0],.bool false]) W:=by kernel_rfl
theorem putThere_any (w:World)(tb:Nat)(L:PoolL)(S:PoolS)(hp:PoolAt w L S)(ht:Blk w tb [ptr L.pb] 187)(root h k v:Int)(h0:root≠0)(hk:Qt k=true)(way:List StepS)(hx:S.down root k=some (way,h,.leaf k v)):
  Calls prog 165 #[ptr tb,.pointer none,.int .i64 root,.int .i64 k,.int .i64 v] w (Putted L {EditS.zero with root:=root,old:=v,had:=true} S w):=by
 have hkey:=fun W=>key_any k W
 rw[hk] at hkey
 have hd:=fun W (ho:Only [] w W)=>down_iface W tb L S (hp.only ho (by simp)) (ht.only ho (by simp)) root k way h _ hx 307 (.agg #[.int .i64 k,.int .i64 v]) rfl
 have hta:=assertLeaf2 k v
 have HP:=hid hp;have HK:=hid hkey;have HD:=hid hd
 have hq:(root == 0)=false:=by simp[h0]
 have ho0:Only [] w ((w.alloc (.cells #[.int .i64 0,.int .i64 0,.bool false,.slice none 0 0,.slice none 0 0] 264)).alloc (.cells #[.pointer (some ⟨tb,0,none⟩),.pointer none,.int .i64 0,.int .i64 0,.bool false,.slice none 0 0,.slice none 0 0] 320)):=((Only.refl _ _).alloc _).alloc _
 have HO0:=hid ho0
 unfold Shape.val ptr at *
 clear hp ht hx hd hkey hk ho0
 go_enter func165,ntmps165
 go_wp2_with (first|(go_at_call 195;refine (HK.out _).mono ?_;rintro e w' ⟨rfl,rfl⟩)|(go_at_call 197;refine (HD.out _ HO0.out).mono ?_;rintro e w1 ⟨wv,rfl,hwo,hb⟩;obtain⟨wA,wc,rfl,_,_⟩:=Qc hwo;clear hwo;have hn:Blk w1 w.heap.size [.int .i64 0,.int .i64 0,.bool false,.slice none 0 0,.slice none 0 0] 264:=((Blk.new w [.int .i64 0,.int .i64 0,.bool false,.slice none 0 0,.slice none 0 0] 264).alloc _).only hb (by simp);have hf:=hn.frozen;have e0:=hn.cell (i:=0) rfl;have e1:=hn.cell (i:=1) rfl;have e2:=hn.cell (i:=2) rfl;have e3:=hn.cell (i:=3) rfl;have e4:=hn.cell (i:=4) rfl;have hlt:=hn.lt;have HB:=hid hb;clear hb hn))
 have h1:=HO0.out.trans HB.out
 have hall:=((((((h1.setCell (p:=⟨w.heap.size,0,none⟩) (.inr (Nat.le_refl _)) (.int .i64 root)).setCell (p:=⟨w.heap.size,1,none⟩) (.inr (Nat.le_refl _)) (.int .i64 v)).setCell (p:=⟨w.heap.size,2,none⟩) (.inr (Nat.le_refl _)) (.bool true)).setCell (p:=⟨w.heap.size,3,none⟩) (.inr (Nat.le_refl _)) (.slice none 0 0)).setCell (p:=⟨w.heap.size,4,none⟩) (.inr (Nat.le_refl _)) (.slice none 0 0)).alloc (.cells #[.int .i64 h,.iface 307 (.agg #[.int .i64 k,.int .i64 v])] 303)).alloc (.cells #[.int .i64 k,.int .i64 v] 307)
 refine bodyPost_ret (v:=Edit2 {EditS.zero with root:=root,old:=v,had:=true} (.slice none 0 0) (.slice none 0 0)) (by simp[results,Tryz.results165,go_sem,e0,e1,e2,e3,e4,hlt,Edit2]) rfl ⟨_,_,rfl,HP.out.only hall (by simp),World.ownsRow_nil _ _ 3 1,World.ownsRow_nil _ _ 3 1,(fun g hg=>by simp[Value.ownBlock] at hg),hall.mono (by simp)⟩
section
variable (w:World)(tb:Nat)(L:PoolL)(S:PoolS)(hp:PoolAt w L S)(ht:Blk w tb [ptr L.pb] 187)(hx2:tb∉L.blocks)(root h k v:Int)
include w tb L S hp ht hx2 root h k v
theorem putNew_all:(∀(k' v':Int) (hne:k'≠k) (hh:Ql h) (hsi:ShIn (.leaf k' v')) (h0:root≠0) (hk:Qt k=true) (hv:Ql v) (way:List StepS) (hx:S.down root k=some (way,h,(.leaf k' v'))) (hst:∀x∈way,StepOk x) (hwl:way.length≤64) (m1 m':EditS) (S1 S':PoolS) (hS:splits h (.leaf k' v') k v (.zero,S)=some (m1,S1)) (hr1:Ql m1.root) (hl1:m1.made.length≤10∧m1.gone.length≤10) (hU:Zl 1 way.reverse (m1,S1)=some (m',S')),Calls prog 165 #[ptr tb,.pointer none,.int .i64 root,.int .i64 k,.int .i64 v] w (Putted L m' S' w)) ∧
  (∀(p':Nat) (f' l' r' c':Int) (hh:Ql h) (hsi:ShIn (.inner p' f' l' r' c')) (h0:root≠0) (hk:Qt k=true) (hv:Ql v) (way:List StepS) (hx:S.down root k=some (way,h,(.inner p' f' l' r' c'))) (hst:∀x∈way,StepOk x) (hwl:way.length≤64) (m1 m':EditS) (S1 S':PoolS) (hS:splits h (.inner p' f' l' r' c') k v (.zero,S)=some (m1,S1)) (hr1:Ql m1.root) (hl1:m1.made.length≤10∧m1.gone.length≤10) (hU:Zl 1 way.reverse (m1,S1)=some (m',S')),Calls prog 165 #[ptr tb,.pointer none,.int .i64 root,.int .i64 k,.int .i64 v] w (Putted L m' S' w)):=by
 refine⟨?_,?_⟩
 intro k' v' hne hh hsi h0 hk hv way hx hst hwl m1 m' S1 S' hS hr1 hl1 hU;have tg1:=0;rotate_left
 intro p' f' l' r' c' hh hsi h0 hk hv way hx hst hwl m1 m' S1 S' hS hr1 hl1 hU;rotate_left
 all_goals
  have hkey:=fun W=>key_any k W
  rw[hk] at hkey
  have hk64:Ql k:=by unfold Qt K32 at hk;simp at hk;unfold Ql;omega
  first|(have _:=tg1;have hd:=fun W (ho:Only [] w W)=>down_iface W tb L S (hp.only ho (by simp)) (ht.only ho (by simp)) root k way h _ hx 307 (.agg #[.int .i64 k',.int .i64 v']) rfl)|(have hd:=fun W (ho:Only [] w W)=>down_iface W tb L S (hp.only ho (by simp)) (ht.only ho (by simp)) root k way h _ hx 335 (.agg #[.int .i64 (p':Int),.int .i64 f',.int .i64 l',.int .i64 r',.int .i64 c']) rfl)
  have hk2:0≤k∧k≤4294967295:=by unfold Qt K32 at hk;simp at hk;omega
  first|(have _:=tg1;have hta:=assertLeaf2 k' v')|(have hta:=assertInner2 (p':Int) f' l' r' c')
  have hq:(root == 0)=false:=by simp[h0]
  first|(have _:=tg1;have hq2:(k' == k)=false:=by simp[hne])|(skip)
  have ho0:Only [] w ((w.alloc (.cells #[.int .i64 0,.int .i64 0,.bool false,.slice none 0 0,.slice none 0 0] 264)).alloc (.cells #[.pointer (some ⟨tb,0,none⟩),.pointer none,.int .i64 0,.int .i64 0,.bool false,.slice none 0 0,.slice none 0 0] 320)):=((Only.refl _ _).alloc _).alloc _
  have hlt:=hp.lt
  have htl:=ht.lt
  have HK:=hid hkey
  have HD:=hid hd
  have HR1:=hid hr1
  have HL1:=hid hl1
  have HH:=hid hh
  have HSI:=hid hsi
  have HK2:=hid hk2
  have HU:=hid hU
  have HST:=hid hst
  have HWL:=hid hwl
  have HO0:=hid ho0
  have HP:=hid hp
  have HT:=hid ht
  have HX:=hid hx2
  have HS:=hid hS
  have HV:=hid hv
  have HK64:=hid hk64
  have HLT:=hid hlt
  have HTL:=hid htl
  unfold ptr at *
  first
  |have _:=tg1
   clear hr1 hl1 hh hsi hk2 hne hU hst hwl hp ht hx hd hkey hk ho0 hS hv hk64 hlt htl h0
   have HSPL:Hid (∀(w1 W:World),Blk w1 (w.heap.size+1) [.pointer (some ⟨tb,0,none⟩),.pointer none,.int .i64 0,.int .i64 0,.bool false,.slice none 0 0,.slice none 0 0] 320→Blk w1 w.heap.size [.int .i64 0,.int .i64 0,.bool false,.slice none 0 0,.slice none 0 0] 264→Only [] w w1→Only [] w1 W→Calls prog 206 #[.pointer (some ⟨w.heap.size+1,0,none⟩),.agg #[.int .i64 h,.iface 307 (.agg #[.int .i64 k',.int .i64 v'])],.int .i64 k,.int .i64 v] W (Edited L w1.heap.size (w.heap.size+1) tb m1 S1 W)):=
    hid fun w1 W hbm hbr ho1 ho=>splits_any W w1.heap.size (w.heap.size+1) tb L S .zero _ _ (HP.out.only (ho1.trans ho) (by simp)) (HT.out.only (ho1.trans ho) (by simp)) ⟨hbm.only ho (by simp),World.ownsRow_nil _ _ 3 1,World.ownsRow_nil _ _ 3 1,hbm.lt,(fun g hg=>by simp[Value.ownBlock] at hg),ho.size⟩ (fun e=>by have:=HLT.out _ e;omega) HX.out (by have:=HTL.out;omega) (fun k hk=>by have:=HLT.out k hk;have:=hbm.lt;omega) (by have:=HTL.out;have:=hbm.lt;omega) (by simp[EditS.zero]) h k v HH.out HK2.out HV.out (.leaf k' v') HSI.out (m1,S1) HS.out
  |clear hr1 hl1 hh hsi hk2  hU hst hwl hp ht hx hd hkey hk ho0 hS hv hk64 hlt htl h0
   have HSPL:Hid (∀(w1 W:World),Blk w1 (w.heap.size+1) [.pointer (some ⟨tb,0,none⟩),.pointer none,.int .i64 0,.int .i64 0,.bool false,.slice none 0 0,.slice none 0 0] 320→Blk w1 w.heap.size [.int .i64 0,.int .i64 0,.bool false,.slice none 0 0,.slice none 0 0] 264→Only [] w w1→Only [] w1 W→Calls prog 206 #[.pointer (some ⟨w.heap.size+1,0,none⟩),.agg #[.int .i64 h,.iface 335 (.agg #[.int .i64 (p':Int),.int .i64 f',.int .i64 l',.int .i64 r',.int .i64 c'])],.int .i64 k,.int .i64 v] W (Edited L w1.heap.size (w.heap.size+1) tb m1 S1 W)):=
    hid fun w1 W hbm hbr ho1 ho=>splits_any W w1.heap.size (w.heap.size+1) tb L S .zero _ _ (HP.out.only (ho1.trans ho) (by simp)) (HT.out.only (ho1.trans ho) (by simp)) ⟨hbm.only ho (by simp),World.ownsRow_nil _ _ 3 1,World.ownsRow_nil _ _ 3 1,hbm.lt,(fun g hg=>by simp[Value.ownBlock] at hg),ho.size⟩ (fun e=>by have:=HLT.out _ e;omega) HX.out (by have:=HTL.out;omega) (fun k hk=>by have:=HLT.out k hk;have:=hbm.lt;omega) (by have:=HTL.out;have:=hbm.lt;omega) (by simp[EditS.zero]) h k v HH.out HK2.out HV.out (.inner p' f' l' r' c') HSI.out (m1,S1) HS.out
  go_enter func165,ntmps165
  go_wp2_with (first|(go_at_call 195;refine (HK.out _).mono ?_;rintro e w' ⟨rfl,rfl⟩)|(go_at_call 197;refine (HD.out _ HO0.out).mono ?_;rintro e w1 ⟨wv,rfl,hwo,hb⟩;obtain⟨wA,wc,rfl,hwr,_⟩:=Qc hwo;have HWO:=hid hwo;have HWR:=hid hwr;clear hwo hwr;have hn:Blk w1 w.heap.size [.int .i64 0,.int .i64 0,.bool false,.slice none 0 0,.slice none 0 0] 264:=((Blk.new w [.int .i64 0,.int .i64 0,.bool false,.slice none 0 0,.slice none 0 0] 264).alloc _).only hb (by simp);have hbm:Blk w1 (w.heap.size+1) [.pointer (some ⟨tb,0,none⟩),.pointer none,.int .i64 0,.int .i64 0,.bool false,.slice none 0 0,.slice none 0 0] 320:=(show Blk _ (w.heap.size+1) _ 320 from by have:=Blk.new (w.alloc (.cells #[.int .i64 0,.int .i64 0,.bool false,.slice none 0 0,.slice none 0 0] 264)) [.pointer (some ⟨tb,0,none⟩),.pointer none,.int .i64 0,.int .i64 0,.bool false,.slice none 0 0,.slice none 0 0] 320;rw[World.size_alloc] at this;exact this).only hb (by simp);have HBM:=hid hbm;have HN:=hid hn;have HB:=hid hb;have ho1:Only [] w w1:=HO0.out.trans hb;have HO1:=hid ho1;have hwA:∀b,wA=some b→w.heap.size+2≤b.block∧b.block<w1.heap.size:=(fun b hb2=>by subst hb2;have h2:=row_block HWO.out;have h3:((w.alloc (.cells #[.int .i64 0,.int .i64 0,.bool false,.slice none 0 0,.slice none 0 0] 264)).alloc (.cells #[.pointer (some ⟨tb,0,none⟩),.pointer none,.int .i64 0,.int .i64 0,.bool false,.slice none 0 0,.slice none 0 0] 320)).heap.size=w.heap.size+2:=(by simp);omega);have HWA:=hid hwA;clear hb hn hbm ho1 hwA)|(go_at_call 206;refine (HSPL.out w1 _ HBM.out HN.out HO1.out (((Only.refl [] w1).alloc _).alloc _)).mono ?_;rintro e w3 he;obtain⟨gv3,mv3,D3,rfl,h1,h2,h3,h4⟩:=he;have hw13:w1.heap.size≤w3.heap.size:=Nat.le_trans ((((Only.refl [] w1).alloc _).alloc _).size) h3.size;have ho13:Only ((w.heap.size+1) :: L.blocks ++ D3) w1 w3:=((((Only.refl _ w1).alloc _).alloc _)).trans h3;have hup:=upwards_any w3 w1.heap.size (w.heap.size+1) tb L S1 m1 gv3 mv3 h1 (HT.out.only ((HO1.out.mono (by simp)).trans ho13) (by simp only[List.cons_append,List.mem_cons,List.mem_append];rintro (e|e|e);have:=HTL.out;omega;exact HX.out e;have:=h4 _ e;have:=HTL.out;have:=HBM.out.lt;omega)) h2 HR1.out (fun e=>by have:=HLT.out _ e;omega) HX.out (by have:=HTL.out;omega) (fun k hk=>by have:=HLT.out k hk;have:=HBM.out.lt;omega) (by have:=HTL.out;have:=HBM.out.lt;omega) way wA wc (HWR.out.only ho13 (fun b hb hc=>by have:=HWA.out b hb;simp only[List.cons_append,List.mem_cons,List.mem_append] at hc;rcases hc with hc|hc|hc;omega;have:=HLT.out _ (Qf hc);omega;have:=h4 _ hc;omega)) (fun b hb=>by have:=HWA.out b hb;exact⟨this.2,by omega,fun hc=>by have:=HLT.out _ (Qf hc);omega⟩) HST.out HWL.out (by have:=HL1.out;omega) (by have:=HL1.out;omega) 1 (by omega) (m',S') HU.out;unfold ptr at hup;have HUP:=hid hup;have H3:=hid ho13;have H4a:=hid h4;clear h1 h2 h3 h4 hup ho13 hw13)|(go_at_call 207;refine HUP.out.mono ?_;rintro e w4 he;obtain⟨gv,mv,D,rfl,h1,h2,h3,h4⟩:=he;obtain⟨gA,gc,rfl,_,_⟩:=Qc h2.gone;obtain⟨mA,mc,rfl,_,_⟩:=Qc h2.made;have hbr3:Blk w4 w.heap.size [.int .i64 0,.int .i64 0,.bool false,.slice none 0 0,.slice none 0 0] 264:=(HN.out.only H3.out (by simp only[List.cons_append,List.mem_cons,List.mem_append];rintro (e|e|e);omega;have:=HLT.out _ (Qf e);omega;have:=H4a.out _ e;have:=HBM.out.lt;omega)).only h3 (by simp only[List.cons_append,List.mem_cons,List.mem_append];rintro (e|e|e);omega;have:=HLT.out _ (Qf e);omega;have:=h4 _ e;have:=HBM.out.lt;omega);have d2:w4.cell? ⟨w.heap.size+1,2,none⟩=some (.int .i64 m'.root):=h2.blk.cell rfl;have d3:w4.cell? ⟨w.heap.size+1,3,none⟩=some (.int .i64 m'.old):=h2.blk.cell rfl;have d4:w4.cell? ⟨w.heap.size+1,4,none⟩=some (.bool m'.had):=h2.blk.cell rfl;have d5:w4.cell? ⟨w.heap.size+1,5,none⟩=some (.slice gA m'.gone.length gc):=h2.blk.cell rfl;have d6:w4.cell? ⟨w.heap.size+1,6,none⟩=some (.slice mA m'.made.length mc):=h2.blk.cell rfl;have f:=hbr3.frozen;have e0:=hbr3.cell (i:=0) rfl;have e1:=hbr3.cell (i:=1) rfl;have e2:=hbr3.cell (i:=2) rfl;have e3:=hbr3.cell (i:=3) rfl;have e4:=hbr3.cell (i:=4) rfl;have H1:=hid h1;have H2:=hid h2;have H3b:=hid h3;have H4:=hid h4;clear h1 h2 h3 h4 hbr3))
  have g:Only [w.heap.size] w4 (((((w4.setCell ⟨w.heap.size,0,none⟩ (.int .i64 m'.root)).setCell ⟨w.heap.size,1,none⟩ (.int .i64 m'.old)).setCell ⟨w.heap.size,2,none⟩ (.bool m'.had)).setCell ⟨w.heap.size,3,none⟩ (.slice gA m'.gone.length gc)).setCell ⟨w.heap.size,4,none⟩ (.slice mA m'.made.length mc)):=((((((Only.refl _ _).setCell (.inl (by simp)) _).setCell (.inl (by simp)) _).setCell (.inl (by simp)) _).setCell (.inl (by simp)) _).setCell (.inl (by simp)) _)
  have hall:Only L.blocks w (((((w4.setCell ⟨w.heap.size,0,none⟩ (.int .i64 m'.root)).setCell ⟨w.heap.size,1,none⟩ (.int .i64 m'.old)).setCell ⟨w.heap.size,2,none⟩ (.bool m'.had)).setCell ⟨w.heap.size,3,none⟩ (.slice gA m'.gone.length gc)).setCell ⟨w.heap.size,4,none⟩ (.slice mA m'.made.length mc)):=by
   have h1:=(HO1.out.mono (Y:=w.heap.size :: (w.heap.size+1) :: L.blocks ++ (D3 ++ D)) (by simp)).trans ((H3.out.mono (by intro k hk;simp at hk ⊢;rcases hk with h|h|h <;> simp[h])).trans ((H3b.out.mono (by intro k hk;simp at hk ⊢;rcases hk with h|h|h <;> simp[h])).trans (g.mono (by intro k hk;simp at hk ⊢;simp[hk]))))
   refine h1.fresh (fun k hk hlt=>?_)
   have h4:=H4.out k
   have h4a:=H4a.out k
   have hl12:=HBM.out.lt
   simp at hk
   rcases hk with h|h|h|h|h
   ·omega
   ·omega
   ·exact h
   ·have:=h4a h
    omega
   ·have:=h4 h
    omega
  refine bodyPost_ret (v:=Edit2 m' (.slice gA m'.gone.length gc) (.slice mA m'.made.length mc)) (by simp[results,Tryz.results165,go_sem,e0,e1,e2,e3,e4,Edit2]) rfl ⟨_,_,rfl,H1.out.only g (fun k hk e=>?_),?_,?_,H2.out.apart,hall⟩
  ·have:=HLT.out k hk
   simp at e
   omega
  ·exact Qn (Qe H2.out.gone g (fun k hk e=>by have:=(H2.out.gone.lt k hk).1;have:=HBM.out.lt;simp at e;omega)) (by have:=HBM.out.lt;omega)
  ·exact Qn (Qe H2.out.made g (fun k hk e=>by have:=(H2.out.made.lt k hk).1;have:=HBM.out.lt;simp at e;omega)) (by have:=HBM.out.lt;omega)
abbrev putNewLeaf_any:=(putNew_all w tb L S hp ht hx2 root h k v).1
abbrev putNewInner_any:=(putNew_all w tb L S hp ht hx2 root h k v).2
end
def WayIn (S:PoolS)(root k:Int):Prop:=root≠0→∃way h s,S.down root k=some (way,h,s)∧(∀x∈way,StepOk x)∧way.length≤64∧Ql h∧ShIn s
theorem splits_root {h:Int}{s:Shape}{k v:Int}{S:PoolS}{m1:EditS}{S1:PoolS}(hs:splits h s k v (.zero,S)=some (m1,S1)):Ql m1.root∧m1.made.length≤10∧m1.gone.length≤10:=by
 unfold splits at hs
 simp only[bind,Option.bind_eq_some_iff] at hs
 obtain⟨⟨m,S0⟩,h1,h2⟩:=hs
 obtain⟨a1,a2,a3⟩:=makes_root h1
 split at h2
 ·obtain⟨b1,b2,b3⟩:=makes_root h2
  refine⟨b1,?_,?_⟩
  ·rw[b2,a2]
   simp[EditS.zero]
  ·rw[b3,a3]
   simp[EditS.zero]
 ·cases h2
theorem trieput_any (w:World)(tb:Nat)(L:PoolL)(S:PoolS)(hp:PoolAt w L S)(ht:Blk w tb [ptr L.pb] 187)(hx2:tb∉L.blocks)(root k v:Int)(hk:Qt k=true)(hv:Ql v)(hw:WayIn S root k)(e:EditS)(S':PoolS)(h:S.trieput root k v=some (e,S')):
  Calls prog 165 #[ptr tb,.pointer none,.int .i64 root,.int .i64 k,.int .i64 v] w (Putted L e S' w):=by
 by_cases h0:root=0
 ·subst h0
  exact putEmpty_any w tb L S hp ht hx2 k v hk hv e S' h
 ·obtain⟨way,hd,s,hdn,hst,hwl,hh,hsi⟩:=hw h0
  unfold PoolS.trieput at h
  rw[if_neg h0,hdn,Option.bind_eq_bind,Option.bind_some] at h
  dsimp only at h
  have hgen:(∃m1 S1,splits hd s k v (.zero,S)=some (m1,S1)∧Zl 1 way.reverse (m1,S1)=some (e,S'))→(∀a b,s=.leaf a b→a≠k)→Calls prog 165 #[ptr tb,.pointer none,.int .i64 root,.int .i64 k,.int .i64 v] w (Putted L e S' w):=by
   rintro ⟨m1,S1,h1,h2⟩ hne
   obtain⟨r1,r2,r3⟩:=splits_root h1
   cases s with
   |leaf a b=>exact putNewLeaf_any w tb L S hp ht hx2 root hd k v a b (hne a b rfl) hh hsi h0 hk hv way hdn hst hwl m1 e S1 S' h1 r1 ⟨r2,r3⟩ h2
   |inner p f l r c=>exact putNewInner_any w tb L S hp ht hx2 root hd k v p f l r c hh hsi h0 hk hv way hdn hst hwl m1 e S1 S' h1 r1 ⟨r2,r3⟩ h2
  have hsp:∀x:Option (EditS × PoolS),(do let a ←x;Zl 1 way.reverse a)=some (e,S')→∃m1 S1,x=some (m1,S1)∧Zl 1 way.reverse (m1,S1)=some (e,S'):=by
   intro x hx
   cases x with
   |none=>cases hx
   |some a=>exact⟨a.1,a.2,rfl,hx⟩
  cases s with
  |leaf a b=>
   dsimp only at h
   by_cases ha:a=k
   ·rw[if_pos ha] at h
    subst ha
    by_cases hb:b=v
    ·rw[if_pos hb] at h
     subst hb
     cases h
     exact putThere_any w tb L S hp ht root hd a b h0 hk way hdn
    ·rw[if_neg hb] at h
     cases hl:mkLeaf a v ({EditS.zero with old:=b,had:=true,gone:=[hd]},S) with
     |none=>rw[hl] at h;cases h
     |some x=>
      rw[hl] at h
      exact putMet_any w tb L S hp ht hx2 root hd a v b h0 hb hk hv way hdn hst hwl x.1 e x.2 S' hl h
   ·rw[if_neg ha] at h
    exact hgen (hsp _ h) (fun x y e=>by cases e;exact ha)
  |inner p f l r c=>exact hgen (hsp _ h) (fun x y e=>by cases e)
theorem findZero_any (w:World)(tb:Nat)(k:Int)(hk:Qt k=true):
  Calls prog 145 #[ptr tb,.pointer none,.int .i64 0,.int .i64 k] w fun e w'=>e=.returned (.tuple #[.int .i64 0,.bool false,.int .i64 0])∧Only [] w w':=by
 have hkey:=fun W=>key_any k W
 rw[hk] at hkey
 have HK:=hid hkey
 have HNO:=hid (none_any 0)
 unfold ptr
 clear hkey hk
 go_enter func145,ntmps145
 go_wp2_with (first|(go_at_call 195;refine (HK.out _).mono ?_;rintro e w' ⟨rfl,rfl⟩)|(go_at_call 196;refine (HNO.out _).mono ?_;rintro e w' ⟨rfl,rfl⟩))
 exact bodyPost_ret (v:=.tuple #[.int .i64 0,.bool false,.int .i64 0]) (by simp[results,Tryz.results145,go_sem]) rfl ⟨rfl,Only.refl _ _⟩
theorem findHit_any (w:World)(tb:Nat)(L:PoolL)(S:PoolS)(hp:PoolAt w L S)(ht:Blk w tb [ptr L.pb] 187)(root h k:Int)(v:Int)(h0:root≠0)(hk:Qt k=true)(way:List StepS)(hx:S.down root k=some (way,h,(.leaf k v))):
  Calls prog 145 #[ptr tb,.pointer none,.int .i64 root,.int .i64 k] w fun e w'=>e=.returned (.tuple #[.int .i64 v,.bool true,.int .i64 0])∧Only [] w w':=by
 have hkey:=fun W=>key_any k W
 rw[hk] at hkey
 have hd:=down_iface w tb L S hp ht root k way h _ hx 307 (.agg #[.int .i64 k,.int .i64 v]) rfl
 have hta:=assertLeaf2 k v
 have HK:=hid hkey;have HD:=hid hd
 have hq:(root == 0)=false:=by simp[h0]
 unfold ptr at *
 clear hp ht hx hd hkey hk h0
 go_enter func145,ntmps145
 go_wp2_with (first|(go_at_call 195;refine (HK.out _).mono ?_;rintro e w' ⟨rfl,rfl⟩)|(go_at_call 197;refine HD.out.mono ?_;rintro e w1 ⟨wv,rfl,hwo,hb⟩;obtain⟨wA,wc,rfl,_,_⟩:=Qc hwo;have HB:=hid hb;clear hb hwo))
 exact bodyPost_ret (v:=.tuple #[.int .i64 v,.bool true,.int .i64 0]) (by simp[results,Tryz.results145,go_sem]) rfl ⟨rfl,(HB.out.alloc _).alloc _⟩
theorem findMiss_any (w:World)(tb:Nat)(L:PoolL)(S:PoolS)(hp:PoolAt w L S)(ht:Blk w tb [ptr L.pb] 187)(root h k:Int)(k' v':Int)(hne:k'≠k)(h0:root≠0)(hk:Qt k=true)(way:List StepS)(hx:S.down root k=some (way,h,(.leaf k' v'))):
  Calls prog 145 #[ptr tb,.pointer none,.int .i64 root,.int .i64 k] w fun e w'=>e=.returned (.tuple #[.int .i64 0,.bool false,.int .i64 0])∧Only [] w w':=by
 have hkey:=fun W=>key_any k W
 rw[hk] at hkey
 have hd:=down_iface w tb L S hp ht root k way h _ hx 307 (.agg #[.int .i64 k',.int .i64 v']) rfl
 have hta:=assertLeaf2 k' v'
 have HK:=hid hkey;have HD:=hid hd
 have hq:(root == 0)=false:=by simp[h0]
 have hq2:(k' == k)=false:=by simp[hne]
 unfold ptr at *
 clear hp ht hx hd hkey hk h0 hne
 go_enter func145,ntmps145
 go_wp2_with (first|(go_at_call 195;refine (HK.out _).mono ?_;rintro e w' ⟨rfl,rfl⟩)|(go_at_call 197;refine HD.out.mono ?_;rintro e w1 ⟨wv,rfl,hwo,hb⟩;obtain⟨wA,wc,rfl,_,_⟩:=Qc hwo;have HB:=hid hb;clear hb hwo))
 exact bodyPost_ret (v:=.tuple #[.int .i64 0,.bool false,.int .i64 0]) (by simp[results,Tryz.results145,go_sem]) rfl ⟨rfl,(HB.out.alloc _).alloc _⟩
theorem findInner_any (w:World)(tb:Nat)(L:PoolL)(S:PoolS)(hp:PoolAt w L S)(ht:Blk w tb [ptr L.pb] 187)(root h k:Int)(p':Nat)(f' l' r' c':Int)(h0:root≠0)(hk:Qt k=true)(way:List StepS)(hx:S.down root k=some (way,h,(.inner p' f' l' r' c'))):
  Calls prog 145 #[ptr tb,.pointer none,.int .i64 root,.int .i64 k] w fun e w'=>e=.returned (.tuple #[.int .i64 0,.bool false,.int .i64 0])∧Only [] w w':=by
 have hkey:=fun W=>key_any k W
 rw[hk] at hkey
 have hd:=down_iface w tb L S hp ht root k way h _ hx 335 (.agg #[.int .i64 (p':Int),.int .i64 f',.int .i64 l',.int .i64 r',.int .i64 c']) rfl
 have hta:=assertInner2 (p':Int) f' l' r' c'
 have HK:=hid hkey;have HD:=hid hd
 have hq:(root == 0)=false:=by simp[h0]
 unfold ptr at *
 clear hp ht hx hd hkey hk h0
 go_enter func145,ntmps145
 go_wp2_with (first|(go_at_call 195;refine (HK.out _).mono ?_;rintro e w' ⟨rfl,rfl⟩)|(go_at_call 197;refine HD.out.mono ?_;rintro e w1 ⟨wv,rfl,hwo,hb⟩;obtain⟨wA,wc,rfl,_,_⟩:=Qc hwo;have HB:=hid hb;clear hb hwo))
 exact bodyPost_ret (v:=.tuple #[.int .i64 0,.bool false,.int .i64 0]) (by simp[results,Tryz.results145,go_sem]) rfl ⟨rfl,(HB.out.alloc _).alloc _⟩
theorem find_any (w:World)(tb:Nat)(L:PoolL)(S:PoolS)(hp:PoolAt w L S)(ht:Blk w tb [ptr L.pb] 187)(root k v:Int)(had:Bool)(hk:Qt k=true)(h:S.find root k=some (v,had)):
  Calls prog 145 #[ptr tb,.pointer none,.int .i64 root,.int .i64 k] w fun e w'=>e=.returned (.tuple #[.int .i64 v,.bool had,.int .i64 0])∧Only [] w w':=by
 unfold PoolS.find at h
 by_cases h0:root=0
 ·rw[if_pos h0] at h
  cases h
  subst h0
  exact findZero_any w tb k hk
 ·rw[if_neg h0] at h
  cases hd:S.down root k with
  |none=>rw[hd] at h;cases h
  |some x=>
   obtain⟨way,hh,s⟩:=x
   rw[hd,Option.bind_eq_bind,Option.bind_some] at h
   cases s with
   |leaf k' v'=>
    dsimp only at h
    by_cases hk':k'=k
    ·rw[if_pos hk'] at h
     cases h
     subst hk'
     exact findHit_any w tb L S hp ht root hh k' _ h0 hk way hd
    ·rw[if_neg hk'] at h
     cases h
     exact findMiss_any w tb L S hp ht root hh k k' _ hk' h0 hk way hd
   |inner p f l r c=>
    cases h
    exact findInner_any w tb L S hp ht root hh k p f l r c h0 hk way hd
end Go.Proofs.YteeefedoffplmaaGreat
