/- StoreAlone, part Pae: Trie, Makes, Leaf, Sides. -/
import Derived.Test.YteeefedoffplmaaGreatPad
import Derived.Handy
import Derived.Deep.RegionHeld3
import Derived.LoopN
set_option linter.unusedSimpArgs false
set_option linter.unusedVariables false
set_option maxRecDepth 100000
set_option maxHeartbeats 51200000
namespace Go.Proofs.YteeefedoffplmaaGreat
open Go.RowKit Lib Go.Proofs.Tryz
end Go.Proofs.YteeefedoffplmaaGreat
namespace Go.Proofs.YteeefedoffplmaaGreat
open Lib Go.Proofs.Tryz
open Go.RowKit
theorem free_any (w:World)(L:PoolL)(S:PoolS)(hp:PoolAt w L S)(res:List Int)(hr:S.places=some res):Calls prog 57 #[ptr L.pb] w (NewInts res w):=by
 have hpl:=places_any w L S hp res hr
 have c1:w.cell? ⟨L.pb,1,none⟩=some (ptr L.fb):=hp.p.cell rfl
 unfold ptr at *
 clear hp hr
 go_enter func57,ntmps57
 go_wp2_with (go_at_call 120;refine hpl.mono ?_;rintro e w1 ⟨sv,rfl,hown,ho⟩;obtain⟨A,c,rfl,hrow,_⟩:=Qc hown;have HO:=hid ho;have HOW:=hid hown;clear hown ho hrow hpl)
 go_ret
 exact⟨_,rfl,HOW.out,HO.out⟩
theorem key_any (k:Int)(w:World):Calls prog 195 #[.int .i64 k] w fun e w'=>e=.returned (.bool (Qt k))∧w=w':=by
 go_enter func195,ntmps195
 go_wp2
 all_goals
  go_ret
  refine⟨ret_bool ?_,rfl⟩
  unfold Qt K32
  rw[Bool.eq_iff_iff]
  simp
  try omega
theorem none_any (n:Int)(w:World):Calls prog 196 #[.pointer none,.int .i64 n] w fun e w'=>e=.returned (.int .i64 n)∧w=w':=by
 have hs:=Qx w
 go_enter func196,ntmps196
 go_wp2_with (go_at_call 71;refine hs.mono ?_;rintro e w' ⟨rfl,rfl⟩)
 go_ret
 exact⟨rfl,rfl⟩
def innerV (p:Nat)(f l r c:Int):Value:=.agg #[.int .i64 (p:Int),.int .i64 f,.int .i64 l,.int .i64 r,.int .i64 c]
theorem pow32 (p:Nat)(hp:p<33):1≤Qi p∧Qi p≤4294967296:=by
 have h3:2 ^ p≤2 ^ 32:=Nat.pow_le_pow_right (by omega) (show p≤32 by omega)
 have h4:1≤2 ^ p:=Nat.one_le_two_pow
 unfold Qi
 generalize 2 ^ p=q at *
 omega
theorem pow_cast (p:Nat):(2:Int) ^ p=Qi p:=by unfold Qi;simp
theorem pow_two (p:Nat):2*(2:Int) ^ p=Qi (p+1):=by unfold Qi;rw[Nat.pow_succ];simp;omega
theorem half_any (p:Nat)(f l r c:Int)(hp:p<32)(hf:0≤f∧f<4294967296)(w:World):
  Calls prog 222 #[innerV p f l r c] w fun e w'=>e=.returned (.int .i64 (f+Qi p))∧Only [] w w':=by
 have h3:=pow32 p (by omega)
 have e1:wrap64 ((2:Int) ^ p)=Qi p:=by rw[pow_cast];exact IntWalk.wrap64_in _ (by omega)
 have e2:wrap64 (f+Qi p)=f+Qi p:=IntWalk.wrap64_in _ (by omega)
 unfold innerV
 have HE1:=hid e1;have HE2:=hid e2
 clear hf h3 e1 e2
 go_enter func222,ntmps222
 go_wp2_with fail
 go_quiet (fail)
 go_wp2_with fail
 go_ret
 refine⟨?_,((Only.refl _ _).alloc _).drewN _⟩
 show Ending.returned (.int .i64 (wrap64 (f+wrap64 (2 ^ p))))=_
 rw[HE1.out,HE2.out]
theorem spanInner_any (p:Nat)(f l r c:Int)(hp:p<32)(hf:0≤f∧f<4294967296)(w:World):
  Calls prog 241 #[innerV p f l r c] w fun e w'=>e=.returned (.tuple #[.int .i64 f,.int .i64 (f+Qi (p+1)-1)])∧Only [] w w':=by
 have h3:=pow32 (p+1) (by omega)
 have e1:wrap64 (2*(2:Int) ^ p)=Qi (p+1):=by rw[pow_two];exact IntWalk.wrap64_in _ (by omega)
 have e2:wrap64 (f+Qi (p+1))=f+Qi (p+1):=IntWalk.wrap64_in _ (by omega)
 have e3:wrap64 (f+Qi (p+1)-1)=f+Qi (p+1)-1:=IntWalk.wrap64_in _ (by omega)
 unfold innerV
 have HE1:=hid e1;have HE2:=hid e2;have HE3:=hid e3
 clear hf h3 e1 e2 e3
 go_enter func241,ntmps241
 go_wp2_with fail
 go_quiet (fail)
 go_wp2_with fail
 go_ret2
 refine⟨?_,((Only.refl _ _).alloc _).drewN _⟩
 show Ending.returned (.tuple #[.int .i64 f,.int .i64 (wrap64 (wrap64 (f+wrap64 (2*2 ^ p))-1))])=_
 rw[HE1.out,HE2.out,HE3.out]
theorem spanLeaf_any (k v:Int)(w:World):
  Calls prog 268 #[.agg #[.int .i64 k,.int .i64 v]] w fun e w'=>e=.returned (.tuple #[.int .i64 k,.int .i64 k])∧Only [] w w':=by
 go_enter func268,ntmps268
 go_wp2_with fail
 go_quiet (fail)
 go_wp2_with fail
 go_ret2
 exact⟨rfl,((Only.refl _ _).alloc _).drewN _⟩
theorem trieNew_any (w:World)(pb:Nat):
  Calls prog 43 #[ptr pb] w fun e w'=>∃b,e=.returned (ptr b)∧Blk w' b [ptr pb] 187∧w.heap.size≤b∧Only [] w w':=by
 unfold ptr
 go_enter func43,ntmps43
 go_wp2_with fail
 go_ret
 exact⟨_,rfl,heap_alloc_new _ _,Nat.le_refl _,(Only.refl _ _).alloc _⟩
end Go.Proofs.YteeefedoffplmaaGreat
/- Package trie: shaped, has. Conditions: the node is a leaf or an inner node in shape. -/
namespace Go.Proofs.YteeefedoffplmaaGreat
open Lib Go.Proofs.Tryz
open Go.RowKit
def Shape.val:Shape→Value
 |.leaf k v=>.iface 307 (.agg #[.int .i64 k,.int .i64 v])
 |.inner p f l r c=>.iface 335 (.agg #[.int .i64 (p:Int),.int .i64 f,.int .i64 l,.int .i64 r,.int .i64 c])
theorem hasInner_any (p:Nat)(f l r c x:Int)(hp:p<32)(hf:0≤f∧f<4294967296)(w:World):
  Calls prog 221 #[(Shape.inner p f l r c).val,.int .i64 x] w fun e w'=>e=.returned (.bool (decide (f≤x) && decide (x≤f+Qi (p+1)-1)))∧Only [] w w':=by
 have hs:=spanInner_any p f l r c hp hf w
 unfold innerV at hs
 unfold Shape.val
 clear hf
 go_enter func221,ntmps221
 go_wp2_with (go_at_call 241;refine hs.mono ?_;rintro e w' ⟨rfl,ho⟩;have HO:=hid ho;clear ho)
 all_goals
  go_ret
  refine⟨ret_bool ?_,HO.out⟩
  rw[Bool.eq_iff_iff]
  simp
  try omega
theorem shapedLeaf_any (b c:Int)(hk:Qt b=true)(w:World):
  Calls prog 247 #[.agg #[.int .i64 0,.int .i64 b,.int .i64 c,.int .i64 1]] w fun e w'=>e=.returned (.tuple #[(Shape.leaf b c).val,.bool true])∧Only [] w w':=by
 have hkey:=fun W=>calls_rev (key_any b W)
 rw[hk] at hkey
 have HK:=hid hkey
 unfold Shape.val
 clear hk hkey
 go_enter func247,ntmps247
 go_wp2_with fail
 go_quiet ((go_at_call 195;exact Calls.quiet_of_same (HK.out _)))
 go_wp2_with fail
 go_ret2
 exact⟨rfl,((Only.refl _ _).alloc _).drewN _⟩
theorem shapedInner_any (a l r c:Int)(h0:0<a)(ha:Ql a)(hp:((a-1) % 64).toNat<32)(hk:Qt ((a-1) / 64)=true)(hm:(a-1) / 64 % Qi (((a-1) % 64).toNat+1)=0)(w:World):
  Calls prog 247 #[.agg #[.int .i64 a,.int .i64 l,.int .i64 r,.int .i64 c]] w fun e w'=>e=.returned (.tuple #[(Shape.inner ((a-1) % 64).toNat ((a-1) / 64) l r c).val,.bool true])∧Only [] w w':=by
 have e0:wrap64 (a-1)=a-1:=IntWalk.wrap64_in _ (by unfold Ql at ha;omega)
 have e1:(a-1).tmod 64=(((a-1) % 64).toNat:Int):=by rw[Int.tmod_eq_emod_of_nonneg (by omega)];omega
 have e2:(a-1).tdiv 64=(a-1) / 64:=Int.tdiv_eq_ediv_of_nonneg (by omega)
 generalize ((a-1) % 64).toNat=p at *
 generalize hf:(a-1) / 64=f at *
 have hb:0≤f∧f<4294967296:=by unfold Qt K32 at hk;simp at hk;exact hk
 have h3:=pow32 (p+1) (by omega)
 have e3:wrap64 (2*(2:Int) ^ p)=Qi (p+1):=by rw[pow_two];exact IntWalk.wrap64_in _ (by omega)
 have hkey:=fun W=>calls_rev (key_any f W)
 rw[hk] at hkey
 have HK:=hid hkey
 have HE0:=hid e0;have HE1:=hid e1;have HE2:=hid e2;have HE3:=hid e3;have HB:=hid hb;have HM:=hid hm
 have HF:=hid (show wrap64 f=f from IntWalk.wrap64_in _ (by omega))
 have HP:=hid (show (p:Int)<32 by omega)
 have HQ:=hid (show Qi (p+1)≠0 by omega)
 have HT:=hid (show f.tmod (Qi (p+1))=0 by rw[Int.tmod_eq_emod_of_nonneg (by omega)];exact hm)
 unfold Shape.val
 clear hk hkey e0 e1 e2 e3 ha hm hf hb h3 hp
 go_enter func247,ntmps247
 go_wp2_with fail
 rw[HE0.out,HE1.out,HE2.out,HF.out]
 have e3:=HE3.out
 have h32:=HP.out
 have hq0:=HQ.out
 have ht0:=HT.out
 generalize Qi (p+1)=q at *
 go_quiet ((go_at_call 195;exact Calls.quiet_of_same (HK.out _)))
 go_wp2_with fail
 go_ret2
 exact⟨rfl,(((Only.refl _ _).alloc _).drewN _).alloc _⟩
end Go.Proofs.YteeefedoffplmaaGreat
namespace Go.Proofs.YteeefedoffplmaaGreat
open Go.RowKit Lib Go.Proofs.Tryz
end Go.Proofs.YteeefedoffplmaaGreat
namespace Go.Proofs.YteeefedoffplmaaGreat
open Lib Go.Proofs.Tryz
open Go.RowKit
theorem readLeaf_any (w:World)(tb:Nat)(L:PoolL)(S:PoolS)(hp:PoolAt w L S)(ht:Blk w tb [ptr L.pb] 187)(h b c lo hi:Int)(hx:S.read h=some ⟨0,b,c,1⟩)(hk:Qt b=true)(h1:lo≤b)(h2:b≤hi):
  Calls prog 240 #[ptr tb,.pointer none,.int .i64 h,.int .i64 lo,.int .i64 hi] w fun e w'=>e=.returned (.tuple #[.agg #[.int .i64 h,(Shape.leaf b c).val],.int .i64 0])∧Below w.heap.size w w':=by
 have hr:=fun W (ho:Only [] w W)=>read_any W L S (hp.only ho (by simp)) h _ hx
 have hs:=fun W=>shapedLeaf_any b c hk W
 have hsp:=fun W=>spanLeaf_any b c W
 have c0:w.cell? ⟨tb,0,none⟩=some (ptr L.pb):=ht.cell rfl
 have c1:(w.alloc (.cells #[.int .i64 0,.nilIface] 303)).cell? ⟨tb,0,none⟩=some (ptr L.pb):=(ht.only ((Only.refl [] w).alloc _) (by simp)).cell rfl
 have hr':=hr _ ((Only.refl [] w).alloc (.cells #[.int .i64 0,.nilIface] 303))
 unfold Shape.val NodeS.val ptr at *
 clear hp hx hr ht hk
 go_enter func240,ntmps240
 go_wp2_with (first|(go_at_call 159;refine hr'.mono ?_;rintro e w1 ⟨rfl,hb1⟩;have HB1:=hid hb1;clear hb1 hr')|(go_at_call 247;refine (hs _).mono ?_;rintro e w2 ⟨rfl,ho⟩;have HO2:=hid ho;clear ho)|(go_at_call 268;refine (hsp _).mono ?_;rintro e w3 ⟨rfl,ho⟩;have hO:=((Only.of_below (X:=[]) HB1.out).alloc (.cells #[.int .i64 0,.int .i64 b,.int .i64 c,.int .i64 1] 218)).trans (HO2.out.trans ho);have hn:Blk w3 w.heap.size [.int .i64 0,.nilIface] 303:=(Blk.new w [.int .i64 0,.nilIface] 303).only hO (by simp);have hf:=hn.frozen;have d0:=hn.cell (i:=0) rfl;have d1:=hn.cell (i:=1) rfl;have HO:=hid hO;clear ho hO hn HO2))
 exact bodyPost_ret (v:=.tuple #[.agg #[.int .i64 h,.iface 307 (.agg #[.int .i64 b,.int .i64 c])],.int .i64 0]) (by simp[results,Tryz.results240,go_sem,d0,d1]) rfl ⟨rfl,((((Below.refl _ _).alloc (Nat.le_refl _) _).trans (HO.out.below.mono (by simp))).setCell (Nat.le_refl _) _).setCell (Nat.le_refl _) _⟩
theorem readInner_any (w:World)(tb:Nat)(L:PoolL)(S:PoolS)(hp:PoolAt w L S)(ht:Blk w tb [ptr L.pb] 187)(h a l r c lo hi:Int)(hx:S.read h=some ⟨a,l,r,c⟩)(h0:0<a)(ha:Ql a)(p:Nat)(hpp:((a-1) % 64).toNat=p)(hp32:p<32)(f:Int)(hff:(a-1) / 64=f)(hk:Qt f=true)(hm:f % Qi (p+1)=0)(h1:lo≤f)(h2:f+Qi (p+1)-1≤hi):
  Calls prog 240 #[ptr tb,.pointer none,.int .i64 h,.int .i64 lo,.int .i64 hi] w fun e w'=>e=.returned (.tuple #[.agg #[.int .i64 h,(Shape.inner p f l r c).val],.int .i64 0])∧Below w.heap.size w w':=by
 have hr:=fun W (ho:Only [] w W)=>read_any W L S (hp.only ho (by simp)) h _ hx
 have hs:=fun W=>shapedInner_any a l r c h0 ha (by rw[hpp];exact hp32) (by rw[hff];exact hk) (by rw[hff,hpp];exact hm) W
 rw[hff,hpp] at hs
 have hb:0≤f∧f<4294967296:=by unfold Qt K32 at hk;simp at hk;exact hk
 have hsp:=fun W=>spanInner_any p f l r c hp32 hb W
 unfold innerV at hsp
 have c0:w.cell? ⟨tb,0,none⟩=some (ptr L.pb):=ht.cell rfl
 have c1:(w.alloc (.cells #[.int .i64 0,.nilIface] 303)).cell? ⟨tb,0,none⟩=some (ptr L.pb):=(ht.only ((Only.refl [] w).alloc _) (by simp)).cell rfl
 have hr':=hr _ ((Only.refl [] w).alloc (.cells #[.int .i64 0,.nilIface] 303))
 unfold Shape.val NodeS.val ptr at *
 clear hp hx hr ht hk hpp hff hm ha hb h0
 generalize Qi (p+1)=q at *
 go_enter func240,ntmps240
 go_wp2_with (first|(go_at_call 159;refine hr'.mono ?_;rintro e w1 ⟨rfl,hb1⟩;have HB1:=hid hb1;clear hb1 hr')|(go_at_call 247;refine (hs _).mono ?_;rintro e w2 ⟨rfl,ho⟩;have HO2:=hid ho;clear ho)|(go_at_call 241;refine (hsp _).mono ?_;rintro e w3 ⟨rfl,ho⟩;have hO:=((Only.of_below (X:=[]) HB1.out).alloc (.cells #[.int .i64 a,.int .i64 l,.int .i64 r,.int .i64 c] 218)).trans (HO2.out.trans ho);have hn:Blk w3 w.heap.size [.int .i64 0,.nilIface] 303:=(Blk.new w [.int .i64 0,.nilIface] 303).only hO (by simp);have hf:=hn.frozen;have d0:=hn.cell (i:=0) rfl;have d1:=hn.cell (i:=1) rfl;have HO:=hid hO;clear ho hO hn HO2))
 exact bodyPost_ret (v:=.tuple #[.agg #[.int .i64 h,.iface 335 (.agg #[.int .i64 p,.int .i64 f,.int .i64 l,.int .i64 r,.int .i64 c])],.int .i64 0]) (by simp[results,Tryz.results240,go_sem,d0,d1]) rfl ⟨rfl,((((Below.refl _ _).alloc (Nat.le_refl _) _).trans (HO.out.below.mono (by simp))).setCell (Nat.le_refl _) _).setCell (Nat.le_refl _) _⟩
theorem shape_spec {S:PoolS}{h lo hi:Int}{s:Shape}(hx:S.shape h lo hi=some s):∃x,S.read h=some x∧shaped x=some s∧lo≤s.lo∧s.hi≤hi:=by
 unfold PoolS.shape at hx
 simp only[bind,Option.bind] at hx
 split at hx
 ·cases hx
 ·rename_i x hr
  dsimp only at hx
  split at hx
  ·cases hx
  ·rename_i s' hs'
   replace hx:(if lo≤s'.lo∧s'.hi≤hi then some s' else none)=some s:=hx
   split at hx
   ·rename_i hc
    injection hx with hx
    subst hx
    exact⟨x,hr,hs',hc⟩
   ·cases hx
theorem shaped_spec {x:NodeS}{s:Shape}(hs:shaped x=some s):(∃b c,x=⟨0,b,c,1⟩∧s=.leaf b c∧Qt b=true)∨(∃p f,0<x.a∧((x.a-1) % 64).toNat=p∧(x.a-1) / 64=f∧s=.inner p f x.b x.c x.d∧p<32∧Qt f=true∧f % Qi (p+1)=0):=by
 unfold shaped at hs
 split at hs
 ·cases hs
 ·rename_i h0
  split at hs
  ·rename_i h1
   split at hs
   ·rename_i h2
    injection hs with hs
    obtain⟨a,b,c,d⟩:=x
    obtain rfl:a=0:=h1
    obtain rfl:d=1:=h2.2
    exact .inl ⟨b,c,rfl,hs.symm,h2.1⟩
   ·cases hs
  ·rename_i h1
   refine .inr ⟨((x.a-1) % 64).toNat,(x.a-1) / 64,by omega,rfl,rfl,?_⟩
   simp only at hs
   split at hs
   ·rename_i h2
    injection hs with hs
    exact⟨hs.symm,h2.1,h2.2.1,h2.2.2⟩
   ·cases hs
theorem PoolAt.read_ok {w:World}{L:PoolL}{S:PoolS}(hp:PoolAt w L S){h:Int}{x:NodeS}(hx:S.read h=some x):x.Ok:=by
 obtain⟨s,ha,rfl⟩:∃s,S.at h=some s∧s.node=x:=by simpa [PoolS.read] using hx
 obtain⟨n,hn,h1,hs,hlt,hodd,hg⟩:=at_spec ha
 exact (hp.ok s (List.mem_of_getElem? hs)).node
theorem shape_any (w:World)(tb:Nat)(L:PoolL)(S:PoolS)(hp:PoolAt w L S)(ht:Blk w tb [ptr L.pb] 187)(h lo hi:Int)(s:Shape)(hx:S.shape h lo hi=some s):
  Calls prog 240 #[ptr tb,.pointer none,.int .i64 h,.int .i64 lo,.int .i64 hi] w fun e w'=>e=.returned (.tuple #[.agg #[.int .i64 h,s.val],.int .i64 0])∧Below w.heap.size w w':=by
 obtain⟨x,hr,hs,h1,h2⟩:=shape_spec hx
 have hok:=hp.read_ok hr
 rcases shaped_spec hs with ⟨b,c,rfl,rfl,hk⟩|⟨p,f,h0,hpp,hff,rfl,h32,hk,hm⟩
 ·exact readLeaf_any w tb L S hp ht h b c lo hi hr hk h1 h2
 ·exact readInner_any w tb L S hp ht h x.a x.b x.c x.d lo hi hr h0 hok.1 p hpp h32 f hff hk hm h1 h2
theorem root_any (w:World)(tb:Nat)(L:PoolL)(S:PoolS)(hp:PoolAt w L S)(ht:Blk w tb [ptr L.pb] 187)(h:Int)(s:Shape)(hx:S.shape h 0 (K32-1)=some s):
  Calls prog 220 #[ptr tb,.pointer none,.int .i64 h] w fun e w'=>e=.returned (.tuple #[.agg #[.int .i64 h,s.val],.int .i64 0])∧Below w.heap.size w w':=by
 have hsh:=fun W (ho:Only [] w W)=>shape_any W tb L S (hp.only ho (by simp)) (ht.only ho (by simp)) h 0 (K32-1) s hx
 have hsh':=hsh _ ((Only.refl [] w).alloc (.cells #[.int .i64 0,.nilIface] 303))
 unfold ptr at *
 rw[show K32-1=4294967295 from rfl] at hsh'
 clear hp hx ht hsh
 obtain⟨vt,vx,hv⟩:∃t x,s.val=.iface t x:=by cases s <;> exact⟨_,_,rfl⟩
 rw[hv] at hsh' ⊢
 clear hv
 go_enter func220,ntmps220
 go_wp2_with (go_at_call 240;refine hsh'.mono ?_;rintro e w1 ⟨rfl,ho⟩;have hn:Blk w1 w.heap.size [.int .i64 0,.nilIface] 303:=(Blk.new w [.int .i64 0,.nilIface] 303).only (Only.of_below (X:=[]) ho) (by simp);have hf:=hn.frozen;have d0:=hn.cell (i:=0) rfl;have d1:=hn.cell (i:=1) rfl;have HO:=hid ho;clear ho hn hsh')
 exact bodyPost_ret (v:=.tuple #[.agg #[.int .i64 h,.iface vt vx],.int .i64 0]) (by simp[results,Tryz.results220,go_sem,d0,d1]) rfl ⟨rfl,((((Below.refl _ _).alloc (Nat.le_refl _) _).trans (HO.out.mono (by simp))).setCell (Nat.le_refl _) _).setCell (Nat.le_refl _) _⟩
end Go.Proofs.YteeefedoffplmaaGreat
/- A tree's makes and leaf: a node into a place taken, told of to the edit. Conditions: pool, tree and edit lie in memory; the plain take answers. -/
namespace Go.Proofs.YteeefedoffplmaaGreat
open Lib Go.Proofs.Tryz
open Go.RowKit
structure EditAt (w:World)(base mb tb:Nat)(m:EditS)(gv mv:Value):Prop where
 blk:Blk w mb [ptr tb,.pointer none,.int .i64 m.root,.int .i64 m.old,.bool m.had,gv,mv] 320
 gone:w.ownsRow base 3 1 gv m.gone.length (Zc m.gone)
 made:w.ownsRow base 3 1 mv m.made.length (Zc m.made)
 low:mb<base
 apart:∀g,gv.ownBlock=some g→mv.ownBlock≠some g
 room:base≤w.heap.size
def Edited (L:PoolL)(base mb tb:Nat)(m:EditS)(S':PoolS)(w:World)(e:Ending)(w':World):Prop:=
 ∃gv' mv' D,e=.returned (.int .i64 0)∧PoolAt w' L S'∧EditAt w' base mb tb m gv' mv'∧Only (mb :: L.blocks ++ D) w w'∧∀k∈D,base≤k
theorem makes_any (w:World)(base mb tb:Nat)(L:PoolL)(S:PoolS)(m:EditS)(gv mv:Value)(hp:PoolAt w L S)(ht:Blk w tb [ptr L.pb] 187)(hm:EditAt w base mb tb m gv mv)
  (hx1:mb∉L.all) (hx2:tb∉L.blocks) (hx3:tb≠mb) (hx4:∀k∈L.all,k<base) (hx5:tb<base) (hlen:m.made.length<100000000) (x:NodeS) (hx:x.Ok) (m':EditS) (S':PoolS) (h:makes x (m,S)=some (m',S')):
  Calls prog 229 #[ptr mb,x.val] w (Edited L base mb tb m' S' w):=by
 unfold makes at h
 simp only[bind,Option.bind_eq_some_iff] at h
 obtain⟨⟨hd,S1⟩,htk,h⟩:=h
 simp only[Option.some.injEq,Prod.mk.injEq] at h
 obtain⟨rfl,rfl⟩:=h
 have hpa:=(hp.alloc (.cells #[.int .i64 x.a,.int .i64 x.b,.int .i64 x.c,.int .i64 x.d] 218)).drew
 have htake:=take_any _ L S hpa x hx 0 (by unfold Ql;omega) hd S1 htk
 have c0:(w.alloc (.cells #[.int .i64 x.a,.int .i64 x.b,.int .i64 x.c,.int .i64 x.d] 218)).cell? ⟨mb,0,none⟩=some (ptr tb):=(hm.blk.alloc _).cell rfl
 have c1:(w.alloc (.cells #[.int .i64 x.a,.int .i64 x.b,.int .i64 x.c,.int .i64 x.d] 218)).cell? ⟨mb,1,none⟩=some (.pointer none):=(hm.blk.alloc _).cell rfl
 have c2:(w.alloc (.cells #[.int .i64 x.a,.int .i64 x.b,.int .i64 x.c,.int .i64 x.d] 218)).cell? ⟨tb,0,none⟩=some (ptr L.pb):=(ht.alloc _).cell rfl
 obtain⟨gA,gc,rfl,_,_⟩:=Qc hm.gone
 obtain⟨mA,mc,rfl,_,_⟩:=Qc hm.made
 have HT:=hid htake;have HM:=hid hm;have HX1:=hid hx1;have HX2:=hid hx2;have HX3:=hid hx3;have HX4:=hid hx4;have HX5:=hid hx5;have HL:=hid hlen;have HP:=hid hp;have HTB:=hid ht
 have hmb:mb∉L.blocks:=fun e=>hx1 (Qf e)
 have hbx:w.heap.size∉L.blocks:=fun e=>by have:=hx4 _ (Qf e);have:=hm.room;omega
 have HMB:=hid hmb;have HBX:=hid hbx
 unfold NodeS.val at HT ⊢
 unfold I2 Made at HT
 unfold ptr at HT c0 c2 ⊢
 clear hp hpa htake ht hm hx htk hx1 hx2 hx3 hx4 hx5 hlen hmb hbx
 obtain⟨xa,xb',xc,xd⟩:=x
 go_enter func229,ntmps229
 go_wp2_with fail
 go_region_held3 (fun W=>W.cell? ⟨mb,0,none⟩=some (.pointer (some ⟨tb,0,none⟩))∧W.cell? ⟨mb,1,none⟩=some (.pointer none)∧W.cell? ⟨tb,0,none⟩=some (.pointer (some ⟨L.pb,0,none⟩))∧W.cell? ⟨w.heap.size,0,none⟩=some (.int .i64 xa)∧W.cell? ⟨w.heap.size,1,none⟩=some (.int .i64 xb')∧W.cell? ⟨w.heap.size,2,none⟩=some (.int .i64 xc)∧W.cell? ⟨w.heap.size,3,none⟩=some (.int .i64 xd))
  (first|exact⟨Qa ho2 c0 HMB.out,Qa ho2 c1 HMB.out,Qa ho2 c2 HX2.out,Qa ho2 (cell_new w #[.int .i64 xa,.int .i64 xb',.int .i64 xc,.int .i64 xd] 218 0 _ rfl) HBX.out,Qa ho2 (cell_new w #[.int .i64 xa,.int .i64 xb',.int .i64 xc,.int .i64 xd] 218 1 _ rfl) HBX.out,Qa ho2 (cell_new w #[.int .i64 xa,.int .i64 xb',.int .i64 xc,.int .i64 xd] 218 2 _ rfl) HBX.out,Qa ho2 (cell_new w #[.int .i64 xa,.int .i64 xb',.int .i64 xc,.int .i64 xd] 218 3 _ rfl) HBX.out⟩|(go_keep;done))
  (first|(go_simp;go_at_call 214;refine HT.out.mono ?_;rintro e w2 ⟨rfl,hp2,ho2⟩;have HP2:=hid hp2;have ho2':Only L.blocks w w2:=((Only.refl _ _).alloc _).trans ⟨ho2.os,ho2.tape,ho2.output,ho2.size,ho2.block⟩;have HO2:=hid ho2'))
 have hb2:=HM.out.blk.only HO2.out HMB.out
 have hlow:∀k,(Value.slice mA m.made.length mc).ownBlock=some k→base≤k∧k<w.heap.size:=fun k hk=>HM.out.made.lt k hk
 have glow:∀k,(Value.slice gA m.gone.length gc).ownBlock=some k→base≤k∧k<w.heap.size:=fun k hk=>HM.out.gone.lt k hk
 have hin:∀k,base≤k→k∉L.blocks:=fun k hk e=>by have:=HX4.out k (Qf e);omega
 have hmade2:=Qe HM.out.made HO2.out (fun k hk=>hin k (hlow k hk).1)
 have hgone2:=Qe HM.out.gone HO2.out (fun k hk=>hin k (glow k hk).1)
 have hml:=HM.out.low
 have hmade3:=Qe hmade2 ((Only.refl [mb] w2).setCell (p:=⟨mb,2,none⟩) (.inl (by simp)) (.int .i64 hd)) (fun k hk e=>by have:=(hlow k hk).1;simp at e;omega)
 have hgone3:=Qe hgone2 ((Only.refl [mb] w2).setCell (p:=⟨mb,2,none⟩) (.inl (by simp)) (.int .i64 hd)) (fun k hk e=>by have:=(glow k hk).1;simp at e;omega)
 have hb3:Blk (w2.setCell ⟨mb,2,none⟩ (.int .i64 hd)) mb [ptr tb,.pointer none,.int .i64 hd,.int .i64 m.old,.bool m.had,.slice gA m.gone.length gc,.slice mA m.made.length mc] 320:=hb2.set 2 (.int .i64 hd)
 have ho3:Only (mb :: L.blocks ++ (Value.slice mA m.made.length mc).ownBlock.toList) w (w2.setCell ⟨mb,2,none⟩ (.int .i64 hd)):=(HO2.out.mono (by intro k hk;simp[hk])).setCell (.inl (by simp)) _
 have hsz:w.heap.size≤(w2.setCell ⟨mb,2,none⟩ (.int .i64 hd)).heap.size:=ho3.size
 have f2:=hb2.frozen 2
 have d2:w2.cell? ⟨mb,2,none⟩=some (.int .i64 m.root):=hb2.cell rfl
 have d6:(w2.setCell ⟨mb,2,none⟩ (.int .i64 hd)).cell? ⟨mb,6,none⟩=some (.slice mA m.made.length mc):=hb3.cell rfl
 have HP3:=hid (HP2.out.only ((Only.refl [mb] w2).setCell (p:=⟨mb,2,none⟩) (.inl (by simp)) (.int .i64 hd)) (fun k hk e=>by simp at e;subst e;exact HX1.out hk))
 have HB3:=hid hb3;have HO3:=hid ho3;have HG3:=hid hgone3;have HM3:=hid hmade3;have HLOW:=hid hlow;have GLOW:=hid glow;have HSZ:=hid hsz;have HIN:=hid hin
 have hs2:(w2.setCell ⟨mb,2,none⟩ (.int .i64 hd)).heap.size=w2.heap.size:=by simp
 have hrn:=Zg (w2.setCell ⟨mb,2,none⟩ (.int .i64 hd)) [.int .i64 hd] 3
 rw[hs2] at hrn
 have hm1:m.made.length+1≤maxLen:=by have:=HL.out;unfold maxLen;omega
 have hm2:(m.made.length+1)*8≤140737488355328:=by have:=HL.out;omega
 have hbs:base≤((w2.setCell ⟨mb,2,none⟩ (.int .i64 hd)).alloc (.cells #[.int .i64 hd] 3)).heap.size:=Nat.le_trans (Nat.le_trans HM.out.room hsz) (Qg _ _)
 have HRN:=hid hrn;have HM1:=hid hm1;have HM2:=hid hm2;have HBS:=hid hbs;have HS2:=hid hs2;have HML:=hid hml
 clear hb2 hmade2 hgone2 hb3 ho3 hgone3 hmade3 hlow glow hsz hin hml hs2 hrn hm1 hm2 hbs
 go_wp2_with (at_builtin;refine Qj rfl (.tmp 35) (.tmp 37) rfl elemInt rfl (HM3.out.alloc (.cells #[.int .i64 hd] 3)) _ 1 _ [.int .i64 hd] rfl HRN.out rfl (by simp[Value.oneCell']) HM1.out HM2.out HBS.out (fun e=>by cases e) ?_;intro v2 w4 hown2 hg2 hat2;obtain⟨A2,c2',rfl,_,_⟩:=Qc hown2;have hb4:=Qm (HB3.out.alloc (.cells #[.int .i64 hd] 3)) hg2 (fun e=>by have h1:=(HLOW.out _ e).1;have h2:=HML.out;omega);have f4:=hb4.frozen 6;have d4:w4.cell? ⟨mb,6,none⟩=some (.slice mA m.made.length mc):=hb4.cell rfl;have HB4:=hid hb4;have HW2:=hid hown2;have HG2:=hid hg2;have HA2:=hid hat2;clear hb4 hown2 hg2 hat2)
 go_ret
 have g1:Only ((Value.slice mA m.made.length mc).ownBlock.toList) ((w2.setCell ⟨mb,2,none⟩ (.int .i64 hd)).alloc (.cells #[.int .i64 hd] 3)) w4:=Only.of_grown HG2.out (fun k hk=>.inl (by rw[show (Value.slice mA m.made.length mc).ownBlock=some k from hk];simp))
 have g2:Only (mb :: (Value.slice mA m.made.length mc).ownBlock.toList) (w2.setCell ⟨mb,2,none⟩ (.int .i64 hd)) (w4.setCell ⟨mb,6,none⟩ (.slice A2 (m.made.length+1) c2')):=(((Only.refl _ _).alloc _).trans (g1.mono (fun k hk=>by simp at hk ⊢;exact .inr hk))).setCell (.inl (by simp)) _
 have hml:=HML.out
 have hdl:∀k,k∈(Value.slice mA m.made.length mc).ownBlock.toList→base≤k:=fun k hk=>(HLOW.out k (by simpa using hk)).1
 have ho:Only (mb :: L.blocks ++ (Value.slice mA m.made.length mc).ownBlock.toList) w (w4.setCell ⟨mb,6,none⟩ (.slice A2 (m.made.length+1) c2')):=HO3.out.trans (g2.mono (fun k hk=>by simp at hk ⊢;rcases hk with h|h <;> simp[h]))
 refine⟨_,_,(Value.slice mA m.made.length mc).ownBlock.toList,rfl,HP3.out.only g2 ?_,⟨HB4.out.set 6 _,Qe HG3.out g2 ?_,?_,hml,?_,Nat.le_trans HM.out.room ho.size⟩,ho,hdl⟩
 ·intro k hk e
  rcases List.mem_cons.1 e with rfl|e
  ·exact HX1.out hk
  ·have:=hdl k e
   have:=HX4.out k hk
   omega
 ·intro k hk e
  rcases List.mem_cons.1 e with rfl|e
  ·have:=(GLOW.out _ hk).1
   omega
  ·exact HM.out.apart k hk (by simpa using e)
 ·rw[List.length_append,ints_snoc]
  refine Qe HW2.out ((Only.refl [mb] w4).setCell (p:=⟨mb,6,none⟩) (.inl (by simp)) _) (fun k hk e=>?_)
  have:=(HW2.out.lt k hk).1
  simp at e
  omega
 ·intro g hg e
  rcases HA2.out with h1|h1
  ·rw[h1] at e
   exact HM.out.apart g hg e
  ·rw[h1] at e
   injection e with e
   have h2:=(GLOW.out g hg).2
   have h3:=HSZ.out
   have h4:=Qg (w2.setCell ⟨mb,2,none⟩ (.int .i64 hd)) (.cells #[.int .i64 hd] 3)
   omega
end Go.Proofs.YteeefedoffplmaaGreat
namespace Go.Proofs.YteeefedoffplmaaGreat
open Go.RowKit Lib Go.Proofs.Tryz
end Go.Proofs.YteeefedoffplmaaGreat
namespace Go.Proofs.YteeefedoffplmaaGreat
open Lib Go.Proofs.Tryz
open Go.RowKit
theorem leaf_any (w:World)(base mb tb:Nat)(L:PoolL)(S:PoolS)(m:EditS)(gv mv:Value)(hp:PoolAt w L S)(ht:Blk w tb [ptr L.pb] 187)(hm:EditAt w base mb tb m gv mv)
  (hx1:mb∉L.all) (hx2:tb∉L.blocks) (hx3:tb≠mb) (hx4:∀k∈L.all,k<base) (hx5:tb<base) (hlen:m.made.length<100000000) (k v:Int) (hk:Ql k) (hv:Ql v) (m':EditS) (S':PoolS) (h:mkLeaf k v (m,S)=some (m',S')):
  Calls prog 205 #[ptr mb,.int .i64 k,.int .i64 v] w (Edited L base mb tb m' S' w):=by
 have hc:=makes_any w base mb tb L S m gv mv hp ht hm hx1 hx2 hx3 hx4 hx5 hlen ⟨0,k,v,1⟩ ⟨by unfold Ql;simp,hk,hv,by unfold Ql;simp⟩ m' S' h
 unfold NodeS.val ptr at hc
 unfold ptr
 clear hp ht hm h hx1 hx2 hx3 hx4 hx5 hlen hk hv
 go_enter func205,ntmps205
 go_wp2_with (go_at_call 229;refine hc.mono ?_;rintro e w1 he;obtain⟨gv',mv',D,rfl,h1,h2,h3,h4⟩:=he;have H1:=hid h1;have H2:=hid h2;have H3:=hid h3;have H4:=hid h4;clear h1 h2 h3 h4)
 go_ret
 exact⟨gv',mv',D,rfl,H1.out,H2.out,H3.out,H4.out⟩
def Edit2 (m:EditS)(gv mv:Value):Value:=.tuple #[.agg #[.int .i64 m.root,.int .i64 m.old,.bool m.had,gv,mv],.int .i64 0]
def Putted (L:PoolL)(m:EditS)(S':PoolS)(w:World)(e:Ending)(w':World):Prop:=
 ∃gv mv,e=.returned (Edit2 m gv mv)∧PoolAt w' L S'∧w'.ownsRow w.heap.size 3 1 gv m.gone.length (Zc m.gone)∧w'.ownsRow w.heap.size 3 1 mv m.made.length (Zc m.made)∧(∀g,gv.ownBlock=some g→mv.ownBlock≠some g)∧Only L.blocks w w'
theorem low_not {n:Nat}{L:PoolL}{D:List Nat}(h1:∀k∈L.all,k<n)(h2:∀k∈D,n+2≤k):n∉(n+1) :: L.blocks ++ D:=by
 intro e
 simp at e
 rcases e with e|e
 ·have:=h1 n (Qf e)
  omega
 ·have:=h2 n e
  omega
theorem putEmpty_any (w:World)(tb:Nat)(L:PoolL)(S:PoolS)(hp:PoolAt w L S)(ht:Blk w tb [ptr L.pb] 187)(hx2:tb∉L.blocks)(k v:Int)(hk:Qt k=true)(hv:Ql v)(m':EditS)(S':PoolS)(h:mkLeaf k v (.zero,S)=some (m',S')):
  Calls prog 165 #[ptr tb,.pointer none,.int .i64 0,.int .i64 k,.int .i64 v] w (Putted L m' S' w):=by
 have hkey:=fun W=>key_any k W
 rw[hk] at hkey
 have hk64:Ql k:=by unfold Qt K32 at hk;simp at hk;unfold Ql;omega
 have HK:=hid hkey;have HP:=hid hp;have HT:=hid ht;have HX:=hid hx2;have HH:=hid h;have HV:=hid hv;have HK64:=hid hk64
 have ho:Only [] w ((w.alloc (.cells #[.int .i64 0,.int .i64 0,.bool false,.slice none 0 0,.slice none 0 0] 264)).alloc (.cells #[.pointer (some ⟨tb,0,none⟩),.pointer none,.int .i64 0,.int .i64 0,.bool false,.slice none 0 0,.slice none 0 0] 320)):=((Only.refl _ _).alloc _).alloc _
 have hlt:=hp.lt
 have htl:=ht.lt
 have hbm:Blk ((w.alloc (.cells #[.int .i64 0,.int .i64 0,.bool false,.slice none 0 0,.slice none 0 0] 264)).alloc (.cells #[.pointer (some ⟨tb,0,none⟩),.pointer none,.int .i64 0,.int .i64 0,.bool false,.slice none 0 0,.slice none 0 0] 320)) (w.heap.size+1) [ptr tb,.pointer none,.int .i64 0,.int .i64 0,.bool false,.slice none 0 0,.slice none 0 0] 320:=by
  have:=Blk.new (w.alloc (.cells #[.int .i64 0,.int .i64 0,.bool false,.slice none 0 0,.slice none 0 0] 264)) [ptr tb,.pointer none,.int .i64 0,.int .i64 0,.bool false,.slice none 0 0,.slice none 0 0] 320
  rw[World.size_alloc] at this
  exact this
 have hbr:Blk ((w.alloc (.cells #[.int .i64 0,.int .i64 0,.bool false,.slice none 0 0,.slice none 0 0] 264)).alloc (.cells #[.pointer (some ⟨tb,0,none⟩),.pointer none,.int .i64 0,.int .i64 0,.bool false,.slice none 0 0,.slice none 0 0] 320)) w.heap.size [.int .i64 0,.int .i64 0,.bool false,.slice none 0 0,.slice none 0 0] 264:=(Blk.new w [.int .i64 0,.int .i64 0,.bool false,.slice none 0 0,.slice none 0 0] 264).alloc _
 have hed:EditAt ((w.alloc (.cells #[.int .i64 0,.int .i64 0,.bool false,.slice none 0 0,.slice none 0 0] 264)).alloc (.cells #[.pointer (some ⟨tb,0,none⟩),.pointer none,.int .i64 0,.int .i64 0,.bool false,.slice none 0 0,.slice none 0 0] 320)) (w.heap.size+2) (w.heap.size+1) tb .zero (.slice none 0 0) (.slice none 0 0):=⟨hbm,World.ownsRow_nil _ _ 3 1,World.ownsRow_nil _ _ 3 1,by omega,(fun g hg=>by cases hg),by simp⟩
 have hleaf:=leaf_any _ _ _ tb L S .zero _ _ (hp.only ho (by simp)) (ht.only ho (by simp)) hed (fun e=>by have:=hlt _ e;omega) hx2 (by omega) (fun k hk=>by have:=hlt k hk;omega) (by omega) (by decide) k v hk64 hv m' S' h
 have HO:=hid ho;have HBR:=hid hbr;have HLT:=hid hlt
 unfold ptr at hleaf ⊢
 clear hkey hp ht hx2 h hv hk hk64 ho hlt htl hbm hbr hed
 go_enter func165,ntmps165
 go_wp2_with (first|(go_at_call 195;refine (HK.out _).mono ?_;rintro e w' ⟨rfl,rfl⟩)|(go_at_call 205;refine hleaf.mono ?_;rintro e w1 he;obtain⟨gv,mv,D,rfl,h1,h2,h3,h4⟩:=he;obtain⟨gA,gc,rfl,_,_⟩:=Qc h2.gone;obtain⟨mA,mc,rfl,_,_⟩:=Qc h2.made;have hbr2:Blk w1 w.heap.size [.int .i64 0,.int .i64 0,.bool false,.slice none 0 0,.slice none 0 0] 264:=HBR.out.only h3 (low_not HLT.out h4);have d2:w1.cell? ⟨w.heap.size+1,2,none⟩=some (.int .i64 m'.root):=h2.blk.cell rfl;have d3:w1.cell? ⟨w.heap.size+1,3,none⟩=some (.int .i64 m'.old):=h2.blk.cell rfl;have d4:w1.cell? ⟨w.heap.size+1,4,none⟩=some (.bool m'.had):=h2.blk.cell rfl;have d5:w1.cell? ⟨w.heap.size+1,5,none⟩=some (.slice gA m'.gone.length gc):=h2.blk.cell rfl;have d6:w1.cell? ⟨w.heap.size+1,6,none⟩=some (.slice mA m'.made.length mc):=h2.blk.cell rfl;have f:=hbr2.frozen;have e0:=hbr2.cell (i:=0) rfl;have e1:=hbr2.cell (i:=1) rfl;have e2:=hbr2.cell (i:=2) rfl;have e3:=hbr2.cell (i:=3) rfl;have e4:=hbr2.cell (i:=4) rfl;have H1:=hid h1;have H2:=hid h2;have H3:=hid h3;have H4:=hid h4;clear h1 h2 h3 h4 hbr2 hleaf))
 have g:Only [w.heap.size] w1 (((((w1.setCell ⟨w.heap.size,0,none⟩ (.int .i64 m'.root)).setCell ⟨w.heap.size,1,none⟩ (.int .i64 m'.old)).setCell ⟨w.heap.size,2,none⟩ (.bool m'.had)).setCell ⟨w.heap.size,3,none⟩ (.slice gA m'.gone.length gc)).setCell ⟨w.heap.size,4,none⟩ (.slice mA m'.made.length mc)):=((((((Only.refl _ _).setCell (.inl (by simp)) _).setCell (.inl (by simp)) _).setCell (.inl (by simp)) _).setCell (.inl (by simp)) _).setCell (.inl (by simp)) _)
 have hall:Only L.blocks w (((((w1.setCell ⟨w.heap.size,0,none⟩ (.int .i64 m'.root)).setCell ⟨w.heap.size,1,none⟩ (.int .i64 m'.old)).setCell ⟨w.heap.size,2,none⟩ (.bool m'.had)).setCell ⟨w.heap.size,3,none⟩ (.slice gA m'.gone.length gc)).setCell ⟨w.heap.size,4,none⟩ (.slice mA m'.made.length mc)):=by
  have h1:=(HO.out.mono (Y:=w.heap.size :: (w.heap.size+1) :: L.blocks ++ D) (by simp)).trans ((H3.out.mono (by intro k hk;simp at hk ⊢;rcases hk with h|h|h <;> simp[h])).trans (g.mono (by intro k hk;simp at hk ⊢;simp[hk])))
  refine h1.fresh (fun k hk hlt=>?_)
  have h4:=H4.out k
  simp at hk
  rcases hk with h|h|h|h
  ·omega
  ·omega
  ·exact h
  ·have:=h4 h
   omega
 refine bodyPost_ret (v:=Edit2 m' (.slice gA m'.gone.length gc) (.slice mA m'.made.length mc)) (by simp[results,Tryz.results165,go_sem,e0,e1,e2,e3,e4,Edit2]) rfl ⟨_,_,rfl,H1.out.only g (fun k hk e=>?_),?_,?_,H2.out.apart,hall⟩
 ·have:=HLT.out k hk
  simp at e
  omega
 ·exact Qn (Qe H2.out.gone g (fun k hk e=>by have:=(H2.out.gone.lt k hk).1;simp at e;omega)) (by omega)
 ·exact Qn (Qe H2.out.made g (fun k hk e=>by have:=(H2.out.made.lt k hk).1;simp at e;omega)) (by omega)
end Go.Proofs.YteeefedoffplmaaGreat
/- A tree's down where the root is a leaf; Put where the key is met there. Conditions: pool and tree lie in memory. -/
namespace Go.Proofs.YteeefedoffplmaaGreat
open Lib Go.Proofs.Tryz
open Go.RowKit
theorem assertLeaf (k v:Int)(W:World):(Instr.typeAssert (.iface 307 (.agg #[.int .i64 k,.int .i64 v])) 301 335 true).run prog W=.ok (.tuple #[.agg #[.int .i64 0,.int .i64 0,.int .i64 0,.int .i64 0,.int .i64 0],.bool false]) W:=by kernel_rfl
theorem assertLeaf2 (k v:Int)(W:World):(Instr.typeAssert (.iface 307 (.agg #[.int .i64 k,.int .i64 v])) 301 307 true).run prog W=.ok (.tuple #[.agg #[.int .i64 k,.int .i64 v],.bool true]) W:=by kernel_rfl
end Go.Proofs.YteeefedoffplmaaGreat
/- A tree's count of a leaf; Zl over an empty way. No condition on the node's place. -/
namespace Go.Proofs.YteeefedoffplmaaGreat
open Lib Go.Proofs.Tryz
open Go.RowKit
theorem countLeaf_any (w:World)(h k v:Int):
  Calls prog 232 #[.agg #[.int .i64 h,(Shape.leaf k v).val]] w fun e w'=>e=.returned (.int .i64 1)∧Only [] w w':=by
 have hta:=assertLeaf k v
 unfold Shape.val
 go_enter func232,ntmps232
 go_wp2_with fail
 go_ret
 exact⟨rfl,(Only.refl _ _).alloc _⟩
end Go.Proofs.YteeefedoffplmaaGreat
namespace Go.Proofs.YteeefedoffplmaaGreat
open Go.RowKit Lib Go.Proofs.Tryz
section
variable (w:World)(tb:Nat)(L:PoolL)(S:PoolS)(hp:PoolAt w L S)(ht:Blk w tb [ptr L.pb] 187)(p:Nat)(f l r c:Int)(hp32:p<32)(hf:0≤f∧f<4294967296)(s:Shape)
include w tb L S hp ht p f l r c hp32 hf s
theorem sides_all:(∀(hx:S.shape l f (f+Qi p-1)=some s),Calls prog 224 #[ptr tb,.pointer none,innerV p f l r c] w fun e w'=>e=.returned (.tuple #[.agg #[.int .i64 l,s.val],.int .i64 0])∧Below w.heap.size w w') ∧
  (∀(hx:S.shape r (f+Qi p) (f+Qi (p+1)-1)=some s),Calls prog 223 #[ptr tb,.pointer none,innerV p f l r c] w fun e w'=>e=.returned (.tuple #[.agg #[.int .i64 r,s.val],.int .i64 0])∧Below w.heap.size w w'):=by
 refine⟨?_,?_⟩
 intro hx;have tg1:=0;rotate_left
 intro hx;have tg2:=0;rotate_left
 all_goals
  first|(have _:=tg1;have hsh:=fun W (ho:Only [] w W)=>shape_any W tb L S (hp.only ho (by simp)) (ht.only ho (by simp)) l f (f+Qi p-1) s hx)|(have hsh:=fun W (ho:Only [] w W)=>shape_any W tb L S (hp.only ho (by simp)) (ht.only ho (by simp)) r (f+Qi p) (f+Qi (p+1)-1) s hx)
  have hh:=fun W=>half_any p f l r c hp32 hf W
  have h3:=pow32 p (by omega)
  first|(have _:=tg1;have hw:IntKind.i64.wrap (f+Qi p-1)=f+Qi p-1:=IntWalk.i64_in _ (by omega))|((have hsp:=fun W=>spanInner_any p f l r c hp32 hf W);have HSP:=hid hsp)
  have HSH:=hid hsh
  have HH:=hid hh
  unfold ptr innerV at *
  obtain⟨vt,vx,hv⟩:∃t x,s.val=.iface t x:=by cases s <;> exact⟨_,_,rfl⟩
  rw[hv] at HSH ⊢
  first|(have _:=tg1;clear hp hx ht hsh hv hh h3 hf)|(clear hp hx ht hsh hv hh h3 hf hsp)
  generalize f+Qi p=m at *
  first|(have _:=tg2;generalize f+Qi (p+1)-1=q at *)|(skip)
  have hA:Blk (w.alloc (.cells #[.int .i64 p,.int .i64 f,.int .i64 l,.int .i64 r,.int .i64 c] 335)) w.heap.size [.int .i64 p,.int .i64 f,.int .i64 l,.int .i64 r,.int .i64 c] 335:=Blk.new w _ 335
  obtain⟨W0,hW0⟩:∃W0,(w.alloc (.cells #[.int .i64 p,.int .i64 f,.int .i64 l,.int .i64 r,.int .i64 c] 335)).alloc (.cells #[.int .i64 0,.nilIface] 303)=W0:=⟨_,rfl⟩
  have hA0:Blk W0 w.heap.size [.int .i64 p,.int .i64 f,.int .i64 l,.int .i64 r,.int .i64 c] 335:=hW0 ▸ hA.alloc _
  have hB0:Blk W0 (w.heap.size+1) [.int .i64 0,.nilIface] 303:=by
   have:=Blk.new (w.alloc (.cells #[.int .i64 p,.int .i64 f,.int .i64 l,.int .i64 r,.int .i64 c] 335)) [.int .i64 0,.nilIface] 303
   rw[World.size_alloc] at this
   exact hW0 ▸ this
  have ho0:Only [] w W0:=hW0 ▸ (((Only.refl [] w).alloc _).alloc _)
  have HA0:=hid hA0
  have HB0:=hid hB0
  have HO0:=hid ho0
  have a0:Hid (∀{W:World},Only [] W0 W→W.cell? ⟨w.heap.size,0,none⟩=some (.int .i64 p)∧W.cell? ⟨w.heap.size,1,none⟩=some (.int .i64 f)∧W.cell? ⟨w.heap.size,2,none⟩=some (.int .i64 l)∧W.cell? ⟨w.heap.size,3,none⟩=some (.int .i64 r)∧W.cell? ⟨w.heap.size,4,none⟩=some (.int .i64 c)∧W.cell? ⟨w.heap.size+1,0,none⟩=some (.int .i64 0)∧W.cell? ⟨w.heap.size+1,1,none⟩=some .nilIface∧W.frozen? ⟨w.heap.size+1,0,none⟩=false∧W.frozen? ⟨w.heap.size+1,1,none⟩=false):=
   hid fun ho=>⟨(hA0.only ho (by simp)).cell rfl,(hA0.only ho (by simp)).cell rfl,(hA0.only ho (by simp)).cell rfl,(hA0.only ho (by simp)).cell rfl,(hA0.only ho (by simp)).cell rfl,(hB0.only ho (by simp)).cell rfl,(hB0.only ho (by simp)).cell rfl,(hB0.only ho (by simp)).frozen _,(hB0.only ho (by simp)).frozen _⟩
  have m0:=a0.out (Only.refl [] W0).drew'
  obtain⟨x0,x1,x2,x3,x4,x5,x6,x7,x8⟩:=a0.out (Only.refl [] W0)
  clear hA hA0 hB0 ho0
  first
  |have _:=tg1
   go_enter func224,ntmps224
   go_wp2_with fail
   go_region_held3 (fun W=>W.cell? ⟨w.heap.size,0,none⟩=some (.int .i64 p)∧W.cell? ⟨w.heap.size,1,none⟩=some (.int .i64 f)∧W.cell? ⟨w.heap.size,2,none⟩=some (.int .i64 l)∧W.cell? ⟨w.heap.size,3,none⟩=some (.int .i64 r)∧W.cell? ⟨w.heap.size,4,none⟩=some (.int .i64 c))
    (first|with_reducible exact⟨m0.1,m0.2.1,m0.2.2.1,m0.2.2.2.1,m0.2.2.2.2.1⟩|with_reducible exact⟨m1.1,m1.2.1,m1.2.2.1,m1.2.2.2.1,m1.2.2.2.2.1⟩|with_reducible exact⟨m2.1,m2.2.1,m2.2.2.1,m2.2.2.2.1,m2.2.2.2.2.1⟩|(go_keep;done))
    (first|(go_simp;go_at_call 222;refine (HH.out _).mono ?_;rintro e w1 ⟨rfl,ho1⟩;have ho1':Only [] W0 w1:=⟨ho1.os,ho1.tape,ho1.output,ho1.size,ho1.block⟩;have m1:=a0.out ho1';have HO1:=hid ho1';clear ho1 ho1')|(go_simp;go_at_call 240;refine (HSH.out _ (HO0.out.trans HO1.out)).mono ?_;rintro e w2 ⟨rfl,ho2⟩;have ho2':Only [] W0 w2:=HO1.out.trans (.of_below ho2);have m2:=a0.out ho2';obtain⟨_,_,_,_,_,y5,y6,y7,y8⟩:=m2;have m2:=a0.out ho2';have HO2:=hid ho2';clear ho2 ho2'))
  |clear m0 x0 x1 x2 x3 x4 x5 x6 x7 x8
   obtain⟨x0,x1,x2,x3,x4,x5,x6,x7,x8⟩:=a0.out (Only.refl [] W0)
   go_enter func223,ntmps223
   go_wp2_with (go_at_call 241;refine (HSP.out _).mono ?_;rintro e V ⟨rfl,ho⟩;have hov:Only [] W0 V:=⟨ho.os,ho.tape,ho.output,ho.size,ho.block⟩;have m0:=a0.out hov.drew';obtain⟨z0,z1,z2,z3,z4,z5,z6,z7,z8⟩:=a0.out hov;have HOV:=hid hov;clear ho hov)
   go_region_held3 (fun W=>W.cell? ⟨w.heap.size,0,none⟩=some (.int .i64 p)∧W.cell? ⟨w.heap.size,1,none⟩=some (.int .i64 f)∧W.cell? ⟨w.heap.size,2,none⟩=some (.int .i64 l)∧W.cell? ⟨w.heap.size,3,none⟩=some (.int .i64 r)∧W.cell? ⟨w.heap.size,4,none⟩=some (.int .i64 c))
    (first|with_reducible exact⟨m0.1,m0.2.1,m0.2.2.1,m0.2.2.2.1,m0.2.2.2.2.1⟩|with_reducible exact⟨m1.1,m1.2.1,m1.2.2.1,m1.2.2.2.1,m1.2.2.2.2.1⟩|with_reducible exact⟨m2.1,m2.2.1,m2.2.2.1,m2.2.2.2.1,m2.2.2.2.2.1⟩|(go_keep;done))
    (first|(go_simp;go_at_call 222;refine (HH.out _).mono ?_;rintro e w1 ⟨rfl,ho1⟩;have ho1':Only [] W0 w1:=HOV.out.trans ⟨ho1.os,ho1.tape,ho1.output,ho1.size,ho1.block⟩;have m1:=a0.out ho1';have HO1:=hid ho1';clear ho1 ho1')|(go_simp;go_at_call 240;refine (HSH.out _ (HO0.out.trans HO1.out)).mono ?_;rintro e w2 ⟨rfl,ho2⟩;have ho2':Only [] W0 w2:=HO1.out.trans (.of_below ho2);have m2:=a0.out ho2';obtain⟨_,_,_,_,_,y5,y6,y7,y8⟩:=m2;have m2:=a0.out ho2';have HO2:=hid ho2';clear ho2 ho2'))
  all_goals (try go_wp2_with fail)
  all_goals
   first|(have _:=tg1;refine bodyPost_ret (v:=.tuple #[.agg #[.int .i64 l,.iface vt vx],.int .i64 0]) (by simp[results,Tryz.results224,go_sem,y5,y6]) rfl ⟨rfl,?_⟩;exact (((HO0.out.trans HO2.out).setCell (p:=⟨w.heap.size+1,0,none⟩) (.inr (Nat.le_succ _)) (.int .i64 l)).setCell (p:=⟨w.heap.size+1,1,none⟩) (.inr (Nat.le_succ _)) (.iface vt vx)).below)|(refine bodyPost_ret (v:=.tuple #[.agg #[.int .i64 r,.iface vt vx],.int .i64 0]) (by simp[results,Tryz.results223,go_sem,y5,y6]) rfl ⟨rfl,?_⟩;exact (((HO0.out.trans HO2.out).setCell (p:=⟨w.heap.size+1,0,none⟩) (.inr (Nat.le_succ _)) (.int .i64 r)).setCell (p:=⟨w.heap.size+1,1,none⟩) (.inr (Nat.le_succ _)) (.iface vt vx)).below)
abbrev leftOf_any:=(sides_all w tb L S hp ht p f l r c hp32 hf s).1
abbrev rightOf_any:=(sides_all w tb L S hp ht p f l r c hp32 hf s).2
end
end Go.Proofs.YteeefedoffplmaaGreat
