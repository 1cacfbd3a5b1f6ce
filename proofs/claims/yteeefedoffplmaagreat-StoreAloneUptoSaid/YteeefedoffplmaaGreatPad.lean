/- StoreAlone, part Pad: Sets, First, Push, Cut, Versions, Set. -/
import Derived.Test.YteeefedoffplmaaGreatPac
import Derived.Lib.SliceRun
set_option linter.unusedSimpArgs false
set_option linter.unusedVariables false
set_option maxRecDepth 100000
set_option maxHeartbeats 51200000
namespace Go.Proofs.YteeefedoffplmaaGreat
open Go.RowKit Lib Go.Proofs.Tryz
end Go.Proofs.YteeefedoffplmaaGreat
namespace Go.Proofs.YteeefedoffplmaaGreat
open Lib Go.Proofs.Tryz
open Go.RowKit
abbrev SRow:=Int × List Int × Value
def srowCells (r:SRow):List Value:=[.int .i64 r.1,r.2.2]
structure ChainL where
 xb:Nat
 sb:Nat
structure SRows (w:World)(base:Nat)(D:List Nat)(rows:List SRow):Prop where
 own:∀r∈rows,w.ownsRow base 3 1 r.2.2 r.2.1.length (Zc r.2.1)∧(∀k,r.2.2.ownBlock=some k→k∈D)∧r.2.1.length≤100000
 apart:∀(i j:Nat) (r s:SRow) (k:Nat),rows[i]?=some r→rows[j]?=some s→i≠j→r.2.2.ownBlock=some k→s.2.2.ownBlock≠some k
structure ChainAt (w:World)(X:ChainL)(pb cb base:Nat)(D:List Nat)(C:ChainS):Prop where
 ex:∃rows:List SRow,C.sets=rows.map (fun r=>(r.1,r.2.1))∧Blk w X.xb [ptr pb,ptr cb,.int .i64 C.head,Qr X.sb rows.length] 191∧Blk w X.sb (rows.flatMap srowCells) 226∧SRows w base D rows
 apart:X.xb≠X.sb
 lt:X.xb<base∧X.sb<base
 room:base≤w.heap.size
 most:C.sets.length≤4097
 dlt:∀k∈D,base≤k∧k<w.heap.size
theorem SRows.only {w w':World}{base:Nat}{D:List Nat}{rows:List SRow}(h:SRows w base D rows){Y:List Nat}(ho:Only Y w w')(hd:∀k∈D,k∉Y):SRows w' base D rows:=
 ⟨fun r hr=>⟨Qe (h.own r hr).1 ho (fun k hk=>hd k ((h.own r hr).2.1 k hk)),(h.own r hr).2⟩,h.apart⟩
theorem ChainAt.only {w w':World}{X:ChainL}{pb cb base:Nat}{D:List Nat}{C:ChainS}(h:ChainAt w X pb cb base D C){Y:List Nat}(ho:Only Y w w')(h1:X.xb∉Y)(h2:X.sb∉Y)(hd:∀k∈D,k∉Y):ChainAt w' X pb cb base D C:=by
 obtain⟨⟨rows,e,b1,b2,b3⟩,h3,h4,h5,h6,h7⟩:=h
 exact⟨⟨rows,e,b1.only ho h1,b2.only ho h2,b3.only ho hd⟩,h3,h4,Nat.le_trans h5 ho.size,h6,fun k hk=>⟨(h7 k hk).1,Nat.lt_of_lt_of_le (h7 k hk).2 ho.size⟩⟩
theorem ChainAt.below {w w':World}{X:ChainL}{pb cb base:Nat}{D:List Nat}{C:ChainS}(h:ChainAt w X pb cb base D C)(ho:Only [] w w'):ChainAt w' X pb cb base D C:=h.only ho (by simp) (by simp) (by simp)
theorem ChainAt.setHead {w:World}{X:ChainL}{pb cb base:Nat}{D:List Nat}{C:ChainS}(h:ChainAt w X pb cb base D C)(x:Int):ChainAt (w.setCell ⟨X.xb,2,none⟩ (.int .i64 x)) X pb cb base D {C with head:=x}:=by
 have ho:Only [X.xb] w (w.setCell ⟨X.xb,2,none⟩ (.int .i64 x)):=(Only.refl _ _).setCell (.inl (by simp)) _
 obtain⟨⟨rows,e,b1,b2,b3⟩,h3,h4,h5,h6,h7⟩:=h
 exact⟨⟨rows,e,b1.set 2 _,b2.only ho (by simpa using h3.symm),b3.only ho (fun k hk=>by have:=(h7 k hk).1;have:=h4.1;simp;omega)⟩,h3,h4,by simpa using h5,h6,fun k hk=>by simpa using h7 k hk⟩
def Settled (L:PoolL)(S':PoolS)(w:World)(r:Value)(e:Ending)(w':World):Prop:=e=.returned r∧PoolAt w' L S'∧Only L.blocks w w'
theorem settle_any (w:World)(X:ChainL)(L:PoolL)(S:PoolS)(K:ClockL)(CK:ClockS)(base:Nat)(D:List Nat)(C:ChainS)(hp:PoolAt w L S)(hk:ClockAt w K CK)(hc:ChainAt w X L.pb K.cb base D C)(h v:Int)(S':PoolS)(hS:settle CK.now S h=some (v,S')):
  Calls prog 216 #[ptr X.xb,.pointer none,.int .i64 h] w (Settled L S' w (I2 v)):=by
 simp only[settle,Option.bind_eq_bind,Option.bind_eq_some_iff] at hS
 obtain⟨s,hs,hS⟩:=hS
 obtain⟨rows,_,b1,_,_⟩:=hc.ex
 have c0:w.cell? ⟨X.xb,0,none⟩=some (ptr L.pb):=b1.cell rfl
 have c1:w.cell? ⟨X.xb,1,none⟩=some (ptr K.cb):=b1.cell rfl
 have hmark:=mark_any w L S hp h s hs
 have hnow:=clockNow w K CK hk
 have hcn:=hk.now
 by_cases hm:s.mark=0
 ·rw[if_neg (by simp[hm])] at hS
  simp only[Option.bind_eq_some_iff] at hS
  obtain⟨S2,h2,hS⟩:=hS
  simp only[Option.some.injEq,Prod.mk.injEq] at hS
  obtain⟨rfl,rfl⟩:=hS
  have hcas:=casMark_any w L S hp h s hs CK.now ⟨by omega,by omega⟩ S2 h2
  rw[hm] at hcas hmark
  unfold I2 at hmark ⊢
  unfold B2 at hcas
  unfold ptr at *
  clear hp hk hc h2 b1 hs hm hcn
  go_enter func216,ntmps216
  go_wp2_with (first|(go_at_call 188;refine hmark.mono ?_;rintro e w' ⟨rfl,rfl⟩)|(go_at_call 60;refine hnow.mono ?_;rintro e w' ⟨rfl,rfl⟩)|(go_at_call 236;refine hcas.mono ?_;rintro e w1 ⟨rfl,hp,ho⟩;have HP:=hid hp;have HO:=hid ho;clear hp ho))
  go_ret2
  exact⟨rfl,HP.out,HO.out⟩
 ·rw[if_pos hm] at hS
  simp only[Option.some.injEq,Prod.mk.injEq] at hS
  obtain⟨rfl,rfl⟩:=hS
  have hq:(s.mark != 0)=true:=by simp[hm]
  have HP:=hid hp
  unfold I2 at hmark ⊢
  unfold ptr at *
  clear hp hk hc b1 hs hm hcn
  generalize s.mark=m at *
  go_enter func216,ntmps216
  go_wp2_with (first|(go_at_call 188;refine hmark.mono ?_;rintro e w' ⟨rfl,rfl⟩))
  go_ret2
  exact⟨rfl,HP.out,Only.refl _ _⟩
def I3 (a b c:Int):Value:=.tuple #[.int .i64 a,.int .i64 b,.int .i64 c]
theorem top_any (w:World)(X:ChainL)(L:PoolL)(S:PoolS)(K:ClockL)(CK:ClockS)(base:Nat)(D:List Nat)(C:ChainS)(hp:PoolAt w L S)(hk:ClockAt w K CK)(hc:ChainAt w X L.pb K.cb base D C)(h v:Int)(S':PoolS)(hS:C.top CK.now S=some (h,v,S')):
  Calls prog 186 #[ptr X.xb,.pointer none] w (Settled L S' w (I3 h v 0)):=by
 unfold ChainS.top at hS
 by_cases h0:C.head=0
 ·simp[h0] at hS
 ·simp only[h0,if_false,Option.bind_eq_bind,Option.bind_eq_some_iff] at hS
  obtain⟨⟨v',S2⟩,hse,hS⟩:=hS
  simp only[Option.some.injEq,Prod.mk.injEq] at hS
  obtain⟨rfl,rfl,rfl⟩:=hS
  have hset:=settle_any w X L S K CK base D C hp hk hc C.head v' S2 hse
  obtain⟨rows,_,b1,_,_⟩:=hc.ex
  have hl:=Zf X.xb 2 C.head w (b1.cell rfl)
  have hq:(C.head == 0)=false:=by simp[h0]
  unfold I2 at hset
  unfold I3
  unfold ptr at *
  clear hp hk hc b1 hse h0
  generalize C.head=hd at *
  go_enter func186,ntmps186
  go_wp2_with (first|(go_at_call 71;refine (Qx _).mono ?_;rintro e w' ⟨rfl,rfl⟩)|(go_at_call 51;refine hl.mono ?_;rintro e w' ⟨rfl,rfl⟩)|(go_at_call 216;refine hset.mono ?_;rintro e w1 ⟨rfl,hp,ho⟩;have HP:=hid hp;have HO:=hid ho;clear hp ho))
  go_ret3
  exact⟨rfl,HP.out,HO.out⟩
theorem lays2_any (w:World)(X:ChainL)(pb cb base:Nat)(D:List Nat)(C:ChainS)(hc:ChainAt w X pb cb base D C)(h:Int):
  Calls prog 215 #[ptr X.xb,.pointer none,.int .i64 C.head,.int .i64 h] w fun e w'=>e=.returned (.bool true)∧ChainAt w' X pb cb base D {C with head:=h}∧Only [X.xb] w w':=by
 have hfin:=hc.setHead h
 obtain⟨rows,_,b1,_,_⟩:=hc.ex
 have hcas:=atomCas X.xb 2 C.head w h (b1.cell rfl) (b1.frozen _)
 have ho:Only [X.xb] w (w.setCell ⟨X.xb,2,none⟩ (.int .i64 h)):=(Only.refl _ _).setCell (.inl (by simp)) _
 have HF:=hid hfin;have HO:=hid ho
 unfold ptr
 clear hc b1 hfin ho
 generalize C.head=hd at *
 go_enter func215,ntmps215
 go_wp2_with (first|(go_at_call 71;refine (Qx _).mono ?_;rintro e w' ⟨rfl,rfl⟩)|(go_at_call 135;refine hcas.mono ?_;rintro e w' ⟨rfl,rfl⟩))
 go_ret
 exact⟨rfl,HF.out,HO.out⟩
end Go.Proofs.YteeefedoffplmaaGreat
/- slices.Clone at int; a chain's set laid down; First. Conditions: pool, clock and chain lie in memory; the plain functions answer. -/
namespace Go.Proofs.YteeefedoffplmaaGreat
open Lib Go.Proofs.Tryz
open Go.RowKit
theorem made_empty (w:World)(e size:Nat):(w.alloc (.cells #[] e)).ownsRow w.heap.size e size (.slice (some ⟨w.heap.size,0,none⟩) 0 0) 0 []:=
 World.ownsRow_made w #[] 0 (Nat.le_refl _) (by simp[maxLen]) (by simp)
theorem cloneInts (A:Option Addr)(n c:Nat)(xs:List Value)(w:World)(hr:Row w A xs)(hl:xs.length=n)(h1:∀u∈xs,u.oneCell'=true)(hn:n≤1000000)(hA:A=none→n=0):
  Calls prog 124 #[.slice A n c] w fun r w'=>∃v,r=.returned v∧w'.ownsRow w.heap.size 3 1 v n xs∧Below w.heap.size w w':=by
 have heq:∀W:World,(binOp .eql 64 (.slice A n c) (.slice none 0 0)).run prog W=.ok (.bool A.isNone) W:=fun W=>Lib.run_eql_slice_nil W 64 3 A n c 0 0 (by kernel_rfl)
 cases A with
 |none=>
  obtain rfl:=hA rfl
  have:xs=[]:=List.eq_nil_of_length_eq_zero hl
  subst this
  clear hA hl hn h1 hr
  go_enter func124,ntmps124
  go_wp2
  go_ret
  exact⟨_,rfl,World.ownsRow_nil _ _ _ _,Below.refl _ _⟩
 |some ad=>
  have HL:=hid hl;clear hl hA
  have HN:=hid hn;clear hn
  have H1:=hid h1;clear h1
  have HR:=hid hr;clear hr
  go_enter func124,ntmps124
  go_wp2_with (at_builtin;refine Qj rfl (.tmp 5) (.tmp 6) rfl elemInt rfl (made_empty w 3 1) (some ad) n c xs rfl (HR.out.alloc _) (by rw[HL.out];omega) H1.out (by have:=HN.out;unfold maxLen;omega) (by have:=HN.out;omega) (by simp) (fun e=>by cases e) ?_;intro v1 w1 hown1 hg1 hat1)
  go_ret
  refine⟨v1,rfl,?_,?_⟩
  ·have:=hown1
   simpa using this
  ·exact ((Below.refl _ _).alloc (Nat.le_refl _) _).grown hg1 (by simp) (fun k hk=>by cases hk;exact Nat.le_refl _)
theorem List.set_map_eq {α β:Type}(f:α→β)(l:List α)(i:Nat)(x:α):(l.set i x).map f=(l.map f).set i (f x):=by rw[List.map_set]
theorem ChainAt.setSet {w:World}{X:ChainL}{pb cb base:Nat}{D:List Nat}{C:ChainS}(h:ChainAt w X pb cb base D C){i:Nat}(hi:i<C.sets.length)(x:Int)(l:List Int)(v:Value)(hown:w.ownsRow base 3 1 v l.length (Zc l))(hl:l.length≤100000)(hnew:∀k,v.ownBlock=some k→k∉D):
  ChainAt ((w.setCell ⟨X.sb,i*2,none⟩ (.int .i64 x)).setCell ⟨X.sb,i*2+1,none⟩ v) X pb cb base (v.ownBlock.toList ++ D) {C with sets:=C.sets.set i (x,l)}:=by
 obtain⟨⟨rows,e,b1,b2,b3⟩,h3,h4,h5,h6,h7⟩:=h
 have hil:i<rows.length:=by rw[e] at hi;simpa using hi
 obtain⟨r,hr⟩:∃r,rows[i]?=some r:=⟨_,List.getElem?_eq_getElem hil⟩
 have ho:Only [X.sb] w ((w.setCell ⟨X.sb,i*2,none⟩ (.int .i64 x)).setCell ⟨X.sb,i*2+1,none⟩ v):=((Only.refl _ _).setCell (.inl (by simp)) _).setCell (.inl (by simp)) _
 have s1:=b2.set (i*2) (.int .i64 x)
 have e1:(rows.flatMap srowCells).set (i*2+0) (.int .i64 x)=(rows.set i (x,r.2.1,r.2.2)).flatMap srowCells:=flatMap_set srowCells 2 (fun _=>rfl) rows i r hr 0 (.int .i64 x) (x,r.2.1,r.2.2) (by omega) rfl
 rw[Nat.add_zero] at e1
 rw[e1] at s1
 have s2:=s1.set (i*2+1) v
 have hr2:(rows.set i (x,r.2.1,r.2.2))[i]?=some (x,r.2.1,r.2.2):=by simp[hil]
 have e2:((rows.set i (x,r.2.1,r.2.2)).flatMap srowCells).set (i*2+1) v=((rows.set i (x,r.2.1,r.2.2)).set i (x,l,v)).flatMap srowCells:=flatMap_set srowCells 2 (fun _=>rfl) _ i _ hr2 1 v (x,l,v) (by omega) rfl
 rw[e2,List.set_set] at s2
 have hd:∀k∈D,k∉[X.sb]:=fun k hk=>by have:=(h7 k hk).1;have:=h4.2;simp;omega
 have hvs:∀k,v.ownBlock=some k→base≤k∧k<w.heap.size:=fun k hk=>hown.lt k hk
 have b3':=b3.only ho hd
 have hown':=Qe hown ho (fun k hk=>by have:=(hvs k hk).1;have:=h4.2;simp;omega)
 refine⟨⟨rows.set i (x,l,v),?_,?_,s2,?_,?_⟩,h3,h4,by simpa using h5,by simpa using h6,?_⟩
 ·rw[e,List.set_map_eq]
 ·have:=(b1.other h3 (i*2) (.int .i64 x)).other h3 (i*2+1) v
  simpa using this
 ·intro q hq
  rcases List.mem_or_eq_of_mem_set hq with hq|rfl
  ·exact⟨(b3'.own q hq).1,fun k hk=>List.mem_append_right _ ((b3'.own q hq).2.1 k hk),(b3'.own q hq).2.2⟩
  ·exact⟨hown',fun k hk=>List.mem_append_left _ (by rw[hk];simp),hl⟩
 ·intro a b q s k hq hs hab hk
  rw[List.getElem?_set] at hq hs
  by_cases ha:i=a
  ·subst ha
   simp only[if_true,hil] at hq
   injection hq with hq
   subst hq
   rw[if_neg hab] at hs
   intro e'
   exact hnew k hk ((b3.own s (List.mem_of_getElem? hs)).2.1 k e')
  ·rw[if_neg ha] at hq
   by_cases hb:i=b
   ·subst hb
    simp only[if_true,hil] at hs
    injection hs with hs
    subst hs
    intro e'
    exact hnew k e' ((b3.own q (List.mem_of_getElem? hq)).2.1 k hk)
   ·rw[if_neg hb] at hs
    exact b3.apart a b q s k hq hs hab hk
 ·intro k hk
  rcases List.mem_append.1 hk with hk|hk
  ·have:=hvs k (by simpa using hk)
   simpa using this
  ·simpa using h7 k hk
end Go.Proofs.YteeefedoffplmaaGreat
namespace Go.Proofs.YteeefedoffplmaaGreat
open Go.RowKit Lib Go.Proofs.Tryz
theorem idxW_pack {i t:Int}(hi:0≤i)(hi':i≤1048575)(ht:0≤t)(ht':t≤1099511627775):Qo (Za i t)=i∧tagW (Za i t)=t:=by
 have hb:isWordB (Za i t)=true:=by
  rw[isWordB_iff]
  unfold Za T40
  omega
 unfold Qo tagW
 rw[if_pos hb,if_pos hb]
 unfold Za T40
 omega
theorem take_at {S S':PoolS}{x:NodeS}{link h:Int}(ht:S.take x link=some (h,S')){s:SlotS}(hs:S'.at h=some s):s.mark=0∧s.link=link∧s.node=x:=by
 obtain⟨n,m,s0,hn,h1,h2,h3,hnx,hs0,hg0,hg,hw,rfl,rfl⟩:=take_spec ht
 obtain⟨k,hk,hk1,hks,_⟩:=at_spec hs
 rw[(idxW_pack (by omega) (by omega) (by omega) (by omega)).1] at hk
 obtain rfl:n=k:=by omega
 rw[PoolS.with_get ({S with head:=Za m ((tagW S.head+1) % T40)}:PoolS) hs0] at hks
 injection hks with hks
 subst hks
 exact⟨rfl,rfl,rfl⟩
theorem Qa {X:List Nat}{w w':World}(ho:Only X w w'){b i:Nat}{v:Value}(h:w.cell? ⟨b,i,none⟩=some v)(hb:b∉X):w'.cell? ⟨b,i,none⟩=some v:=by
 have:=ho.block b (block_lt_of_cell h) hb
 simp only[World.cell?] at h ⊢
 rw[this]
 exact h
structure Far (X:ChainL)(L:PoolL)(base:Nat):Prop where
 xb:X.xb∉L.all
 sb:X.sb∉L.all
 lt:∀k∈L.all,k<base
theorem Qf {L:PoolL}{k:Nat}(h:k∈L.blocks):k∈L.all:=by
 simp only[PoolL.blocks,PoolL.all,List.mem_cons,List.not_mem_nil,or_false] at h ⊢
 exact .inr h
def chX (X:ChainL)(L:PoolL):List Nat:=X.xb :: X.sb :: L.blocks
def Chained (X:ChainL)(L:PoolL)(cb base:Nat)(D:List Nat)(C':ChainS)(S':PoolS)(w:World)(r:Value)(e:Ending)(w':World):Prop:=
 e=.returned r∧PoolAt w' L S'∧ChainAt w' X L.pb cb base D C'∧Only (chX X L) w w'
theorem ChainAt.pool {w w':World}{X:ChainL}{L:PoolL}{pb cb base:Nat}{D:List Nat}{C:ChainS}(h:ChainAt w X pb cb base D C)(hf:Far X L base)(ho:Only L.blocks w w'):ChainAt w' X pb cb base D C:=
 h.only ho (fun e=>hf.xb (Qf e)) (fun e=>hf.sb (Qf e)) (fun k hk e=>by have:=hf.lt k (Qf e);have:=(h.dlt k hk).1;omega)
theorem first_any (w:World)(X:ChainL)(L:PoolL)(S:PoolS)(cb base:Nat)(D:List Nat)(C:ChainS)(hp:PoolAt w L S)(hc:ChainAt w X L.pb cb base D C)(hf:Far X L base)(x:NodeS)(hx:x.Ok)(h:Int)(C':ChainS)(S':PoolS)(hS:C.first S x=some (h,C',S')):
  Calls prog 245 #[ptr X.xb,.pointer none,x.val] w (Chained X L cb base D C' S' w (I2 h)):=by
 simp only[ChainS.first,Option.bind_eq_bind,Option.bind_eq_some_iff] at hS
 obtain⟨⟨h',S1⟩,ht,S2,hm,hS⟩:=hS
 simp only at hm hS
 split at hS
 case isFalse=>cases hS
 case isTrue hcond=>
 obtain⟨hh0,hil⟩:=hcond
 simp only[Option.some.injEq,Prod.mk.injEq] at hS
 obtain⟨rfl,rfl,rfl⟩:=hS
 obtain⟨i,hi⟩:∃i:Nat,Qo h'=i:=⟨(Qo h').toNat,by have:=(idxW_bound h').1;omega⟩
 have hin:i<C.sets.length:=by omega
 have hi2:(Qo h').toNat=i:=by omega
 rw[hi2]
 obtain⟨s1,hs1⟩:∃s1,S1.at h'=some s1:=by
  unfold PoolS.setMark at hm
  cases ha:S1.at h' with
  |none=>simp[ha] at hm
  |some s=>exact⟨s,rfl⟩
 have hmark:=(take_at ht hs1).1
 have hpa:=(hp.alloc (.cells #[.int .i64 x.a,.int .i64 x.b,.int .i64 x.c,.int .i64 x.d] 218)).drew
 have htake:=take_any _ L S hpa x hx 0 ⟨by omega,by omega⟩ h' S1 ht
 obtain⟨rows,er,b1,_,_⟩:=hc.ex
 have c0:(w.alloc (.cells #[.int .i64 x.a,.int .i64 x.b,.int .i64 x.c,.int .i64 x.d] 218)).cell? ⟨X.xb,0,none⟩=some (ptr L.pb):=(b1.alloc _).cell rfl
 have HC:=hid hc;have HF:=hid hf;have HT:=hid htake;have HM:=hid hm;have HS1:=hid hs1;have HMK:=hid hmark;have HIN:=hid hin;have HH0:=hid hh0;have HIX:=hid fun W=>calls_rev (index_is hi W)
 unfold NodeS.val at HT ⊢
 unfold I2 at HT ⊢
 unfold ptr at HT c0 ⊢
 clear hp hc hf hpa htake ht hm hs1 hmark hin hh0 hi hi2 hil b1 er hx
 obtain⟨xa,xb',xc,xd⟩:=x
 go_enter func245,ntmps245
 go_wp2_with fail
 have hxb:X.xb∉L.blocks:=fun e=>HF.out.xb (Qf e)
 have hbx:w.heap.size∉L.blocks:=fun e=>by have:=HF.out.lt _ (Qf e);have:=HC.out.room;omega
 have HXB:=hid hxb;have HBX:=hid hbx
 clear hxb hbx
 go_region_held3 (fun W=>W.cell? ⟨X.xb,0,none⟩=some (.pointer (some ⟨L.pb,0,none⟩))∧W.cell? ⟨w.heap.size,0,none⟩=some (.int .i64 xa)∧W.cell? ⟨w.heap.size,1,none⟩=some (.int .i64 xb')∧W.cell? ⟨w.heap.size,2,none⟩=some (.int .i64 xc)∧W.cell? ⟨w.heap.size,3,none⟩=some (.int .i64 xd))
  (first|exact⟨Qa ho2 c0 HXB.out,Qa ho2 (cell_new w #[.int .i64 xa,.int .i64 xb',.int .i64 xc,.int .i64 xd] 218 0 _ rfl) HBX.out,Qa ho2 (cell_new w #[.int .i64 xa,.int .i64 xb',.int .i64 xc,.int .i64 xd] 218 1 _ rfl) HBX.out,Qa ho2 (cell_new w #[.int .i64 xa,.int .i64 xb',.int .i64 xc,.int .i64 xd] 218 2 _ rfl) HBX.out,Qa ho2 (cell_new w #[.int .i64 xa,.int .i64 xb',.int .i64 xc,.int .i64 xd] 218 3 _ rfl) HBX.out⟩|(go_keep;done))
  (first|(go_simp;go_at_call 214;refine HT.out.mono ?_;rintro e w2 ⟨rfl,hp2,ho2⟩;have HP2:=hid hp2;have ho2':Only L.blocks w w2:=((Only.refl _ _).alloc _).trans ⟨ho2.os,ho2.tape,ho2.output,ho2.size,ho2.block⟩;have HO2:=hid ho2';have HC2:=hid (HC.out.pool HF.out ho2')))
 go_wp2_with fail
 obtain⟨rows2,er2,d1,d2,_⟩:=HC2.out.ex
 have hlen2:rows2.length=C.sets.length:=by rw[er2];simp
 have c3:w2.cell? ⟨X.xb,3,none⟩=some (Qr X.sb C.sets.length):=by rw[←hlen2];exact d1.cell rfl
 have hin:=HIN.out
 obtain⟨r2,hr2⟩:∃r2,rows2[i]?=some r2:=⟨_,List.getElem?_eq_getElem (by omega)⟩
 have e0:w2.cell? ⟨X.sb,i*2,none⟩=some (.int .i64 r2.1):=d2.cell (i:=i*2+0) ((Qz srowCells 2 (fun _=>rfl) rows2 i r2 hr2 0 (by omega)).trans rfl)
 have e1:w2.cell? ⟨X.sb,i*2+1,none⟩=some r2.2.2:=d2.cell (i:=i*2+1) ((Qz srowCells 2 (fun _=>rfl) rows2 i r2 hr2 1 (by omega)).trans rfl)
 have f0:=d2.frozen (i*2)
 have f1:=d2.frozen (i*2+1)
 have e1':(w2.setCell ⟨X.sb,i*2,none⟩ (.int .i64 h')).cell? ⟨X.sb,i*2+1,none⟩=some r2.2.2:=(World.cell?_setCell_other w2 ⟨X.sb,i*2,none⟩ ⟨X.sb,i*2+1,none⟩ (.int .i64 h') (by simp)).trans e1
 have hc3:=HC2.out.setSet hin h' [] (.slice none 0 0) (World.ownsRow_nil _ _ _ _) (by simp) (by simp[Value.ownBlock])
 have ho3:Only [X.sb] w2 ((w2.setCell ⟨X.sb,i*2,none⟩ (.int .i64 h')).setCell ⟨X.sb,i*2+1,none⟩ (.slice none 0 0)):=((Only.refl _ _).setCell (.inl (by simp)) _).setCell (.inl (by simp)) _
 have hp3:=HP2.out.only ho3 (fun k hk=>by simp;exact fun e=>HF.out.sb (e ▸ hk))
 have hcas:=casMark_any _ L S1 hp3.drew h' s1 HS1.out 1 ⟨by omega,by omega⟩ S2 HM.out
 rw[HMK.out] at hcas
 have HC3:=hid hc3;have HO3:=hid ho3;have HCAS:=hid hcas
 unfold Qr at c3
 unfold ptr B2 at HCAS
 have c0':((w2.setCell ⟨X.sb,i*2,none⟩ (.int .i64 h')).setCell ⟨X.sb,i*2+1,none⟩ (.slice none 0 0)).cell? ⟨X.xb,0,none⟩=some (ptr L.pb):=by
  obtain⟨rows3,_,g1,_,_⟩:=hc3.ex
  exact g1.cell rfl
 unfold ptr at c0'
 clear d1 d2 hlen2 er2 hr2 hc3 ho3 hp3 hcas
 generalize C.sets.length=len at *
 refine wp_region_still_tail 9 (by kernel_rfl) (by kernel_rfl) ?_
 simp only[List.take_succ_cons,List.take_zero,List.drop_succ_cons,List.drop_zero]
 change wpStill _ _ (World.drew _) (fun a'=>wpList _ _ _ _ a' (World.drew _)) _ _
 iterate 5 still_step
 still_call (HIX.out _)
 iterate 3 still_step
 refine wpStill_nil ?_
 go_wp2_with (first|(go_at_call 236;refine HCAS.out.mono ?_;rintro e w4 ⟨rfl,hp4,ho4⟩;have HP4:=hid hp4;have ho4':Only L.blocks ((w2.setCell ⟨X.sb,i*2,none⟩ (.int .i64 h')).setCell ⟨X.sb,i*2+1,none⟩ (.slice none 0 0)) w4:=⟨ho4.os,ho4.tape,ho4.output,ho4.size,ho4.block⟩;have hc4:=HC3.out.pool HF.out ho4';have HC4:=hid hc4;have HO4:=hid ho4';have hlay:=lays2_any w4 X L.pb cb base _ _ hc4 h';change Calls prog 215 #[_,_,.int .i64 C.head,_] _ _ at hlay;rw[HH0.out] at hlay;unfold ptr at hlay;clear hp4 ho4 ho4' hc4)|(go_at_call 215;refine hlay.mono ?_;rintro e w5 ⟨rfl,hc5,ho5⟩;have HC5:=hid hc5;have HO5:=hid ho5;clear hc5 ho5 hlay))
 go_ret2
 refine⟨rfl,HP4.out.only HO5.out (fun k hk=>by simp;exact fun e=>HF.out.xb (e ▸ hk)),HC5.out,?_⟩
 exact (((HO2.out.mono (fun k hk=>by simp[chX,hk])).trans (HO3.out.mono (fun k hk=>by simp[chX] at hk ⊢;simp[hk]))).trans (HO4.out.mono (fun k hk=>by simp[chX,hk]))).trans (HO5.out.mono (fun k hk=>by simp[chX] at hk ⊢;simp[hk]))
def Pushed (X:ChainL)(L:PoolL)(cb base:Nat)(D:List Nat)(C':ChainS)(S':PoolS)(w:World)(r:Value)(e:Ending)(w':World):Prop:=
 ∃D',e=.returned r∧PoolAt w' L S'∧ChainAt w' X L.pb cb base D' C'∧Only (chX X L) w w'∧∀k∈D',k∈D∨w.heap.size≤k
def IBI (a:Int)(b:Bool)(c:Int):Value:=.tuple #[.int .i64 a,.bool b,.int .i64 c]
theorem push_chain (w:World)(X:ChainL)(L:PoolL)(S:PoolS)(K:ClockL)(CK:ClockS)(base:Nat)(D:List Nat)(C:ChainS)(hp:PoolAt w L S)(hk:ClockAt w K CK)(hc:ChainAt w X L.pb K.cb base D C)(hf:Far X L base)
  (hkf:K.cb∉chX X L∧K.lb∉chX X L) (old:Int) (hold:Ql old) (x:NodeS) (hx:x.Ok) (l:List Int) (A:Option Addr) (c:Nat) (hr:Row w A (Zc l)) (hl:l.length≤100000) (hA:A=none→l.length=0) (hAX:∀b off,A=some ⟨b,off,none⟩→b∉L.blocks)
  (h:Int) (C':ChainS) (S':PoolS) (hS:C.push CK.now S old x l=some (h,C',S')):
  Calls prog 180 #[ptr X.xb,.pointer none,.int .i64 old,x.val,.slice A l.length c] w (Pushed X L K.cb base D C' S' w (IBI h true 0)):=by
 simp only[ChainS.push,Option.bind_eq_bind,Option.bind_eq_some_iff] at hS
 obtain⟨⟨h',S1⟩,ht,hS⟩:=hS
 simp only at hS
 split at hS
 case isFalse=>cases hS
 case isTrue hcond=>
 obtain⟨hh0,hil⟩:=hcond
 simp only[Option.bind_eq_some_iff] at hS
 obtain⟨⟨v,S2⟩,hse,hS⟩:=hS
 simp only[Option.some.injEq,Prod.mk.injEq] at hS
 obtain⟨rfl,rfl,rfl⟩:=hS
 obtain⟨i,hi⟩:∃i:Nat,Qo h'=i:=⟨(Qo h').toNat,by have:=(idxW_bound h').1;omega⟩
 have hin:i<C.sets.length:=by omega
 have hi2:(Qo h').toNat=i:=by omega
 rw[hi2]
 have hpa:=(hp.alloc (.cells #[.int .i64 x.a,.int .i64 x.b,.int .i64 x.c,.int .i64 x.d] 218)).drew
 have htake:=take_any _ L S hpa x hx old hold h' S1 ht
 obtain⟨rows,er,b1,_,_⟩:=hc.ex
 have c0:(w.alloc (.cells #[.int .i64 x.a,.int .i64 x.b,.int .i64 x.c,.int .i64 x.d] 218)).cell? ⟨X.xb,0,none⟩=some (ptr L.pb):=(b1.alloc _).cell rfl
 have HC:=hid hc;have HF:=hid hf;have HT:=hid htake;have HSE:=hid hse;have HIN:=hid hin;have HH0:=hid hh0;have HIX:=hid fun W=>index_is hi W
 have HK:=hid hk;have HKF:=hid hkf;have HR:=hid hr;have HA:=hid hA;have HAX:=hid hAX;have HL:=hid hl
 unfold NodeS.val at HT ⊢
 unfold I2 at HT
 unfold IBI
 unfold ptr at HT c0 ⊢
 clear hp hc hf hpa htake ht hse hin hh0 hi hi2 hil b1 er hx hk hkf hr hA hAX hold hl
 generalize hll:l.length=ln at *
 have HLL:=hid hll
 clear hll
 obtain⟨xa,xb',xc,xd⟩:=x
 go_enter func180,ntmps180
 go_wp2_with fail
 have hxb:X.xb∉L.blocks:=fun e=>HF.out.xb (Qf e)
 have hbx:w.heap.size∉L.blocks:=fun e=>by have:=HF.out.lt _ (Qf e);have:=HC.out.room;omega
 have HXB:=hid hxb;have HBX:=hid hbx
 clear hxb hbx
 go_region_held3 (fun W=>W.cell? ⟨X.xb,0,none⟩=some (.pointer (some ⟨L.pb,0,none⟩))∧W.cell? ⟨w.heap.size,0,none⟩=some (.int .i64 xa)∧W.cell? ⟨w.heap.size,1,none⟩=some (.int .i64 xb')∧W.cell? ⟨w.heap.size,2,none⟩=some (.int .i64 xc)∧W.cell? ⟨w.heap.size,3,none⟩=some (.int .i64 xd))
  (first|exact⟨Qa ho2 c0 HXB.out,Qa ho2 (cell_new w #[.int .i64 xa,.int .i64 xb',.int .i64 xc,.int .i64 xd] 218 0 _ rfl) HBX.out,Qa ho2 (cell_new w #[.int .i64 xa,.int .i64 xb',.int .i64 xc,.int .i64 xd] 218 1 _ rfl) HBX.out,Qa ho2 (cell_new w #[.int .i64 xa,.int .i64 xb',.int .i64 xc,.int .i64 xd] 218 2 _ rfl) HBX.out,Qa ho2 (cell_new w #[.int .i64 xa,.int .i64 xb',.int .i64 xc,.int .i64 xd] 218 3 _ rfl) HBX.out⟩|(go_keep;done))
  (first|(go_simp;go_at_call 214;refine HT.out.mono ?_;rintro e w2 ⟨rfl,hp2,ho2⟩;have HP2:=hid hp2;have ho2':Only L.blocks w w2:=((Only.refl _ _).alloc _).trans ⟨ho2.os,ho2.tape,ho2.output,ho2.size,ho2.block⟩;have HO2:=hid ho2';have HC2:=hid (HC.out.pool HF.out ho2')))
 go_wp2_with fail
 obtain⟨rows2,er2,d1,d2,_⟩:=HC2.out.ex
 have hlen2:rows2.length=C.sets.length:=by rw[er2];simp
 have c3:w2.cell? ⟨X.xb,3,none⟩=some (Qr X.sb C.sets.length):=by rw[←hlen2];exact d1.cell rfl
 have hin:=HIN.out
 obtain⟨r2,hr2⟩:∃r2,rows2[i]?=some r2:=⟨_,List.getElem?_eq_getElem (by omega)⟩
 have e0:w2.cell? ⟨X.sb,i*2,none⟩=some (.int .i64 r2.1):=d2.cell (i:=i*2+0) ((Qz srowCells 2 (fun _=>rfl) rows2 i r2 hr2 0 (by omega)).trans rfl)
 have e1:w2.cell? ⟨X.sb,i*2+1,none⟩=some r2.2.2:=d2.cell (i:=i*2+1) ((Qz srowCells 2 (fun _=>rfl) rows2 i r2 hr2 1 (by omega)).trans rfl)
 have hrow2:Row w2 A (Zc l):=fun j u hu=>by
  obtain⟨b,off,hA',hc'⟩:=HR.out j u hu
  exact⟨b,off,hA',Qa HO2.out hc' (HAX.out b off hA')⟩
 have hcl:=cloneInts A ln c (Zc l) w2.drew hrow2 (by rw[ints_length,HLL.out]) (ints_one l) (by have:=HL.out;omega) HA.out
 have HCL:=hid hcl;have HD2:=hid d2;have HE0:=hid e0;have HE1:=hid e1
 unfold Qr at c3
 clear d1 d2 hlen2 er2 hr2 hrow2 hcl e0 e1
 generalize hlen:C.sets.length=len at *
 have HLEN:=hid hlen
 clear hlen
 have HNE:Hid (X.xb≠X.sb):=hid HC.out.apart
 go_region_held3 (fun W=>W.cell? ⟨X.xb,3,none⟩=some (.slice (some ⟨X.sb,0,none⟩) len len))
  (first|exact Zh hb3 c3|exact Qa HST.out (Zh HB3.out c3) (by simp;exact HNE.out)|(go_keep;done))
  (first|(go_simp;go_at_call 95;refine (HIX.out _).mono ?_;rintro e w' ⟨rfl,rfl⟩)|(go_simp;go_at_call 124;refine HCL.out.mono ?_;rintro e w3 ⟨cv,rfl,hown3,hb3⟩;obtain⟨A3,cc3,rfl,_,_⟩:=Qc hown3;have HB3:=hid hb3;have HOWN3:=hid hown3;have hd3:=HD2.out.drew.only (X:=[]) (.of_below hb3) (by simp);have he0:=Zh hb3 HE0.out;have he1:=(World.cell?_setCell_other w3 ⟨X.sb,i*2,none⟩ ⟨X.sb,i*2+1,none⟩ (.int .i64 h') (by simp)).trans (Zh hb3 HE1.out);have hf0:=hd3.frozen (i*2);have hf1:=hd3.frozen (i*2+1);have HST:=hid (((Only.refl [X.sb] w3).setCell (p:=⟨X.sb,i*2,none⟩) (.inl (by simp)) (.int .i64 h')).setCell (p:=⟨X.sb,i*2+1,none⟩) (.inl (by simp)) (.slice A3 ln cc3))))
 have hb23:Below w2.heap.size w2 w3:=below_undrew HB3.out
 have hc3:=HC2.out.below (.of_below hb23)
 have hbs:base≤w2.heap.size:=HC2.out.room
 have hc4:=hc3.setSet (by rw[HLEN.out];exact HIN.out) h' l (.slice A3 ln cc3) (by rw[HLL.out];exact Qn HOWN3.out hbs) (by rw[HLL.out];exact HL.out) (fun k hk hd=>by
  have h1:=(HOWN3.out.lt k hk).1
  have h2:=(HC2.out.dlt k hd).2
  have h3:w2.drew.heap.size=w2.heap.size:=rfl
  omega)
 have ho4:Only (chX X L) w ((w3.setCell ⟨X.sb,i*2,none⟩ (.int .i64 h')).setCell ⟨X.sb,i*2+1,none⟩ (.slice A3 ln cc3)):=((HO2.out.mono (fun k hk=>by simp[chX,hk])).trans (.of_below hb23)).trans (HST.out.mono (fun k hk=>by simp[chX] at hk ⊢;simp[hk]))
 have hp4:=(HP2.out.only (X:=[]) (.of_below hb23) (by simp)).only HST.out (fun k hk=>by simp;exact fun e=>HF.out.sb (e ▸ hk))
 have hdn:∀k∈(Value.slice A3 ln cc3).ownBlock.toList ++ D,k∈D∨w.heap.size≤k:=by
  intro k hk
  rcases List.mem_append.1 hk with hk|hk
  ·right
   have h1:=(HOWN3.out.lt k (by simpa using hk)).1
   have h2:=HO2.out.size
   have h3:w2.drew.heap.size=w2.heap.size:=rfl
   omega
  ·exact .inl hk
 have HC4:=hid hc4;have HO4:=hid ho4;have HP4:=hid hp4;have HDN:=hid hdn
 have hlay:∀W,ChainAt W X L.pb K.cb base ((Value.slice A3 ln cc3).ownBlock.toList ++ D) {C with sets:=C.sets.set i (h',l)}→Calls prog 215 #[ptr X.xb,.pointer none,.int .i64 old,.int .i64 h'] W fun e w'=>e=.returned (.bool true)∧ChainAt w' X L.pb K.cb base ((Value.slice A3 ln cc3).ownBlock.toList ++ D) {head:=h',sets:=C.sets.set i (h',l)}∧Only [X.xb] W w':=fun W h=>by
  have q:=lays2_any W X L.pb K.cb base _ _ h h'
  rw[show ({C with sets:=C.sets.set i (h',l)}:ChainS).head=old from HH0.out] at q
  exact q
 unfold ptr at hlay
 have HLAY:=hid hlay
 clear hc3 hc4 ho4 hp4 hdn hlay hb23 hbs
 generalize hDD:(Value.slice A3 ln cc3).ownBlock.toList ++ D=D' at *
 clear hDD
 go_wp2_with (first|(go_at_call 215;refine (HLAY.out _ HC4.out).mono ?_;rintro e w5 ⟨rfl,hc5,ho5⟩;have ho45:=HO4.out.trans (ho5.mono (Y:=chX X L) (fun k hk=>by simp[chX] at hk ⊢;simp[hk]));have hp5:=HP4.out.only ho5 (fun k hk=>by simp;exact fun e=>HF.out.xb (e ▸ hk));have hset:=settle_any w5 X L S1 K CK base D' _ hp5 (HK.out.only ho45 HKF.out.1 HKF.out.2) hc5 h' v S2 HSE.out;unfold ptr I2 at hset;have HC5:=hid hc5;have HO5:=hid ho45;clear hc5 ho5 ho45 hp5)|(go_at_call 216;refine hset.mono ?_;rintro e w6 ⟨rfl,hp6,ho6⟩;have HP6:=hid hp6;have HO6:=hid ho6;clear hp6 ho6 hset))
 go_ret3
 exact⟨D',rfl,HP6.out,HC5.out.pool HF.out HO6.out,HO5.out.trans (HO6.out.mono (fun k hk=>by simp[chX,hk])),HDN.out⟩
end Go.Proofs.YteeefedoffplmaaGreat
namespace Go.Proofs.YteeefedoffplmaaGreat
open Lib Go.Proofs.Tryz
open Go.RowKit
theorem top_none (w:World)(X:ChainL)(pb cb base:Nat)(D:List Nat)(C:ChainS)(hc:ChainAt w X pb cb base D C)(h0:C.head=0):Calls prog 186 #[ptr X.xb,.pointer none] w fun e w'=>e=.returned (I3 0 0 141)∧w=w':=by
 obtain⟨rows,_,b1,_,_⟩:=hc.ex
 have hl:=Zf X.xb 2 0 w (by rw[←h0];exact b1.cell rfl)
 unfold I3
 unfold ptr
 clear hc b1 h0
 go_enter func186,ntmps186
 go_wp2_with (first|(go_at_call 71;refine (Qx _).mono ?_;rintro e w' ⟨rfl,rfl⟩)|(go_at_call 51;refine hl.mono ?_;rintro e w' ⟨rfl,rfl⟩))
 go_ret3
 exact⟨rfl,rfl⟩
def E2 (x:Int):Value:=.tuple #[.int .i64 0,.int .i64 x]
def atAns (r:Option Int):Value:=match r with|some h=>I2 h|none=>E2 141
def AtLRel (stamp:Int)(S:PoolS)(r:Option Int)(w:World)(k:Nat)(hv sv ev:Value)(wr:World):Prop:=
 ∃f h s,k=f∧hv=.int .i64 h∧sv=.int .i64 s∧ev=.int .i64 0∧atFrom stamp S f h s=some r∧w=wr
theorem atFrom_zero (stamp:Int)(S:PoolS)(h s:Int):atFrom stamp S 0 h s=none:=rfl
theorem atFrom_stop {stamp:Int}{S:PoolS}{f:Nat}{h s:Int}{r:Option Int}(he:atFrom stamp S (f+1) h s=some r)(hs:¬s > stamp):r=some h:=by
 unfold atFrom at he
 rw[if_neg hs] at he
 exact (Option.some.inj he).symm
theorem atFrom_go {stamp:Int}{S:PoolS}{f:Nat}{h s:Int}{r:Option Int}(he:atFrom stamp S (f+1) h s=some r)(hs:s > stamp):
  ∃x,S.at h=some x∧((x.link=0∧r=none)∨(x.link≠0∧∃y,S.at x.link=some y∧atFrom stamp S f x.link y.mark=some r)):=by
 unfold atFrom at he
 rw[if_pos hs] at he
 simp only[Option.bind_eq_bind,Option.bind_eq_some_iff] at he
 obtain⟨x,hx,he⟩:=he
 refine⟨x,hx,?_⟩
 split at he
 ·rename_i h0
  exact .inl ⟨h0,(Option.some.inj he).symm⟩
 ·rename_i h0
  simp only[Option.bind_eq_some_iff] at he
  exact .inr ⟨h0,he⟩
theorem at_chain (w:World)(X:ChainL)(L:PoolL)(S:PoolS)(K:ClockL)(CK:ClockS)(base:Nat)(D:List Nat)(C:ChainS)(hp:PoolAt w L S)(hk:ClockAt w K CK)(hc:ChainAt w X L.pb K.cb base D C)(hf:Far X L base)(stamp:Int)(r:Option Int)(S':PoolS)(hS:C.atStamp CK.now S stamp=some (r,S')):
  Calls prog 128 #[ptr X.xb,.pointer none,.int .i64 stamp] w (Settled L S' w (atAns r)):=by
 unfold ChainS.atStamp at hS
 by_cases h0:C.head=0
 ·rw[if_pos h0] at hS
  simp only[Option.some.injEq,Prod.mk.injEq] at hS
  obtain⟨rfl,rfl⟩:=hS
  have htop:=top_none w X L.pb K.cb base D C hc h0
  have HP:=hid hp
  unfold I3 at htop
  unfold atAns E2
  unfold ptr at *
  clear hp hk hc h0
  go_enter func128,ntmps128
  go_wp2_with (go_at_call 186;refine htop.mono ?_;rintro e w' ⟨rfl,rfl⟩)
  refine wp_loop_rounds 1 ?_
  rw[rounds_succ]
  go_wp2_with fail
  go_ret2
  exact⟨rfl,HP.out,Only.refl _ _⟩
 ·rw[if_neg h0] at hS
  simp only[Option.bind_eq_bind,Option.bind_eq_some_iff] at hS
  obtain⟨⟨h,s,S1⟩,ht,r',hr,hS⟩:=hS
  simp only[Option.some.injEq,Prod.mk.injEq] at hS
  obtain⟨rfl,rfl⟩:=hS
  have htop:=top_any w X L S K CK base D C hp hk hc h s S1 ht
  simp only at hr
  have HC:=hid hc;have HF:=hid hf
  have HAT:Hid (atFrom stamp S1 (S1.slots.length+1) h s=some r'):=hid hr
  unfold I3 at htop
  unfold ptr at *
  clear hp hk hc h0 ht hr hf
  generalize S1.slots.length+1=fuel at *
  go_enter func128,ntmps128
  go_wp2_with (go_at_call 186;refine htop.mono ?_;rintro e w1 ⟨rfl,hp1,ho1⟩;have HP1:=hid hp1;have HO1:=hid ho1;have hc1:=HC.out.pool HF.out ho1;have HC1:=hid hc1;clear hp1 ho1 htop hc1)
  go_loopg [8,9,10] fuel (fun k hv sv ev wr=>AtLRel stamp S1 r' w1 k hv sv ev wr)
  case atStart=>exact⟨fuel,h,s,rfl,rfl,rfl,rfl,HAT.out,rfl⟩
  case round=>
   obtain⟨f,h,s,rfl,rfl,rfl,rfl,hat,rfl⟩:=hrel
   cases gk with
   |zero=>rw[atFrom_zero] at hat;cases hat
   |succ f=>
    obtain⟨rows,_,b1,_,_⟩:=HC1.out.ex
    have c0:w1.cell? ⟨X.xb,0,none⟩=some (ptr L.pb):=b1.cell rfl
    unfold ptr at c0
    by_cases hs:s > stamp
    ·obtain⟨x,hx,hor⟩:=atFrom_go hat hs
     have hlk:=link_any w1 L S1 HP1.out h x hx
     have hs':decide (s > stamp)=true:=by simpa using hs
     have hs2:stamp<s:=hs
     unfold I2 at hlk
     unfold ptr at hlk
     rcases hor with ⟨hl0,rfl⟩|⟨hl0,y,hy,hgo⟩
     ·rw[hl0] at hlk
      clear hat hx hl0 hs b1
      go_wp2_with (go_at_call 187;refine hlk.mono ?_;rintro e w' ⟨rfl,rfl⟩)
      go_ret2
      exact⟨rfl,HP1.out,HO1.out⟩
     ·have hmk:=mark_any w1 L S1 HP1.out x.link y hy
      have hq:(x.link == 0)=false:=by simp[hl0]
      have HGO:=hid hgo
      unfold I2 at hmk
      unfold ptr at hmk
      clear hat hx hl0 hs b1 hy hgo
      generalize x.link=lk at *
      generalize y.mark=mk at *
      go_wp2_with (first|(go_at_call 187;refine hlk.mono ?_;rintro e w' ⟨rfl,rfl⟩)|(go_at_call 188;refine hmk.mono ?_;rintro e w' ⟨rfl,rfl⟩))
      go_roundg f
      case measure=>omega
      case rel=>exact⟨f,lk,mk,rfl,rfl,rfl,rfl,HGO.out,rfl⟩
    ·have hst:=atFrom_stop hat hs
     have HS:=hid hst
     have hs2:s≤stamp:=by omega
     clear hat hst b1
     go_wp2_with fail
     go_ret2
     rw[HS.out]
     exact⟨rfl,HP1.out,HO1.out⟩
end Go.Proofs.YteeefedoffplmaaGreat
/- A chain's Cut. Conditions: pool and chain lie in memory; cut of the plain chain answers. -/
namespace Go.Proofs.YteeefedoffplmaaGreat
open Lib Go.Proofs.Tryz
open Go.RowKit
theorem ChainAt.takeSet {w:World}{X:ChainL}{pb cb base:Nat}{D:List Nat}{C:ChainS}(h:ChainAt w X pb cb base D C){i:Nat}{x:Int}{l:List Int}(hs:C.sets[i]?=some (x,l)):
  ∃v,w.cell? ⟨X.sb,i*2,none⟩=some (.int .i64 x)∧w.cell? ⟨X.sb,i*2+1,none⟩=some v∧w.frozen? ⟨X.sb,i*2+1,none⟩=false∧w.ownsRow base 3 1 v l.length (Zc l)∧(∀k,v.ownBlock=some k→k∈D)∧l.length≤100000 ∧
   w.cell? ⟨X.xb,3,none⟩=some (Qr X.sb C.sets.length)∧Only [X.sb] w (w.setCell ⟨X.sb,i*2+1,none⟩ (.slice none 0 0)) ∧
   ChainAt (w.setCell ⟨X.sb,i*2+1,none⟩ (.slice none 0 0)) X pb cb base (D.filter fun d=>decide (v.ownBlock≠some d)) {C with sets:=C.sets.set i (x,[])}:=by
 obtain⟨⟨rows,e,b1,b2,b3⟩,h3,h4,h5,h6,h7⟩:=h
 have hlen:C.sets.length=rows.length:=by rw[e];simp
 rw[e,List.getElem?_map] at hs
 obtain⟨r,hr,hre⟩:=Option.map_eq_some_iff.1 hs
 simp only[Prod.mk.injEq] at hre
 obtain⟨rfl,rfl⟩:=hre
 have hil:i<rows.length:=(List.getElem?_eq_some_iff.1 hr).1
 have hrm:=List.mem_of_getElem? hr
 have ho:Only [X.sb] w (w.setCell ⟨X.sb,i*2+1,none⟩ (.slice none 0 0)):=(Only.refl _ _).setCell (.inl (by simp)) _
 have s2:=b2.set (i*2+1) (.slice none 0 0)
 have e2:(rows.flatMap srowCells).set (i*2+1) (.slice none 0 0)=(rows.set i (r.1,[],.slice none 0 0)).flatMap srowCells:=flatMap_set srowCells 2 (fun _=>rfl) rows i r hr 1 (.slice none 0 0) (r.1,[],.slice none 0 0) (by omega) rfl
 rw[e2] at s2
 have hd:∀k∈D,k∉[X.sb]:=fun k hk=>by have:=(h7 k hk).1;have:=h4.2;simp;omega
 have b3':=b3.only ho hd
 refine⟨r.2.2,b2.cell (i:=i*2+0) ((Qz srowCells 2 (fun _=>rfl) rows i r hr 0 (by omega)).trans rfl),b2.cell (i:=i*2+1) ((Qz srowCells 2 (fun _=>rfl) rows i r hr 1 (by omega)).trans rfl),b2.frozen _,(b3.own r hrm).1,(b3.own r hrm).2.1,(b3.own r hrm).2.2,?_,ho,?_⟩
 ·rw[hlen]
  exact b1.cell rfl
 refine⟨⟨rows.set i (r.1,[],.slice none 0 0),?_,?_,s2,?_,?_⟩,h3,h4,by simpa using h5,by simpa using h6,?_⟩
 ·rw[e,List.set_map_eq]
 ·simpa using b1.other h3 (i*2+1) (.slice none 0 0)
 ·intro q hq
  rw[List.mem_iff_getElem?] at hq
  obtain⟨j,hj⟩:=hq
  rw[List.getElem?_set] at hj
  split at hj
  ·injection hj with hj
   subst hj
   exact⟨World.ownsRow_nil _ _ _ _,by simp[Value.ownBlock],by simp⟩
  ·rename_i hij
   have hqm:=List.mem_of_getElem? hj
   refine⟨(b3'.own q hqm).1,fun k hk=>?_,(b3'.own q hqm).2.2⟩
   rw[List.mem_filter]
   refine⟨(b3'.own q hqm).2.1 k hk,?_⟩
   simp only[decide_eq_true_eq]
   exact b3.apart j i q r k hj hr (fun e=>hij e.symm) hk
 ·intro a b q s k hq hs' hab hk
  rw[List.getElem?_set] at hq hs'
  by_cases ha:i=a
  ·subst ha
   simp only[if_true,hil] at hq
   injection hq with hq
   subst hq
   simp[Value.ownBlock] at hk
  ·rw[if_neg ha] at hq
   by_cases hb:i=b
   ·subst hb
    simp only[if_true,hil] at hs'
    injection hs' with hs'
    subst hs'
    simp[Value.ownBlock]
   ·rw[if_neg hb] at hs'
    exact b3.apart a b q s k hq hs' hab hk
 ·intro k hk
  have:=h7 k (List.mem_filter.1 hk).1
  simpa using this
def CutPost (X:ChainL)(L:PoolL)(cb base:Nat)(D:List Nat)(older:Int)(l:List Int)(C':ChainS)(S':PoolS)(w:World)(e:Ending)(w':World):Prop:=
 ∃v D',e=.returned (.tuple #[.int .i64 older,v,.int .i64 0])∧w'.ownsRow base 3 1 v l.length (Zc l)∧l.length≤100000∧(∀k,v.ownBlock=some k→k∈D∧k∉D')∧(∀k∈D',k∈D) ∧
  PoolAt w' L S'∧ChainAt w' X L.pb cb base D' C'∧Only (chX X L) w w'
theorem cut_any (w:World)(X:ChainL)(L:PoolL)(S:PoolS)(cb base:Nat)(D:List Nat)(C:ChainS)(hp:PoolAt w L S)(hc:ChainAt w X L.pb cb base D C)(hf:Far X L base)(h older:Int)(l:List Int)(C':ChainS)(S':PoolS)(hS:C.cut S h=some (older,l,C',S')):
  Calls prog 130 #[ptr X.xb,.pointer none,.int .i64 h] w (CutPost X L cb base D older l C' S' w):=by
 simp only[ChainS.cut,Option.bind_eq_bind,Option.bind_eq_some_iff] at hS
 obtain⟨x,hx,S1,hsl,hS⟩:=hS
 have hsw:=swapLink_any w L S hp h x hx 0 ⟨by omega,by omega⟩ S1 hsl
 obtain⟨rows,er,b1,_,_⟩:=hc.ex
 have c0:w.cell? ⟨X.xb,0,none⟩=some (ptr L.pb):=b1.cell rfl
 have HC:=hid hc
 have HF:=hid hf
 obtain⟨i,hi⟩:∃i:Nat,Qo h=i:=⟨(Qo h).toNat,by have:=(idxW_bound h).1;omega⟩
 have hi2:(Qo h).toNat=i:=by omega
 rw[hi2] at hS
 have HIX:=hid fun W=>calls_rev (index_is hi W)
 unfold I2 at hsw
 unfold ptr at hsw c0 ⊢
 by_cases hl0:x.link=0
 ·rw[if_pos hl0] at hS
  simp only[Option.some.injEq,Prod.mk.injEq] at hS
  obtain⟨rfl,rfl,rfl,rfl⟩:=hS
  rw[hl0] at hsw
  clear hp hc hf hx hsl b1 er hi hi2 hl0
  go_enter func130,ntmps130
  go_wp2_with (go_at_call 189;refine hsw.mono ?_;rintro e w1 ⟨rfl,hp1,ho1⟩;have HP1:=hid hp1;have HO1:=hid ho1;clear hp1 ho1 hsw)
  go_ret3
  exact⟨_,D,rfl,World.ownsRow_nil _ _ _ _,by simp,by simp[Value.ownBlock],fun _ h=>h,HP1.out,HC.out.pool HF.out HO1.out,HO1.out.mono (fun k hk=>by simp[chX,hk])⟩
 ·rw[if_neg hl0] at hS
  simp only[Option.bind_eq_some_iff] at hS
  obtain⟨⟨sh,sl⟩,hsi,hS⟩:=hS
  have hq:(x.link == 0)=false:=by simp[hl0]
  have HSI:=hid hsi
  have hil:i<C.sets.length:=(List.getElem?_eq_some_iff.1 hsi).1
  clear hp hc hf hx hsl b1 er hi hi2 hl0 hsi
  generalize x.link=lk at *
  by_cases hsh:sh=h
  have ar4_1:=0;rotate_left
  rotate_left
  all_goals
   first|(have _:=ar4_1;subst hsh;simp only[if_true,Option.some.injEq,Prod.mk.injEq] at hS)|(rw[if_neg hsh] at hS;simp only[Option.some.injEq,Prod.mk.injEq] at hS)
   obtain⟨rfl,rfl,rfl,rfl⟩:=hS
   first|(have _:=ar4_1;have hq2:(sh != sh)=false:=by simp)|((have hq2:(sh != h)=true:=by simp[hsh]);clear hsh)
   generalize hlen:C.sets.length=len at *
   have HLEN:=hid hlen
   clear hlen
   go_enter func130,ntmps130
   go_wp2_with (go_at_call 189;refine hsw.mono ?_;rintro e w1 ⟨rfl,hp1,ho1⟩;have HP1:=hid hp1;have HO1:=hid ho1;have hc1:=HC.out.pool HF.out ho1;obtain⟨v,k1,k2,k3,k4,k5,k6,k7,k8,k9⟩:=hc1.takeSet HSI.out;have HC1:=hid hc1;have H4:=hid k4;have H5:=hid k5;have H6:=hid k6;have H8:=hid k8;have H9:=hid k9;rw[HLEN.out] at k7;unfold Qr at k7;clear hp1 ho1 hsw hc1 k4 k5 k6 k8 k9)
   obtain⟨vA,vc,rfl,_,_⟩:=Qc H4.out
   refine wp_region_still_tail 7 (by kernel_rfl) (by kernel_rfl) ?_
   simp only[List.take_succ_cons,List.take_zero,List.drop_succ_cons,List.drop_zero]
   change wpStill _ _ (World.drew _) (fun a'=>wpList _ _ _ _ a' (World.drew _)) _ _
   iterate 5 still_step
   still_call (HIX.out _)
   iterate 1 still_step
   refine wpStill_nil ?_
   go_wp2_with fail
   go_ret3
   first
   |have _:=ar4_1
    refine⟨_,_,rfl,Qe (X:=[X.sb]) H4.out H8.out.drew' (fun k hk=>by have:=(H4.out.lt k hk).1;have:=HC.out.lt.2;simp;omega),H6.out,fun k hk=>⟨H5.out k hk,fun hm=>?_⟩,fun k hk=>(List.mem_filter.1 hk).1,(HP1.out.only H8.out (fun k hk=>by simp;exact fun e=>HF.out.sb (e ▸ hk))).drew,H9.out.below (.drew [] _),?_⟩
    ·have:=(List.mem_filter.1 hm).2
     simp only[decide_eq_true_eq] at this
     exact this hk
    ·exact ((HO1.out.mono (fun k hk=>by simp[chX,hk])).trans (H8.out.mono (fun k hk=>by simp[chX] at hk ⊢;simp[hk]))).drew'
   |exact⟨_,D,rfl,World.ownsRow_nil _ _ _ _,by simp,by simp[Value.ownBlock],fun _ h=>h,HP1.out.drew,HC1.out.below (.drew [] _),(HO1.out.mono (fun k hk=>by simp[chX,hk])).drew'⟩
end Go.Proofs.YteeefedoffplmaaGreat
namespace Go.Proofs.YteeefedoffplmaaGreat
open Go.RowKit Lib Go.Proofs.Tryz
end Go.Proofs.YteeefedoffplmaaGreat
namespace Go.Proofs.YteeefedoffplmaaGreat
open Lib Go.Proofs.Tryz
open Go.RowKit
def zSlot:SlotS:=⟨0,0,0,⟨0,0,0,0⟩⟩
def SlotS.apiV (s:SlotS):Value:=.agg #[.int .i64 s.gen,.int .i64 s.node.a,.int .i64 s.node.b,.int .i64 s.node.c,.int .i64 s.node.d,.int .i64 s.mark,.int .i64 s.link]
def Told2 (s:SlotS)(b:Bool)(w:World)(e:Ending)(w':World):Prop:=e=.returned (.tuple #[s.apiV,.bool b])∧Below w.heap.size w w'
theorem tag_rev {h t:Int}(ht:tagW h=t)(w:World):Calls prog 84 #[.int .i64 h] w fun e w'=>e=.returned (.int .i64 t)∧w'=w:=calls_rev (tag_is ht w)
theorem blk7 {W:World}{b:Nat}{x0 x1 x2 x3 x4 x5 x6 y0 y1 y2 y3 y4 y5 y6:Value}{t:TypeId}(h:Blk W b [x0,x1,x2,x3,x4,x5,x6] t):
  Blk (((((((W.setCell ⟨b,0,none⟩ y0).setCell ⟨b,1,none⟩ y1).setCell ⟨b,2,none⟩ y2).setCell ⟨b,3,none⟩ y3).setCell ⟨b,4,none⟩ y4).setCell ⟨b,5,none⟩ y5).setCell ⟨b,6,none⟩ y6) b [y0,y1,y2,y3,y4,y5,y6] t:=
 ((((((h.set 0 y0).set 1 y1).set 2 y2).set 3 y3).set 4 y4).set 5 y5).set 6 y6
theorem below7 {w W:World}{b:Nat}{y0 y1 y2 y3 y4 y5 y6:Value}(h:Below w.heap.size w W)(hb:w.heap.size≤b):
  Below w.heap.size w (((((((W.setCell ⟨b,0,none⟩ y0).setCell ⟨b,1,none⟩ y1).setCell ⟨b,2,none⟩ y2).setCell ⟨b,3,none⟩ y3).setCell ⟨b,4,none⟩ y4).setCell ⟨b,5,none⟩ y5).setCell ⟨b,6,none⟩ y6):=
 ((((((h.setCell hb y0).setCell hb y1).setCell hb y2).setCell hb y3).setCell hb y4).setCell hb y5).setCell hb y6
theorem alive_ret {w W:World}{b:Nat}{s:SlotS}{x:Bool}{tmps:Array Value}(hB:Blk W b s.api 220)(hb:Below w.heap.size w W)(h6:tmps[6]?=some (ptr b))(h7:tmps[7]?=some (.bool x)):
  bodyPost prog Tryz.f123 (Told2 s x w) Exit.ret {tmps:=tmps,defers:=[]} W:=by
 have c0:=hB.cell (i:=0) rfl;have c1:=hB.cell (i:=1) rfl;have c2:=hB.cell (i:=2) rfl;have c3:=hB.cell (i:=3) rfl;have c4:=hB.cell (i:=4) rfl;have c5:=hB.cell (i:=5) rfl;have c6:=hB.cell (i:=6) rfl
 unfold ptr at h6
 refine bodyPost_ret (v:=.tuple #[s.apiV,.bool x]) ?_ rfl ⟨rfl,hb⟩
 simp[results,Tryz.results123,go_sem,h6,h7,c0,c1,c2,c3,c4,c5,c6,SlotS.apiV]
theorem alive_low (w:World)(v0:Value)(A:Option Addr)(n c:Nat)(h:Int)(h0:Qo h<1):Calls prog 123 #[v0,.slice A n c,.int .i64 h] w (Told2 zSlot false w):=by
 have hb:=idxW_bound h
 have hi:Qo h=(0:Nat):=by omega
 have hix:=fun W=>index_is hi W
 clear hb h0 hi
 have hz:=hid (Blk.new w zSlot.api 220)
 have hbz:=hid ((Below.refl w.heap.size w).alloc (Nat.le_refl _) (.cells zSlot.api.toArray 220))
 go_enter func123,ntmps123
 go_wp2_with (go_at_call 95;refine (hix _).mono ?_;rintro e w' ⟨rfl,rfl⟩)
 go_quiet (fail)
 go_wp2_with fail
 exact alive_ret (s:=zSlot) (blk7 (hz.out.drewN _)) (below7 (⟨hbz.out.os,hbz.out.tape,hbz.out.output,hbz.out.size,hbz.out.block⟩) (Nat.le_refl _)) rfl rfl
theorem alive_high (w:World)(v0:Value)(A:Option Addr)(n c:Nat)(h:Int)(_:n≤100000)(j:Nat)(hi:Qo h=(j:Int)+1)(hj:n≤j):Calls prog 123 #[v0,.slice A n c,.int .i64 h] w (Told2 zSlot false w):=by
 have hbi:=(idxW_bound h).2
 have hix:∀W,Calls prog 95 #[.int .i64 h] W fun e w'=>e=.returned (.int .i64 ((j:Int)+1))∧W=w':=fun W=>hi ▸ index_any h W
 have e1:decide ((j:Int)+1<1)=false:=by simp;omega
 have e2:decide ((n:Int)<(j:Int)+1)=true:=by simp;omega
 clear hi hbi
 have hz:=hid (Blk.new w zSlot.api 220)
 have hbz:=hid ((Below.refl w.heap.size w).alloc (Nat.le_refl _) (.cells zSlot.api.toArray 220))
 go_enter func123,ntmps123
 go_wp2_with (go_at_call 95;refine (hix _).mono ?_;rintro e w' ⟨rfl,rfl⟩)
 go_quiet (fail)
 go_wp2_with fail
 exact alive_ret (s:=zSlot) (blk7 (hz.out.drewN _)) (below7 (⟨hbz.out.os,hbz.out.tape,hbz.out.output,hbz.out.size,hbz.out.block⟩) (Nat.le_refl _)) rfl rfl
theorem alive_gen (w:World)(v0:Value)(b off n c:Nat)(h:Int)(_:n≤100000)(j:Nat)(hi:Qo h=(j:Int)+1)(hj:j<n)(s:SlotS)(hc:∀k v,s.api[k]?=some v→w.cell? ⟨b,off+j*7+k,none⟩=some v)(t:Int)(ht:tagW h=t)(hg:s.gen≠t):Calls prog 123 #[v0,.slice (some ⟨b,off,none⟩) n c,.int .i64 h] w (Told2 zSlot false w):=by
 have hbi:=(idxW_bound h).2
 have hix:∀W,Calls prog 95 #[.int .i64 h] W fun e w'=>e=.returned (.int .i64 ((j:Int)+1))∧W=w':=fun W=>hi ▸ index_any h W
 have e1:decide ((j:Int)+1<1)=false:=by simp;omega
 have e2:decide ((n:Int)<(j:Int)+1)=false:=by simp;omega
 have e3:IntKind.i64.wrap (j:Int)=(j:Int):=IntWalk.i64_in _ (by omega)
 have hj':(j:Int)<n:=by omega
 have htg:=fun W=>tag_rev ht W
 have htb:=tagW_bound h
 rw[ht] at htb
 have k0:=Qb (hc 0 _ rfl) (.cells #[.int .i64 0,.int .i64 0,.int .i64 0,.int .i64 0,.int .i64 0,.int .i64 0,.int .i64 0] 220)
 rw[Nat.add_zero] at k0
 have e4:(s.gen != t)=true:=by simp[hg]
 clear hi hbi hc ht hg htb
 have hz:=hid (Blk.new w zSlot.api 220)
 have hbz:=hid ((Below.refl w.heap.size w).alloc (Nat.le_refl _) (.cells zSlot.api.toArray 220))
 go_enter func123,ntmps123
 go_wp2_with (go_at_call 95;refine (hix _).mono ?_;rintro e w' ⟨rfl,rfl⟩)
 go_quiet ((go_at_call 84;exact Calls.quiet_of_same (htg _)))
 go_wp2_with fail
 exact alive_ret (s:=zSlot) (blk7 (hz.out.drewN _)) (below7 (⟨hbz.out.os,hbz.out.tape,hbz.out.output,hbz.out.size,hbz.out.block⟩) (Nat.le_refl _)) rfl rfl
theorem alive_even (w:World)(v0:Value)(b off n c:Nat)(h:Int)(_:n≤100000)(j:Nat)(hi:Qo h=(j:Int)+1)(hj:j<n)(s:SlotS)(hc:∀k v,s.api[k]?=some v→w.cell? ⟨b,off+j*7+k,none⟩=some v)(t:Int)(ht:tagW h=t)(hg:s.gen=t)(hm:t % 2=0):Calls prog 123 #[v0,.slice (some ⟨b,off,none⟩) n c,.int .i64 h] w (Told2 zSlot false w):=by
 have hbi:=(idxW_bound h).2
 have hix:∀W,Calls prog 95 #[.int .i64 h] W fun e w'=>e=.returned (.int .i64 ((j:Int)+1))∧W=w':=fun W=>hi ▸ index_any h W
 have e1:decide ((j:Int)+1<1)=false:=by simp;omega
 have e2:decide ((n:Int)<(j:Int)+1)=false:=by simp;omega
 have e3:IntKind.i64.wrap (j:Int)=(j:Int):=IntWalk.i64_in _ (by omega)
 have hj':(j:Int)<n:=by omega
 have htg:=fun W=>tag_rev ht W
 have htb:=tagW_bound h
 rw[ht] at htb
 have k0:=Qb (hc 0 _ rfl) (.cells #[.int .i64 0,.int .i64 0,.int .i64 0,.int .i64 0,.int .i64 0,.int .i64 0,.int .i64 0] 220)
 rw[Nat.add_zero] at k0
 have e4:(s.gen != t)=false:=by simp[hg]
 have e5:(t.tmod 2 == 0)=true:=by rw[Int.tmod_eq_emod_of_nonneg htb.1,hm];rfl
 clear hi hbi hc ht hg htb hm
 have hz:=hid (Blk.new w zSlot.api 220)
 have hbz:=hid ((Below.refl w.heap.size w).alloc (Nat.le_refl _) (.cells zSlot.api.toArray 220))
 go_enter func123,ntmps123
 go_wp2_with (go_at_call 95;refine (hix _).mono ?_;rintro e w' ⟨rfl,rfl⟩)
 go_quiet ((go_at_call 84;exact Calls.quiet_of_same (htg _)))
 go_wp2_with fail
 exact alive_ret (s:=zSlot) (blk7 (hz.out.drewN _)) (below7 (⟨hbz.out.os,hbz.out.tape,hbz.out.output,hbz.out.size,hbz.out.block⟩) (Nat.le_refl _)) rfl rfl
theorem alive_yes (w:World)(v0:Value)(b off n c:Nat)(h:Int)(_:n≤100000)(j:Nat)(hi:Qo h=(j:Int)+1)(hj:j<n)(s:SlotS)(hc:∀k v,s.api[k]?=some v→w.cell? ⟨b,off+j*7+k,none⟩=some v)(t:Int)(ht:tagW h=t)(hg:s.gen=t)(hm:¬t % 2=0):Calls prog 123 #[v0,.slice (some ⟨b,off,none⟩) n c,.int .i64 h] w (Told2 s true w):=by
 have hbi:=(idxW_bound h).2
 have hix:∀W,Calls prog 95 #[.int .i64 h] W fun e w'=>e=.returned (.int .i64 ((j:Int)+1))∧W=w':=fun W=>hi ▸ index_any h W
 have e1:decide ((j:Int)+1<1)=false:=by simp;omega
 have e2:decide ((n:Int)<(j:Int)+1)=false:=by simp;omega
 have e3:IntKind.i64.wrap (j:Int)=(j:Int):=IntWalk.i64_in _ (by omega)
 have hj':(j:Int)<n:=by omega
 have htg:=fun W=>tag_rev ht W
 have htb:=tagW_bound h
 rw[ht] at htb
 have k0:=Qb (hc 0 _ rfl) (.cells #[.int .i64 0,.int .i64 0,.int .i64 0,.int .i64 0,.int .i64 0,.int .i64 0,.int .i64 0] 220)
 rw[Nat.add_zero] at k0
 have k1:=Qb (hc 1 _ rfl) (.cells #[.int .i64 0,.int .i64 0,.int .i64 0,.int .i64 0,.int .i64 0,.int .i64 0,.int .i64 0] 220)
 have k2:=Qb (hc 2 _ rfl) (.cells #[.int .i64 0,.int .i64 0,.int .i64 0,.int .i64 0,.int .i64 0,.int .i64 0,.int .i64 0] 220)
 have k3:=Qb (hc 3 _ rfl) (.cells #[.int .i64 0,.int .i64 0,.int .i64 0,.int .i64 0,.int .i64 0,.int .i64 0,.int .i64 0] 220)
 have k4:=Qb (hc 4 _ rfl) (.cells #[.int .i64 0,.int .i64 0,.int .i64 0,.int .i64 0,.int .i64 0,.int .i64 0,.int .i64 0] 220)
 have k5:=Qb (hc 5 _ rfl) (.cells #[.int .i64 0,.int .i64 0,.int .i64 0,.int .i64 0,.int .i64 0,.int .i64 0,.int .i64 0] 220)
 have k6:=Qb (hc 6 _ rfl) (.cells #[.int .i64 0,.int .i64 0,.int .i64 0,.int .i64 0,.int .i64 0,.int .i64 0,.int .i64 0] 220)
 have e4:(s.gen != t)=false:=by simp[hg]
 have e5:(t.tmod 2 == 0)=false:=by rw[Int.tmod_eq_emod_of_nonneg htb.1];simp[hm]
 clear hi hbi hc ht hg htb hm
 have hz:=hid (Blk.new w zSlot.api 220)
 have hbz:=hid ((Below.refl w.heap.size w).alloc (Nat.le_refl _) (.cells zSlot.api.toArray 220))
 go_enter func123,ntmps123
 go_wp2_with (go_at_call 95;refine (hix _).mono ?_;rintro e w' ⟨rfl,rfl⟩)
 go_quiet ((go_at_call 84;exact Calls.quiet_of_same (htg _)))
 go_wp2_with fail
 exact alive_ret (s:=s) (blk7 (hz.out.drewN _)) (below7 (⟨hbz.out.os,hbz.out.tape,hbz.out.output,hbz.out.size,hbz.out.block⟩) (Nat.le_refl _)) rfl rfl
def aliveL (sl:List SlotS)(h:Int):Option SlotS:=
 if Qo h<1 then none else
  match sl[(Qo h).toNat-1]? with
  |none=>none
  |some s=>if s.gen=tagW h∧¬tagW h % 2=0 then some s else none
theorem aliveIn_eq (slots:List SlotS)(h:Int):aliveIn slots h=aliveL (slots.drop 1) h:=by
 unfold aliveIn aliveL
 by_cases h0:Qo h<1
 ·rw[if_pos h0]
  cases slots[(Qo h).toNat]? with
  |none=>rfl
  |some s=>
   simp only[Option.bind_eq_bind,Option.bind_some]
   rw[if_neg (by omega)]
 ·rw[if_neg h0]
  have e:(slots.drop 1)[(Qo h).toNat-1]?=slots[(Qo h).toNat]?:=by
   rw[List.getElem?_drop]
   congr 1
   omega
  rw[e]
  cases slots[(Qo h).toNat]? with
  |none=>rfl
  |some s=>
   simp only[Option.bind_eq_bind,Option.bind_some]
   by_cases hg:s.gen=tagW h∧¬tagW h % 2=0
   ·rw[if_pos hg,if_pos ⟨by omega,hg.1,hg.2⟩]
   ·rw[if_neg hg,if_neg (fun e=>hg ⟨e.2.1,e.2.2⟩)]
theorem Row.api {w:World}{A:Option Addr}{sl:List SlotS}(hr:Row w A (apis sl)){j:Nat}{s:SlotS}(hs:sl[j]?=some s):
  ∃b off,A=some ⟨b,off,none⟩∧∀k v,s.api[k]?=some v→w.cell? ⟨b,off+j*7+k,none⟩=some v:=by
 have g:∀k,k<7→(apis sl)[j*7+k]?=s.api[k]?:=Qz SlotS.api 7 (fun _=>rfl) sl j s hs
 obtain⟨b,off,hA,_⟩:=hr (j*7+0) _ ((g 0 (by omega)).trans rfl)
 refine⟨b,off,hA,fun k v hk=>?_⟩
 have hk7:k<7:=(List.getElem?_eq_some_iff.1 hk).1
 obtain⟨b',off',hA',hc⟩:=hr (j*7+k) v ((g k hk7).trans hk)
 rw[hA] at hA'
 simp only[Option.some.injEq,Addr.mk.injEq,and_true] at hA'
 obtain⟨rfl,rfl⟩:=hA'
 rw[Nat.add_assoc]
 exact hc
theorem alive_any (w:World)(v0:Value)(A:Option Addr)(c:Nat)(sl:List SlotS)(hr:Row w A (apis sl))(hn:sl.length≤100000)(h:Int):
  Calls prog 123 #[v0,.slice A sl.length c,.int .i64 h] w (match aliveL sl h with|some s=>Told2 s true w|none=>Told2 zSlot false w):=by
 unfold aliveL
 have hb:=idxW_bound h
 by_cases h0:Qo h<1
 ·rw[if_pos h0]
  exact alive_low w v0 A _ c h h0
 ·rw[if_neg h0]
  obtain⟨j,hj⟩:∃j:Nat,Qo h=(j:Int)+1:=⟨(Qo h).toNat-1,by omega⟩
  have hj2:(Qo h).toNat-1=j:=by omega
  rw[hj2]
  cases hs:sl[j]? with
  |none=>
   exact alive_high w v0 A _ c h hn j hj (by
    have:=List.getElem?_eq_none_iff.1 hs
    omega)
  |some s=>
   have hjl:=(List.getElem?_eq_some_iff.1 hs).1
   obtain⟨b,off,rfl,hc⟩:=hr.api hs
   by_cases hg:s.gen=tagW h
   ·by_cases hm:tagW h % 2=0
    ·simp only[hm,not_true_eq_false,and_false,if_false]
     exact alive_even w v0 b off _ c h hn j hj hjl s hc _ rfl hg hm
    ·simp only[hg,hm,not_false_eq_true,and_self,if_true]
     exact alive_yes w v0 b off _ c h hn j hj hjl s hc _ rfl hg hm
   ·simp only[hg,false_and,if_false]
    exact alive_gen w v0 b off _ c h hn j hj hjl s hc _ rfl hg
end Go.Proofs.YteeefedoffplmaaGreat
/- A chain's Versions. Conditions: pool and chain lie in memory. -/
namespace Go.Proofs.YteeefedoffplmaaGreat
open Lib Go.Proofs.Tryz
open Go.RowKit
def versL (sl:List SlotS):Nat→Int→List Int→List Int
 |0,_,out=>out
 |f+1,h,out=>if h=0 then out else
  match aliveL sl h with
  |none=>out
  |some s=>versL sl f s.link (out ++ [h])
theorem versL_eq (slots:List SlotS):∀(f:Nat) (h:Int) (out:List Int),versionsFrom slots f h out=versL (slots.drop 1) f h out
 |0,_,_=>rfl
 |f+1,h,out=>by
  unfold versionsFrom versL
  rw[aliveIn_eq]
  cases aliveL (slots.drop 1) h with
  |none=>rfl
  |some s=>simp only[versL_eq slots f]
def VsRel (sl:List SlotS)(res:List Int)(w:World)(k:Nat)(out hv:Value)(wr:World):Prop:=
 ∃f h out',k=f∧hv=.int .i64 h∧versL sl f h out'=res∧wr.ownsRow w.heap.size 3 1 out out'.length (Zc out')∧Only [] w wr∧f+out'.length=sl.length
attribute [-go_sem] loadCellsFrom
theorem versions_any (w:World)(X:ChainL)(L:PoolL)(S:PoolS)(cb base:Nat)(D:List Nat)(C:ChainS)(hp:PoolAt w L S)(hc:ChainAt w X L.pb cb base D C)(h1:1≤S.slots.length):
  Calls prog 70 #[ptr X.xb] w (NewInts (C.versions S) w):=by
 have hsl:=slots_any w L S hp h1
 obtain⟨rows,_,b1,_,_⟩:=hc.ex
 have c0:w.cell? ⟨X.xb,0,none⟩=some (ptr L.pb):=b1.cell rfl
 have HB:=hid b1
 have hm:S.slots.length≤4097:=hp.most
 have hlen:(S.slots.drop 1).length≤4096:=by rw[List.length_drop];omega
 have hres:versL (S.slots.drop 1) (S.slots.drop 1).length C.head []=C.versions S:=by
  unfold ChainS.versions
  rw[versL_eq]
  congr 1
  rw[List.length_drop]
 have HRES:=hid hres
 unfold ptr at *
 clear hp hc b1 hm h1 hres
 generalize S.slots.drop 1=sl at *
 go_enter func70,ntmps70
 go_wp2_with (first|(go_at_call 104;refine hsl.mono ?_;rintro e w1 ⟨sv,rfl,hown,ho⟩;obtain⟨A,c,rfl,hrow,_⟩:=Qc hown;have hb:=HB.out.only ho (by simp);have hl:=Zf X.xb 2 C.head w1 (hb.cell rfl);have HO:=hid ho;have HROW:=hid hrow;clear hown ho hrow hb hsl)|(go_at_call 51;refine hl.mono ?_;rintro e w' ⟨rfl,rfl⟩))
 go_loopg [4,5] sl.length (fun k out hv wr=>VsRel sl (C.versions S) w1 k out hv wr)
 case atStart=>exact⟨_,_,[],rfl,rfl,HRES.out,World.ownsRow_nil _ _ 3 1,Only.refl _ _,by simp⟩
 case round=>
  obtain⟨f,h,out',rfl,rfl,hv,hown,ho,hf⟩:=hrel
  obtain⟨oA,oc,rfl,_,_⟩:=Qc hown
  have HOW:=hid hown;have HOO:=hid ho
  have hrow:Row wr A (apis sl):=HROW.out.keep fun a v hc=>Zh ho.below hc
  have hal:=fun h=>alive_any wr (.pointer (some ⟨X.xb,0,none⟩)) A c sl hrow (by omega) h
  clear hown ho hrow hl
  cases gk with
  |zero=>
   have HV:Hid (out'=C.versions S):=hid hv
   have hlen':out'.length=sl.length:=by omega
   have e1:decide (out'.length<sl.length)=false:=by simp;omega
   have hnl:¬out'.length<sl.length:=by omega
   have HL:=hid hlen'
   clear hv hlen' hal
   by_cases hh:h=0
   ·subst hh
    go_wp2_with fail
    go_ret
    rw[←HV.out]
    exact⟨_,rfl,Qn HOW.out HO.out.size,HO.out.trans HOO.out⟩
   ·have hq:(h != 0)=true:=by simp[hh]
    clear hh
    go_wp2_with fail
    go_ret
    rw[←HV.out]
    exact⟨_,rfl,Qn HOW.out HO.out.size,HO.out.trans HOO.out⟩
  |succ f=>
   have hlt:out'.length<sl.length:=by omega
   unfold versL at hv
   by_cases hh:h=0
   ·subst hh
    rw[if_pos rfl] at hv
    have HV:=hid hv
    clear hv hal
    go_wp2_with fail
    go_ret
    rw[←HV.out]
    exact⟨_,rfl,Qn HOW.out HO.out.size,HO.out.trans HOO.out⟩
   ·rw[if_neg hh] at hv
    have hq:(h != 0)=true:=by simp[hh]
    have hal:=hal h
    clear hh
    cases ha:aliveL sl h with
    |none=>
     rw[ha] at hv hal
     have HV:Hid (out'=C.versions S):=hid hv
     unfold Told2 SlotS.apiV zSlot at hal
     clear hv ha
     go_wp2_with (go_at_call 123;refine hal.mono ?_;rintro e w2 ⟨rfl,hb2⟩;have HB2:=hid hb2;clear hb2)
     go_ret
     rw[←HV.out]
     exact⟨_,rfl,Qn ((own_below HOW.out HB2.out).alloc _) HO.out.size,((HO.out.trans HOO.out).trans (.of_below HB2.out)).alloc _⟩
    |some s=>
     rw[ha] at hv hal
     simp only at hv
     have HV:=hid hv
     unfold Told2 SlotS.apiV at hal
     clear hv ha
     obtain⟨sg,sm,sk,⟨sa,sb,sc,sd⟩⟩:=s
     have hm1:out'.length+1≤maxLen:=by unfold maxLen;omega
     have hm2:(out'.length+1)*8≤140737488355328:=by omega
     have HM1:=hid hm1;have HM2:=hid hm2
     clear hm1 hm2
     go_wp2_with (first|(go_at_call 123;refine hal.mono ?_;rintro e w2 ⟨rfl,hb2⟩;have HB2:=hid hb2;have hrn:=Zg (w2.alloc (.cells #[.int .i64 sg,.int .i64 sa,.int .i64 sb,.int .i64 sc,.int .i64 sd,.int .i64 sm,.int .i64 sk] 220)) [.int .i64 h] 3;rw[World.size_alloc] at hrn;have HRN:=hid hrn;have hbs:w1.heap.size≤w2.heap.size:=Nat.le_trans HOO.out.size hb2.size;have HBS:=hid hbs;clear hb2 hrn hbs)|(at_builtin;refine Qj rfl (.tmp 35) (.tmp 37) rfl elemInt rfl (((own_below HOW.out HB2.out).alloc (.cells #[.int .i64 sg,.int .i64 sa,.int .i64 sb,.int .i64 sc,.int .i64 sd,.int .i64 sm,.int .i64 sk] 220)).alloc (.cells #[.int .i64 h] 3)) _ 1 _ [.int .i64 h] rfl HRN.out rfl (by simp[Value.oneCell']) HM1.out HM2.out (Nat.le_trans HBS.out (Nat.le_trans (Qg _ _) (Qg _ _))) (fun e=>by cases e) ?_;intro v2 w3 hown2 hg2 hat2;have c6:=hg2.cell (Qb (cell_new w2 #[.int .i64 sg,.int .i64 sa,.int .i64 sb,.int .i64 sc,.int .i64 sd,.int .i64 sm,.int .i64 sk] 220 6 _ rfl) (.cells #[.int .i64 h] 3)) (fun e=>by have h1:=(HOW.out.lt _ e.symm).2;have h2:=HB2.out.size;have h3:(⟨w2.heap.size,6,none⟩:Addr).block=w2.heap.size:=rfl;omega);have HW2:=hid hown2;have HO2:=hid ((((HOO.out.trans (.of_below HB2.out)).alloc (.cells #[.int .i64 sg,.int .i64 sa,.int .i64 sb,.int .i64 sc,.int .i64 sd,.int .i64 sm,.int .i64 sk] 220)).alloc (.cells #[.int .i64 h] 3)).grown hg2 (fun k hk=>.inl (HOW.out.lt k hk).1));clear hown2 hg2 hat2))
     go_roundg f
     case measure=>omega
     case rel=>exact⟨f,sk,out' ++ [h],rfl,rfl,HV.out,by rw[List.length_append,ints_snoc];exact HW2.out,HO2.out,by rw[List.length_append];simp;omega⟩
end Go.Proofs.YteeefedoffplmaaGreat
namespace Go.Proofs.YteeefedoffplmaaGreat
open Go.RowKit Lib Go.Proofs.Tryz
end Go.Proofs.YteeefedoffplmaaGreat
