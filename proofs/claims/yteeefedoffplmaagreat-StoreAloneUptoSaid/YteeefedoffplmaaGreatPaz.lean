/- StoreAlone, part Paz: LawW, LawD. -/
import Derived.Test.YteeefedoffplmaaGreatPay
import Derived.Test.YteeefedoffplmaaGreatPar
import Derived.Test.YteeefedoffplmaaGreatPas
import Derived.Test.YteeefedoffplmaaGreatPap
import Derived.Test.YteeefedoffplmaaGreatPax
import Derived.Test.YteeefedoffplmaaGreatPao
set_option linter.unusedSimpArgs false
set_option linter.unusedVariables false
set_option maxRecDepth 100000
set_option maxHeartbeats 51200000
namespace Go.Proofs.YteeefedoffplmaaGreat
open Go.RowKit Lib Go.Proofs.Tryz
theorem keyB_in {k:Int}(h:Qt k=true):0≤k∧k≤4294967295:=(keyB_iff k).1 h
theorem LawR.later {X:StoreS}{n le:Nat}{ps:List PlainS}{sn:List SnapL}{B B' j:Nat}(h:LawR X n le ps sn B j)(hB:B≤B'):LawR X n le ps sn B' (j+1):=by
 obtain⟨V,hst,hsh⟩:=h.ex
 exact h.same hst hB (by omega) hsh h.pairs rfl (by have:=h.time;omega)
def LawNext (Y:StoreL)(le mb lb B j:Nat)(w:World)(en:Ending)(w':World):Prop:=
 en=.returned (.bool true)∧∃ps sn,LawIn w' Y le mb lb ps sn B j∧KeepB Y w w'
theorem LawEnd.next {Y:StoreL}{ed:Option Nat}{mb lb le B j:Nat}{sv:Value}{sns:List (SnapL × Value)}{X':StoreS}{ps:List PlainS}{w w':World}{en:Ending}(h:LawEnd Y ed mb lb sv sns X' ps w en w')(hr:LawR X' Y.n le ps (sns.map (·.1)) B j):LawNext Y le mb lb B j w en w':=by
 obtain⟨he,D',els',h1,h2,h3,h4⟩:=h
 exact⟨he,ps,_,⟨ed,D',X',els',sv,sns,h1,hr,h2,h3,rfl⟩,h4⟩
theorem part_el {w:World}{Y:StoreL}{ed:Option Nat}{D:Nat→List Nat}{X:StoreS}{le B j:Nat}{els:List PlEl}{sn:List SnapL}(hs:StoreIn w Y ed D X)(hr:LawR X Y.n le (els.map (·.2)) sn B j)(hj:j≤60){key:Int}(hk:Qt key=true):
  ∃(i:Nat) (u0:Value) (l:List (Int × Int)) (num:Int),Qu key els.length=(i:Int)∧Qu key Y.n=(i:Int)∧i<Y.n∧els[i]?=some (u0,(l,num))∧(els.map (·.2))[i]?=some (l,num)∧l.length≤90000∧0≤num∧num<1000000000:=by
 have hlen:els.length=Y.n:=by have:=hr.len;rwa [List.length_map] at this
 have hn:=hs.ok.n
 have hp:=partOf_range hk Y.n hn.1
 obtain⟨i,hi⟩:∃i:Nat,Qu key Y.n=(i:Int):=⟨(Qu key Y.n).toNat,by omega⟩
 have hil:i<els.length:=by omega
 have he:els[i]?=some (els[i].1,(els[i].2.1,els[i].2.2)):=List.getElem?_eq_getElem hil
 have hm:(els[i].2.1,els[i].2.2)∈els.map (·.2):=List.mem_map.2 ⟨els[i],List.getElem_mem hil,rfl⟩
 have h1:=hr.size _ hm
 have h2:=hr.num _ hm
 dsimp only at h1 h2
 exact⟨i,_,_,_,by rw[hlen];exact hi,hi,by omega,he,by rw[List.getElem?_map,he];rfl,by omega,by omega,by omega⟩
section
variable {w:World}{Y:StoreL}{ed:Option Nat}{D:Nat→List Nat}{X:StoreS}{le mb lb B j:Nat}{els:List PlEl}{sv:Value}{sns:List (SnapL × Value)}
theorem write_put (hs:StoreIn w Y ed D X)(hr:LawR X Y.n le (els.map (·.2)) (sns.map (·.1)) B j)(hm:LawM w Y ed D mb lb els sv sns)(hj:j≤60)(a b c:Int)(hb:Ql b)(hc:Ql c)(LA:Option Addr)(L:List (Int × Int))(lc:Nat)(hL:ArgL w Y LA L)(hB:B+36*(1+L.length)+36≤4096):
  Calls prog 49 #[ptr mb,.agg #[.int .i64 2,.int .i64 a,.int .i64 b,.int .i64 c,.slice LA L.length lc]] w (LawNext Y le mb lb (B+36*(1+L.length)) (j+1) w):=by
 have hlen:els.length=Y.n:=by have:=hr.len;rwa [List.length_map] at this
 cases hk:Qt a with
 |false=>
  exact (write2No_any w Y ed D X X mb lb els sv sns hs hm hlen a b c LA L lc hL hk (fun W ho=>storePutNo_any W Y ed D X (hs.new ho) a b hk)).mono fun en w' h=>h.next (hr.later (by omega))
 |true=>
  obtain⟨i,u0,l,num,hpk,hpk',hi,he,hp,hsz,hnum⟩:=part_el hs hr hj hk
  have hk2:=keyB_in hk
  cases hf:Qk l a with
  |none=>
   obtain⟨X',hw,hr'⟩:=hr.put Y hp hk2.1 hk2.2 hb (by omega) (by omega:B+36≤B+36*(1+L.length)) hj (c:=true) (by simp[hf])
   rw[show (⟨(Qk (l,num).1 a).getD 0,(Qk (l,num).1 a).isSome,if true then (l,num).2+1 else (l,num).2,true,0⟩:ToldS)=⟨0,false,num+1,true,0⟩ by simp[hf]] at hw
   exact (write2New_any w Y ed D X X' mb lb els sv sns hs hm hlen a b c LA L lc hL hk i hpk u0 l num he (by omega) hnum hf (fun W ho=>storePutOp_any W Y ed D X X' (hs.new ho) i hi _ _ a b hk hpk' (fun W' ho' hs'=>partPutOp_any W' Y ed D X X' hs' i a b _ _ hk hpk' hw))).mono fun en w' h=>h.next (by simpa using hr')
  |some x=>
   by_cases hx:x=b
   ·subst hx
    obtain⟨X',hw,hr'⟩:=hr.put Y hp hk2.1 hk2.2 hb (by omega) (by omega:B+36≤B+36*(1+L.length)) hj (c:=false) (by simp[hf])
    rw[show (⟨(Qk (l,num).1 a).getD 0,(Qk (l,num).1 a).isSome,if false=true then (l,num).2+1 else (l,num).2,false,0⟩:ToldS)=⟨x,true,num,false,0⟩ by simp[hf]] at hw
    exact (write2Same_any w Y ed D X X' mb lb els sv sns hs hm hlen a x c LA L lc hL hk i hpk u0 l num he (by omega) hnum hf (fun W ho=>storePutOp_any W Y ed D X X' (hs.new ho) i hi _ _ a x hk hpk' (fun W' ho' hs'=>partPutOp_any W' Y ed D X X' hs' i a x _ _ hk hpk' hw))).mono fun en w' h=>h.next (by simpa using hr')
   ·obtain⟨X',hw,hr'⟩:=hr.put Y hp hk2.1 hk2.2 hb (by omega) (by omega:B+36≤B+36*(1+L.length)) hj (c:=true) (by simp[hf,hx])
    rw[show (⟨(Qk (l,num).1 a).getD 0,(Qk (l,num).1 a).isSome,if true then (l,num).2+1 else (l,num).2,true,0⟩:ToldS)=⟨x,true,num+1,true,0⟩ by simp[hf]] at hw
    exact (write2Other_any w Y ed D X X' mb lb els sv sns hs hm hlen a b c LA L lc hL hk i hpk u0 l num he (by omega) hnum x hf hx (fun W ho=>storePutOp_any W Y ed D X X' (hs.new ho) i hi _ _ a b hk hpk' (fun W' ho' hs'=>partPutOp_any W' Y ed D X X' hs' i a b _ _ hk hpk' hw))).mono fun en w' h=>h.next (by simpa using hr')
theorem write_drop (hs:StoreIn w Y ed D X)(hr:LawR X Y.n le (els.map (·.2)) (sns.map (·.1)) B j)(hm:LawM w Y ed D mb lb els sv sns)(hj:j≤60)(a b c:Int)(hb:Ql b)(hc:Ql c)(LA:Option Addr)(L:List (Int × Int))(lc:Nat)(hL:ArgL w Y LA L)(hB:B+36*(1+L.length)+36≤4096):
  Calls prog 49 #[ptr mb,.agg #[.int .i64 3,.int .i64 a,.int .i64 b,.int .i64 c,.slice LA L.length lc]] w (LawNext Y le mb lb (B+36*(1+L.length)) (j+1) w):=by
 have hlen:els.length=Y.n:=by have:=hr.len;rwa [List.length_map] at this
 cases hk:Qt a with
 |false=>
  exact (write3No_any w Y ed D X X mb lb els sv sns hs hm hlen a b c LA L lc hL hk (fun W ho=>storeDropNo_any W Y ed D X (hs.new ho) a hk)).mono fun en w' h=>h.next (hr.later (by omega))
 |true=>
  obtain⟨i,u0,l,num,hpk,hpk',hi,he,hp,hsz,hnum⟩:=part_el hs hr hj hk
  have hk2:=keyB_in hk
  cases hf:Qk l a with
  |none=>
   obtain⟨X',hw,hr'⟩:=hr.drop Y hp hk2.1 hk2.2 (by omega) (by omega:B+36≤B+36*(1+L.length)) hj (c:=false) (by simp[hf])
   rw[show (⟨(Qk (l,num).1 a).getD 0,false,if false=true then (l,num).2+1 else (l,num).2,false,0⟩:ToldS)=⟨0,false,num,false,0⟩ by simp[hf]] at hw
   exact (write3None_any w Y ed D X X' mb lb els sv sns hs hm hlen a b c LA L lc hL hk i hpk u0 l num he (by omega) hnum hf (fun W ho=>storeDropOp_any W Y ed D X X' (hs.new ho) i hi _ _ a hk hpk' (fun W' ho' hs'=>partDropOp_any W' Y ed D X X' hs' i a _ _ hk hpk' hw))).mono fun en w' h=>h.next (by simpa using hr')
  |some x=>
   obtain⟨X',hw,hr'⟩:=hr.drop Y hp hk2.1 hk2.2 (by omega) (by omega:B+36≤B+36*(1+L.length)) hj (c:=true) (by simp[hf])
   rw[show (⟨(Qk (l,num).1 a).getD 0,true,if true then (l,num).2+1 else (l,num).2,true,0⟩:ToldS)=⟨x,true,num+1,true,0⟩ by simp[hf]] at hw
   exact (write3Some_any w Y ed D X X' mb lb els sv sns hs hm hlen a b c LA L lc hL hk i hpk u0 l num he (by omega) hnum x hf (fun W ho=>storeDropOp_any W Y ed D X X' (hs.new ho) i hi _ _ a hk hpk' (fun W' ho' hs'=>partDropOp_any W' Y ed D X X' hs' i a _ _ hk hpk' hw))).mono fun en w' h=>h.next (by simpa using hr')
theorem write_swap (hs:StoreIn w Y ed D X)(hr:LawR X Y.n le (els.map (·.2)) (sns.map (·.1)) B j)(hm:LawM w Y ed D mb lb els sv sns)(hj:j≤60)(a b c:Int)(hb:Ql b)(hc:Ql c)(LA:Option Addr)(L:List (Int × Int))(lc:Nat)(hL:ArgL w Y LA L)(hB:B+36*(1+L.length)+36≤4096):
  Calls prog 49 #[ptr mb,.agg #[.int .i64 4,.int .i64 a,.int .i64 b,.int .i64 c,.slice LA L.length lc]] w (LawNext Y le mb lb (B+36*(1+L.length)) (j+1) w):=by
 have hlen:els.length=Y.n:=by have:=hr.len;rwa [List.length_map] at this
 cases hk:Qt a with
 |false=>
  exact (write4No_any w Y ed D X X mb lb els sv sns hs hm hlen a b c LA L lc hL hk (fun W ho=>storeSwapNo_any W Y ed D X (hs.new ho) a b c hk)).mono fun en w' h=>h.next (hr.later (by omega))
 |true=>
  obtain⟨i,u0,l,num,hpk,hpk',hi,he,hp,hsz,hnum⟩:=part_el hs hr hj hk
  have hk2:=keyB_in hk
  cases hf:Qk l a with
  |none=>
   obtain⟨X',hw,hr'⟩:=hr.swapNone (o:=b) (v:=c) Y hp hk2.1 hk2.2 hc (by omega) (by omega:B+36≤B+36*(1+L.length)) hj hf
   exact (write4None_any w Y ed D X X' mb lb els sv sns hs hm hlen a b c LA L lc hL hk i hpk u0 l num he (by omega) hnum hf (fun W ho=>storeSwapOp_any W Y ed D X X' (hs.new ho) i hi _ _ a b c hk hpk' (fun W' ho' hs'=>partSwapOp_any W' Y ed D X X' hs' i a b c _ _ hk hpk' hw))).mono fun en w' h=>h.next hr'
  |some x=>
   by_cases hx:x=b
   ·subst hx
    by_cases hxc:x=c
    ·subst hxc
     obtain⟨X',hw,hr'⟩:=hr.swapYes Y hp hk2.1 hk2.2 hc (by omega) (by omega:B+36≤B+36*(1+L.length)) hj hf (c:=false) (by simp)
     rw[show (⟨x,true,if false=true then (l,num).2+1 else (l,num).2,false,0⟩:ToldS)=⟨x,true,num,false,0⟩ by simp] at hw
     exact (write4Same_any w Y ed D X X' mb lb els sv sns hs hm hlen a x x LA L lc hL hk i hpk u0 l num he (by omega) hnum hf (fun W ho=>storeSwapOp_any W Y ed D X X' (hs.new ho) i hi _ _ a x x hk hpk' (fun W' ho' hs'=>partSwapOp_any W' Y ed D X X' hs' i a x x _ _ hk hpk' hw))).mono fun en w' h=>h.next (by simpa using hr')
    ·obtain⟨X',hw,hr'⟩:=hr.swapYes Y hp hk2.1 hk2.2 hc (by omega) (by omega:B+36≤B+36*(1+L.length)) hj hf (c:=true) (by simp[hxc])
     rw[show (⟨x,true,if true then (l,num).2+1 else (l,num).2,true,0⟩:ToldS)=⟨x,true,num+1,true,0⟩ by simp] at hw
     exact (write4Put_any w Y ed D X X' mb lb els sv sns hs hm hlen a x c LA L lc hL hk i hpk u0 l num he (by omega) hnum hf hxc (fun W ho=>storeSwapOp_any W Y ed D X X' (hs.new ho) i hi _ _ a x c hk hpk' (fun W' ho' hs'=>partSwapOp_any W' Y ed D X X' hs' i a x c _ _ hk hpk' hw))).mono fun en w' h=>h.next (by simpa using hr')
   ·obtain⟨X',hw,hr'⟩:=hr.swapOther (o:=b) (v:=c) Y hp hk2.1 hk2.2 hc (by omega) (by omega:B+36≤B+36*(1+L.length)) hj hf hx
    exact (write4Other_any w Y ed D X X' mb lb els sv sns hs hm hlen a b c LA L lc hL hk i hpk u0 l num he (by omega) hnum x hf hx (fun W ho=>storeSwapOp_any W Y ed D X X' (hs.new ho) i hi _ _ a b c hk hpk' (fun W' ho' hs'=>partSwapOp_any W' Y ed D X X' hs' i a b c _ _ hk hpk' hw))).mono fun en w' h=>h.next hr'
theorem any_hasB {l:List (Int × Int)}{n i:Nat}(h:∀p∈l,ofI p.1 n=(i:Int)):((l.map (·.1)).any fun k=>!hasB k n i)=false:=by
 rw[List.any_eq_false]
 intro k hk
 obtain⟨p,hp,rfl⟩:=List.mem_map.1 hk
 have:=h p hp
 unfold ofI at this
 split at this
 ·next hkb=>simp[hasB,hkb,this]
 ·omega
theorem any_hasB' {l:List (Int × Int)}{n i:Nat}(h:∃p∈l,ofI p.1 n≠(i:Int)):((l.map (·.1)).any fun k=>!hasB k n i)=true:=by
 obtain⟨p,hp,hn⟩:=h
 rw[List.any_eq_true]
 refine⟨p.1,List.mem_map.2 ⟨p,hp,rfl⟩,?_⟩
 unfold ofI at hn
 split at hn
 ·next hkb=>simp[hasB,hkb,hn]
 ·next hkb=>simp[hasB,hkb]
theorem head_cell {W:World}{A:Option Addr}{L:List (Int × Int)}{k v:Int}(hr:Row W A (Qd L))(h0:L[0]?=some (k,v)):(L.length=0∧k=0)∨(0<L.length∧∃b off,A=some ⟨b,off,none⟩∧W.cell? ⟨b,off,none⟩=some (.int .i64 k)):=by
 have hl:=(List.getElem?_eq_some_iff.1 h0).1
 obtain⟨b,off,e,h1,_⟩:=pair_cells hr h0
 exact .inr ⟨hl,b,off,e,by simpa using h1⟩
theorem write_many (hs:StoreIn w Y ed D X)(hr:LawR X Y.n le (els.map (·.2)) (sns.map (·.1)) B j)(hm:LawM w Y ed D mb lb els sv sns)(hj:j≤60)(a b c:Int)(LA:Option Addr)(L:List (Int × Int))(lc:Nat)(hL:ArgL w Y LA L)(hLv:∀p∈L,Ql p.2)(hB:B+36*(1+L.length)+36≤4096):
  Calls prog 49 #[ptr mb,.agg #[.int .i64 5,.int .i64 a,.int .i64 b,.int .i64 c,.slice LA L.length lc]] w (LawNext Y le mb lb (B+36*(1+L.length)) (j+1) w):=by
 have hlen:els.length=Y.n:=by have:=hr.len;rwa [List.length_map] at this
 have hfew:=hL.few
 cases L with
 |nil=>
  have hk:Qt 0=true:=by decide
  obtain⟨i,u0,l,num,hpk,hpk',hi,he,hp,hsz,hnum⟩:=part_el hs hr hj hk
  obtain⟨X',hw,hr'⟩:=hr.many Y hp (l:=[]) (by simp) (by simp) (by simp) (by simp;omega) (by simp:B+36*(1+([]:List (Int × Int)).length)≤B+36*(1+([]:List (Int × Int)).length)) hj (x:=(l,0)) rfl (c:=false) (by simp)
  rw[show (⟨0,false,if false=true then (l,num).2+1 else (l,num).2,false,(l,0).2⟩:ToldS)=⟨0,false,num,false,0⟩ by simp] at hw
  exact (write5Zero_any w Y ed D X X' mb lb els sv sns hs hm hlen a b c LA lc i hpk u0 l num he (by omega) hnum (fun W ho=>storeManyOp_any W Y ed D X X' (hs.new ho) i hi _ _ none 0 0 0 (.inl ⟨rfl,rfl⟩) hk hpk' (fun W' ho' hs'=>partManyOp_any W' Y ed D X X' hs' i _ _ [] none 0 (Row.nil _ _) (by simp) (fun _=>rfl) (by simp) hw))).mono fun en w' h=>h.next (by simpa using hr')
 |cons p0 L0=>
  obtain⟨k0,v0⟩:=p0
  generalize hLL:(k0,v0) :: L0=L at *
  have h0:L[0]?=some (k0,v0):=by rw[←hLL];rfl
  have hpos:0<L.length:=by rw[←hLL];simp
  clear hLL
  cases hk:Qt k0 with
  |false=>
   exact (write5No_any w Y ed D X X mb lb els sv sns hs hm hlen a b c LA lc L hL k0 v0 h0 hk (fun W A cap ho hrow hA hlow=>storeManyNo_any W Y ed D X (hs.new ho) A L.length cap k0 (head_cell hrow h0) hk)).mono fun en w' h=>h.next (hr.later (by omega))
  |true=>
   obtain⟨i,u0,l,num,hpk,hpk',hi,he,hp,hsz,hnum⟩:=part_el hs hr hj hk
   have hnA:∀A:Option Addr,A≠none→(A=none↔L.length=0):=fun A hA=>⟨fun e=>absurd e hA,fun e=>by omega⟩
   by_cases hall:∀p∈L,ofI p.1 els.length=(i:Int)
   ·have hkeys:∀q∈L,0≤q.1∧q.1≤4294967295:=fun q hq=>by
     have:=hall q hq
     unfold ofI at this
     split at this
     ·next hkb=>exact keyB_in hkb
     ·omega
    obtain⟨nx,cnt,hcnt⟩:∃nx cnt,L.foldl manyLStep (l,0)=(nx,cnt):=⟨_,_,rfl⟩
    by_cases hc:cnt=0
    ·subst hc
     obtain⟨X',hw,hr'⟩:=hr.many Y hp hkeys hLv hfew (by omega) (Nat.le_refl _) hj hcnt (c:=false) (by simp)
     rw[show (⟨0,false,if false=true then (l,num).2+1 else (l,num).2,false,(nx,(0:Int)).2⟩:ToldS)=⟨0,false,num,false,0⟩ by simp] at hw
     exact (write5Same_any w Y ed D X X' mb lb els sv sns hs hm hlen a b c LA lc L hL k0 v0 h0 hk i hpk u0 l num he (by omega) hnum hall nx hcnt (fun W A cap ho hrow hA hlow=>storeManyOp_any W Y ed D X X' (hs.new ho) i hi _ _ A L.length cap k0 (head_cell hrow h0) hk hpk' (fun W' ho' hs'=>partManyOp_any W' Y ed D X X' hs' i _ _ L A cap (hrow.below ho'.below) (hnA A hA) (fun e=>absurd e hA) (by rw[←hlen];exact any_hasB hall) hw))).mono fun en w' h=>h.next (by simpa using hr')
    ·obtain⟨X',hw,hr'⟩:=hr.many Y hp hkeys hLv hfew (by omega) (Nat.le_refl _) hj hcnt (c:=true) (by simp[hc])
     rw[show (⟨0,false,if true then (l,num).2+1 else (l,num).2,true,(nx,cnt).2⟩:ToldS)=⟨0,false,num+1,true,cnt⟩ by simp] at hw
     exact (write5Yes_any w Y ed D X X' mb lb els sv sns hs hm hlen a b c LA lc L hL k0 v0 h0 hk i hpk u0 l num he (by omega) hnum hall nx cnt hcnt hc (fun W A cap ho hrow hA hlow=>storeManyOp_any W Y ed D X X' (hs.new ho) i hi _ _ A L.length cap k0 (head_cell hrow h0) hk hpk' (fun W' ho' hs'=>partManyOp_any W' Y ed D X X' hs' i _ _ L A cap (hrow.below ho'.below) (hnA A hA) (fun e=>absurd e hA) (by rw[←hlen];exact any_hasB hall) hw))).mono fun en w' h=>h.next (by simpa using hr')
   ·have hbad:∃p∈L,ofI p.1 els.length≠(i:Int):=by
     refine Classical.byContradiction fun hn=>hall fun p hp=>Classical.byContradiction fun hne=>hn ⟨p,hp,hne⟩
    exact (write5Other_any w Y ed D X X mb lb els sv sns hs hm hlen a b c LA lc L hL k0 v0 h0 hk i hpk u0 l num he (by omega) hnum hbad (fun W A cap ho hrow hA hlow=>storeManyOp_any W Y ed D X X (hs.new ho) i hi _ _ A L.length cap k0 (head_cell hrow h0) hk hpk' (fun W' ho' hs'=>partManyNo_any W' Y ed D X hs' i hi L (by omega) A cap (hrow.below ho'.below) (hnA A hA) (fun e=>absurd e hA) (by rw[←hlen];exact any_hasB' hbad)))).mono fun en w' h=>h.next (hr.later (by omega))
end
theorem own_frozen {w:World}{base e s n g c:Nat}{xs:List Value}(h:w.ownsRow base e s (.slice (some ⟨g,0,none⟩) n c) n xs)(i:Nat):w.frozen? ⟨g,i,none⟩=false:=by
 rcases h.2 with ⟨h1,_⟩|⟨g',cap,cur,hv,_,hg,_⟩
 ·cases h1
 ·injection hv with h1 _ _
  injection h1 with h1
  injection h1 with h1 _
  subst h1
  simp[World.frozen?,hg]
theorem doesWrite_any (w:World)(Y:StoreL)(ed:Option Nat)(D:Nat→List Nat)(X X':StoreS)(mb lb:Nat)(els:List PlEl)(sv:Value)(sns:List (SnapL × Value))(hs:StoreIn w Y ed D X)(hm:LawM w Y ed D mb lb els sv sns)(hn:els.length=Y.n)(k a b c:Int)(LA:Option Addr)(ln lc le:Nat)(hk:2≤k∧k≤5)(le2 B j:Nat)(hop:∀W,Only [] w W→Calls prog 49 #[ptr mb,.agg #[.int .i64 k,.int .i64 a,.int .i64 b,.int .i64 c,.slice LA ln lc]] W (LawNext Y le2 mb lb B j W)):
  Calls prog 15 #[ptr mb,.agg #[.int .i64 k,.int .i64 a,.int .i64 b,.int .i64 c,.slice LA ln lc],.int .i64 (le:Int)] w (LawNext Y le2 mb lb B j w):=by
 obtain⟨w0,hw0⟩:∃w0,w.alloc (.cells #[.int .i64 k,.int .i64 a,.int .i64 b,.int .i64 c,.slice LA ln lc] 34)=w0:=⟨_,rfl⟩
 have ho0:Only [] w w0:=by rw[←hw0];exact (Only.refl _ _).alloc _
 have hb4:Blk w0 w.heap.size [.int .i64 k,.int .i64 a,.int .i64 b,.int .i64 c,.slice LA ln lc] 34:=by rw[←hw0];exact Blk.new w _ 34
 have hm0:=hm.new ho0
 have m0:=hm0.m.cell (i:=0) rfl
 have c0:=hb4.cell (i:=0) rfl
 have c1:=hb4.cell (i:=1) rfl
 have c2:=hb4.cell (i:=2) rfl
 have c3:=hb4.cell (i:=3) rfl
 have c4:=hb4.cell (i:=4) rfl
 have HS:=hid hs;have HM:=hid hm;have HO0:=hid ho0;have HB4:=hid hb4;have HM0:=hid hm0;have HW0:=hid hw0
 have HOP:=hid hop
 have hk1:=hk.1
 have hk2:=hk.2
 have hk3:(k == 1)=false:=by simp;omega
 unfold ptr at *
 clear hs hm hm0 ho0 hb4 hop hn hk
 go_enter func15,ntmps15
 go_wp2_with (go_at_call 49;refine (HOP.out _ HO0.out).mono ?_;rintro en w1 ⟨rfl,ps,sn,h1,h2⟩;have H1:=hid h1;have H2:=hid h2;clear h1 h2)
 go_ret
 exact⟨rfl,ps,sn,H1.out,(KeepB.only HO0.out (by simp)).trans H2.out⟩
theorem doesSnap_any (w:World)(Y:StoreL)(ed:Option Nat)(D:Nat→List Nat)(X X':StoreS)(mb lb:Nat)(els:List PlEl)(sv:Value)(sns:List (SnapL × Value))(hs:StoreIn w Y ed D X)(hm:LawM w Y ed D mb lb els sv sns)(hn:els.length=Y.n)(a b c:Int)(LA:Option Addr)(ln lc le:Nat)(le2 B j:Nat)(hop:∀W,Only [] w W→Calls prog 50 #[ptr mb,.int .i64 (le:Int)] W (LawNext Y le2 mb lb B j W)):
  Calls prog 15 #[ptr mb,.agg #[.int .i64 6,.int .i64 a,.int .i64 b,.int .i64 c,.slice LA ln lc],.int .i64 (le:Int)] w (LawNext Y le2 mb lb B j w):=by
 obtain⟨w0,hw0⟩:∃w0,w.alloc (.cells #[.int .i64 6,.int .i64 a,.int .i64 b,.int .i64 c,.slice LA ln lc] 34)=w0:=⟨_,rfl⟩
 have ho0:Only [] w w0:=by rw[←hw0];exact (Only.refl _ _).alloc _
 have hb4:Blk w0 w.heap.size [.int .i64 6,.int .i64 a,.int .i64 b,.int .i64 c,.slice LA ln lc] 34:=by rw[←hw0];exact Blk.new w _ 34
 have hm0:=hm.new ho0
 have m0:=hm0.m.cell (i:=0) rfl
 have c0:=hb4.cell (i:=0) rfl
 have HS:=hid hs;have HM:=hid hm;have HO0:=hid ho0;have HB4:=hid hb4;have HM0:=hid hm0;have HW0:=hid hw0
 have HOP:=hid hop
 unfold ptr at *
 clear hs hm hm0 ho0 hb4 hop hn
 go_enter func15,ntmps15
 go_wp2_with (go_at_call 50;refine (HOP.out _ HO0.out).mono ?_;rintro en w1 ⟨rfl,ps,sn,h1,h2⟩;have H1:=hid h1;have H2:=hid h2;clear h1 h2)
 go_ret
 exact⟨rfl,ps,sn,H1.out,(KeepB.only HO0.out (by simp)).trans H2.out⟩
theorem doesGet_any (w:World)(Y:StoreL)(ed:Option Nat)(D:Nat→List Nat)(X X':StoreS)(mb lb:Nat)(els:List PlEl)(sv:Value)(sns:List (SnapL × Value))(hs:StoreIn w Y ed D X)(hm:LawM w Y ed D mb lb els sv sns)(hn:els.length=Y.n)(a b c:Int)(LA:Option Addr)(ln lc le:Nat)(v num mn err:Int)(had nw:Bool)(hop:∀W,Only [] w W→Calls prog 28 #[ptr Y.sb,.pointer none,.int .i64 a] W (Qh Y ed D ⟨v,had,num,nw,mn⟩ err X' W))(hc:(Qt a=false∧v=0∧had=false∧num=0∧nw=false∧mn=0∧err=161)∨(Qt a=true∧∃(i:Nat) (u0:Value) (l:List (Int × Int)),Qu a els.length=(i:Int)∧els[i]?=some (u0,(l,num))∧l.length≤100000∧(Qk l a).getD 0=v∧(Qk l a).isSome=had∧nw=false∧mn=0∧err=0)):
  Calls prog 15 #[ptr mb,.agg #[.int .i64 1,.int .i64 a,.int .i64 b,.int .i64 c,.slice LA ln lc],.int .i64 (le:Int)] w (LawStep Y mb lb X' (els.map (·.2)) (sns.map (·.1)) w):=by
 unfold Qh ToldS.val at hop
 dsimp only at hop
 obtain⟨w0,hw0⟩:∃w0,w.alloc (.cells #[.int .i64 1,.int .i64 a,.int .i64 b,.int .i64 c,.slice LA ln lc] 34)=w0:=⟨_,rfl⟩
 have ho0:Only [] w w0:=by rw[←hw0];exact (Only.refl _ _).alloc _
 have hb4:Blk w0 w.heap.size [.int .i64 1,.int .i64 a,.int .i64 b,.int .i64 c,.slice LA ln lc] 34:=by rw[←hw0];exact Blk.new w _ 34
 have hm0:=hm.new ho0
 have m0:=hm0.m.cell (i:=0) rfl
 have c0:=hb4.cell (i:=0) rfl
 have c1:=hb4.cell (i:=1) rfl
 have HS:=hid hs;have HM:=hid hm;have HO0:=hid ho0;have HB4:=hid hb4;have HM0:=hid hm0;have HW0:=hid hw0
 have hof:=lawOf_any w0 mb (ptr Y.sb) sv (some ⟨lb,0,none⟩) els.length els.length (by rw[hn];exact hs.ok.n) hm0.m a
 unfold ofI at hof
 have HOP:=hid hop;have HC:=hid hc
 obtain⟨p,hp⟩:∃p,(if Qt a=true then Qu a els.length else -1)=p:=⟨_,rfl⟩
 rw[hp] at hof
 have HP:=hid hp
 have HSF4:=hid (Safe.fresh hs (Nat.le_refl w.heap.size) hb4.lt)
 unfold ptr at *
 clear hs hm hm0 ho0 hb4 hop hn hc hp
 go_enter func15,ntmps15
 go_wp2_with (go_at_call 13;refine hof.mono ?_;rintro en w1 ⟨rfl,hw⟩;obtain rfl:w0=w1:=hw.symm)
 clear hw0 hof
 go_cut [8,9] (fun s8 s9 wx=>s9=.int .i64 err∧∃b8,s8=.pointer (some ⟨b8,0,none⟩)∧∃wq D1,wq=wx∧StoreIn wq Y ed D1 X'∧LawM wq Y ed D1 mb lb els sv sns∧KeepB Y w wq∧Blk wq w.heap.size [.int .i64 1,.int .i64 a,.int .i64 b,.int .i64 c,.slice LA ln lc] 34∧Blk wq b8 [.int .i64 v,.bool had,.int .i64 num,.bool nw,.int .i64 mn] 57)
 case first=>
  refine wp_region_held_drew (S:=(fun W=>W.cell? ⟨mb,0,none⟩=some (.pointer (some ⟨Y.sb,0,none⟩))∧W.cell? ⟨w.heap.size,1,none⟩=some (.int .i64 a))) (by kernel_rfl) ?_ (fun hHeld=>?_)
  ·exact⟨m0,c1⟩
  refine tk 0 ?_
  refine tk 1 ?_
  refine tk 2 ?_
  refine tk 3 ?_
  refine tk 4 ?_
  refine tk 5 ?_
  refine on2 6 10 (fun K hK=>?_) (fun K hK=>?_)
  ·go_simp;go_at_call 28;refine (HOP.out _ HO0.out.drew').mono ?_;rintro en wS ⟨D1,rfl,hsS,hmS⟩;have hmS0:Moves Y (Qw Y ed D) (Qw Y ed D1) w0 wS:=⟨hmS.os,hmS.tape,hmS.output,hmS.size,hmS.block,hmS.dyn⟩;have HSS:=hid hsS;have HMS:=hid hmS0;have hbS:=HB4.out.heap (Safe.moves hmS0 HSF4.out).2;have xm0:=Qp m0 (Safe.moves hmS0 HM0.out.ms).2;have xc1:=hbS.cell (i:=1) rfl;have HBS:=hid hbS;clear hsS hmS hmS0 hbS
   refine hK.out _ _ (⟨xm0,xc1⟩) (fun hHeld=>?_)
   clear hK K
   try simp only[sp]
   refine tk 7 ?_
   refine tk 8 ?_
   refine tk 9 ?_
   refine on1 10 (fun K hK=>?_)
   go_simp
   refine hK.out _ _ (⟨Qb xm0 _,Qb xc1 _⟩) (fun hHeld=>?_)
   clear hK K
   try simp only[sp]
   refine on1 11 (fun K hK=>?_)
   go_simp
   refine hK.out _ _ (⟨Qb xm0 _,Qb xc1 _⟩) (fun hHeld=>?_)
   clear hK K
   try simp only[sp]
   refine tk 12 ?_
   refine wpAnyH_done (by kernel_rfl) ?_ _
   go_wp2_with fail
   go_meet
   have ho:=(Only.refl [] wS).alloc (.cells #[.int .i64 v,.bool had,.int .i64 num,.bool nw,.int .i64 mn] 57)
   exact⟨rfl,_,rfl,_,D1,rfl,HSS.out.new ho,(HM0.out.moves HMS.out).new ho,(KeepB.only HO0.out (by simp)).trans ((KeepB.moves HMS.out (fun k hk=>(HS.out.dyn_lt hk).1)).trans (KeepB.only ho (by simp))),HBS.out.alloc _,Blk.new wS [.int .i64 v,.bool had,.int .i64 num,.bool nw,.int .i64 mn] 57⟩
  ·go_simp
   have hoa:=(Only.refl [] w0).alloc (.cells #[.int .i64 0,.bool false,.int .i64 0,.bool false,.int .i64 0] 57)
   refine hK.out _ _ (⟨Qb m0 _,Qb c1 _⟩) (fun hHeld=>?_)
   clear hK K
   try simp only[sp]
   obtain⟨wA,hwA⟩:∃wA,w0.alloc (.cells #[.int .i64 0,.bool false,.int .i64 0,.bool false,.int .i64 0] 57)=wA:=⟨_,rfl⟩
   rw[hwA] at hoa ⊢
   have hb8:Blk wA w0.heap.size [.int .i64 0,.bool false,.int .i64 0,.bool false,.int .i64 0] 57:=by rw[←hwA];exact Blk.new w0 _ 57
   have hmA:=HM0.out.new hoa;have hbA:=HB4.out.only hoa (by simp)
   have am0:=Qa hoa m0 (by simp)
   have ac1:=Qa hoa c1 (by simp)
   have HOA:=hid (HO0.out.trans hoa);have HMA:=hid hmA;have HBA:=hid hbA;have HB8:=hid hb8;have HSFA:=hid (Safe.new hoa HSF4.out).1;have HSF8:=hid (Safe.fresh HS.out HO0.out.size hb8.lt)
   have hn8:w.heap.size≠w0.heap.size:=by have:=HB4.out.lt;omega
   have hn9:mb≠w0.heap.size:=by have:=HM0.out.ms.1;omega
   clear hoa hmA hbA hb8 hwA hHeld
   have hHeld:((fun W=>W.cell? ⟨mb,0,none⟩=some (.pointer (some ⟨Y.sb,0,none⟩))∧W.cell? ⟨w.heap.size,1,none⟩=some (.int .i64 a))) wA.drew:=⟨am0,ac1⟩
   refine on1 6 (fun K hK=>?_)
   go_simp;go_at_call 28;refine (HOP.out _ HOA.out.drew').mono ?_;rintro en wS ⟨D1,rfl,hsS,hmS⟩;have hmS0:Moves Y (Qw Y ed D) (Qw Y ed D1) wA wS:=⟨hmS.os,hmS.tape,hmS.output,hmS.size,hmS.block,hmS.dyn⟩;have HSS:=hid hsS;have HMS:=hid hmS0;have hbS:=HBA.out.heap (Safe.moves hmS0 HSFA.out).2;have xam0:=Qp am0 (Safe.moves hmS0 HMA.out.ms).2;have xac1:=hbS.cell (i:=1) rfl;have hb8S:=HB8.out.heap (Safe.moves hmS0 HSF8.out).2;have y0:=hb8S.cell (i:=0) rfl;have y1:=hb8S.cell (i:=1) rfl;have y2:=hb8S.cell (i:=2) rfl;have y3:=hb8S.cell (i:=3) rfl;have y4:=hb8S.cell (i:=4) rfl;have yf:=hb8S.frozen;have HBS:=hid hbS;have HB8S:=hid hb8S;clear hsS hmS hmS0 hbS hb8S
   refine hK.out _ _ (⟨xam0,xac1⟩) (fun hHeld=>?_)
   clear hK K
   try simp only[sp]
   refine tk 7 ?_
   refine tk 8 ?_
   refine tk 9 ?_
   refine on1 11 (fun K hK=>?_)
   go_simp
   refine hK.out _ _ (⟨Qa (five _ _ _ _ _ _ _) xam0 (by simpa using hn9),Qa (five _ _ _ _ _ _ _) xac1 (by simpa using hn8)⟩) (fun hHeld=>?_)
   clear hK K
   try simp only[sp]
   refine tk 12 ?_
   refine wpAnyH_done (by kernel_rfl) ?_ _
   go_wp2_with fail
   go_meet
   have ho:=five wS w0.heap.size (.int .i64 v) (.bool had) (.int .i64 num) (.bool nw) (.int .i64 mn)
   have hsf:=Safe.moves HMS.out HSF8.out
   exact⟨rfl,_,rfl,_,D1,rfl,HSS.out.only ho (fun k hk=>by obtain rfl:=List.mem_singleton.1 hk;exact hsf.1.2),HM.out.moves (((Moves.of_new HOA.out).trans HMS.out).fresh ho (fun k hk=>by obtain rfl:=List.mem_singleton.1 hk;exact HO0.out.size)),(KeepB.moves (((Moves.of_new HOA.out).trans HMS.out).fresh ho (fun k hk=>by obtain rfl:=List.mem_singleton.1 hk;exact HO0.out.size)) (fun k hk=>(HS.out.dyn_lt hk).1)),HBS.out.only ho (by simpa using hn8),((((HB8S.out.set 0 _).set 1 _).set 2 _).set 3 _).set 4 _⟩
 case rest=>
  obtain⟨rfl,b8,rfl,wx,D1,rfl,hsx,hmx,hkx,hbx,hb8⟩:=hcut
  have f0:=hb8.cell (i:=0) rfl
  have f1:=hb8.cell (i:=1) rfl
  have f2:=hb8.cell (i:=2) rfl
  have f3:=hb8.cell (i:=3) rfl
  have f4:=hb8.cell (i:=4) rfl
  have d1:=hbx.cell (i:=1) rfl
  have d2:=hbx.cell (i:=2) rfl
  have m1:=hmx.m.cell (i:=1) rfl
  have m2:=hmx.m.cell (i:=2) rfl
  have fin:∀W',Only [] wx W'→LawStep Y mb lb X' (els.map (·.2)) (sns.map (·.1)) w (.returned (.bool true)) W':=fun W' hoE=>⟨rfl,ed,D1,els,_,sns,hsx.new hoE,hmx.new hoE,rfl,rfl,hkx.trans (KeepB.only hoE (by simp))⟩
  have HMX:=hid hmx;have HFIN:=hid fin
  clear hsx hmx hkx hbx hb8 fin
  rcases HC.out with ⟨hk,rfl,rfl,rfl,rfl,rfl,rfl⟩|⟨hk,i,u0,l,hpk,he,hsz,hv,hh,rfl,rfl,rfl⟩
  ·obtain rfl:-1=p:=by have:=HP.out;rw[if_neg (by simp[hk])] at this;exact this
   clear hk
   go_wp2_with fail
   go_ret
   exact HFIN.out _ (Only.refl _ _)
  ·obtain rfl:(i:Int)=p:=by have:=HP.out;rw[if_pos hk,hpk] at this;exact this
   obtain⟨A0,pc,p0,p1,_,prow,_,_⟩:=HMX.out.plAt i (l,num) (by rw[List.getElem?_map,he];rfl)
   rw[Nat.zero_add] at p0 p1
   dsimp only at p0 p1 prow
   have hfd:=fun W (ho:Only [] wx W)=>lawFind_any W lb (i*3) A0 pc l (by omega) (Qa ho p0 (by simp)) (prow.below ho.below) a
   rw[hv,hh] at hfd
   have HFD:=hid hfd
   have hil:(i:Int)<els.length:=by have:=(List.getElem?_eq_some_iff.1 he).1;omega
   have hi0:(0:Int)≤i:=by omega
   have hin:¬((i:Int)<0):=by omega
   clear hfd prow hk hpk he hsz hv hh
   go_wp2_with fail
   go_quiet ((go_at_call 48;exact Calls.quiet_of_same ((HFD.out _ ((Only.refl [] wx).drewN _)).mono fun _ _ h=>h)))
   go_wp2_with fail
   go_quiet (fail)
   go_wp2_with fail
   go_ret
   exact HFIN.out _ (((Only.refl [] wx).drewN _).drewN _)
theorem doesFree_low (w:World)(Y:StoreL)(ed:Option Nat)(D:Nat→List Nat)(X X':StoreS)(mb lb:Nat)(els:List PlEl)(sv:Value)(sns:List (SnapL × Value))(hs:StoreIn w Y ed D X)(hm:LawM w Y ed D mb lb els sv sns)(hn:els.length=Y.n)(a b c:Int)(LA:Option Addr)(ln lc le:Nat)(hj:a<0):
  Calls prog 15 #[ptr mb,.agg #[.int .i64 7,.int .i64 a,.int .i64 b,.int .i64 c,.slice LA ln lc],.int .i64 (le:Int)] w (LawStep Y mb lb X (els.map (·.2)) (sns.map (·.1)) w):=by
 obtain⟨w0,hw0⟩:∃w0,w.alloc (.cells #[.int .i64 7,.int .i64 a,.int .i64 b,.int .i64 c,.slice LA ln lc] 34)=w0:=⟨_,rfl⟩
 have ho0:Only [] w w0:=by rw[←hw0];exact (Only.refl _ _).alloc _
 have hb4:Blk w0 w.heap.size [.int .i64 7,.int .i64 a,.int .i64 b,.int .i64 c,.slice LA ln lc] 34:=by rw[←hw0];exact Blk.new w _ 34
 have hm0:=hm.new ho0
 have m0:=hm0.m.cell (i:=0) rfl
 have c0:=hb4.cell (i:=0) rfl
 have c1:=hb4.cell (i:=1) rfl
 have HS:=hid hs;have HM:=hid hm;have HO0:=hid ho0;have HB4:=hid hb4;have HM0:=hid hm0;have HW0:=hid hw0
 obtain⟨A,sc,rfl,_,_⟩:=Qc hm.snaps
 have m2:=hm0.m.cell (i:=2) rfl
 have hlt:a<0:=hj
 have hd:decide (a<0)=true:=by simpa using hj
 unfold ptr at *
 clear hs hm hm0 ho0 hb4 hn hj
 go_enter func15,ntmps15
 go_wp2_with fail
 go_quiet (fail)
 go_wp2_with fail
 go_ret
 have hoE:=HO0.out.drewN nq
 exact⟨rfl,ed,D,els,_,sns,HS.out.new hoE,HM.out.new hoE,rfl,rfl,KeepB.only hoE (by simp)⟩
theorem doesFree_high (w:World)(Y:StoreL)(ed:Option Nat)(D:Nat→List Nat)(X X':StoreS)(mb lb:Nat)(els:List PlEl)(sv:Value)(sns:List (SnapL × Value))(hs:StoreIn w Y ed D X)(hm:LawM w Y ed D mb lb els sv sns)(hn:els.length=Y.n)(a b c:Int)(LA:Option Addr)(ln lc le:Nat)(hj:0≤a∧(sns.length:Int)≤a):
  Calls prog 15 #[ptr mb,.agg #[.int .i64 7,.int .i64 a,.int .i64 b,.int .i64 c,.slice LA ln lc],.int .i64 (le:Int)] w (LawStep Y mb lb X (els.map (·.2)) (sns.map (·.1)) w):=by
 obtain⟨w0,hw0⟩:∃w0,w.alloc (.cells #[.int .i64 7,.int .i64 a,.int .i64 b,.int .i64 c,.slice LA ln lc] 34)=w0:=⟨_,rfl⟩
 have ho0:Only [] w w0:=by rw[←hw0];exact (Only.refl _ _).alloc _
 have hb4:Blk w0 w.heap.size [.int .i64 7,.int .i64 a,.int .i64 b,.int .i64 c,.slice LA ln lc] 34:=by rw[←hw0];exact Blk.new w _ 34
 have hm0:=hm.new ho0
 have m0:=hm0.m.cell (i:=0) rfl
 have c0:=hb4.cell (i:=0) rfl
 have c1:=hb4.cell (i:=1) rfl
 have HS:=hid hs;have HM:=hid hm;have HO0:=hid ho0;have HB4:=hid hb4;have HM0:=hid hm0;have HW0:=hid hw0
 obtain⟨A,sc,rfl,_,_⟩:=Qc hm.snaps
 have m2:=hm0.m.cell (i:=2) rfl
 have h1:¬a<0:=by omega
 have h2:(sns.length:Int)≤a:=hj.2
 have hd1:decide (a<0)=false:=by simpa using h1
 have hd2:decide ((sns.length:Int)≤a)=true:=by simpa using h2
 unfold ptr at *
 clear hs hm hm0 ho0 hb4 hn hj
 go_enter func15,ntmps15
 go_wp2_with fail
 go_quiet (fail)
 go_wp2_with fail
 go_ret
 have hoE:=HO0.out.drewN nq
 exact⟨rfl,ed,D,els,_,sns,HS.out.new hoE,HM.out.new hoE,rfl,rfl,KeepB.only hoE (by simp)⟩
theorem doesFree_gone (w:World)(Y:StoreL)(ed:Option Nat)(D:Nat→List Nat)(X X':StoreS)(mb lb:Nat)(els:List PlEl)(sv:Value)(sns:List (SnapL × Value))(hs:StoreIn w Y ed D X)(hm:LawM w Y ed D mb lb els sv sns)(hn:els.length=Y.n)(a b c:Int)(LA:Option Addr)(ln lc le:Nat)(j:Nat)(s:SnapL × Value)(hj:sns[j]?=some s)(haj:a=(j:Int))(his:s.1.is=false):
  Calls prog 15 #[ptr mb,.agg #[.int .i64 7,.int .i64 a,.int .i64 b,.int .i64 c,.slice LA ln lc],.int .i64 (le:Int)] w (LawStep Y mb lb X (els.map (·.2)) (sns.map (·.1)) w):=by
 obtain⟨w0,hw0⟩:∃w0,w.alloc (.cells #[.int .i64 7,.int .i64 a,.int .i64 b,.int .i64 c,.slice LA ln lc] 34)=w0:=⟨_,rfl⟩
 have ho0:Only [] w w0:=by rw[←hw0];exact (Only.refl _ _).alloc _
 have hb4:Blk w0 w.heap.size [.int .i64 7,.int .i64 a,.int .i64 b,.int .i64 c,.slice LA ln lc] 34:=by rw[←hw0];exact Blk.new w _ 34
 have hm0:=hm.new ho0
 have m0:=hm0.m.cell (i:=0) rfl
 have c0:=hb4.cell (i:=0) rfl
 have c1:=hb4.cell (i:=1) rfl
 have HS:=hid hs;have HM:=hid hm;have HO0:=hid ho0;have HB4:=hid hb4;have HM0:=hid hm0;have HW0:=hid hw0
 obtain⟨A,sc,rfl,_,_⟩:=Qc hm.snaps
 have m2:=hm0.m.cell (i:=2) rfl
 subst haj
 obtain⟨g,rfl,_,_,_,s3⟩:=hm0.sn hj
 rw[his] at s3
 have hjl:=(List.getElem?_eq_some_iff.1 hj).1
 have h1:¬((j:Int)<0):=by omega
 have h2:¬((sns.length:Int)≤(j:Int)):=by omega
 have h3:(0:Int)≤j:=by omega
 have h4:(j:Int)<sns.length:=by omega
 have h5:¬(sns.length≤j):=by omega
 have hd2:decide (sns.length≤j)=false:=by simpa using h5
 unfold ptr at *
 clear hs hm hm0 ho0 hb4 hn hj his hjl
 go_enter func15,ntmps15
 go_wp2_with fail
 go_quiet (fail)
 go_wp2_with fail
 go_ret
 have hoE:=HO0.out.drewN nq
 exact⟨rfl,ed,D,els,_,sns,HS.out.new hoE,HM.out.new hoE,rfl,rfl,KeepB.only hoE (by simp)⟩
theorem doesFree_any (w:World)(Y:StoreL)(ed:Option Nat)(D:Nat→List Nat)(X X':StoreS)(mb lb:Nat)(els:List PlEl)(sv:Value)(sns:List (SnapL × Value))(hs:StoreIn w Y ed D X)(hm:LawM w Y ed D mb lb els sv sns)(hn:els.length=Y.n)(b c:Int)(LA:Option Addr)(ln lc le:Nat)(j:Nat)(s:SnapL × Value)(hj:sns[j]?=some s)(his:s.1.is=true)(hop:∀W,StoreIn W Y ed D X→Calls prog 37 #[ptr Y.sb,.pointer none,snapV s.1.lease s.1.stamp] W (Turns Y ed D X' (.int .i64 0) W)):
  Calls prog 15 #[ptr mb,.agg #[.int .i64 7,.int .i64 (j:Int),.int .i64 b,.int .i64 c,.slice LA ln lc],.int .i64 (le:Int)] w (LawStep Y mb lb X' (els.map (·.2)) ((sns.map (·.1)).set j {s.1 with is:=false}) w):=by
 unfold snapV Turns at hop
 obtain⟨w0,hw0⟩:∃w0,w.alloc (.cells #[.int .i64 7,.int .i64 (j:Int),.int .i64 b,.int .i64 c,.slice LA ln lc] 34)=w0:=⟨_,rfl⟩
 have ho0:Only [] w w0:=by rw[←hw0];exact (Only.refl _ _).alloc _
 have hb4:Blk w0 w.heap.size [.int .i64 7,.int .i64 (j:Int),.int .i64 b,.int .i64 c,.slice LA ln lc] 34:=by rw[←hw0];exact Blk.new w _ 34
 have hm0:=hm.new ho0
 have m0:=hm0.m.cell (i:=0) rfl
 have c0:=hb4.cell (i:=0) rfl
 have c1:=hb4.cell (i:=1) rfl
 have HS:=hid hs;have HM:=hid hm;have HO0:=hid ho0;have HB4:=hid hb4;have HM0:=hid hm0;have HW0:=hid hw0
 obtain⟨A,sc,rfl,_,_⟩:=Qc hm.snaps
 have m2:=hm0.m.cell (i:=2) rfl
 obtain⟨g,rfl,s0,s1,s2,s3⟩:=hm0.sn hj
 rw[his] at s3
 have hgs:=hm0.svs g rfl
 have hjl:=(List.getElem?_eq_some_iff.1 hj).1
 have h1:¬((j:Int)<0):=by omega
 have h2:¬((sns.length:Int)≤(j:Int)):=by omega
 have h3:(0:Int)≤j:=by omega
 have h4:(j:Int)<sns.length:=by omega
 have h5:¬(sns.length≤j):=by omega
 have hd2:decide (sns.length≤j)=false:=by simpa using h5
 have hng:g≠w.heap.size:=by have:=(hm.svs g rfl).1.1;omega
 have hnm:g≠mb:=hgs.2.1
 have hgf:∀i,w0.frozen? ⟨g,i,none⟩=false:=own_frozen hm0.snaps
 have HSF4:=hid (Safe.fresh hs (Nat.le_refl w.heap.size) hb4.lt)
 have HJ:=hid hj;have HOP:=hid hop;have HGS:=hid hgs;have HNG:=hid hng;have HNM:=hid hnm
 unfold ptr at *
 clear hs hm hm0 ho0 hb4 hn hj his hjl hop hgs
 go_enter func15,ntmps15
 go_wp2_with fail
 clear hw0
 go_quiet (fail)
 go_wp2_with fail
 refine wp_region_held_drew (S:=(fun W=>W.cell? ⟨mb,2,none⟩=some (.slice (some ⟨g,0,none⟩) sns.length sc)∧W.cell? ⟨w.heap.size,1,none⟩=some (.int .i64 (j:Int)))) (by kernel_rfl) ?_ (fun hHeld=>?_)
 ·exact⟨m2,c1⟩
 refine tk 0 ?_
 refine tk 1 ?_
 refine tk 2 ?_
 refine tk 3 ?_
 refine tk 4 ?_
 refine tk 5 ?_
 refine tk 6 ?_
 refine tk 7 ?_
 refine on1 8 (fun K hK=>?_)
 go_simp
 refine hK.out _ _ (⟨cell_set_far m2 HNM.out,cell_set_far c1 HNG.out⟩) (fun hHeld=>?_)
 clear hK K
 try simp only[sp]
 refine wpAnyH_done (by kernel_rfl) ?_ _
 have hod:=(Only.refl [] w0).drewN (nq+1)
 replace m0:=Qa hod m0 (by simp)
 replace m2:=Qa hod m2 (by simp)
 replace c1:=Qa hod c1 (by simp)
 replace HM0:=hid (HM0.out.new hod)
 replace HO0:=hid (HO0.out.trans hod)
 replace HB4:=hid (HB4.out.only hod (by simp))
 replace HSF4:=hid (Safe.new hod HSF4.out).1
 replace HGS:=hid (HM0.out.svs g rfl)
 clear hod c0 s0 s1 s2 s3 hgf hHeld
 generalize w0.drewN (nq+1)=w0 at *
 obtain⟨W1,hW1⟩:∃W1,w0.setCell ⟨g,j*4+3,none⟩ (.bool false)=W1:=⟨_,rfl⟩
 have ho1:Only [g] w0 W1:=by rw[←hW1];exact (Only.refl _ _).setCell (.inl (by simp)) _
 have hm1:=HM0.out.unset HJ.out
 rw[hW1] at hm1
 have hs1:StoreIn W1 Y ed D X:=(HS.out.new HO0.out).only ho1 (fun k hk=>by obtain rfl:=List.mem_singleton.1 hk;exact HGS.out.1.2)
 have hx1:(sns.set j ({s.1 with is:=false},s.2))[j]?=some ({s.1 with is:=false},s.2):=List.getElem?_set_self (List.getElem?_eq_some_iff.1 HJ.out).1
 obtain⟨g',eg,t0,t1,_,_⟩:=hm1.sn hx1
 injection eg with eg
 injection eg with eg _
 subst eg
 dsimp only at t0 t1
 have n0:=hm1.m.cell (i:=0) rfl
 have n2:=hm1.m.cell (i:=2) rfl
 have hb4':=HB4.out.only ho1 (by simpa using HNG.out.symm)
 have d1:=hb4'.cell (i:=1) rfl
 have hsf:Safe W1 Y ed D w.heap.size:=((HSF4.out).other ho1 HNG.out.symm).1
 have HSF1:=hid hsf;have HM1:=hid hm1;have HS1:=hid hs1;have HO1:=hid ho1;have HB4':=hid hb4'
 unfold ptr at n0
 rw[List.length_set] at n2
 rw[hW1]
 clear hW1 ho1 hm1 hs1 hx1 hb4' hsf m0 m2 c1
 go_wp2_with fail
 refine wp_region_held_drew (S:=(fun W=>W.cell? ⟨mb,0,none⟩=some (.pointer (some ⟨Y.sb,0,none⟩))∧W.cell? ⟨mb,2,none⟩=some (.slice (some ⟨g,0,none⟩) sns.length sc)∧W.cell? ⟨w.heap.size,1,none⟩=some (.int .i64 (j:Int))∧W.cell? ⟨g,j*4,none⟩=some (.int .i64 (s.1.lease:Int))∧W.cell? ⟨g,j*4+1,none⟩=some (.int .i64 s.1.stamp))) (by kernel_rfl) ?_ (fun hHeld=>?_)
 ·exact⟨n0,n2,d1,t0,t1⟩
 refine tk 0 ?_
 refine tk 1 ?_
 refine tk 2 ?_
 refine tk 3 ?_
 refine tk 4 ?_
 refine tk 5 ?_
 refine tk 6 ?_
 refine tk 7 ?_
 refine tk 8 ?_
 refine tk 9 ?_
 refine tk 10 ?_
 refine tk 11 ?_
 refine tk 12 ?_
 refine on1 13 (fun K hK=>?_)
 go_simp;go_at_call 37;refine (HOP.out _ (HS1.out.new (Only.drew [] _))).mono ?_;rintro en wS ⟨rfl,hsS,hmS⟩;have hmS1:Moves Y (Qw Y ed D) (Qw Y ed D) W1 wS:=⟨hmS.os,hmS.tape,hmS.output,hmS.size,hmS.block,hmS.dyn⟩;have HSS:=hid hsS;have HMS:=hid hmS1;have hbS:=HB4'.out.heap (Safe.moves hmS1 HSF1.out).2;have hgk:=(Safe.moves hmS1 (HM1.out.svs g rfl).1).2;have z0:=Qp n0 (Safe.moves hmS1 HM1.out.ms).2;have z2:=Qp n2 (Safe.moves hmS1 HM1.out.ms).2;have z1:=hbS.cell (i:=1) rfl;have u0:=Qp t0 hgk;have u1:=Qp t1 hgk;clear hsS hmS hmS1 hbS hgk
 refine hK.out _ _ (⟨z0,z2,z1,u0,u1⟩) (fun hHeld=>?_)
 clear hK K
 try simp only[sp]
 refine tk 14 ?_
 refine tk 15 ?_
 refine wpAnyH_done (by kernel_rfl) ?_ _
 go_wp2_with fail
 go_ret
 exact⟨rfl,ed,D,els,_,_,HSS.out,HM1.out.moves HMS.out,rfl,by rw[List.map_set],((KeepB.only HO0.out (by simp)).trans (KeepB.only HO1.out (fun k hk=>by obtain rfl:=List.mem_singleton.1 hk;exact HGS.out.1.2.1))).trans (KeepB.moves HMS.out (fun k hk=>(HS.out.dyn_lt hk).1))⟩
end Go.Proofs.YteeefedoffplmaaGreat
