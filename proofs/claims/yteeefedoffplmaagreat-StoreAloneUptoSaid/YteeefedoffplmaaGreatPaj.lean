/- StoreAlone, part Paj: TreePut, VersP, State, StateW. -/
import Derived.Test.YteeefedoffplmaaGreatPai
set_option linter.unusedSimpArgs false
set_option linter.unusedVariables false
set_option maxRecDepth 100000
set_option maxHeartbeats 51200000
namespace Go.Proofs.YteeefedoffplmaaGreat
open Go.RowKit Lib Go.Proofs.Tryz
section
theorem placeX_zero:∀n,placeX n 0=-1
 |0=>rfl
 |_+1=>rfl
theorem placeX_is:∀(n a b:Nat),a<2 ^ n→b<2 ^ n→a≠b→∃q:Nat,placeX n (a ^^^ b)=q∧q<n∧a / 2 ^ (q+1)=b / 2 ^ (q+1)∧a / 2 ^ q≠b / 2 ^ q
 |0,a,b,ha,hb,hne=>by
  rw[Nat.pow_zero] at ha hb
  omega
 |n+1,a,b,ha,hb,hne=>by
  have hx:a ^^^ b≠0:=fun e=>hne (by
   have h:=congrArg (· ^^^ b) e
   simpa [Nat.xor_assoc] using h)
  have hd:(a ^^^ b) / 2=a / 2 ^^^ b / 2:=Nat.xor_div_two
  rw[Nat.pow_succ] at ha hb
  unfold placeX
  rw[if_neg hx,hd]
  by_cases e:a / 2=b / 2
  ·rw[e,Nat.xor_self,placeX_zero]
   exact⟨0,rfl,by omega,by simpa using e,by simpa using hne⟩
  ·obtain⟨q,h1,h2,h3,h4⟩:=placeX_is n (a / 2) (b / 2) (by omega) (by omega) e
   refine⟨q+1,by rw[h1];omega,by omega,?_,?_⟩
   ·rw[Nat.div_div_eq_div_mul,Nat.div_div_eq_div_mul,←Nat.pow_succ'] at h3
    exact h3
   ·rw[Nat.div_div_eq_div_mul,Nat.div_div_eq_div_mul,←Nat.pow_succ'] at h4
    exact h4
theorem fork_at {k lo:Int}(h0:0≤k)(h1:k≤4294967295)(l0:0≤lo)(l1:lo≤4294967295)(hne:k≠lo):
  ∃(q:Nat) (F:Int),placeOf k.toNat lo.toNat=q∧F=lo / Qi (q+1)*Qi (q+1)∧F % Qi (q+1)=0∧(k<lo→F≤k∧k<F+Qi q∧F+Qi q≤lo∧lo<F+Qi (q+1))∧(¬k<lo→F≤lo∧lo<F+Qi q∧F+Qi q≤k∧k<F+Qi (q+1)):=by
 obtain⟨a,rfl⟩:=Int.eq_ofNat_of_zero_le h0
 obtain⟨b,rfl⟩:=Int.eq_ofNat_of_zero_le l0
 obtain⟨q,h2,h3,h4,h5⟩:=placeX_is 33 a b (by omega) (by omega) (by omega)
 refine⟨q,((b / 2 ^ (q+1)*2 ^ (q+1):Nat):Int),h2,?_,?_,?_,?_⟩
 ·unfold Qi
  rw[Int.natCast_mul,Int.natCast_ediv]
 ·unfold Qi
  rw[←Int.natCast_emod,Nat.mul_mod_left]
  rfl
 all_goals
  intro hk
  have hm:=Nat.two_pow_pos q
  have e1:2 ^ (q+1)=2*2 ^ q:=Nat.pow_succ'
  unfold Qi
  rw[e1] at h4 ⊢
  generalize 2 ^ q=m at *
  have a1:=Nat.div_add_mod a m
  have a2:=Nat.mod_lt a hm
  have b1:=Nat.div_add_mod b m
  have b2:=Nat.mod_lt b hm
  have ea:a / (2*m)=a / m / 2:=by rw[Nat.div_div_eq_div_mul,Nat.mul_comm]
  have eb:b / (2*m)=b / m / 2:=by rw[Nat.div_div_eq_div_mul,Nat.mul_comm]
  rw[ea,eb] at h4
  rw[eb]
  generalize a / m=A at *
  generalize b / m=B at *
  have ex:B / 2*(2*m)=2*(m*(B / 2)):=by rw[Nat.mul_comm (B / 2),Nat.mul_assoc]
  rw[ex]
  have hA:A=2*(B / 2)∨A=2*(B / 2)+1:=by omega
  have hB:B=2*(B / 2)∨B=2*(B / 2)+1:=by omega
  have mA:m*A=2*(m*(B / 2))∧A=2*(B / 2)∨m*A=2*(m*(B / 2))+m∧A=2*(B / 2)+1:=by
   rcases hA with e|e
   ·left
    exact⟨by rw[e,Nat.mul_left_comm],e⟩
   ·right
    exact⟨by rw[e,Nat.mul_add,Nat.mul_left_comm,Nat.mul_one],e⟩
  have mB:m*B=2*(m*(B / 2))∧B=2*(B / 2)∨m*B=2*(m*(B / 2))+m∧B=2*(B / 2)+1:=by
   rcases hB with e|e
   ·left
    exact⟨by rw[show m*B=m*(2*(B / 2)) by rw[←e],Nat.mul_left_comm],e⟩
   ·right
    exact⟨by rw[show m*B=m*(2*(B / 2)+1) by rw[←e],Nat.mul_add,Nat.mul_left_comm,Nat.mul_one],e⟩
  generalize m * (B / 2)=X at *
  generalize m * A=Y at *
  generalize m * B=Z at *
  omega
theorem blk_lo {M L x:Int}(hM:0<M)(hL:L % M=0)(h:L≤x):L≤x / M*M:=by
 have h1:=Int.ediv_le_ediv hM h
 have h2:L / M*M=L:=Int.ediv_mul_cancel (Int.dvd_of_emod_eq_zero hL)
 have h3:=Int.mul_le_mul_of_nonneg_right h1 (Int.le_of_lt hM)
 omega
theorem blk_hi {M E x:Int}(hM:0<M)(hE:E % M=0)(h:x<E):x / M*M+M≤E:=by
 have h2:E / M*M=E:=Int.ediv_mul_cancel (Int.dvd_of_emod_eq_zero hE)
 have h1:x / M<E / M:=Int.ediv_lt_of_lt_mul hM (by omega)
 have h3:(x / M+1)*M≤E / M*M:=Int.mul_le_mul_of_nonneg_right (by omega) (Int.le_of_lt hM)
 rw[Int.add_mul,Int.one_mul] at h3
 omega
theorem pow2_dvd {a b:Nat}(h:a≤b):Qi a ∣ Qi b:=by
 unfold Qi
 exact Int.natCast_dvd_natCast.2 (Nat.pow_dvd_pow 2 h)
theorem mod_of_dvd {a b x:Int}(h:a ∣ b)(hx:x % b=0):x % a=0:=Int.emod_eq_zero_of_dvd (Int.dvd_trans h (Int.dvd_of_emod_eq_zero hx))
def Tr.lo:Tr→Int
 |.leaf _ k _=>k
 |.node _ _ f _ _ _=>f
theorem Tr.lo_shape (t:Tr):t.shape.lo=t.lo:=by cases t <;> rfl
theorem Tr.Ok.count {t:Tr}{L:Int}{d:Nat}(h:t.Ok L d):t.shape.count=t.leaves:=by
 cases t with
 |leaf a k v=>rfl
 |node a p f c l r=>exact h.2.2.2.2.2.2
theorem fork_ok {k:Int}{T:Tr}{w:List Sp}{u:Tr}{L:Int}{d:Nat}(hs:Split k T w u L d)(h0:0≤k)(h1:k≤4294967295)(hne:∀a k' v,u=.leaf a k' v→k'≠k):
  ∃(q:Nat) (F:Int),placeOf k.toNat u.lo.toNat=q∧F=u.lo / Qi (q+1)*Qi (q+1)∧∀a b v,
   let t':=Tr.node a q F ((u.leaves+1:Nat):Int) (if k<u.lo then .leaf b k v else u) (if k<u.lo then u else .leaf b k v)
   t'.Ok L d∧∀k',t'.find k'=if k'=k then some v else u.find k':=by
 have hl:=hs.way.low
 have hlo:=hs.lo;have hhi:=hs.hi
 have hu:L≤u.lo∧u.lo<L+Qi d:=by
  have ho:=hs.ok
  cases u with
  |leaf a k' v=>exact ho
  |node a p f c l r=>
   have:=ho.2.2.1;have:=ho.2.2.2.1;have:=pow2_pos (p+1)
   exact⟨by show L≤f;omega,by show f<_;omega⟩
 have hkl:k≠u.lo:=by
  cases u with
  |leaf a k' v=>exact fun e=>hne a k' v rfl e.symm
  |node a p f c l r=>
   intro e
   have:k=f:=e
   have:=pow2_pos (p+1)
   exact hs.ends a p f c l r rfl ⟨by omega,by omega⟩
 obtain⟨q,F,e1,e2,e3,e4,e5⟩:=fork_at h0 h1 (lo:=u.lo) (by omega) (by omega) hkl
 refine⟨q,F,e1,e2,fun a b v=>?_⟩
 have hq1:=pow2_succ q
 have hq0:=pow2_pos q
 have hqd:q<d:=by
  refine Nat.lt_of_not_le fun hc=>?_
  have d1:(F+Qi q) % Qi d=0:=by
   have x1:Qi d ∣ F:=Int.dvd_trans (pow2_dvd (by omega:d≤q+1)) (Int.dvd_of_emod_eq_zero e3)
   have x2:Qi d ∣ Qi q:=pow2_dvd hc
   exact Int.emod_eq_zero_of_dvd (Int.dvd_add x1 x2)
  have hd0:=pow2_pos d
  by_cases hk:k<u.lo
  ·have a1:=e4 hk
   have a2:=blk_hi (x:=k) (by omega) d1 (by omega)
   have a3:=blk_lo (x:=k) (by omega) hl.2.2.2 hlo
   omega
  ·have a1:=e5 hk
   have a2:=blk_hi (x:=u.lo) (by omega) d1 (by omega)
   have a3:=blk_lo (x:=u.lo) (by omega) hl.2.2.2 hu.1
   omega
 have hdv:Qi (q+1) ∣ Qi d:=pow2_dvd hqd
 have b1:L≤F:=by
  rw[e2]
  exact blk_lo (by omega) (mod_of_dvd hdv hl.2.2.2) hu.1
 have b2:F+Qi (q+1)≤L+Qi d:=by
  rw[e2]
  refine blk_hi (by omega) ?_ hu.2
  exact Int.emod_eq_zero_of_dvd (Int.dvd_add (Int.dvd_trans hdv (Int.dvd_of_emod_eq_zero hl.2.2.2)) hdv)
 have huk:∀X,X≤u.lo→u.lo<X+Qi q→X % Qi q=0→u.Ok X q:=by
  intro X x1 x2 x3
  have ho:=hs.ok
  cases u with
  |leaf a k' v=>exact⟨x1,x2⟩
  |node a p f c l r=>
   obtain⟨o1,o2,o3,o4,o5,o6,o7⟩:=ho
   have x1:X≤f:=x1
   have x2:f<X+Qi q:=x2
   have hpq:p<q:=by
    refine Nat.lt_of_not_le fun hc=>hs.ends a p f c l r rfl ?_
    have hm:f % Qi (q+1)=0:=mod_of_dvd (pow2_dvd (by omega:q+1≤p+1)) o2
    have hF:F=f:=by
     rw[e2]
     exact Int.ediv_mul_cancel (Int.dvd_of_emod_eq_zero hm)
    have hle:=pow2_le (by omega:q+1≤p+1)
    have e4:k<f→F≤k∧k<F+Qi q∧F+Qi q≤f∧f<F+Qi (q+1):=e4
    have e5:¬k<f→F≤f∧f<F+Qi q∧F+Qi q≤k∧k<F+Qi (q+1):=e5
    by_cases hk:k<f
    ·have:=e4 hk
     omega
    ·have:=e5 hk
     omega
   have hM:=pow2_pos (p+1)
   have hd2:Qi (p+1) ∣ Qi q:=pow2_dvd hpq
   have x4:=blk_hi (M:=Qi (p+1)) (E:=X+Qi q) (x:=f) (by omega) (Int.emod_eq_zero_of_dvd (Int.dvd_add (Int.dvd_trans hd2 (Int.dvd_of_emod_eq_zero x3)) hd2)) x2
   rw[Int.ediv_mul_cancel (Int.dvd_of_emod_eq_zero o2)] at x4
   exact⟨hpq,o2,x1,x4,o5,o6,o7⟩
 have hFq:F % Qi q=0:=mod_of_dvd (pow2_dvd (by omega:q≤q+1)) e3
 have hFq2:(F+Qi q) % Qi q=0:=by rw[Int.add_emod_right];exact hFq
 by_cases hk:k<u.lo
 ·obtain⟨g1,g2,g3,g4⟩:=e4 hk
  have huo:=huk (F+Qi q) g3 (by omega) hFq2
  rw[if_pos hk,if_pos hk]
  refine⟨⟨hqd,e3,b1,b2,⟨g1,g2⟩,huo,?_⟩,fun k'=>?_⟩
  ·show ((u.leaves+1:Nat):Int)=((1+u.leaves:Nat):Int)
   omega
  ·show (if F≤k'∧k'<F+Qi (q+1) then (if F+Qi q≤k' then u.find k' else (if k=k' then some v else none)) else none)=_
   by_cases hc:k'=k
   ·subst hc
    rw[if_pos ⟨g1,by omega⟩,if_neg (by omega),if_pos rfl,if_pos rfl]
   ·rw[if_neg hc,if_neg (show ¬k=k' from fun e=>hc e.symm)]
    by_cases c1:F≤k'∧k'<F+Qi (q+1)
    ·rw[if_pos c1]
     by_cases c2:F+Qi q≤k'
     ·rw[if_pos c2]
     ·rw[if_neg c2,Tr.find_out huo (by omega)]
    ·rw[if_neg c1,Tr.find_out huo (by omega)]
 ·obtain⟨g1,g2,g3,g4⟩:=e5 hk
  have huo:=huk F g1 g2 hFq
  rw[if_neg hk,if_neg hk]
  refine⟨⟨hqd,e3,b1,b2,huo,⟨g3,by omega⟩,rfl⟩,fun k'=>?_⟩
  show (if F≤k'∧k'<F+Qi (q+1) then (if F+Qi q≤k' then (if k=k' then some v else none) else u.find k') else none)=_
  by_cases hc:k'=k
  ·subst hc
   rw[if_pos ⟨by omega,g4⟩,if_pos g3,if_pos rfl,if_pos rfl]
  ·rw[if_neg hc,if_neg (show ¬k=k' from fun e=>hc e.symm)]
   by_cases c1:F≤k'∧k'<F+Qi (q+1)
   ·rw[if_pos c1]
    by_cases c2:F+Qi q≤k'
    ·rw[if_pos c2,Tr.find_out huo (by omega)]
    ·rw[if_neg c2]
   ·rw[if_neg c1,Tr.find_out huo (by omega)]
def Qs:Option Tr→Int
 |none=>0
 |some t=>t.h
def mhs:Option Tr→List Int
 |none=>[]
 |some t=>t.hs
def mfind (k:Int):Option Tr→Option Int
 |none=>none
 |some t=>t.find k
def MIn (S:PoolS):Option Tr→Prop
 |none=>True
 |some t=>t.In S
def MOk:Option Tr→Prop
 |none=>True
 |some t=>t.Ok 0 32
def mleaves:Option Tr→Nat
 |none=>0
 |some t=>t.leaves
theorem MIn.of {S S':PoolS}{T:Option Tr}(h:MIn S T)(e:∀a∈mhs T,∀n,S.read a=some n→S'.read a=some n):MIn S' T:=by
 cases T with
 |none=>trivial
 |some t=>exact Tr.In.of h e
theorem MIn.keep {S S':PoolS}{T:Option Tr}(h:MIn S T)(k:Keep S S'):MIn S' T:=h.of fun _ _ _ e=>k.read e
theorem MIn.alive {S:PoolS}{T:Option Tr}(h:MIn S T):∀a∈mhs T,∃s,S.at a=some s:=by
 cases T with
 |none=>exact fun _ h=>by cases h
 |some t=>exact Tr.In.alive h
theorem at_nz {S:PoolS}{a:Int}{s:SlotS}(h:S.at a=some s):a≠0:=by
 rintro rfl
 have:=(at_some.1 h).2.1
 revert this
 decide
theorem Tr.In.nz {S:PoolS}{t:Tr}(h:t.In S):t.h≠0:=by
 obtain⟨s,hs⟩:=h.alive _ t.h_mem
 exact at_nz hs
theorem mhs_len (T:Option Tr):(mhs T).length≤2*mleaves T:=by
 cases T with
 |none=>exact Nat.zero_le _
 |some t=>
  have:=t.hs_len
  show t.hs.length≤2*t.leaves
  omega
theorem mfind_is {S:PoolS}{T:Option Tr}(k:Int)(hi:MIn S T)(ho:MOk T)(h0:0≤k)(h1:k≤4294967295):S.find (Qs T) k=some ((mfind k T).getD 0,(mfind k T).isSome):=by
 cases T with
 |none=>rfl
 |some t=>exact find_root k hi ho h0 h1 (Tr.In.nz hi)
structure Edits (N:Nat)(S S':PoolS)(own:List Int)(G:Int)(T T':Option Tr)(k:Int)(X:Option Int)(e:EditS):Prop where
 made:Mk N S S' own G e.made
 tin:MIn S' T'
 tok:MOk T'
 find:∀k',mfind k' T'=if k'=k then X else mfind k' T
 perm:(mhs T ++ e.made).Perm (mhs T' ++ e.gone)
 root:e.root=Qs T'
 old:e.old=(mfind k T).getD 0
 had:e.had=(mfind k T).isSome
 len:e.made.length≤34
 leaves:mleaves T'≤mleaves T+1
theorem plug_leaves:∀(w:List Sp) (t:Tr),(plug w t).leaves=t.leaves+(w.map fun s=>s.sib.leaves).sum
 |[],t=>by simp[plug]
 |s :: l,t=>by
  have:=plug_leaves l (s.put t)
  have:=s.put_leaves t
  simp only[plug,List.map_cons,List.sum_cons]
  omega
theorem again_leaves (more:Int):∀(w:List Sp) (xs'':List Int),w.length=xs''.length→(again more w xs'').map (fun s=>s.sib.leaves)=w.map (fun s=>s.sib.leaves)
 |[],[],_=>rfl
 |[],_ :: _,h=>by cases h
 |_ :: _,[],h=>by cases h
 |s :: l,a :: xs'',h=>by
  simp only[again,List.map_cons]
  rw[again_leaves more l xs'' (by simpa using h)]
theorem plug_h_mem:∀(w:List Sp) (t:Tr),(plug w t).h∈t.h :: w.map Sp.h
 |[],t=>by simp[plug]
 |s :: l,t=>by
  have:=plug_h_mem l (s.put t)
  rw[Sp.put_h] at this
  show (plug l (s.put t)).h∈_
  simp only[List.map_cons,List.mem_cons] at this ⊢
  grind
theorem plug_in {S:PoolS}:∀{w:List Sp} {t:Tr},(plug w t).In S→t.In S∧∀s∈w,s.sib.In S
 |[],t,h=>⟨h,fun _ h=>by cases h⟩
 |s :: l,t,h=>by
  have ih:=plug_in (w:=l) (t:=s.put t) h
  have hp:t.In S∧s.sib.In S:=by
   have:=ih.1
   unfold Sp.put at this
   split at this
   ·exact⟨this.2.2,this.2.1⟩
   ·exact⟨this.2.1,this.2.2⟩
  refine⟨hp.1,fun x hx=>?_⟩
  rcases List.mem_cons.1 hx with rfl|hx
  ·exact hp.2
  ·exact ih.2 x hx
theorem rebuild {N:Nat}{S0 S:PoolS}{own new:List Int}{G:Int}{k:Int}{X:Option Int}{T u t:Tr}{w:List Sp}{L:Int}{d:Nat}(his:plug w u=T)(hal:Along k w)(hway:Way w L d u.leaves)(hlw:w.length≤32)(hT:T.In S)(m:EditS)
  (hk:Mk N S0 S own G new) (hn:own.length+new.length+w.length≤N) (hG:G+new.length+w.length≤MaxTag) (ht:t.In S) (hto:t.Ok L d) (hm:m.root=t.h) (hmade:m.made=new) (more:Int) (hmore:(t.leaves:Int)=u.leaves+more) (hl1:t.leaves≤u.leaves+1)
  (hf:∀k',t.find k'=if k'=k then X else u.find k') (hp:(u.hs ++ new).Perm (t.hs ++ m.gone)) (hold:m.old=(T.find k).getD 0) (hhad:m.had=(T.find k).isSome) (hlen:new.length≤2):
  ∃e S' T',Zl more (steps w u) (m,S)=some (e,S')∧Edits N S0 S' own G (some T) (some T') k X e∧T'.h∈t.h :: e.made:=by
 have hin:(plug w u).In S:=by rw[his];exact hT
 obtain⟨xs'',S',e1,e2,e3,e4⟩:=upwards_is (N:=N) more w u t m S (new ++ own) (G+new.length) hk.inv (by simp only[List.length_append];omega) (by omega) (plug_in hin).2 ht hm
 have hla:w.length=xs''.length:=e1.symm
 have hall:new ++ xs''=m.made ++ xs'':=by rw[hmade]
 refine⟨_,S',_,e2,⟨?_,e4,?_,?_,?_,rfl,hold,hhad,?_,?_⟩,?_⟩
 ·dsimp only
  rw[←hall]
  exact hk.trans e3
 ·refine Way.plug (L:=L) (d:=d) ?_ hto
  rw[hmore]
  exact again_way more w xs'' L d _ hla hway
 ·intro k'
  have:=again_find (X:=X) more w xs'' u t hla hal hf k'
  rw[his] at this
  exact this
 ·dsimp only
  rw[←hall]
  have h1:=plug_hs (again more w xs'') t
  have h2:=plug_hs w u
  rw[his] at h2
  rw[again_h more w xs'' hla,again_sibs more w xs'' hla] at h1
  refine List.perm_iff_count.2 fun x=>?_
  have c1:=List.perm_iff_count.1 h1 x
  have c2:=List.perm_iff_count.1 h2 x
  have c3:=List.perm_iff_count.1 hp x
  simp only[mhs,List.count_append] at c1 c2 c3 ⊢
  omega
 ·dsimp only
  rw[←hall,List.length_append,e1]
  omega
 ·have h1:=plug_leaves (again more w xs'') t
  have h2:=plug_leaves w u
  rw[again_leaves more w xs'' hla] at h1
  rw[his] at h2
  show (plug (again more w xs'') t).leaves≤T.leaves+1
  omega
 ·have:=plug_h_mem (again more w xs'') t
  rw[again_h more w xs'' hla] at this
  dsimp only
  rw[←hall]
  simp only[List.mem_cons,List.mem_append] at this ⊢
  grind
theorem put_is {N:Nat}{S:PoolS}{own:List Int}{G:Int}{T:Option Tr}(k v:Int)(h:PInv N S own G)(hn:own.length+34≤N)(hG:G+34≤MaxTag)(hi:MIn S T)(ho:MOk T)(h0:0≤k)(h1:k≤4294967295):
  ∃e S' T',S.trieput (Qs T) k v=some (e,S')∧Edits N S S' own G T T' k (some v) e∧(mfind k T=some v→e.root=Qs T)∧(mfind k T≠some v→e.root∈e.made):=by
 cases T with
 |none=>
  obtain⟨a,S',e1,k1,r1⟩:=makes_is h (by omega) (by omega) ⟨0,k,v,1⟩ .zero
  refine⟨_,S',some (.leaf a k v),e1,⟨?_,r1,?_,?_,?_,rfl,rfl,rfl,?_,?_⟩,?_,?_⟩
  ·exact k1
  ·exact⟨h0,by rw[pow2_32];omega⟩
  ·intro k'
   show (if k=k' then some v else none)=if k'=k then some v else none
   by_cases e:k'=k
   ·rw[if_pos e,if_pos e.symm]
   ·rw[if_neg e,if_neg (fun h=>e h.symm)]
  ·exact List.Perm.refl _
  ·exact (by omega:1≤34)
  ·exact Nat.le_refl 1
  ·intro e
   cases e
  ·intro _
   exact List.mem_singleton.2 rfl
 |some T=>
  have hin:T.In S:=hi
  have hok:T.Ok 0 32:=ho
  obtain⟨w,u,L,d,hs,hd⟩:=down_root k hin hok h0 h1
  have hlen:=hs.len
  have hfd:=hs.find
  have huin:u.In S:=(plug_in (w:=w) (t:=u) (by rw[hs.is];exact hin)).1
  have hun:∀m' S',Zl 1 (steps w u).reverse.reverse (m',S')=Zl 1 (steps w u) (m',S'):=fun _ _=>by rw[List.reverse_reverse]
  unfold PoolS.trieput
  show ∃e S' T',(if T.h=0 then _ else _)=_∧_
  rw[if_neg hin.nz,show Qs (some T)=T.h from rfl,hd,Option.bind_eq_bind,Option.bind_some]
  have hsplit:∀(hne:∀a k' v,u=.leaf a k' v→k'≠k),∃e S' T',(splits u.h u.shape k v (EditS.zero,S)).bind (fun x=>Zl 1 (steps w u).reverse.reverse x)=some (e,S')∧Edits N S S' own G (some T) T' k (some v) e∧(mfind k (some T)=some v→e.root=Qs (some T))∧(mfind k (some T)≠some v→e.root∈e.made):=by
   intro hne
   have hfn:T.find k=none:=by
    rw[hfd]
    unfold Tr.ends
    cases u with
    |leaf a k' v'=>exact if_neg (hne a k' v' rfl)
    |node a p f c l r=>rfl
   obtain⟨q,F,f1,f2,f3⟩:=fork_ok hs h0 h1 hne
   obtain⟨a1,S1,e1,k1,r1⟩:=makes_is h (by omega) (by omega) ⟨0,k,v,1⟩ .zero
   have k1i:=k1.inv
   obtain⟨a2,S2,e2,k2,r2⟩:=makes_is k1i (by simp only[List.length_append,List.length_singleton];omega) (by simp only[List.length_singleton];omega) ⟨F*64+q+1,if k<u.lo then a1 else u.h,if k<u.lo then u.h else a1,((u.leaves+1:Nat):Int)⟩ {EditS.zero with root:=a1,made:=[] ++ [a1]}
   obtain⟨f4,f5⟩:=f3 a2 a1 v
   have k12:=k1.trans k2
   have htin:(Tr.node a2 q F ((u.leaves+1:Nat):Int) (if k<u.lo then .leaf a1 k v else u) (if k<u.lo then u else .leaf a1 k v)).In S2:=by
    have y1:(Tr.leaf a1 k v).In S2:=k2.keep.read r1
    have y2:u.In S2:=huin.keep k12.keep
    by_cases hk:k<u.lo
    ·rw[if_pos hk,if_pos hk] at r2 ⊢
     exact⟨r2,y1,y2⟩
    ·rw[if_neg hk,if_neg hk] at r2 ⊢
     exact⟨r2,y2,y1⟩
   obtain⟨e,S',T',g1,g2,g3⟩:=rebuild (X:=some v) hs.is hs.along hs.way (by omega) (hin.keep k12.keep) {EditS.zero with root:=a2,made:=([] ++ [a1]) ++ [a2]} k12 (by simp only[List.length_append,List.length_singleton];omega)
    (by simp only[List.length_append,List.length_singleton];omega) htin f4 rfl rfl 1 (by simp only[Tr.leaves];split <;> simp only[Tr.leaves] <;> omega) (by simp only[Tr.leaves];split <;> simp only[Tr.leaves] <;> omega) f5
    (by
     refine List.perm_iff_count.2 fun x=>?_
     simp only[Tr.hs,EditS.zero]
     split <;> simp only[Tr.hs,List.count_append,List.count_cons,List.count_nil] <;> omega)
    (by rw[hfn];rfl) (by rw[hfn];rfl) (by simp)
   refine⟨e,S',some T',?_,g2,?_,fun _=>?_⟩
   ·have hp:splits u.h u.shape k v (EditS.zero,S)=some ({EditS.zero with root:=a2,made:=([] ++ [a1]) ++ [a2]},S2):=by
     unfold splits mkLeaf
     show (makes ⟨0,k,v,1⟩ (EditS.zero,S)).bind _=_
     rw[e1,Option.bind_some]
     dsimp only
     rw[Tr.lo_shape,f1,if_pos (by omega),Int.toNat_natCast,←f2,hs.ok.count]
     show makes ⟨F*64+q+1,_,_,(u.leaves:Int)+1⟩ _=_
     rw[show (u.leaves:Int)+1=((u.leaves+1:Nat):Int) by omega]
     exact e2
    rw[hp,Option.bind_some,hun]
    exact g1
   ·intro e
    have:T.find k=some v:=e
    rw[hfn] at this
    cases this
   ·rw[g2.root]
    rcases List.mem_cons.1 g3 with g3|g3
    ·show T'.h∈_
     rw[g3]
     have:a2∈e.made:=by
      have hh:=g2.perm
      have:a2∈mhs (some T) ++ e.made:=hh.mem_iff.2 (List.mem_append_left _ (by
       have:T'.h=a2:=g3
       rw[←this]
       exact T'.h_mem))
      rcases List.mem_append.1 this with hm|hm
      ·obtain⟨s,hs'⟩:=hin.alive _ hm
       exact absurd (k1.keep _ _ hs') (fun hq=>k2.fresh a2 (by simp) s hq)
      ·exact hm
     exact this
    ·exact g3
  cases u with
  |leaf a k' v'=>
   simp only[Tr.shape]
   by_cases hk:k'=k
   ·rw[if_pos hk]
    subst hk
    have hfv:T.find k'=some v':=by
     rw[hfd]
     exact if_pos rfl
    by_cases hv:v'=v
    ·rw[if_pos hv]
     subst hv
     refine⟨_,S,some T,rfl,⟨Mk.none h,hin,hok,?_,List.Perm.refl _,rfl,?_,?_,by simp[EditS.zero],Nat.le_succ _⟩,fun _=>rfl,fun hc=>absurd hfv hc⟩
     ·intro k''
      by_cases e:k''=k'
      ·rw[if_pos e,e];exact hfv
      ·rw[if_neg e]
     ·show v'=(T.find k').getD 0
      rw[hfv];rfl
     ·show true=(T.find k').isSome
      rw[hfv];rfl
    ·rw[if_neg hv]
     obtain⟨a1,S1,e1,k1,r1⟩:=makes_is h (by omega) (by omega) ⟨0,k',v,1⟩ {EditS.zero with old:=v',had:=true,gone:=[a]}
     obtain⟨e,S',T',g1,g2,g3⟩:=rebuild (X:=some v) (t:=.leaf a1 k' v) hs.is hs.along hs.way (by omega) (hin.keep k1.keep) {EditS.zero with root:=a1,made:=[] ++ [a1],old:=v',had:=true,gone:=[a]} k1 (by simp only[List.length_singleton];omega)
      (by simp only[List.length_singleton];omega) r1 hs.ok rfl rfl 0 (by simp only[Tr.leaves];omega) (by simp only[Tr.leaves];omega)
      (fun k''=>by
       show (if k'=k'' then some v else none)=if k''=k' then some v else (if k'=k'' then some v' else none)
       by_cases e:k''=k'
       ·rw[if_pos e,if_pos e.symm]
       ·rw[if_neg e,if_neg (show ¬k'=k'' from fun h=>e h.symm),if_neg (show ¬k'=k'' from fun h=>e h.symm)])
      (by
       refine List.perm_iff_count.2 fun x=>?_
       simp only[Tr.hs,List.count_append,List.count_cons,List.count_nil]
       omega)
      (by rw[hfv];rfl) (by rw[hfv];rfl) (by simp)
     refine⟨e,S',some T',?_,g2,?_,fun _=>?_⟩
     ·show (makes ⟨0,k',v,1⟩ ({EditS.zero with old:=v',had:=true,gone:=[a]},S)).bind _=_
      rw[e1,Option.bind_some,List.reverse_reverse]
      exact g1
     ·intro e
      have:T.find k'=some v:=e
      rw[hfv] at this
      cases this
      exact absurd rfl hv
     ·rw[g2.root]
      show T'.h∈_
      rcases List.mem_cons.1 g3 with g3|g3
      ·rw[g3]
       have hh:=g2.perm
       have:a1∈mhs (some T) ++ e.made:=hh.mem_iff.2 (List.mem_append_left _ (by
        have:T'.h=a1:=g3
        rw[←this]
        exact T'.h_mem))
       rcases List.mem_append.1 this with hm|hm
       ·obtain⟨s,hs'⟩:=hin.alive _ hm
        exact absurd hs' (fun hq=>k1.fresh a1 (by simp) s hq)
       ·exact hm
      ·exact g3
   ·rw[if_neg hk]
    refine hsplit (fun a' k'' v'' e=>?_)
    cases e
    exact hk
  |node a p f c l r=>
   exact hsplit (fun a' k'' v'' e=>by cases e)
theorem Tr.Ok.wider:∀{t:Tr} {L L':Int} {d d':Nat},t.Ok L d→L'≤L→L+Qi d≤L'+Qi d'→d≤d'→t.Ok L' d'
 |.leaf _ _ _,L,L',d,d',h,h1,h2,_=>by
  have a1:=h.1;have a2:=h.2
  exact⟨by omega,by omega⟩
 |.node _ _ _ _ _ _,L,L',d,d',h,h1,h2,h3=>by
  obtain⟨a1,a2,a3,a4,a5⟩:=h
  exact⟨by omega,a2,by omega,by omega,a5⟩
theorem drop_none {S:PoolS}{T:Option Tr}(k:Int)(hi:MIn S T)(ho:MOk T)(h0:0≤k)(h1:k≤4294967295)(hf:mfind k T=none):S.triedrop (Qs T) k=some none:=by
 cases T with
 |none=>rfl
 |some T=>
  have hin:T.In S:=hi
  have hok:T.Ok 0 32:=ho
  obtain⟨w,u,L,d,hs,hd⟩:=down_root k hin hok h0 h1
  have hfd:T.find k=Tr.ends k u:=hs.find
  have hf:T.find k=none:=hf
  unfold PoolS.triedrop
  show (if T.h=0 then _ else _)=_
  rw[if_neg hin.nz,show Qs (some T)=T.h from rfl,hd,Option.bind_eq_bind,Option.bind_some]
  cases u with
  |leaf a k' v=>
   simp only[Tr.shape]
   rw[if_neg]
   rintro rfl
   rw[hf] at hfd
   have:(if k'=k' then some v else none)=none:=hfd.symm
   rw[if_pos rfl] at this
   cases this
  |node a p f c l r=>rfl
theorem drop_is {N:Nat}{S:PoolS}{own:List Int}{G:Int}{T:Option Tr}(k v:Int)(h:PInv N S own G)(hn:own.length+34≤N)(hG:G+34≤MaxTag)(hi:MIn S T)(ho:MOk T)(hnd:(mhs T).Nodup)(h0:0≤k)(h1:k≤4294967295)(hf:mfind k T=some v):
  ∃e S' T',S.triedrop (Qs T) k=some (some (e,S'))∧Edits N S S' own G T T' k none e∧e.root≠Qs T:=by
 cases T with
 |none=>cases hf
 |some T=>
  have hin:T.In S:=hi
  have hok:T.Ok 0 32:=ho
  obtain⟨w,u,L,d,hs,hd⟩:=down_root k hin hok h0 h1
  have hfd:T.find k=Tr.ends k u:=hs.find
  have hf:T.find k=some v:=hf
  have hlen:=hs.len
  unfold PoolS.triedrop
  show ∃e S' T',(if T.h=0 then _ else _)=_∧_
  rw[if_neg hin.nz,show Qs (some T)=T.h from rfl,hd,Option.bind_eq_bind,Option.bind_some]
  cases u with
  |node a p f c l r=>
   rw[hf] at hfd
   cases hfd
  |leaf a k' v'=>
   simp only[Tr.shape]
   have hk:k'=k:=by
    refine Classical.byContradiction fun hc=>?_
    rw[hf] at hfd
    have:(if k'=k then some v' else none)=some v:=hfd.symm
    rw[if_neg hc] at this
    cases this
   subst hk
   have hv:v'=v:=by
    rw[hf] at hfd
    have:(if k'=k' then some v' else none)=some v:=hfd.symm
    rw[if_pos rfl] at this
    exact Option.some.inj this
   subst hv
   rw[if_pos rfl,List.reverse_reverse]
   cases w with
   |nil=>
    have hT:T=.leaf a k' v':=hs.is.symm
    subst hT
    refine⟨_,S,none,rfl,⟨Mk.none h,trivial,trivial,?_,?_,rfl,?_,?_,by simp[EditS.zero],Nat.zero_le _⟩,?_⟩
    ·intro k''
     by_cases e:k''=k'
     ·rw[if_pos e];rfl
     ·rw[if_neg e]
      show none=if k'=k'' then some v' else none
      rw[if_neg (show ¬k'=k'' from fun h=>e h.symm)]
    ·exact List.Perm.refl _
    ·show v'=((Tr.leaf a k' v').find k').getD 0
     rw[hf];rfl
    ·show true=((Tr.leaf a k' v').find k').isSome
     rw[hf];rfl
    ·exact fun e=>hin.nz e.symm
   |cons x l=>
    obtain⟨g1,g2,g3,g4⟩:=hs.along
    obtain⟨w1,w2,w3,w4,w5,L',d',w6,w7,w8,w9⟩:=hs.way
    have his:plug l (x.put (.leaf a k' v'))=T:=hs.is
    have hp1:=pow2_succ x.p
    have hp0:=pow2_pos x.p
    have hxl:=x.put_leaves (.leaf a k' v')
    have hl1:(Tr.leaf a k' v').leaves=1:=rfl
    have hsibin:x.sib.In S:=(plug_in (w:=x :: l) (t:=.leaf a k' v') (by rw[hs.is];exact hin)).2 x (by simp)
    have hsok:x.sib.Ok L' d':=by
     refine w4.wider ?_ ?_ (by omega)
     ·split <;> omega
     ·split <;> omega
    have hfs:∀k'',x.sib.find k''=if k''=k' then none else (x.put (.leaf a k' v')).find k'':=by
     intro k''
     have hu:k''≠k'→(Tr.leaf a k' v').find k''=none:=fun e=>if_neg (show ¬k'=k'' from fun h=>e h.symm)
     rw[x.put_find]
     by_cases hr:x.right=true
     ·have hh:=g3.1 hr
      rw[if_pos hr] at w4
      by_cases e:k''=k'
      ·rw[if_pos e,e,Tr.find_out w4 (by omega)]
      ·rw[if_neg e,hu e]
       rw[if_pos hr,if_pos hr]
       by_cases c1:x.f≤k''∧k''<x.f+Qi (x.p+1)
       ·rw[if_pos c1]
        by_cases c2:x.f+Qi x.p≤k''
        ·rw[if_pos c2,Tr.find_out w4 (by omega)]
        ·rw[if_neg c2]
       ·rw[if_neg c1,Tr.find_out w4 (by omega)]
     ·have hh:¬x.f+Qi x.p≤k':=fun e=>hr (g3.2 e)
      rw[if_neg hr] at w4
      by_cases e:k''=k'
      ·rw[if_pos e,e,Tr.find_out w4 (by omega)]
      ·rw[if_neg e,hu e]
       rw[if_neg hr,if_neg hr]
       by_cases c1:x.f≤k''∧k''<x.f+Qi (x.p+1)
       ·rw[if_pos c1]
        by_cases c2:x.f+Qi x.p≤k''
        ·rw[if_pos c2]
        ·rw[if_neg c2,Tr.find_out w4 (by omega)]
       ·rw[if_neg c1,Tr.find_out w4 (by omega)]
    have hway:Way l L' d' (x.put (.leaf a k' v')).leaves:=by
     rw[hxl]
     exact_mod_cast w9
    simp only[List.length_cons] at hlen
    obtain⟨e,S',T',r1,r2,r3⟩:=rebuild (X:=none) (u:=x.put (.leaf a k' v')) (t:=x.sib) (new:=[]) (k:=k') his g4 hway (by omega) hin {EditS.zero with root:=if x.right then x.sib.h else x.sib.h,old:=v',had:=true,gone:=[a,x.h]} (Mk.none h)
     (by simp only[List.length_nil];omega) (by simp only[List.length_nil];omega) hsibin hsok (by split <;> rfl) rfl (-1) (by omega) (by omega) hfs
     (by
      refine List.perm_iff_count.2 fun y=>?_
      have:=List.perm_iff_count.1 (x.put_hs (.leaf a k' v')) y
      simp only[Tr.hs,List.count_append,List.count_cons,List.count_nil] at this ⊢
      omega)
     (by rw[hf];rfl) (by rw[hf];rfl) (by simp)
    refine⟨e,S',some T',?_,r2,?_⟩
    ·simp only[steps]
     have e1:(if (x.step (.leaf a k' v')).isRight then (x.step (.leaf a k' v')).left else (x.step (.leaf a k' v')).right)=if x.right then x.sib.h else x.sib.h:=by
      unfold Sp.step
      dsimp only
      by_cases hr:x.right=true
      ·rw[if_pos hr,if_pos hr,if_pos hr]
      ·rw[if_neg hr,if_neg hr,if_neg hr]
     rw[e1]
     show (Zl (-1) (steps l _) (_,S)).bind _=_
     rw[show (x.step (.leaf a k' v')).h=x.h from rfl,show (Tr.leaf a k' v').h=a from rfl,r1]
     rfl
    ·rw[r2.root]
     show T'.h≠T.h
     intro hc
     have hTin:∃s,S.at T.h=some s:=hin.alive _ T.h_mem
     rcases List.mem_cons.1 r3 with r3|r3
     ·have hm:=plug_h_mem (x :: l) (.leaf a k' v')
      rw[hs.is,←hc,r3] at hm
      have hperm:=plug_hs (x :: l) (.leaf a k' v')
      rw[hs.is] at hperm
      have hnd2:=hperm.nodup_iff.1 hnd
      have hsm:x.sib.h∈sibs (x :: l):=List.mem_flatMap.2 ⟨x,by simp,x.sib.h_mem⟩
      rw[←List.append_assoc] at hnd2
      have hdis:=(List.nodup_append.1 hnd2).2.2
      refine hdis _ ?_ _ hsm rfl
      rcases List.mem_cons.1 hm with hm|hm
      ·exact List.mem_append_left _ (List.mem_singleton.2 hm)
      ·exact List.mem_append_right _ hm
     ·obtain⟨s,hs'⟩:=hTin
      exact r2.made.fresh _ r3 s (by rw[hc];exact hs')
theorem giveAll_is {N:Nat}{own:List Int}:∀(l:List Int) {S:PoolS} {G:Int},PInv N S (l ++ own) G→∃S',S.giveAll l=some S'∧PInv N S' own (G+l.length)∧∀b,b∉l→∀t,S.at b=some t→S'.at b=some t
 |[],S,G,h=>⟨S,rfl,by simpa using h,fun _ _ _ h=>h⟩
 |a :: l,S,G,h=>by
  obtain⟨S1,e1,h1,k1⟩:=PInv.give (a:=a) (own:=l ++ own) h
  obtain⟨S2,e2,h2,k2⟩:=giveAll_is l h1
  refine⟨S2,?_,?_,fun b hb t ht=>?_⟩
  ·unfold PoolS.giveAll
   rw[e1]
   exact e2
  ·refine h2.later (Int.le_of_eq ?_)
   simp only[List.length_cons]
   omega
  ·simp only[List.mem_cons,not_or] at hb
   exact k2 b hb.2 t (k1 b hb.1 t ht)
end
section
structure Ver where
 h:Int
 num:Int
 stamp:Int
 tree:Option Tr
 gone:List Int
def headOf:List Ver→Int
 |[]=>0
 |v :: _=>v.h
def vtop:List Ver→List Int
 |[]=>[]
 |v :: _=>mhs v.tree
def vgone (vs:List Ver):List Int:=vs.flatMap Ver.gone
def vown (vs:List Ver):List Int:=vs.map Ver.h ++ (vtop vs ++ vgone vs)
def Vers (S:PoolS)(sets:List (Int × List Int)):List Ver→Prop
 |[]=>True
 |v :: l=>(∃g,S.at v.h=some ⟨g,v.stamp,headOf l,⟨Qs v.tree,v.num,0,0⟩⟩)∧1≤v.stamp∧sets[(Qo v.h).toNat]?=some (v.h,v.gone)∧MIn S v.tree∧MOk v.tree ∧
   (match l with | []=>v.gone=[] | u :: _=>(∀a∈mhs u.tree,a∈mhs v.tree∨a∈v.gone)∧u.stamp≤v.stamp)∧Vers S sets l
theorem Vers.tail {S:PoolS}{sets:List (Int × List Int)}{v:Ver}{l:List Ver}(h:Vers S sets (v :: l)):Vers S sets l:=h.2.2.2.2.2.2
theorem Vers.trees {S:PoolS}{sets:List (Int × List Int)}:∀{vs:List Ver},Vers S sets vs→∀v∈vs,∀a∈mhs v.tree,a∈vtop vs ++ vgone vs
 |[],_,_,hv,_,_=>by cases hv
 |v :: l,h,u,hu,a,ha=>by
  rcases List.mem_cons.1 hu with rfl|hu
  ·exact List.mem_append_left _ ha
  ·have ih:=h.tail.trees u hu a ha
   have hm:=h.2.2.2.2.2.1
   rcases List.mem_append.1 ih with ih|ih
   ·cases l with
    |nil=>cases hu
    |cons x l=>
     rcases hm.1 a ih with e|e
     ·exact List.mem_append_left _ e
     ·exact List.mem_append_right _ (List.mem_flatMap.2 ⟨v,by simp,e⟩)
   ·refine List.mem_append_right _ ?_
    obtain⟨y,hy,hay⟩:=List.mem_flatMap.1 ih
    exact List.mem_flatMap.2 ⟨y,by simp[hy],hay⟩
theorem Vers.of {S S':PoolS}{sets sets':List (Int × List Int)}:∀{vs:List Ver},Vers S sets vs→(∀v∈vs,∀s,S.at v.h=some s→S'.at v.h=some s)→(∀v∈vs,∀a∈mhs v.tree,∀n,S.read a=some n→S'.read a=some n) →
  (∀v∈vs,sets'[(Qo v.h).toNat]?=sets[(Qo v.h).toNat]?)→Vers S' sets' vs
 |[],_,_,_,_=>trivial
 |v :: l,h,e1,e2,e3=>by
  obtain⟨⟨g,h1⟩,h2,h3,h4,h5,h6,h7⟩:=h
  exact⟨⟨g,e1 v (by simp) _ h1⟩,h2,by rw[e3 v (by simp)];exact h3,h4.of (e2 v (by simp)),h5,h6,h7.of (fun u hu=>e1 u (by simp[hu])) (fun u hu=>e2 u (by simp[hu])) (fun u hu=>e3 u (by simp[hu]))⟩
theorem Vers.keep {S S':PoolS}{sets:List (Int × List Int)}{vs:List Ver}(h:Vers S sets vs)(e:∀a∈vown vs,∀s,S.at a=some s→S'.at a=some s):Vers S' sets vs:=by
 refine h.of (fun v hv=>e v.h (List.mem_append_left _ (List.mem_map.2 ⟨v,hv,rfl⟩))) (fun v hv a ha n hn=>?_) (fun _ _=>rfl)
 obtain⟨s,h1,h2⟩:=Ze.1 hn
 exact Ze.2 ⟨s,e a (List.mem_append_right _ (h.trees v hv a ha)) _ h1,h2⟩
theorem Vers.alive {S:PoolS}{sets:List (Int × List Int)}:∀{vs:List Ver},Vers S sets vs→∀v∈vs,∃s,S.at v.h=some s
 |[],_,_,hv=>by cases hv
 |v :: l,h,u,hu=>by
  rcases List.mem_cons.1 hu with rfl|hu
  ·obtain⟨g,h1⟩:=h.1
   exact⟨_,h1⟩
  ·exact h.tail.alive u hu
theorem first_is {N:Nat}{S:PoolS}{own:List Int}{G:Int}{C:ChainS}{T:Option Tr}(h:PInv N S own G)(hn:own.length<N)(hG:G<MaxTag)(hC:C.head=0)(hl:C.sets.length=N+1)(hi:MIn S T)(ho:MOk T):
  ∃a C' S',C.first S ⟨Qs T,1,0,0⟩=some (a,C',S')∧PInv N S' (a :: own) (G+1)∧Keep S S'∧C'.head=a∧C'.sets.length=N+1∧Vers S' C'.sets [⟨a,1,1,T,[]⟩]:=by
 obtain⟨a,S1,h1,h2,h3,h4,h5,h6,⟨g,h7⟩,h8⟩:=h.take hn hG ⟨Qs T,1,0,0⟩ 0
 obtain⟨a1,a2,a3,a4⟩:=at_some.1 h7
 have hlt:=(List.getElem?_eq_some_iff.1 a1).1
 rw[h2.slots] at hlt
 have hir:=idx_range a
 have e1:S1.setMark a 1=some (S1.put (Qo a).toNat ⟨g,1,0,⟨Qs T,1,0,0⟩⟩):=by
  unfold PoolS.setMark
  rw[h7]
  rfl
 obtain⟨c1,c2⟩:=at_set (s':=⟨g,1,0,⟨Qs T,1,0,0⟩⟩) h7 rfl
 have hk:Keep S (S1.put (Qo a).toNat ⟨g,1,0,⟨Qs T,1,0,0⟩⟩):=by
  intro b s hb
  have hne:b≠a:=fun e=>h8 s (e ▸ hb)
  rw[c2 b hne]
  exact h3 b s hb
 refine⟨a,⟨a,C.sets.set (Qo a).toNat (a,[])⟩,_,?_,h2.setSlot (s':=⟨g,1,0,⟨Qs T,1,0,0⟩⟩) h7 rfl,hk,rfl,by simpa using hl,⟨g,c1⟩,Int.le_refl 1,?_,hi.keep hk,ho,rfl,trivial⟩
 ·unfold ChainS.first
  rw[h1,Option.bind_eq_bind,Option.bind_some]
  dsimp only
  rw[e1,Option.bind_eq_bind,Option.bind_some,if_pos ⟨hC,by omega⟩]
 ·show (C.sets.set _ _)[_]?=_
  rw[List.getElem?_set_self (by omega)]
theorem top_is {S:PoolS}{C:ChainS}{now:Int}{v:Ver}{l:List Ver}(hv:Vers S C.sets (v :: l))(hC:C.head=v.h):C.top now S=some (v.h,v.stamp,S):=by
 obtain⟨⟨g,h1⟩,h2,_⟩:=hv
 unfold ChainS.top settle
 rw[hC,if_neg (at_nz h1),h1]
 simp only[Option.bind_eq_bind,Option.bind_some]
 rw[if_pos (by omega)]
 rfl
theorem push_is {N:Nat}{S:PoolS}{own:List Int}{G:Int}{C:ChainS}{T:Option Tr}{v:Ver}{l:List Ver}{now num:Int}{gone:List Int}(h:PInv N S own G)(hn:own.length<N)(hG:G<MaxTag)(hv:Vers S C.sets (v :: l))
  (hC:C.head=v.h) (hl:C.sets.length=N+1) (hi:MIn S T) (ho:MOk T) (hnow:v.stamp≤now) (hg:∀a∈mhs v.tree,a∈mhs T∨a∈gone):
  ∃a C' S',C.push now S C.head ⟨Qs T,num,0,0⟩ gone=some (a,C',S')∧PInv N S' (a :: own) (G+1)∧Keep S S'∧C'.head=a∧C'.sets.length=N+1∧Vers S' C'.sets (⟨a,num,now,T,gone⟩ :: v :: l):=by
 obtain⟨a,S1,h1,h2,h3,h4,h5,h6,⟨g,h7⟩,h8⟩:=h.take hn hG ⟨Qs T,num,0,0⟩ C.head
 obtain⟨a1,a2,a3,a4⟩:=at_some.1 h7
 have hlt:=(List.getElem?_eq_some_iff.1 a1).1
 rw[h2.slots] at hlt
 have hir:=idx_range a
 have hst:=hv.2.1
 have e1:settle now S1 a=some (now,S1.put (Qo a).toNat ⟨g,now,C.head,⟨Qs T,num,0,0⟩⟩):=by
  unfold settle PoolS.setMark
  rw[h7]
  rfl
 obtain⟨c1,c2⟩:=at_set (s':=⟨g,now,C.head,⟨Qs T,num,0,0⟩⟩) h7 rfl
 have hk:Keep S (S1.put (Qo a).toNat ⟨g,now,C.head,⟨Qs T,num,0,0⟩⟩):=by
  intro b s hb
  have hne:b≠a:=fun e=>h8 s (e ▸ hb)
  rw[c2 b hne]
  exact h3 b s hb
 refine⟨a,⟨a,C.sets.set (Qo a).toNat (a,gone)⟩,_,?_,h2.setSlot (s':=⟨g,now,C.head,⟨Qs T,num,0,0⟩⟩) h7 rfl,hk,rfl,by simpa using hl,⟨g,?_⟩,by show 1≤now;omega,?_,hi.keep hk,ho,⟨hg,hnow⟩,?_⟩
 ·unfold ChainS.push
  rw[h1,Option.bind_eq_bind,Option.bind_some]
  dsimp only
  rw[if_pos ⟨rfl,by omega⟩,e1]
  rfl
 ·rw[c1,hC]
  rfl
 ·show (C.sets.set _ _)[_]?=_
  rw[List.getElem?_set_self (by omega)]
 ·refine hv.of (fun u _ s hs=>hk _ s hs) (fun u _ b _ n hn=>hk.read hn) (fun u hu=>?_)
  obtain⟨s,hs⟩:=hv.alive u hu
  have hne:(Qo a).toNat≠(Qo u.h).toNat:=by
   intro e
   have:=at_inj (hk _ _ hs) c1 (idx_toNat_inj e.symm)
   rw[this] at hs
   exact h8 s hs
  show (C.sets.set _ _)[_]?=_
  rw[List.getElem?_set_ne hne]
def firstAt (t:Int):List Ver→Option Ver
 |[]=>none
 |v :: l=>if v.stamp > t then firstAt t l else some v
theorem atFrom_is {S:PoolS}{sets:List (Int × List Int)}(t:Int):∀(l:List Ver) (v:Ver) (f:Nat),Vers S sets (v :: l)→l.length<f→atFrom t S f v.h v.stamp=some ((firstAt t (v :: l)).map Ver.h)
 |_,_,0,_,hf=>by omega
 |l,v,f+1,h,hf=>by
  unfold atFrom firstAt
  by_cases hs:v.stamp > t
  ·rw[if_pos hs,if_pos hs]
   obtain⟨g,h1⟩:=h.1
   rw[h1,Option.bind_eq_bind,Option.bind_some]
   cases l with
   |nil=>
    show (if (0:Int)=0 then _ else _)=_
    rw[if_pos rfl]
    rfl
   |cons u l=>
    obtain⟨g2,h2⟩:=h.tail.1
    show (if u.h=0 then _ else (S.at u.h).bind _)=_
    rw[if_neg (at_nz h2),h2,Option.bind_some]
    exact atFrom_is t l u f h.tail (by simp only[List.length_cons] at hf;omega)
  ·rw[if_neg hs,if_neg hs]
   rfl
theorem atStamp_is {S:PoolS}{C:ChainS}(now t:Int){vs:List Ver}(hv:Vers S C.sets vs)(hC:C.head=headOf vs)(hl:vs.length≤S.slots.length):C.atStamp now S t=some ((firstAt t vs).map Ver.h,S):=by
 cases vs with
 |nil=>
  have hC:C.head=0:=hC
  unfold ChainS.atStamp
  rw[if_pos hC]
  rfl
 |cons v l=>
  have hC:C.head=v.h:=hC
  obtain⟨g,h1⟩:=hv.1
  unfold ChainS.atStamp
  rw[if_neg (by rw[hC];exact at_nz h1),top_is hv hC,Option.bind_eq_bind,Option.bind_some]
  dsimp only
  rw[atFrom_is t l v _ hv (by simp only[List.length_cons] at hl;omega)]
  rfl
def cutAll:Ver→List Ver→List Int
 |_,[]=>[]
 |v,u :: l=>v.gone ++ (u.h :: cutAll u l)
theorem cut_is {S:PoolS}{C:ChainS}{v:Ver}{l:List Ver}{N:Nat}{own:List Int}{G:Int}(h:PInv N S own G)(hv:Vers S C.sets (v :: l))(hl:C.sets.length=N+1):
  ∃C' S',C.cut S v.h=some (headOf l,v.gone,C',S')∧PInv N S' own G∧C'.head=C.head∧C'.sets.length=N+1∧(∃g,S'.at v.h=some ⟨g,v.stamp,0,⟨Qs v.tree,v.num,0,0⟩⟩)∧(∀b,b≠v.h→S'.at b=S.at b) ∧
   C'.sets[(Qo v.h).toNat]?=some (v.h,[])∧(∀i,i≠(Qo v.h).toNat→C'.sets[i]?=C.sets[i]?)∧∀b n,S.read b=some n→S'.read b=some n:=by
 obtain⟨⟨g,h1⟩,h2,h3,h4,h5,h6,h7⟩:=hv
 obtain⟨c1,c2⟩:=at_set (s':=⟨g,v.stamp,0,⟨Qs v.tree,v.num,0,0⟩⟩) h1 rfl
 have e1:S.setLink v.h 0=some (S.put (Qo v.h).toNat ⟨g,v.stamp,0,⟨Qs v.tree,v.num,0,0⟩⟩):=by
  unfold PoolS.setLink
  rw[h1]
  rfl
 have hlt:=(List.getElem?_eq_some_iff.1 h3).1
 have hrd:∀b n,S.read b=some n→(S.put (Qo v.h).toNat ⟨g,v.stamp,0,⟨Qs v.tree,v.num,0,0⟩⟩).read b=some n:=by
  intro b n hb
  obtain⟨s,q1,q2⟩:=Ze.1 hb
  by_cases e:b=v.h
  ·subst e
   rw[h1] at q1
   cases q1
   exact Ze.2 ⟨_,c1,q2⟩
  ·exact Ze.2 ⟨s,by rw[c2 b e];exact q1,q2⟩
 cases l with
 |nil=>
  have hg:v.gone=[]:=h6
  refine⟨C,_,?_,h.setSlot (s':=⟨g,v.stamp,0,⟨Qs v.tree,v.num,0,0⟩⟩) h1 rfl,rfl,hl,⟨g,c1⟩,c2,by rw[h3,hg],fun _ _=>rfl,hrd⟩
  unfold ChainS.cut
  rw[h1,Option.bind_eq_bind,Option.bind_some,e1,Option.bind_eq_bind,Option.bind_some,hg]
  rfl
 |cons u l=>
  obtain⟨g2,k1⟩:=h7.1
  refine⟨{C with sets:=C.sets.set (Qo v.h).toNat (v.h,[])},_,?_,h.setSlot (s':=⟨g,v.stamp,0,⟨Qs v.tree,v.num,0,0⟩⟩) h1 rfl,rfl,by simpa using hl,⟨g,c1⟩,c2,?_,fun i hi=>?_,hrd⟩
  ·unfold ChainS.cut
   rw[h1,Option.bind_eq_bind,Option.bind_some,e1,Option.bind_eq_bind,Option.bind_some]
   show (if u.h=0 then _ else (C.sets[(Qo v.h).toNat]?).bind _)=_
   rw[if_neg (at_nz k1),h3,Option.bind_some]
   show (if v.h=v.h then _ else _)=_
   rw[if_pos rfl]
  ·show (C.sets.set _ _)[_]?=_
   rw[List.getElem?_set_self hlt]
  ·show (C.sets.set _ _)[_]?=_
   rw[List.getElem?_set_ne (Ne.symm hi)]
theorem retireAll_app (e:EpochS)(l m:List Int):Zk e (l ++ m)=Zk (Zk e l) m:=by
 unfold Zk
 rw[List.foldl_append]
theorem trimFrom_is {N:Nat}{own:List Int}{G:Int}:∀(l:List Ver) (v:Ver) (f:Nat) (n:Int) (S:PoolS) (C:ChainS) (e:EpochS),PInv N S own G→Vers S C.sets (v :: l)→C.sets.length=N+1→l.length<f→((v :: l).map Ver.h).Nodup →
  ∃n' C' S',trimFrom f n v.h (C,e,S)=some (n',C',Zk e (cutAll v l),S')∧PInv N S' own G∧C'.head=C.head∧C'.sets.length=N+1∧(∃g,S'.at v.h=some ⟨g,v.stamp,0,⟨Qs v.tree,v.num,0,0⟩⟩) ∧
   (∀b,b∉(v :: l).map Ver.h→S'.at b=S.at b)∧C'.sets[(Qo v.h).toNat]?=some (v.h,[])∧(∀i,(∀u∈v :: l,i≠(Qo u.h).toNat)→C'.sets[i]?=C.sets[i]?)∧∀b n,S.read b=some n→S'.read b=some n
 |_,_,0,_,_,_,_,_,_,_,hf,_=>by omega
 |[],v,f+1,n,S,C,e,h,hv,hl,hf,hd=>by
  obtain⟨C1,S1,c1,c2,c3,c4,c5,c6,c7,c8,c9⟩:=cut_is h hv hl
  refine⟨n,C1,S1,?_,c2,c3,c4,c5,fun b hb=>c6 b (fun e=>hb (by simp[e])),c7,fun i hi=>c8 i (hi v (by simp)),c9⟩
  unfold trimFrom
  rw[c1]
  rfl
 |u :: l,v,f+1,n,S,C,e,h,hv,hl,hf,hd=>by
  obtain⟨C1,S1,c1,c2,c3,c4,c5,c6,c7,c8,c9⟩:=cut_is h hv hl
  have hd2:v.h∉(u :: l).map Ver.h∧((u :: l).map Ver.h).Nodup:=List.nodup_cons.1 hd
  have hidx:∀x∈u :: l,(Qo x.h).toNat≠(Qo v.h).toNat:=by
   intro x hx e
   obtain⟨s,hs⟩:=hv.tail.alive x hx
   obtain⟨g,h1⟩:=hv.1
   exact hd2.1 (List.mem_map.2 ⟨x,hx,at_inj hs h1 (idx_toNat_inj e)⟩)
  have hne:∀x∈u :: l,x.h≠v.h:=fun x hx e=>hd2.1 (List.mem_map.2 ⟨x,hx,e⟩)
  have hv1:Vers S1 C1.sets (u :: l):=by
   refine hv.tail.of (fun x hx s hs=>by rw[c6 _ (hne x hx)];exact hs) (fun x hx b hb m hm=>?_) (fun x hx=>c8 _ (hidx x hx))
   obtain⟨s,hs1,hs2⟩:=Ze.1 hm
   by_cases e:b=v.h
   ·subst e
    obtain⟨g,h1⟩:=hv.1
    rw[h1] at hs1
    cases hs1
    obtain⟨g',h1'⟩:=c5
    exact Ze.2 ⟨_,h1',hs2⟩
   ·exact Ze.2 ⟨s,by rw[c6 b e];exact hs1,hs2⟩
  obtain⟨n2,C2,S2,d1,d2,d3,d4,d5,d6,d7,d8,d9⟩:=trimFrom_is l u f (n+v.gone.length+1) S1 C1 (Zk e (v.gone ++ [u.h])) c2 hv1 c4 (by simp only[List.length_cons] at hf;omega) hd2.2
  obtain⟨g2,k1⟩:=hv.tail.1
  refine⟨n2,C2,S2,?_,d2,by rw[d3,c3],d4,?_,fun b hb=>?_,?_,fun i hi=>?_,fun b n hb=>d9 b n (c9 b n hb)⟩
  ·unfold trimFrom
   rw[c1,Option.bind_eq_bind,Option.bind_some]
   show (if u.h=0 then _ else _)=_
   rw[if_neg (at_nz k1),show headOf (u :: l)=u.h from rfl,d1]
   rw[show cutAll v (u :: l)=v.gone ++ (u.h :: cutAll u l) from rfl,←retireAll_app]
   simp
  ·obtain⟨g,h1⟩:=c5
   exact⟨g,by rw[d6 _ hd2.1];exact h1⟩
  ·rw[d6 b (fun e=>hb (by simp only[List.map_cons,List.mem_cons] at e ⊢;exact .inr e)),c6 b (fun e=>hb (by simp[e]))]
  ·rw[d8 _ (fun x hx=>(hidx x hx).symm),c7]
  ·rw[d8 i (fun x hx=>hi x (by simp only[List.mem_cons] at hx ⊢;exact .inr hx)),c8 i (hi v (by simp))]
theorem firstAt_split {t:Int}:∀{vs:List Ver} {v:Ver},firstAt t vs=some v→∃pre l,vs=pre ++ v :: l∧(∀u∈pre,u.stamp > t)∧v.stamp≤t
 |[],_,h=>by cases h
 |x :: l,v,h=>by
  unfold firstAt at h
  by_cases hs:x.stamp > t
  ·rw[if_pos hs] at h
   obtain⟨pre,m,h1,h2,h3⟩:=firstAt_split h
   exact⟨x :: pre,m,by rw[h1];rfl,fun u hu=>by
    rcases List.mem_cons.1 hu with rfl|hu
    ·exact hs
    ·exact h2 u hu,h3⟩
  ·rw[if_neg hs] at h
   cases h
   exact⟨[],l,rfl,(fun _ h=>by cases h),by omega⟩
theorem firstAt_cut {t:Int}:∀(pre:List Ver) (v v':Ver) (l l':List Ver),v.stamp≤t→v'.stamp=v.stamp→∃u u',firstAt t (pre ++ v :: l)=some u∧firstAt t (pre ++ v' :: l')=some u'∧(u'=u∨u=v∧u'=v')
 |[],v,v',l,l',h,e=>by
  refine⟨v,v',?_,?_,.inr ⟨rfl,rfl⟩⟩
  ·show (if v.stamp > t then _ else _)=_
   rw[if_neg (by omega)]
  ·show (if v'.stamp > t then _ else _)=_
   rw[if_neg (by omega)]
 |x :: pre,v,v',l,l',h,e=>by
  by_cases hs:x.stamp > t
  ·obtain⟨u,u',h1,h2,h3⟩:=firstAt_cut pre v v' l l' h e
   refine⟨u,u',?_,?_,h3⟩
   ·show (if x.stamp > t then firstAt t (pre ++ v :: l) else _)=_
    rw[if_pos hs,h1]
   ·show (if x.stamp > t then firstAt t (pre ++ v' :: l') else _)=_
    rw[if_pos hs,h2]
  ·refine⟨x,x,?_,?_,.inl rfl⟩
   ·show (if x.stamp > t then _ else _)=_
    rw[if_neg hs]
   ·show (if x.stamp > t then _ else _)=_
    rw[if_neg hs]
theorem cutAll_own {S:PoolS}{sets:List (Int × List Int)}:∀(l:List Ver) (v:Ver),Vers S sets (v :: l)→(cutAll v l).Perm (l.map Ver.h ++ vgone (v :: l))
 |[],v,h=>by
  have hg:v.gone=[]:=h.2.2.2.2.2.1
  simp[cutAll,vgone,hg]
 |u :: l,v,h=>by
  have ih:=cutAll_own l u h.tail
  refine List.perm_iff_count.2 fun x=>?_
  have c:=List.perm_iff_count.1 ih x
  simp only[cutAll,vgone,List.flatMap_cons,List.map_cons,List.count_append,List.count_cons] at c ⊢
  omega
theorem headOf_app (pre:List Ver)(v v':Ver)(l l':List Ver)(h:v'.h=v.h):headOf (pre ++ v' :: l')=headOf (pre ++ v :: l):=by
 cases pre with
 |nil=>exact h
 |cons x pre=>rfl
theorem Vers.cut {S S':PoolS}{sets sets':List (Int × List Int)}{v:Ver}{l:List Ver}(hat:∃g,S'.at v.h=some ⟨g,v.stamp,0,⟨Qs v.tree,v.num,0,0⟩⟩)(hs:sets'[(Qo v.h).toNat]?=some (v.h,[]))
  (hsame:∀b,b∉(v :: l).map Ver.h→S'.at b=S.at b) (hread:∀b n,S.read b=some n→S'.read b=some n) (hsets:∀i,(∀u∈v :: l,i≠(Qo u.h).toNat)→sets'[i]?=sets[i]?):
  ∀{pre:List Ver},Vers S sets (pre ++ v :: l)→((pre ++ v :: l).map Ver.h).Nodup→Vers S' sets' (pre ++ [{v with gone:=[]}])
 |[],h,_=>by
  obtain⟨g,h1⟩:=hat
  obtain⟨_,h2,_,h4,h5,_⟩:=h
  exact⟨⟨g,h1⟩,h2,hs,h4.of (fun a _ n hn=>hread a n hn),h5,rfl,trivial⟩
 |x :: pre,h,hd=>by
  have ih:=Vers.cut hat hs hsame hread hsets (pre:=pre) h.tail (List.nodup_cons.1 hd).2
  obtain⟨⟨g,h1⟩,h2,h3,h4,h5,h6,h7⟩:=h
  have hx:x.h∉(pre ++ v :: l).map Ver.h:=(List.nodup_cons.1 hd).1
  have hne:x.h∉(v :: l).map Ver.h:=fun e=>hx (by rw[List.map_append];exact List.mem_append_right _ e)
  refine⟨⟨g,?_⟩,h2,?_,h4.of (fun a _ n hn=>hread a n hn),h5,?_,ih⟩
  ·have e:=headOf_app pre v {v with gone:=[]} l [] rfl
   rw[hsame _ hne,h1]
   show some (SlotS.mk g x.stamp (headOf (pre ++ v :: l)) _)=some (SlotS.mk g x.stamp (headOf (pre ++ [{v with gone:=[]}])) _)
   rw[e]
  ·rw[hsets _ fun u hu e=>?_]
   ·exact h3
   ·obtain⟨s,hs1⟩:=h7.alive u (List.mem_append_right _ hu)
    exact hne (List.mem_map.2 ⟨u,hu,(at_inj h1 hs1 (idx_toNat_inj e)).symm⟩)
  ·cases pre with
   |nil=>exact h6
   |cons y pre=>exact h6
end
section
/- writes -/
def putE (k v:Int)(root:Int)(S:PoolS):Option ((Int ⊕ ChangeS) × PoolS):=do
 let (e,S) ←S.trieput root k v
 some (.inr (changed root e),S)
def dropE (k:Int)(root:Int)(S:PoolS):Option ((Int ⊕ ChangeS) × PoolS):=do
 match ←S.triedrop root k with
 |none=>some (.inr ⟨root,[],[],ToldS.zero⟩,S)
 |some (e,S)=>some (.inr (changed root e),S)
def errTrieNone:Int:=122
def errPartOther:Int:=162
def swapE (k old v:Int)(root:Int)(S:PoolS):Option ((Int ⊕ ChangeS) × PoolS):=do
 let (x,had) ←S.find root k
 if had=false then some (.inl errTrieNone,S)
 else if x≠old then some (.inl errPartOther,S)
 else if old=v then some (.inr ⟨root,[],[],⟨x,true,0,false,0⟩⟩,S)
 else putE k v root S
def goneBack:List Int→ChangeS × PoolS→Option (ChangeS × PoolS)
 |[],x=>some x
 |h :: l,(c,S)=>match c.made.findIdx? (·=h) with
  |none=>goneBack l ({c with gone:=c.gone ++ [h]},S)
  |some i=>do goneBack l ({c with made:=c.made.eraseIdx i},←S.give h)
def manyPairs:List (Int × Int)→ChangeS × PoolS→Option (ChangeS × PoolS)
 |[],x=>some x
 |p :: l,(c,S)=>do
  let (e,S) ←S.trieput c.root p.1 p.2
  let (c,S) ←goneBack e.gone ({c with root:=e.root,told:={c.told with many:=c.told.many+(if e.root≠c.root then 1 else 0)}},S)
  manyPairs l ({c with made:=c.made ++ e.made},S)
def manyE (l:List (Int × Int))(root:Int)(S:PoolS):Option ((Int ⊕ ChangeS) × PoolS):=do
 let (c,S) ←manyPairs l (⟨root,[],[],ToldS.zero⟩,S)
 some (.inr {c with told:={c.told with new:=decide (c.root≠root)}},S)
abbrev MapS:=(Int→Option Int) × Int
def putF (m:Int→Option Int)(k v:Int):Int→Option Int:=fun x=>if x=k then some v else m x
def srcF (l:List (Int × Int)):Int→Option Int:=l.foldl (fun m p=>putF m p.1 p.2) (fun _=>none)
def PartIs (N:Nat)(S:PoolS)(C:ChainS)(a:LPartS)(m:MapS):List Ver→Prop
 |[]=>a.state=0∧a.fails≤0∧C.head=0∧C.sets.length=N+1∧m.2=1∧(∀k,m.1 k=srcF a.pairs k)∧(∀p∈a.pairs,0≤p.1∧p.1≤4294967295)∧a.pairs.length≤256
 |v :: l=>a.state=2∧C.head=v.h∧C.sets.length=N+1∧Vers S C.sets (v :: l)∧v.num=m.2∧∀k,mfind k v.tree=m.1 k
theorem PartIs.keep {N:Nat}{S S':PoolS}{C:ChainS}{a:LPartS}{m:MapS}{vs:List Ver}(h:PartIs N S C a m vs)(e:∀a∈vown vs,∀s,S.at a=some s→S'.at a=some s):PartIs N S' C a m vs:=by
 cases vs with
 |nil=>exact h
 |cons v l=>exact⟨h.1,h.2.1,h.2.2.1,h.2.2.2.1.keep e,h.2.2.2.2⟩
def pend (l:List LPartS):Nat:=(l.map fun a=>if a.state=0 then 2*a.pairs.length+1 else 0).sum
def owns (V:List (List Ver))(e:EpochS):List Int:=V.flatMap vown ++ e.list.map (·.1)
structure St (N n:Nat)(X:StoreS)(V:List (List Ver))(ms:List MapS)(B:Nat)(G:Int):Prop where
 small:N≤4096
 inv:PInv N X.pool (owns V X.epoch) G
 nc:X.chains.length=n
 nl:X.loads.length=n
 nv:V.length=n
 nm:ms.length=n
 part:∀(i:Nat) C a vs m,X.chains[i]?=some C→X.loads[i]?=some a→V[i]?=some vs→ms[i]?=some m→PartIs N X.pool C a m vs
 size:(owns V X.epoch).length+pend X.loads≤B
 at0:X.epoch.at0=0
 deep:X.epoch.deep=0
 now:1≤X.clock.now
 stamps:∀vs∈V,∀v∈vs,v.stamp≤X.clock.now
theorem flatMap_part {α:Type}{f:α→List Int}{e:α}(he:f e=[]):∀{V:List α} {i:Nat} {x:α},V[i]?=some x→(V.flatMap f).Perm (f x ++ (V.set i e).flatMap f)
 |[],_,_,h=>by cases h
 |y :: V,0,x,h=>by
  cases h
  simp[he]
 |y :: V,i+1,x,h=>by
  have ih:=flatMap_part he (V:=V) (i:=i) (x:=x) h
  refine List.perm_iff_count.2 fun z=>?_
  have c:=List.perm_iff_count.1 ih z
  simp only[List.set_cons_succ,List.flatMap_cons,List.count_append] at c ⊢
  omega
theorem vown_nil:vown []=[]:=rfl
def restOf (V:List (List Ver))(i:Nat)(e:EpochS):List Int:=(V.set i []).flatMap vown ++ e.list.map (·.1)
theorem owns_part {V:List (List Ver)}{i:Nat}{vs:List Ver}(e:EpochS)(h:V[i]?=some vs):(owns V e).Perm (vown vs ++ restOf V i e):=by
 have:=flatMap_part (f:=vown) vown_nil h
 unfold owns restOf
 rw[←List.append_assoc]
 exact this.append_right _
theorem owns_set {V:List (List Ver)}{i:Nat}{vs:List Ver}(vs':List Ver)(e:EpochS)(h:V[i]?=some vs):(owns (V.set i vs') e).Perm (vown vs' ++ restOf V i e):=by
 have hl:=(List.getElem?_eq_some_iff.1 h).1
 have:=owns_part (V:=V.set i vs') (i:=i) (vs:=vs') e (List.getElem?_set_self hl)
 unfold restOf at this ⊢
 rwa [List.set_set] at this
theorem mem_restOf {V:List (List Ver)}{i j:Nat}{vs:List Ver}{e:EpochS}(h:V[j]?=some vs)(hne:j≠i){a:Int}(ha:a∈vown vs):a∈restOf V i e:=by
 refine List.mem_append_left _ (List.mem_flatMap.2 ⟨vs,?_,ha⟩)
 refine List.mem_of_getElem? (i:=j) ?_
 rw[List.getElem?_set_ne (Ne.symm hne),h]
theorem pend_set:∀{l:List LPartS} {i:Nat} {a:LPartS} (b:LPartS),l[i]?=some a→pend (l.set i b)+(if a.state=0 then 2*a.pairs.length+1 else 0)=pend l+(if b.state=0 then 2*b.pairs.length+1 else 0)
 |[],_,_,_,h=>by cases h
 |x :: l,0,a,b,h=>by
  cases h
  simp only[pend,List.set_cons_zero,List.map_cons,List.sum_cons]
  omega
 |x :: l,i+1,a,b,h=>by
  have ih:=pend_set b (l:=l) (i:=i) (a:=a) h
  simp only[pend,List.set_cons_succ,List.map_cons,List.sum_cons] at ih ⊢
  omega
theorem St.upd {N n:Nat}{X:StoreS}{V:List (List Ver)}{ms:List MapS}{B B':Nat}{G G':Int}(h:St N n X V ms B G){i:Nat}{C C':ChainS}{a a':LPartS}{vs vs':List Ver}{m m':MapS}{S':PoolS}{e':EpochS}
  (hC:X.chains[i]?=some C) (ha:X.loads[i]?=some a) (hv:V[i]?=some vs) (hm:ms[i]?=some m)
  (hinv:PInv N S' (vown vs' ++ restOf V i e') G') (hkeep:∀b∈restOf V i X.epoch,∀s,X.pool.at b=some s→S'.at b=some s) (hp:PartIs N S' C' a' m' vs')
  (hsize:(vown vs' ++ restOf V i e').length+pend (X.loads.set i a')≤B') (hst:∀v∈vs',v.stamp≤X.clock.now) (h0:e'.at0=0) (h1:e'.deep=0):
  St N n {X with pool:=S',chains:=X.chains.set i C',loads:=X.loads.set i a',epoch:=e'} (V.set i vs') (ms.set i m') B' G':=by
 have hlv:=(List.getElem?_eq_some_iff.1 hv).1
 have hlc:=(List.getElem?_eq_some_iff.1 hC).1
 have hla:=(List.getElem?_eq_some_iff.1 ha).1
 have hlm:=(List.getElem?_eq_some_iff.1 hm).1
 have hp1:=owns_set vs' e' hv
 refine⟨h.small,hinv.perm hp1.symm,by simp[h.nc],by simp[h.nl],by simp[h.nv],by simp[h.nm],?_,?_,h0,h1,h.now,?_⟩
 ·intro j D b us m2 hD hb hu hm2
  by_cases e:j=i
  ·subst e
   dsimp only at hD hb
   rw[List.getElem?_set_self hlc] at hD
   rw[List.getElem?_set_self hla] at hb
   rw[List.getElem?_set_self hlv] at hu
   rw[List.getElem?_set_self hlm] at hm2
   cases hD;cases hb;cases hu;cases hm2
   exact hp
  ·dsimp only at hD hb
   rw[List.getElem?_set_ne (Ne.symm e)] at hD hb hu hm2
   exact (h.part j D b us m2 hD hb hu hm2).keep fun x hx s hs=>hkeep x (mem_restOf hu e hx) s hs
 ·dsimp only
  rw[hp1.length_eq]
  exact hsize
 ·intro us hu v hv'
  rcases List.mem_or_eq_of_mem_set hu with hu|rfl
  ·exact h.stamps us hu v hv'
  ·exact hst v hv'
theorem St.get {N n:Nat}{X:StoreS}{V:List (List Ver)}{ms:List MapS}{B:Nat}{G:Int}(h:St N n X V ms B G){i:Nat}(hi:i<n):
  ∃C a vs m,X.chains[i]?=some C∧X.loads[i]?=some a∧V[i]?=some vs∧ms[i]?=some m∧PartIs N X.pool C a m vs:=by
 have h1:X.chains[i]?=some (X.chains[i]'(by rw[h.nc];exact hi)):=List.getElem?_eq_getElem _
 have h2:X.loads[i]?=some (X.loads[i]'(by rw[h.nl];exact hi)):=List.getElem?_eq_getElem _
 have h3:V[i]?=some (V[i]'(by rw[h.nv];exact hi)):=List.getElem?_eq_getElem _
 have h4:ms[i]?=some (ms[i]'(by rw[h.nm];exact hi)):=List.getElem?_eq_getElem _
 exact⟨_,_,_,_,h1,h2,h3,h4,h.part i _ _ _ _ h1 h2 h3 h4⟩
end
section
theorem Zj {α β:Type}(a:α)(f:α→Option β):(some a >>= f)=f a:=rfl
theorem set_same {α:Type}:∀{l:List α} {i:Nat} {a:α},l[i]?=some a→l.set i a=l
 |[],_,_,h=>by cases h
 |x :: l,0,a,h=>by cases h;rfl
 |x :: l,i+1,a,h=>by
  rw[List.set_cons_succ,set_same (l:=l) (i:=i) (a:=a) h]
structure ChangeIs (N:Nat)(S S':PoolS)(own:List Int)(G':Int)(T T':Option Tr)(m m':Int→Option Int)(c:ChangeS)(K:Nat):Prop where
 inv:PInv N S' (c.made ++ own) G'
 keep:∀a∈own,∀s,S.at a=some s→S'.at a=some s
 tin:MIn S' T'
 tok:MOk T'
 find:∀k,mfind k T'=m' k
 perm:(mhs T ++ c.made).Perm (mhs T' ++ c.gone)
 root:c.root=Qs T'
 len:c.made.length≤K
 same:c.told.new=false→c.made=[]∧∀k,m' k=m k
def Acts (f:Int→PoolS→Option ((Int ⊕ ChangeS) × PoolS))(K:Nat)(D:Int)(m:Int→Option Int)(out:Int ⊕ (ToldS × (Int→Option Int))):Prop:=
 ∀(N:Nat) (S:PoolS) (own:List Int) (G:Int) (T:Option Tr),N≤4096→PInv N S own G→own.length+K≤N→G+D≤MaxTag→MIn S T→MOk T→(mhs T).Nodup→(∀a∈mhs T,a∈own)→(∀k,mfind k T=m k) →
  match out with
  |.inl e=>∃S',f (Qs T) S=some (.inl e,S')∧PInv N S' own (G+D)∧∀a∈own,∀s,S.at a=some s→S'.at a=some s
  |.inr (told,m')=>∃c S' T',f (Qs T) S=some (.inr c,S')∧c.told=told∧ChangeIs N S S' own (G+D) T T' m m' c K
theorem enter_leave {e:EpochS}(h0:e.at0=0)(h1:e.deep=0):e.enter.leave=e:=by
 cases e
 dsimp only at h0 h1
 subst h0 h1
 rfl
theorem Vers.tops {S:PoolS}{sets:List (Int × List Int)}{v:Ver}{l:List Ver}(h:Vers S sets (v :: l)):MIn S v.tree∧MOk v.tree:=⟨h.2.2.2.1,h.2.2.2.2.1⟩
theorem vown_top {v:Ver}{l:List Ver}{a:Int}(h:a∈mhs v.tree):a∈vown (v :: l):=List.mem_append_right _ (List.mem_append_left _ h)
theorem vown_nodup_top {v:Ver}{l:List Ver}(h:(vown (v :: l)).Nodup):(mhs v.tree).Nodup:=(List.nodup_append.1 (List.nodup_append.1 h).2.1).1
end
end Go.Proofs.YteeefedoffplmaaGreat
