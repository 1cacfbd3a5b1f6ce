/- StoreAlone, part Pak: Acts, StateR, StateC, Ways, ManyP. -/
import Derived.Test.YteeefedoffplmaaGreatPaj
import Derived.Test.YteeefedoffplmaaGreatPai
set_option linter.unusedSimpArgs false
set_option linter.unusedVariables false
set_option maxRecDepth 100000
set_option maxHeartbeats 51200000
namespace Go.Proofs.YteeefedoffplmaaGreat
open Go.RowKit Lib Go.Proofs.Tryz
section
theorem alive_root {S:PoolS}{T:Option Tr}(h:MIn S T):Qs T=0∨∃s,S.at (Qs T)=some s:=by
 cases T with
 |none=>exact .inl rfl
 |some t=>exact .inr (h.alive _ t.h_mem)
theorem Edits.change {N:Nat}{S S':PoolS}{own:List Int}{G:Int}{T T':Option Tr}{k:Int}{X:Option Int}{e:EditS}{m:Int→Option Int}(h:Edits N S S' own G T T' k X e)(hm:∀k,mfind k T=m k)
  (hs:(changed (Qs T) e).told.new=false→e.made=[]∧X=m k):ChangeIs N S S' own (G+34) T T' m (fun x=>if x=k then X else m x) (changed (Qs T) e) 34:=by
 have hl:=h.len
 refine⟨h.made.inv.later (by omega),fun a _ s hs=>h.made.keep a s hs,h.tin,h.tok,fun x=>?_,h.perm,h.root,h.len,fun hn=>?_⟩
 ·rw[h.find x,hm x]
 ·obtain⟨h1,h2⟩:=hs hn
  refine⟨h1,fun x=>?_⟩
  by_cases e:x=k
  ·rw[if_pos e,h2,e]
  ·rw[if_neg e]
theorem put_same_is {S:PoolS}{T:Option Tr}{k v:Int}(hi:MIn S T)(ho:MOk T)(h0:0≤k)(h1:k≤4294967295)(hv:mfind k T=some v):S.trieput (Qs T) k v=some ({EditS.zero with root:=Qs T,old:=v,had:=true},S):=by
 cases T with
 |none=>cases hv
 |some t=>
  have hin:t.In S:=hi
  obtain⟨w,u,L,dd,hsp,hd⟩:=down_root k hin ho h0 h1
  have hfd:t.find k=Tr.ends k u:=hsp.find
  have hfv:t.find k=some v:=hv
  unfold PoolS.trieput
  rw[show Qs (some t)=t.h from rfl,if_neg hin.nz,hd,Zj]
  cases u with
  |node a p f c l r=>rw[hfv] at hfd;cases hfd
  |leaf a k' v'=>
   rw[hfv] at hfd
   have hfd:some v=if k'=k then some v' else none:=hfd
   by_cases hk:k'=k
   ·rw[if_pos hk] at hfd
    cases hfd
    simp only[Tr.shape,hk,if_true]
   ·rw[if_neg hk] at hfd
    cases hfd
theorem putE_acts {k v:Int}{m:Int→Option Int}(h0:0≤k)(h1:k≤4294967295):Acts (putE k v) 34 34 m (.inr (⟨(m k).getD 0,(m k).isSome,0,decide (m k≠some v),0⟩,putF m k v)):=by
 intro N S own G T _ h hn hG hi ho _ _ hm
 obtain⟨e,S',T',e1,d,d1,d2⟩:=put_is k v h hn hG hi ho h0 h1
 have hroot:(e.root≠Qs T)↔m k≠some v:=by
  constructor
  ·intro hr hc
   exact hr (d1 (by rw[hm k];exact hc))
  ·intro hc hr
   have hx:=d2 (by rw[hm k];exact hc)
   rcases alive_root hi with h0|⟨s,hs⟩
   ·rw[hr,h0] at hx
    exact d.made.nz _ hx rfl
   ·exact d.made.fresh _ hx s (by rw[hr];exact hs)
 refine⟨changed (Qs T) e,S',T',?_,?_,d.change hm fun hn=>?_⟩
 ·unfold putE
  rw[e1]
  rfl
 ·unfold changed
  rw[d.old,d.had,hm k]
  simp only[hroot]
 ·have hr:¬e.root≠Qs T:=of_decide_eq_false hn
  have hv:m k=some v:=Classical.byContradiction fun hc=>hr (hroot.2 hc)
  refine⟨?_,hv.symm⟩
  rw[put_same_is hi ho h0 h1 (by rw[hm k];exact hv)] at e1
  cases e1
  rfl
theorem dropE_none {k:Int}{m:Int→Option Int}(h0:0≤k)(h1:k≤4294967295)(hk:m k=none):Acts (dropE k) 34 34 m (.inr (ToldS.zero,m)):=by
 intro N S own G T _ h hn hG hi ho _ _ hm
 refine⟨⟨Qs T,[],[],ToldS.zero⟩,S,T,?_,rfl,⟨h.later (by omega),fun _ _ _ h=>h,hi,ho,hm,List.Perm.refl _,rfl,Nat.zero_le _,fun _=>⟨rfl,fun _=>rfl⟩⟩⟩
 unfold dropE
 rw[drop_none k hi ho h0 h1 (by rw[hm k];exact hk)]
 rfl
theorem dropE_some {k v:Int}{m:Int→Option Int}(h0:0≤k)(h1:k≤4294967295)(hk:m k=some v):Acts (dropE k) 34 34 m (.inr (⟨v,true,0,true,0⟩,fun x=>if x=k then none else m x)):=by
 intro N S own G T _ h hn hG hi ho hd _ hm
 have hf:mfind k T=some v:=by rw[hm k];exact hk
 obtain⟨e,S',T',e1,d,d1⟩:=drop_is k v h hn hG hi ho hd h0 h1 hf
 refine⟨changed (Qs T) e,S',T',?_,?_,d.change hm fun hn=>?_⟩
 ·unfold dropE
  rw[e1]
  rfl
 ·unfold changed
  rw[d.old,d.had,hf]
  simp[d1]
 ·exact absurd d1 (of_decide_eq_false hn)
theorem swapE_none {k o v:Int}{m:Int→Option Int}(h0:0≤k)(h1:k≤4294967295)(hk:m k=none):Acts (swapE k o v) 34 34 m (.inl errTrieNone):=by
 intro N S own G T _ h hn hG hi ho _ _ hm
 refine⟨S,?_,h.later (by omega),fun _ _ _ h=>h⟩
 unfold swapE
 rw[mfind_is k hi ho h0 h1,hm k,hk]
 rfl
theorem swapE_other {k o v x:Int}{m:Int→Option Int}(h0:0≤k)(h1:k≤4294967295)(hk:m k=some x)(hx:x≠o):Acts (swapE k o v) 34 34 m (.inl errPartOther):=by
 intro N S own G T _ h hn hG hi ho _ _ hm
 refine⟨S,?_,h.later (by omega),fun _ _ _ h=>h⟩
 unfold swapE
 rw[mfind_is k hi ho h0 h1,hm k,hk,Zj]
 show (if (true:Bool)=false then _ else if x≠o then _ else _)=_
 rw[if_neg (by decide),if_pos hx]
theorem swapE_same {k o:Int}{m:Int→Option Int}(h0:0≤k)(h1:k≤4294967295)(hk:m k=some o):Acts (swapE k o o) 34 34 m (.inr (⟨o,true,0,false,0⟩,m)):=by
 intro N S own G T _ h hn hG hi ho _ _ hm
 refine⟨⟨Qs T,[],[],⟨o,true,0,false,0⟩⟩,S,T,?_,rfl,⟨h.later (by omega),fun _ _ _ h=>h,hi,ho,hm,List.Perm.refl _,rfl,Nat.zero_le _,fun _=>⟨rfl,fun _=>rfl⟩⟩⟩
 unfold swapE
 rw[mfind_is k hi ho h0 h1,hm k,hk,Zj]
 show (if (true:Bool)=false then _ else if o≠o then _ else if o=o then _ else _)=_
 rw[if_neg (by decide),if_neg (by simp),if_pos rfl]
 rfl
theorem swapE_put {k o v:Int}{m:Int→Option Int}(h0:0≤k)(h1:k≤4294967295)(hk:m k=some o)(hv:o≠v):Acts (swapE k o v) 34 34 m (.inr (⟨o,true,0,true,0⟩,putF m k v)):=by
 intro N S own G T hN h hn hG hi ho hd hsub hm
 obtain⟨c,S',T',e1,e2,e3⟩:=putE_acts (k:=k) (v:=v) (m:=m) h0 h1 N S own G T hN h hn hG hi ho hd hsub hm
 refine⟨c,S',T',?_,?_,e3⟩
 ·unfold swapE
  rw[mfind_is k hi ho h0 h1,hm k,hk,Zj]
  show (if (true:Bool)=false then _ else if o≠o then _ else if o=v then _ else _)=_
  rw[if_neg (by decide),if_neg (by simp),if_neg hv]
  exact e1
 ·rw[e2,hk]
  simp[hv]
theorem erase_perm:∀{l:List Int} {i:Nat} (h:i<l.length),(l[i] :: l.eraseIdx i).Perm l
 |[],i,h=>absurd h (Nat.not_lt_zero i)
 |x :: l,0,h=>List.Perm.refl _
 |x :: l,i+1,h=>by
  have ih:=erase_perm (l:=l) (i:=i) (by simpa using h)
  exact (List.Perm.swap _ _ _).trans (ih.cons x)
theorem goneBack_is {N:Nat}{own:List Int}:∀(l:List Int) (c:ChangeS) (S:PoolS) (G:Int),PInv N S (c.made ++ own) G→l.Nodup→(∀h∈l,h∈c.made∨h∈own) →
  ∃c' S' g,goneBack l (c,S)=some (c',S')∧PInv N S' (c'.made ++ own) (G+l.length)∧(∀b,b∉l∨b∈own→∀s,S.at b=some s→S'.at b=some s)∧c'.gone=c.gone ++ g∧c'.root=c.root∧c'.told=c.told∧c'.made.length≤c.made.length ∧
   (c.made ++ g).Perm (c'.made ++ l)∧(∀h∈g,h∈own)
 |[],c,S,G,h,hd,hm=>⟨c,S,[],rfl,by simpa using h,fun _ _ _ h=>h,by simp,rfl,rfl,Nat.le_refl _,by simp,fun _ h=>by cases h⟩
 |a :: l,c,S,G,h,hd,hm=>by
  have hd2:=List.nodup_cons.1 hd
  unfold goneBack
  cases hf:c.made.findIdx? (·=a) with
  |none=>
   dsimp only
   have hna:a∉c.made:=by
    intro hc
    have:=List.findIdx?_eq_none_iff.1 hf a hc
    simp at this
   have hown:a∈own:=(hm a (by simp)).resolve_left hna
   obtain⟨c',S',g,e1,e2,e3,e4,e5,e6,e7,e8,e9⟩:=goneBack_is l {c with gone:=c.gone ++ [a]} S G h hd2.2 (fun x hx=>hm x (by simp[hx]))
   refine⟨c',S',a :: g,e1,e2.later (by simp only[List.length_cons];omega),fun b hb=>e3 b (hb.imp (fun hb=>fun hc=>hb (by simp[hc])) id),by rw[e4];simp,e5,e6,e7,?_,fun x hx=>?_⟩
   ·refine List.perm_iff_count.2 fun x=>?_
    have cc:=List.perm_iff_count.1 e8 x
    simp only[List.count_append,List.count_cons] at cc ⊢
    omega
   ·rcases List.mem_cons.1 hx with rfl|hx
    ·exact hown
    ·exact e9 x hx
  |some i=>
   dsimp only
   have hi:=List.findIdx?_eq_some_iff_getElem.1 hf
   obtain⟨hlt,hp,_⟩:=hi
   have hia:c.made[i]=a:=of_decide_eq_true hp
   have hperm:c.made.Perm (a :: c.made.eraseIdx i):=by
    have:=erase_perm hlt
    rw[hia] at this
    exact this.symm
   have hinv:PInv N S (a :: (c.made.eraseIdx i ++ own)) G:=h.perm (hperm.append_right own)
   obtain⟨S1,g1,g2,g3⟩:=hinv.give
   have hnd:=hinv.nodup
   have hane:=(List.nodup_cons.1 hnd).1
   rw[g1,Zj]
   obtain⟨c',S',g,e1,e2,e3,e4,e5,e6,e7,e8,e9⟩:=goneBack_is l {c with made:=c.made.eraseIdx i} S1 (G+1) g2 hd2.2 (fun x hx=>by
    rcases hm x (by simp[hx]) with hc|hc
    ·left
     rcases List.mem_cons.1 (hperm.mem_iff.1 hc) with rfl|hc
     ·exact absurd hx hd2.1
     ·exact hc
    ·exact .inr hc)
   refine⟨c',S',g,e1,e2.later (by simp only[List.length_cons];omega),fun b hb s hs=>?_,e4,e5,e6,?_,?_,e9⟩
   ·refine e3 b (hb.imp (fun hb=>fun hc=>hb (by simp[hc])) id) s (g3 b ?_ s hs)
    rintro rfl
    rcases hb with hb|hb
    ·exact hb (by simp)
    ·exact hane (List.mem_append_right _ hb)
   ·refine Nat.le_trans e7 ?_
    have:=hperm.length_eq
    simp only[List.length_cons] at this
    dsimp only
    omega
   ·refine List.perm_iff_count.2 fun x=>?_
    have cc:=List.perm_iff_count.1 e8 x
    have c2:=List.perm_iff_count.1 hperm x
    simp only[List.count_append,List.count_cons] at cc c2 ⊢
    omega
def manyStep (x:(Int→Option Int) × Int)(p:Int × Int):(Int→Option Int) × Int:=(putF x.1 p.1 p.2,x.2+if x.1 p.1≠some p.2 then 1 else 0)
structure ManyIs (N:Nat)(S0 S:PoolS)(own:List Int)(G:Int)(T0 T:Option Tr)(m0:Int→Option Int)(x:(Int→Option Int) × Int)(c:ChangeS)(K:Nat):Prop where
 inv:PInv N S (c.made ++ own) G
 keep:∀a∈own,∀s,S0.at a=some s→S.at a=some s
 tin:MIn S T
 tok:MOk T
 find:∀k,mfind k T=x.1 k
 perm:(mhs T0 ++ c.made).Perm (mhs T ++ c.gone)
 root:c.root=Qs T
 len:c.made.length≤K
 many:c.told={ToldS.zero with many:=x.2}
 pos:0≤x.2
 same:x.2=0→c.root=Qs T0∧c.made=[]∧∀k,x.1 k=m0 k
 new:x.2≠0→c.root∈c.made
theorem manyPairs_is {N:Nat}{own:List Int}{S0:PoolS}{T0:Option Tr}{m0:Int→Option Int}(hN:N≤4096)(hT0:(mhs T0).Nodup)(hsub:∀a∈mhs T0,a∈own):∀(l:List (Int × Int)) (c:ChangeS) (S:PoolS) (G:Int) (T:Option Tr) (x:(Int→Option Int) × Int) (K:Nat),
  ManyIs N S0 S own G T0 T m0 x c K→own.length+K+34*l.length≤N→G+10000*l.length≤MaxTag→(∀p∈l,0≤p.1∧p.1≤4294967295) →
  ∃c' S' T',manyPairs l (c,S)=some (c',S')∧ManyIs N S0 S' own (G+10000*l.length) T0 T' m0 (l.foldl manyStep x) c' (K+34*l.length)
 |[],c,S,G,T,x,K,h,hn,hG,hk=>⟨c,S,T,rfl,by simpa using h⟩
 |p :: l,c,S,G,T,x,K,h,hn,hG,hk=>by
  simp only[List.length_cons] at hn hG
  have hp:=hk p (by simp)
  have hlen:=h.len
  have hndm:=h.inv.nodup
  have hndall:(mhs T0 ++ c.made).Nodup:=by
   refine List.nodup_append.2 ⟨hT0,(List.nodup_append.1 hndm).1,fun a ha b hb e=>?_⟩
   subst e
   exact (List.nodup_append.1 hndm).2.2 a hb a (hsub a ha) rfl
  have hndT:=(List.nodup_append.1 (h.perm.nodup_iff.1 hndall)).1
  have hTsub:∀a∈mhs T,a∈c.made∨a∈own:=by
   intro a ha
   have:a∈mhs T0 ++ c.made:=h.perm.mem_iff.2 (List.mem_append_left _ ha)
   rcases List.mem_append.1 this with q|q
   ·exact .inr (hsub a q)
   ·exact .inl q
  obtain⟨e,S1,T1,e1,d,d1,d2⟩:=put_is p.1 p.2 h.inv (by simp only[List.length_append];omega) (by omega) h.tin h.tok hp.1 hp.2
  have hfreshT:∀a∈e.made,a∉mhs T:=by
   intro a ha hb
   obtain⟨s,hs⟩:=h.tin.alive a hb
   exact d.made.fresh a ha s hs
  have hndTe:(mhs T ++ e.made).Nodup:=List.nodup_append.2 ⟨hndT,(List.nodup_append.1 d.made.inv.nodup).1,fun a ha b hb e=>by
   subst e
   exact hfreshT a hb ha⟩
  have hnd1:=d.perm.nodup_iff.1 hndTe
  have hinv1:PInv N S1 (c.made ++ (e.made ++ own)) (G+e.made.length):=by
   refine d.made.inv.perm (List.perm_iff_count.2 fun y=>?_)
   simp only[List.count_append]
   omega
  obtain⟨c2,S2,g,e2,i2,k2,g2,r2,t2,l2,p2,o2⟩:=goneBack_is e.gone {c with root:=e.root,told:={c.told with many:=c.told.many+(if e.root≠c.root then 1 else 0)}} S1 (G+e.made.length) (own:=e.made ++ own) hinv1 (List.nodup_append.1 hnd1).2.1
   (fun a ha=>by
    have:a∈mhs T ++ e.made:=d.perm.mem_iff.2 (List.mem_append_right _ ha)
    rcases List.mem_append.1 this with q|q
    ·exact (hTsub a q).imp id (fun q=>List.mem_append_right _ q)
    ·exact .inr (List.mem_append_left _ q))
  have hgl:e.gone.length≤4096+34:=by
   have c1:=d.perm.length_eq
   have c2:=h.perm.length_eq
   have c3:=d.len
   have c4:(mhs T0).length≤own.length:=List.Nodup.length_le_of_subset hT0 hsub
   simp only[List.length_append] at c1 c2
   omega
  have hdl:=d.len
  have hroot:(e.root≠c.root)↔x.1 p.1≠some p.2:=by
   constructor
   ·intro hr hc
    exact hr (by rw[d1 (by rw[h.find];exact hc),h.root])
   ·intro hc hr
    have hx:=d2 (by rw[h.find];exact hc)
    rcases alive_root h.tin with h0|⟨s,hs⟩
    ·rw[hr,h.root,h0] at hx
     exact d.made.nz _ hx rfl
    ·exact d.made.fresh _ hx s (by rw[hr,h.root];exact hs)
  have hnext:ManyIs N S0 S2 own (G+10000) T0 T1 m0 (manyStep x p) {c2 with made:=c2.made ++ e.made} (K+34):=by
   refine⟨?_,fun a ha s hs=>?_,?_,d.tok,fun k=>?_,?_,?_,?_,?_,?_,?_,?_⟩
   ·refine (i2.later (by omega)).perm ?_
    rw[List.append_assoc]
   ·exact k2 a (.inr (List.mem_append_right _ ha)) s (d.made.keep a s (h.keep a ha s hs))
   ·refine d.tin.of fun a ha n hn=>?_
    obtain⟨s,q1,q2⟩:=Ze.1 hn
    exact Ze.2 ⟨s,k2 a (.inl fun hc=>(List.nodup_append.1 hnd1).2.2 a ha a hc rfl) s q1,q2⟩
   ·rw[d.find k]
    unfold manyStep putF
    dsimp only
    by_cases q:k=p.1
    ·rw[if_pos q,if_pos q]
    ·rw[if_neg q,if_neg q,h.find]
   ·refine List.perm_iff_count.2 fun y=>?_
    have c1:=List.perm_iff_count.1 h.perm y
    have c2':=List.perm_iff_count.1 d.perm y
    have c3:=List.perm_iff_count.1 p2 y
    dsimp only at c3 ⊢
    rw[g2]
    simp only[List.count_append] at c1 c2' c3 ⊢
    omega
   ·show c2.root=_
    rw[r2]
    exact d.root
   ·show (c2.made ++ e.made).length≤K+34
    rw[List.length_append]
    have:c2.made.length≤c.made.length:=l2
    omega
   ·show c2.told=_
    rw[t2]
    dsimp only
    rw[h.many]
    unfold manyStep
    simp only[hroot]
   ·have:=h.pos
    unfold manyStep
    dsimp only
    split <;> omega
   ·intro hz
    have hpos:=h.pos
    have hx:x.1 p.1=some p.2:=by
     refine Classical.byContradiction fun hc=>?_
     have:x.2+1=0:=by
      have hz:x.2+(if x.1 p.1≠some p.2 then 1 else 0)=0:=hz
      rwa [if_pos hc] at hz
     omega
    have hz2:x.2=0:=by
     have hz:x.2+(if x.1 p.1≠some p.2 then 1 else 0)=0:=hz
     rw[if_neg (by simp[hx])] at hz
     omega
    obtain⟨s1,s2,s3⟩:=h.same hz2
    have hsame:=put_same_is h.tin h.tok hp.1 hp.2 (by rw[h.find];exact hx)
    rw[e1,←h.root] at hsame
    cases hsame
    have e2':some (({c with root:=c.root,told:={c.told with many:=c.told.many+(if c.root≠c.root then 1 else 0)}}:ChangeS),S)=some (c2,S2):=e2
    cases e2'
    refine⟨s1,?_,fun k=>?_⟩
    ·show c.made ++ []=[]
     rw[s2];rfl
    ·unfold manyStep putF
     dsimp only
     by_cases q:k=p.1
     ·rw[if_pos q,q,←s3,hx]
     ·rw[if_neg q,s3]
   ·intro hz
    by_cases hx:x.1 p.1=some p.2
    ·have hz2:x.2≠0:=by
      intro hc
      refine hz ?_
      show x.2+(if x.1 p.1≠some p.2 then 1 else 0)=0
      rw[if_neg (by simp[hx]),hc]
      rfl
     have hin:=h.new hz2
     have hsame:=put_same_is h.tin h.tok hp.1 hp.2 (by rw[h.find];exact hx)
     rw[e1,←h.root] at hsame
     cases hsame
     have e2':some (({c with root:=c.root,told:={c.told with many:=c.told.many+(if c.root≠c.root then 1 else 0)}}:ChangeS),S)=some (c2,S2):=e2
     cases e2'
     exact List.mem_append_left _ hin
    ·have:=d2 (by rw[h.find];exact hx)
     refine List.mem_append_right _ ?_
     show c2.root∈_
     rw[r2]
     exact this
  obtain⟨c',S',T',f1,f2⟩:=manyPairs_is hN hT0 hsub l _ S2 (G+10000) T1 _ (K+34) hnext (by omega) (by omega) (fun q hq=>hk q (by simp[hq]))
  refine⟨c',S',T',?_,?_⟩
  ·unfold manyPairs
   rw[h.root,e1,Zj]
   dsimp only
   rw[←h.root,e2,Zj]
   exact f1
  ·have a1:G+10000*((p :: l).length:Int)=G+10000+10000*(l.length:Int):=by simp only[List.length_cons];omega
   have a2:K+34*(p :: l).length=K+34+34*l.length:=by simp only[List.length_cons];omega
   rw[a1,a2]
   exact f2
theorem manyE_acts {l:List (Int × Int)}{m:Int→Option Int}(hk:∀p∈l,0≤p.1∧p.1≤4294967295):
  Acts (manyE l) (34*l.length) (10000*l.length) m (.inr (⟨0,false,0,decide ((l.foldl manyStep (m,0)).2≠0),(l.foldl manyStep (m,0)).2⟩,(l.foldl manyStep (m,0)).1)):=by
 intro N S own G T hN h hn hG hi ho hd hsub hm
 obtain⟨c,S',T',e1,e2⟩:=manyPairs_is (S0:=S) (m0:=m) hN hd hsub l ⟨Qs T,[],[],ToldS.zero⟩ S G T (m,0) 0
  ⟨by simpa using h,fun _ _ _ h=>h,hi,ho,hm,List.Perm.refl _,rfl,Nat.zero_le _,rfl,Int.le_refl _,fun _=>⟨rfl,rfl,fun _=>rfl⟩,fun h=>absurd rfl h⟩ (by omega) hG hk
 have hne:(c.root≠Qs T)↔(l.foldl manyStep (m,0)).2≠0:=by
  constructor
  ·intro hr hz
   exact hr (e2.same hz).1
  ·intro hz hr
   have hin:=e2.new hz
   have hnd:=e2.inv.nodup
   obtain⟨s,hs⟩:=e2.inv.alive c.root (List.mem_append_left _ hin)
   cases T with
   |none=>exact at_nz hs hr
   |some t=>
    have hr:c.root=t.h:=hr
    exact (List.nodup_append.1 hnd).2.2 _ hin _ (hsub t.h t.h_mem) hr
 refine⟨{c with told:={c.told with new:=decide (c.root≠Qs T)}},S',T',?_,?_,⟨e2.inv,e2.keep,e2.tin,e2.tok,e2.find,e2.perm,e2.root,by have:=e2.len;show c.made.length≤_;omega,fun hn=>?_⟩⟩
 ·unfold manyE
  rw[e1]
  rfl
 ·show {c.told with new:=decide (c.root≠Qs T)}=_
  rw[e2.many]
  simp only[hne]
  rfl
 ·have hz:¬(c.root≠Qs T):=of_decide_eq_false hn
  rw[hne] at hz
  have:=e2.same (Classical.byContradiction hz)
  exact this.2
end
section
def ShownIs (V:List (List Ver))(ms:List MapS)(t:Int)(sh:List MapS):Prop:=
 ∀(i:Nat) (vs:List Ver) (m:MapS),V[i]?=some vs→sh[i]?=some m→match vs with
  |[]=>ms[i]?=some m
  |v :: l=>∃u,firstAt t (v :: l)=some u∧u∈v :: l∧u.num=m.2∧∀k,mfind k u.tree=m.1 k
theorem ShownIs.now {N n:Nat}{X:StoreS}{V:List (List Ver)}{ms:List MapS}{B:Nat}{G:Int}(h:St N n X V ms B G){t:Int}(ht:X.clock.now≤t):ShownIs V ms t ms:=by
 intro i vs m hv hm
 have hi:i<n:=by rw[←h.nv];exact (List.getElem?_eq_some_iff.1 hv).1
 obtain⟨C,a,vs',m0,hC,ha,hv',hm',hp⟩:=h.get hi
 rw[hv] at hv'
 cases hv'
 rw[hm] at hm'
 cases hm'
 cases vs with
 |nil=>exact hm
 |cons v l=>
  have hst:=h.stamps _ (List.mem_of_getElem? hv) v (by simp)
  refine⟨v,?_,by simp,hp.2.2.2.2.1,hp.2.2.2.2.2⟩
  show (if v.stamp > t then _ else _)=_
  rw[if_neg (by omega)]
theorem ShownIs.ready {N n:Nat}{X':StoreS}{V V':List (List Ver)}{ms sh:List MapS}{B':Nat}{G':Int}(h':St N n X' V' ms B' G'){i:Nat}(hV:V'=V∨V[i]?=some []∧∃v,v.stamp=1∧V'=V.set i [v]){t:Int}(ht:1≤t)
  (hs:ShownIs V ms t sh):ShownIs V' ms t sh:=by
 rcases hV with rfl|⟨h0,v,hv1,rfl⟩
 ·exact hs
 ·intro j vs m hj hm
  by_cases e:j=i
  ·subst e
   have hlt:=(List.getElem?_eq_some_iff.1 h0).1
   have hj2:=hj
   rw[List.getElem?_set_self hlt] at hj2
   cases hj2
   have hmm:ms[j]?=some m:=hs j [] m h0 hm
   have hjn:j<n:=by rw[←h'.nv];exact (List.getElem?_eq_some_iff.1 hj).1
   obtain⟨C,a,vs',m0,hC,ha,hv',hm',hp⟩:=h'.get hjn
   rw[hj] at hv'
   cases hv'
   rw[hmm] at hm'
   cases hm'
   refine⟨v,?_,by simp,hp.2.2.2.2.1,hp.2.2.2.2.2⟩
   show (if v.stamp > t then _ else _)=_
   rw[if_neg (by omega)]
  ·rw[List.getElem?_set_ne (Ne.symm e)] at hj
   exact hs j vs m hj hm
theorem ShownIs.write {V:List (List Ver)}{ms ms' sh:List MapS}{t:Int}{i:Nat}{v w:Ver}{l:List Ver}(hv:V[i]?=some (v :: l))(hw:t<w.stamp)(hms:∀j,j≠i→ms'[j]?=ms[j]?)(hs:ShownIs V ms t sh):ShownIs (V.set i (w :: v :: l)) ms' t sh:=by
 intro j vs m hj hm
 by_cases e:j=i
 ·subst e
  rw[List.getElem?_set_self (List.getElem?_eq_some_iff.1 hv).1] at hj
  cases hj
  obtain⟨u,h1,h2,h3,h4⟩:=hs j _ m hv hm
  refine⟨u,?_,List.mem_cons_of_mem _ h2,h3,h4⟩
  show (if w.stamp > t then firstAt t (v :: l) else _)=_
  rw[if_pos hw,h1]
 ·rw[List.getElem?_set_ne (Ne.symm e)] at hj
  have:=hs j vs m hj hm
  cases vs with
  |nil=>rw[hms j e];exact this
  |cons v l=>exact this
theorem PInv.own_le {N:Nat}{S:PoolS}{own:List Int}{G:Int}(h:PInv N S own G):own.length≤N:=by
 obtain⟨F,_,_,_,h4⟩:=h.free
 omega
theorem St.vlen {N n:Nat}{X:StoreS}{V:List (List Ver)}{ms:List MapS}{B:Nat}{G:Int}(h:St N n X V ms B G){i:Nat}{vs:List Ver}(hv:V[i]?=some vs):vs.length≤N:=by
 have h1:=h.inv.own_le
 have h2:=(owns_part X.epoch hv).length_eq
 simp only[vown,List.length_append,List.length_map] at h2
 omega
theorem Vers.mem {S:PoolS}{sets:List (Int × List Int)}:∀{vs:List Ver},Vers S sets vs→∀v∈vs,S.read v.h=some ⟨Qs v.tree,v.num,0,0⟩∧MIn S v.tree∧MOk v.tree
 |[],_,_,hv=>by cases hv
 |v :: l,h,u,hu=>by
  rcases List.mem_cons.1 hu with rfl|hu
  ·obtain⟨g,h1⟩:=h.1
   exact⟨Ze.2 ⟨_,h1,rfl⟩,h.tops⟩
  ·exact h.tail.mem u hu
theorem retire_leave {e:EpochS}(h0:e.at0=0)(h1:e.deep=0)(l:List Int):(Zk e.enter l).leave={e with list:=e.list ++ l.map fun h=>(h,e.now)}:=by
 have key:∀(l:List Int) (e:EpochS),Zk e l={e with list:=e.list ++ l.map fun h=>(h,e.now)}:=by
  intro l
  induction l with
  |nil=>intro e;simp[Zk]
  |cons x l ih=>
   intro e
   show Zk (e.retire x) l=_
   rw[ih]
   simp[EpochS.retire]
 rw[key]
 cases e
 dsimp only at h0 h1
 subst h0 h1
 rfl
theorem trim_is {N n:Nat}{X:StoreS}{V:List (List Ver)}{ms:List MapS}{B:Nat}{G:Int}(h:St N n X V ms B G){i:Nat}(hi:i<n):
  ∃c X' V',X.trim i=some (c,X')∧St N n X' V' ms B G∧X'.clock=X.clock∧X'.epoch.now=X.epoch.now∧∀t sh,X.clock.least≤t→ShownIs V ms t sh→ShownIs V' ms t sh:=by
 obtain⟨C,a,vs,m,hC,ha,hv,hm,hp⟩:=h.get hi
 have hvl:=h.vlen hv
 have hel:=enter_leave h.at0 h.deep
 have hC0:C.head=headOf vs∧Vers X.pool C.sets vs:=by
  cases vs with
  |nil=>exact⟨hp.2.2.1,trivial⟩
  |cons v l=>exact⟨hp.2.1,hp.2.2.2.1⟩
 have hat:=atStamp_is X.clock.now X.clock.least hC0.2 hC0.1 (by rw[h.inv.slots];omega)
 cases hf:firstAt X.clock.least vs with
 |none=>
  refine⟨0,X,V,?_,h,rfl,rfl,fun _ _ _ hs=>hs⟩
  unfold StoreS.trim
  rw[hC,Zj]
  dsimp only
  rw[hat,Zj,hf]
  dsimp only [Option.map]
  rw[hel]
 |some v=>
  obtain⟨pre,l,hvs,hpre,hst⟩:=firstAt_split hf
  subst hvs
  have hpos:PartIs N X.pool C a m (pre ++ v :: l):=hp
  have hperm:=owns_part X.epoch hv
  have hinv:PInv N X.pool (vown (pre ++ v :: l) ++ restOf V i X.epoch) G:=h.inv.perm hperm
  have hnd:((pre ++ v :: l).map Ver.h).Nodup:=(List.nodup_append.1 (List.nodup_append.1 hinv.nodup).1).1
  have hnd2:((v :: l).map Ver.h).Nodup:=by
   rw[List.map_append] at hnd
   exact (List.nodup_append.1 hnd).2.1
  have hsuf:Vers X.pool C.sets (v :: l):=by
   have hall:=hC0.2
   clear hp hv hf hat hvl hpos hperm hinv hnd hC0 hpre
   induction pre with
   |nil=>exact hall
   |cons x pre ih=>exact ih hall.tail
  have hparts:a.state=2∧C.sets.length=N+1∧∃v0 l0,pre ++ v :: l=v0 :: l0∧v0.num=m.2∧∀k,mfind k v0.tree=m.1 k:=by
   cases pre with
   |nil=>exact⟨hp.1,hp.2.2.1,v,l,rfl,hp.2.2.2.2⟩
   |cons x pre=>exact⟨hp.1,hp.2.2.1,x,pre ++ v :: l,rfl,hp.2.2.2.2⟩
  obtain⟨c,C',S',e1,t1,t2,t3,t4,t5,t6,t7,t8⟩:=trimFrom_is l v (X.pool.slots.length+1) 0 X.pool C X.epoch.enter hinv hsuf hparts.2.1 (by
   have:(pre ++ v :: l).length≤N:=hvl
   simp only[List.length_append,List.length_cons] at this
   rw[h.inv.slots]
   omega) hnd2
  have hcut:=Vers.cut t4 t6 t5 t8 t7 (pre:=pre) hC0.2 hnd
  have hrest:∀b∈restOf V i X.epoch,b∉(v :: l).map Ver.h:=by
   intro b hb hc
   have hm:b∈vown (pre ++ v :: l):=List.mem_append_left _ (by
    rw[List.map_append]
    exact List.mem_append_right _ hc)
   exact (List.nodup_append.1 hinv.nodup).2.2 b hm b hb rfl
  have hown:(vown (pre ++ v :: l) ++ restOf V i X.epoch).Perm (vown (pre ++ [{v with gone:=[]}]) ++ restOf V i {X.epoch with list:=X.epoch.list ++ (cutAll v l).map fun h=>(h,X.epoch.now)}):=by
   refine List.perm_iff_count.2 fun x=>?_
   have cc:=List.perm_iff_count.1 (cutAll_own l v hsuf) x
   have htop:vtop (pre ++ [{v with gone:=[]}])=vtop (pre ++ v :: l):=by cases pre <;> rfl
   have hmm:((cutAll v l).map fun h=>(h,X.epoch.now)).map (·.1)=cutAll v l:=by simp[List.map_map,Function.comp_def]
   unfold vown restOf
   rw[htop]
   simp only[List.map_append,hmm]
   simp only[vgone,List.flatMap_append,List.flatMap_cons,List.flatMap_nil,List.map_cons,List.map_nil,List.count_append,List.count_cons,List.count_nil] at cc ⊢
   omega
  have hpart':PartIs N S' C' a m (pre ++ [{v with gone:=[]}]):=by
   obtain⟨v0,l0,q1,q2,q3⟩:=hparts.2.2
   cases pre with
   |nil=>
    cases q1
    exact⟨hparts.1,by rw[t2];exact hC0.1,t3,hcut,q2,q3⟩
   |cons x pre=>
    cases q1
    exact⟨hparts.1,by rw[t2];exact hC0.1,t3,hcut,q2,q3⟩
  have hlen:=hown.length_eq
  have hlen2:=hperm.length_eq
  have hsz:=h.size
  have hup:=h.upd (B':=B) (G':=G) (a':=a) (C':=C') (vs':=pre ++ [{v with gone:=[]}]) (m':=m) (S':=S') (e':={X.epoch with list:=X.epoch.list ++ (cutAll v l).map fun h=>(h,X.epoch.now)}) hC ha hv hm
   (t1.perm hown) (fun b hb s hs=>by rw[t5 b (hrest b hb)];exact hs) hpart' (by rw[←hlen,←hlen2,set_same ha];exact hsz) (fun u hu=>by
    have hx:=h.stamps _ (List.mem_of_getElem? hv)
    rcases List.mem_append.1 hu with q|q
    ·exact hx u (List.mem_append_left _ q)
    ·obtain rfl:=List.mem_singleton.1 q
     exact hx v (List.mem_append_right _ (by simp))) h.at0 h.deep
  rw[set_same ha,set_same hm] at hup
  refine⟨c,_,_,?_,hup,rfl,rfl,fun t sh ht hs=>?_⟩
  ·unfold StoreS.trim
   rw[hC,Zj]
   dsimp only
   rw[hat,Zj,hf]
   dsimp only [Option.map]
   rw[e1,Zj]
   dsimp only
   rw[retire_leave h.at0 h.deep]
  ·intro j us m2 hj hm2
   by_cases e:j=i
   ·subst e
    rw[List.getElem?_set_self (List.getElem?_eq_some_iff.1 hv).1] at hj
    cases hj
    have hold:∃u,firstAt t (pre ++ v :: l)=some u∧u∈pre ++ v :: l∧u.num=m2.2∧∀k,mfind k u.tree=m2.1 k:=by
     have:=hs j _ m2 hv hm2
     cases pre with
     |nil=>exact this
     |cons x pre=>exact this
    obtain⟨u,q1,q2,q3,q4⟩:=hold
    obtain⟨u1,u2,w1,w2,w3⟩:=firstAt_cut (t:=t) pre v {v with gone:=[]} l [] (by omega) rfl
    rw[q1] at w1
    cases w1
    have hgoal:∃u,firstAt t (pre ++ [{v with gone:=[]}])=some u∧u∈pre ++ [{v with gone:=[]}]∧u.num=m2.2∧∀k,mfind k u.tree=m2.1 k:=by
     refine⟨u2,w2,?_,?_⟩
     ·obtain⟨p3,l3,z1,_,_⟩:=firstAt_split w2
      rw[z1]
      simp
     ·rcases w3 with rfl|⟨rfl,rfl⟩
      ·exact⟨q3,q4⟩
      ·exact⟨q3,q4⟩
    cases pre with
    |nil=>exact hgoal
    |cons x pre=>exact hgoal
   ·rw[List.getElem?_set_ne (Ne.symm e)] at hj
    exact hs j us m2 hj hm2
end
section
theorem erase_permG {α:Type}:∀{l:List α} {i:Nat} (h:i<l.length),(l[i] :: l.eraseIdx i).Perm l
 |[],i,h=>absurd h (Nat.not_lt_zero i)
 |x :: l,0,h=>List.Perm.refl _
 |x :: l,i+1,h=>by
  have ih:=erase_permG (l:=l) (i:=i) (by simpa using h)
  exact (List.Perm.swap _ _ _).trans (ih.cons x)
theorem collectFrom_is {N:Nat}{own:List Int}:∀(f:Nat) (n:Int) (e:EpochS) (S:PoolS) (G:Int),e.list.length<f→PInv N S (own ++ e.list.map (·.1)) G →
  ∃n' e' S',collectFrom f n (e,S)=some (n',e',S')∧PInv N S' (own ++ e'.list.map (·.1)) (G+e.list.length)∧(∀b∈own,∀s,S.at b=some s→S'.at b=some s)∧(∃l,e'={e with list:=l})∧e'.list.length≤e.list.length
 |0,_,_,_,_,hf,_=>by omega
 |f+1,n,e,S,G,hf,h=>by
  unfold collectFrom
  cases hfi:e.list.findIdx? (fun x=>x.2+2≤e.now) with
  |none=>exact⟨n,e,S,rfl,h.later (by omega),fun _ _ _ h=>h,⟨e.list,rfl⟩,Nat.le_refl _⟩
  |some i=>
   dsimp only
   obtain⟨hlt,_,_⟩:=List.findIdx?_eq_some_iff_getElem.1 hfi
   have hget:e.list[i]?=some e.list[i]:=List.getElem?_eq_getElem hlt
   rw[hget,Zj]
   have hperm:(own ++ e.list.map (·.1)).Perm (e.list[i].1 :: (own ++ (e.list.eraseIdx i).map (·.1))):=by
    refine List.perm_iff_count.2 fun x=>?_
    have c:=List.perm_iff_count.1 ((erase_permG hlt).map (·.1)) x
    simp only[List.map_cons,List.count_append,List.count_cons] at c ⊢
    omega
   have hinv:=h.perm hperm
   obtain⟨S1,g1,g2,g3⟩:=hinv.give
   rw[g1,Zj]
   have hle:(e.list.eraseIdx i).length+1=e.list.length:=by
    have:=(erase_permG hlt).length_eq
    simpa using this
   obtain⟨n',e',S2,e1,e2,e3,⟨l,e4⟩,e5⟩:=collectFrom_is f (n+1) {e with list:=e.list.eraseIdx i} S1 (G+1) (by dsimp only;omega) g2
   refine⟨n',e',S2,e1,e2.later (by dsimp only;omega),fun b hb s hs=>e3 b hb s (g3 b ?_ s hs),⟨l,e4⟩,by dsimp only at e5;omega⟩
   rintro rfl
   exact (List.nodup_cons.1 hinv.nodup).1 (List.mem_append_left _ hb)
theorem collect_is {N n:Nat}{X:StoreS}{V:List (List Ver)}{ms:List MapS}{B:Nat}{G:Int}(h:St N n X V ms B G):
  ∃c X',X.collect=some (c,X')∧St N n X' V ms B (G+5000)∧X'.clock=X.clock∧X'.epoch.now=X.epoch.now:=by
 have hl:X.epoch.list.length≤4096:=by
  have h1:=h.inv.own_le
  have:=h.small
  simp only[owns,List.length_append,List.length_map] at h1
  omega
 obtain⟨c,e',S',e1,e2,e3,⟨l,rfl⟩,e5⟩:=collectFrom_is (own:=V.flatMap vown) (X.epoch.list.length+1) 0 X.epoch X.pool G (by omega) h.inv
 have hsz:=h.size
 dsimp only at e5 e2
 refine⟨c,{X with pool:=S',epoch:={X.epoch with list:=l}},?_,⟨h.small,e2.later (by omega),h.nc,h.nl,h.nv,h.nm,?_,?_,h.at0,h.deep,h.now,h.stamps⟩,rfl,rfl⟩
 ·unfold StoreS.collect collect
  rw[e1]
  rfl
 ·intro i C a vs m hC ha hv hm
  exact (h.part i C a vs m hC ha hv hm).keep fun b hb s hs=>e3 b (List.mem_flatMap.2 ⟨vs,List.mem_of_getElem? hv,hb⟩) s hs
 ·simp only[owns,List.length_append,List.length_map] at hsz ⊢
  omega
theorem advance_is {N n:Nat}{X:StoreS}{V:List (List Ver)}{ms:List MapS}{B:Nat}{G:Int}(h:St N n X V ms B G):
  X.advance=some {X with epoch:={X.epoch with now:=X.epoch.now+1}}∧St N n {X with epoch:={X.epoch with now:=X.epoch.now+1}} V ms B G:=by
 refine⟨?_,{h with}⟩
 unfold StoreS.advance EpochS.advance
 rw[if_pos (.inl h.at0)]
 rfl
theorem St.clock {N n:Nat}{X:StoreS}{V:List (List Ver)}{ms:List MapS}{B:Nat}{G:Int}(h:St N n X V ms B G){c:ClockS}(hc:X.clock.now≤c.now):St N n {X with clock:=c} V ms B G:=
 {h with now:=Int.le_trans h.now hc,stamps:=fun vs hv v hm=>Int.le_trans (h.stamps vs hv v hm) hc}
structure SnapS where
 lease:Nat
 stamp:Int
 parts:List MapS
 is:Bool
structure SnapsIs (c:ClockS)(snaps:List SnapS):Prop where
 stamp:∀s∈snaps,1≤s.stamp∧s.stamp<c.now
 lease:∀s∈snaps,s.lease<c.leases.length
 held:∀s∈snaps,s.is=true→c.leases[s.lease]?=some (s.stamp+1)
 free:∀s∈snaps,s.is=false→c.leases[s.lease]?≠some (s.stamp+1)
 order:snaps.Pairwise fun a b=>a.stamp<b.stamp
 range:∀x∈c.leases,x=0∨2≤x∧x≤c.now
 count:snaps.countP (·.is)=c.leases.countP (fun x=>decide (x≠0))
theorem countP_set {l:List Int}{i:Nat}{x:Int}(y:Int)(p:Int→Bool)(h:l[i]?=some x):(l.set i y).countP p+(if p x then 1 else 0)=l.countP p+(if p y then 1 else 0):=by
 induction l generalizing i with
 |nil=>cases h
 |cons z l ih=>
  cases i with
  |zero=>
   cases h
   simp only[List.set_cons_zero,List.countP_cons]
   omega
  |succ i=>
   have:=ih (i:=i) h
   simp only[List.set_cons_succ,List.countP_cons]
   omega
theorem take_none {c:ClockS}{snaps:List SnapS}(h:SnapsIs c snaps):c.take=none↔snaps.countP (·.is)=c.leases.length:=by
 rw[h.count]
 unfold ClockS.take
 rw[List.countP_eq_length]
 cases hf:c.leases.findIdx? (·=0) with
 |none=>
  simp only[true_iff]
  intro x hx
  have:=List.findIdx?_eq_none_iff.1 hf x hx
  simpa using this
 |some i=>
  obtain⟨hlt,hp,_⟩:=List.findIdx?_eq_some_iff_getElem.1 hf
  simp only[reduceCtorEq,false_iff]
  intro hc
  have h1:=hc c.leases[i] (List.getElem_mem hlt)
  have h2:c.leases[i]=0:=of_decide_eq_true hp
  rw[h2] at h1
  simp at h1
theorem take_is {c:ClockS}{snaps:List SnapS}(h:SnapsIs c snaps)(hn:1≤c.now)(hc:snaps.countP (·.is)≠c.leases.length)(parts:List MapS):
  ∃i:Nat,i<c.leases.length∧c.leases[i]?=some 0∧c.take=some ((i:Int),c.now,⟨c.now+1,c.leases.set i (c.now+1)⟩)∧SnapsIs ⟨c.now+1,c.leases.set i (c.now+1)⟩ (snaps ++ [⟨i,c.now,parts,true⟩])∧∀s∈snaps,s.stamp<c.now∧(s.is=true→s.lease≠i):=by
 have ht:c.take≠none:=fun e=>hc ((take_none h).1 e)
 unfold ClockS.take at ht ⊢
 cases hf:c.leases.findIdx? (·=0) with
 |none=>rw[hf] at ht;exact absurd rfl ht
 |some i=>
  obtain⟨hlt,hp,_⟩:=List.findIdx?_eq_some_iff_getElem.1 hf
  have h2:c.leases[i]=0:=of_decide_eq_true hp
  have h0:c.leases[i]?=some 0:=by rw[List.getElem?_eq_getElem hlt,h2]
  have hne:∀s∈snaps,s.is=true→s.lease≠i:=by
   intro s hs hi e
   have:=h.held s hs hi
   rw[e,h0] at this
   have:=Option.some.inj this
   have:=(h.stamp s hs).1
   omega
  refine⟨i,hlt,h0,rfl,⟨?_,?_,?_,?_,?_,?_,?_⟩,fun s hs=>⟨(h.stamp s hs).2,hne s hs⟩⟩
  ·intro s hs
   rcases List.mem_append.1 hs with hs|hs
   ·have:=h.stamp s hs
    exact⟨this.1,by dsimp only;omega⟩
   ·obtain rfl:=List.mem_singleton.1 hs
    exact⟨hn,by dsimp only;omega⟩
  ·intro s hs
   dsimp only
   rw[List.length_set]
   rcases List.mem_append.1 hs with hs|hs
   ·exact h.lease s hs
   ·obtain rfl:=List.mem_singleton.1 hs
    exact hlt
  ·intro s hs hi
   dsimp only
   rcases List.mem_append.1 hs with hs|hs
   ·rw[List.getElem?_set_ne (Ne.symm (hne s hs hi))]
    exact h.held s hs hi
   ·obtain rfl:=List.mem_singleton.1 hs
    rw[List.getElem?_set_self hlt]
  ·intro s hs hi
   dsimp only
   rcases List.mem_append.1 hs with hs|hs
   ·by_cases e:s.lease=i
    ·rw[e,List.getElem?_set_self hlt]
     have:=(h.stamp s hs).2
     intro hc
     have:=Option.some.inj hc
     omega
    ·rw[List.getElem?_set_ne (Ne.symm e)]
     exact h.free s hs hi
   ·obtain rfl:=List.mem_singleton.1 hs
    cases hi
  ·refine List.pairwise_append.2 ⟨h.order,List.pairwise_singleton _ _,fun a ha b hb=>?_⟩
   obtain rfl:=List.mem_singleton.1 hb
   exact (h.stamp a ha).2
  ·intro x hx
   dsimp only at hx ⊢
   rcases List.mem_or_eq_of_mem_set hx with hx|rfl
   ·rcases h.range x hx with e|e
    ·exact .inl e
    ·exact .inr ⟨e.1,by omega⟩
   ·exact .inr ⟨by omega,by omega⟩
  ·have:=countP_set (c.now+1) (fun x=>decide (x≠0)) h0
   have hk:=h.count
   rw[List.countP_append]
   simp only[List.countP_cons,List.countP_nil]
   simp only[ne_eq,not_true_eq_false,decide_false,Bool.false_eq_true,if_false] at this
   rw[if_pos (by simp;omega)] at this
   simp only[if_true]
   simp only[ne_eq] at hk this ⊢
   omega
theorem free_is {c:ClockS}{snaps:List SnapS}(h:SnapsIs c snaps){j:Nat}{s:SnapS}(hs:snaps[j]?=some s)(hi:s.is=true):
  c.leases[s.lease]?=some (s.stamp+1)∧s.stamp+1≠0∧SnapsIs ⟨c.now,c.leases.set s.lease 0⟩ (snaps.set j {s with is:=false}):=by
 have hm:=List.mem_of_getElem? hs
 have hh:=h.held s hm hi
 have hst:=h.stamp s hm
 have hjl:=(List.getElem?_eq_some_iff.1 hs).1
 have hll:=(List.getElem?_eq_some_iff.1 hh).1
 have hother:∀(i:Nat) (x:SnapS),snaps[i]?=some x→i≠j→x.stamp≠s.stamp:=by
  intro i x hx hne e
  have hil:=(List.getElem?_eq_some_iff.1 hx).1
  have q1:snaps[i]=x:=by rw[List.getElem?_eq_getElem hil] at hx;exact Option.some.inj hx
  have q2:snaps[j]=s:=by rw[List.getElem?_eq_getElem hjl] at hs;exact Option.some.inj hs
  have hp:=List.pairwise_iff_getElem.1 h.order
  rcases Nat.lt_or_gt_of_ne hne with hlt|hlt
  ·have:=hp i j hil hjl hlt
   rw[q1,q2] at this
   omega
  ·have:=hp j i hjl hil hlt
   rw[q1,q2] at this
   omega
 have hmem:∀x∈snaps.set j {s with is:=false},x={s with is:=false}∨x∈snaps∧x.stamp≠s.stamp:=by
  intro x hx
  obtain⟨i,hx⟩:=List.mem_iff_getElem?.1 hx
  by_cases e:i=j
  ·subst e
   rw[List.getElem?_set_self hjl] at hx
   cases hx
   exact .inl rfl
  ·rw[List.getElem?_set_ne (Ne.symm e)] at hx
   exact .inr ⟨List.mem_of_getElem? hx,hother i x hx e⟩
 refine⟨hh,by omega,⟨?_,?_,?_,?_,?_,?_,?_⟩⟩
 ·intro x hx
  rcases hmem x hx with rfl|⟨hx,_⟩
  ·exact hst
  ·exact h.stamp x hx
 ·intro x hx
  dsimp only
  rw[List.length_set]
  rcases hmem x hx with rfl|⟨hx,_⟩
  ·exact h.lease s hm
  ·exact h.lease x hx
 ·intro x hx hxi
  dsimp only
  rcases hmem x hx with rfl|⟨hx,hne⟩
  ·cases hxi
  ·have hxh:=h.held x hx hxi
   by_cases e:x.lease=s.lease
   ·rw[e,hh] at hxh
    have:=Option.some.inj hxh
    omega
   ·rw[List.getElem?_set_ne (Ne.symm e)]
    exact hxh
 ·intro x hx hxi
  dsimp only
  rcases hmem x hx with rfl|⟨hx,hne⟩
  ·dsimp only
   rw[List.getElem?_set_self hll]
   intro hc
   have:=Option.some.inj hc
   omega
  ·by_cases e:x.lease=s.lease
   ·rw[e,List.getElem?_set_self hll]
    have:=(h.stamp x hx).1
    intro hc
    have:=Option.some.inj hc
    omega
   ·rw[List.getElem?_set_ne (Ne.symm e)]
    exact h.free x hx hxi
 ·have hmap:(snaps.set j {s with is:=false}).map SnapS.stamp=snaps.map SnapS.stamp:=by
   rw[List.map_set]
   refine set_same ?_
   rw[List.getElem?_map,hs]
   rfl
  have h1:=List.pairwise_map.2 (h.order:snaps.Pairwise fun a b=>a.stamp<b.stamp)
  rw[←hmap] at h1
  exact List.pairwise_map.1 h1
 ·intro x hx
  rcases List.mem_or_eq_of_mem_set hx with hx|rfl
  ·exact h.range x hx
  ·exact .inl rfl
 ·have h1:=countP_set 0 (fun x=>decide (x≠0)) hh
  have hk:=h.count
  have h2:(snaps.set j {s with is:=false}).countP (·.is)+1=snaps.countP (·.is):=by
   clear hmem hother hk h1
   induction snaps generalizing j with
   |nil=>cases hs
   |cons z l ih=>
    cases j with
    |zero=>
     cases hs
     simp[hi]
    |succ j=>
     have hs':l[j]?=some s:=hs
     have hl':∀(l:List SnapS) (j:Nat) (s:SnapS),l[j]?=some s→s.is=true→(l.set j {s with is:=false}).countP (·.is)+1=l.countP (·.is):=by
      intro l
      induction l with
      |nil=>intro j s h;cases h
      |cons y l ih=>
       intro j s h hi
       cases j with
       |zero=>cases h;simp[hi]
       |succ j=>
        have:=ih j s h hi
        simp only[List.set_cons_succ,List.countP_cons]
        omega
     have:=hl' l j s hs' hi
     simp only[List.set_cons_succ,List.countP_cons]
     omega
  rw[if_pos (by simp;omega)] at h1
  simp only[ne_eq,not_true_eq_false,decide_false,Bool.false_eq_true,if_false] at h1
  simp only[ne_eq] at hk ⊢
  omega
theorem least_le {c:ClockS}{snaps:List SnapS}(h:SnapsIs c snaps):∀s∈snaps,s.is=true→c.least≤s.stamp:=by
 intro s hs hi
 have hh:=h.held s hs hi
 have hm:=List.mem_of_getElem? hh
 have hst:=(h.stamp s hs).1
 unfold ClockS.least
 have key:∀(l:List Int) (m:Int),l.foldl (fun m x=>if x=0 then m else min m (x-1)) m≤m:=by
  intro l
  induction l with
  |nil=>intro m;exact Int.le_refl m
  |cons y l ih=>
   intro m
   have:=ih (if y=0 then m else min m (y-1))
   have h2:(if y=0 then m else min m (y-1))≤m:=by split <;> omega
   simp only[List.foldl_cons]
   omega
 have key2:∀(l:List Int) (m:Int),s.stamp+1∈l→l.foldl (fun m x=>if x=0 then m else min m (x-1)) m≤s.stamp:=by
  intro l
  induction l with
  |nil=>intro m h;cases h
  |cons y l ih=>
   intro m hy
   simp only[List.foldl_cons]
   rcases List.mem_cons.1 hy with e|e
   ·subst e
    have:=key l (if s.stamp+1=0 then m else min m (s.stamp+1-1))
    rw[if_neg (by omega)] at this
    rw[if_neg (by omega)]
    omega
   ·exact ih _ e
 exact key2 _ _ hm
end
section
theorem alive_in64 {S:PoolS}{a:Int}{s:SlotS}(h:S.at a=some s):0≤a∧a≤1152921504606846976:=by
 have h1:=word_of_idx (at_some.1 h).2.1
 unfold isWordB T20 T40 at h1
 simp only[Bool.and_eq_true,decide_eq_true_eq] at h1
 omega
theorem alive_in {S:PoolS}{a:Int}{s:SlotS}(h:S.at a=some s):Ql a:=by
 have:=alive_in64 h
 unfold Ql
 omega
theorem Tr.In.hin {S:PoolS}{t:Tr}(h:t.In S):Ql t.h:=by
 obtain⟨s,hs⟩:=h.alive _ t.h_mem
 exact alive_in hs
theorem MIn.rin {S:PoolS}{T:Option Tr}(h:MIn S T):Ql (Qs T):=by
 cases T with
 |none=>exact⟨by decide,by decide⟩
 |some t=>exact Tr.In.hin h
theorem steps_ok {S:PoolS}:∀(w:List Sp) (t:Tr) (L:Int) (d:Nat),Way w L d t.leaves→(plug w t).In S→(plug w t).leaves≤1000000→∀x∈steps w t,StepOk x
 |[],_,_,_,_,_,_,x,hx=>by cases hx
 |s :: l,t,L,d,hw,hi,hl,x,hx=>by
  obtain⟨rfl,h2,h3,h4,h5,L',d',h6,h7,h8,h9⟩:=hw
  have hlow:=h9.low
  have hq:=pow2_pos (s.p+1)
  have hpl:=plug_leaves l (s.put t)
  have hsl:=s.put_leaves t
  have hin:=plug_in (w:=s :: l) (t:=t) hi
  have hl':(plug l (s.put t)).leaves≤1000000:=hl
  rcases List.mem_cons.1 hx with rfl|hx
  ·have ht:=hin.1.hin
   have hs:=(hin.2 s (by simp)).hin
   refine⟨by show s.p<32;omega,by show 0≤s.f;omega,by show s.f<4294967296;omega,?_,?_,by show -4000000000≤s.c;omega,by show s.c≤4000000000;omega⟩
   ·show Ql (if s.right then s.sib.h else t.h)
    split <;> assumption
   ·show Ql (if s.right then t.h else s.sib.h)
    split <;> assumption
  ·refine steps_ok l (s.put t) L' d' ?_ hi hl x hx
   rw[hsl]
   exact_mod_cast h9
theorem wayIn_of {S:PoolS}{T:Option Tr}{k:Int}(hi:MIn S T)(ho:MOk T)(hl:mleaves T≤1000000)(h0:0≤k)(h1:k≤4294967295):WayIn S (Qs T) k:=by
 intro hr
 cases T with
 |none=>exact absurd rfl hr
 |some t=>
  obtain⟨w,u,L,d,hs,hd⟩:=down_root k hi ho h0 h1
  have hi':(plug w u).In S:=by rw[hs.is];exact hi
  have hl':(plug w u).leaves≤1000000:=by rw[hs.is];exact hl
  have hpl:=plug_leaves w u
  refine⟨_,_,_,hd,fun x hx=>steps_ok w u L d hs.way hi' hl' x (List.mem_reverse.1 hx),?_,(plug_in hi').1.hin,?_⟩
  ·have hlen:∀(w:List Sp) (t:Tr),(steps w t).length=w.length:=by
    intro w
    induction w with
    |nil=>intro t;rfl
    |cons s l ih=>intro t;simp[steps,ih]
   rw[List.length_reverse,hlen]
   have:=hs.len
   omega
  ·have hlow:=hs.way.low
   have huo:=hs.ok
   have huc:=huo.count
   have hlv:=u.leaves_pos
   cases u with
   |leaf a k' v=>
    obtain⟨o1,o2⟩:=huo
    show 0≤k'∧k'≤4294967295
    omega
   |node a p f c l r=>
    obtain⟨o1,o2,o3,o4,o5,o6,o7⟩:=huo
    have hq:=pow2_pos (p+1)
    have huc:c=((Tr.node a p f c l r).leaves:Int):=huc
    show p<32∧(0≤f∧f≤4294967295)∧-4000000000≤c∧c≤4000000000
    omega
theorem leaves_few {N:Nat}{S:PoolS}{own:List Int}{G:Int}{T:Option Tr}(h:PInv N S own G)(hN:N≤4096)(hd:(mhs T).Nodup)(hs:∀a∈mhs T,a∈own):mleaves T≤4097:=by
 have h1:=List.Nodup.length_le_of_subset hd hs
 have h2:=h.own_le
 cases T with
 |none=>exact Nat.zero_le _
 |some t=>
  have h3:=t.hs_len
  have h1:t.hs.length≤own.length:=h1
  show t.leaves≤4097
  have:=t.leaves_pos
  omega
theorem keyB_of {k:Int}(h0:0≤k)(h1:k≤4294967295):Qt k=true:=by
 unfold Qt K32
 simp only[Bool.and_eq_true,decide_eq_true_eq]
 omega
theorem keyB_range {k:Int}(h:Qt k=true):0≤k∧k≤4294967295:=by
 unfold Qt K32 at h
 simp only[Bool.and_eq_true,decide_eq_true_eq] at h
 omega
theorem loadW_is {N:Nat}:∀(l:List (Int × Int)) (T:Option Tr) (nodes:List Int) (S:PoolS) (own:List Int) (G:Int) (m:Int→Option Int),PInv N S (mhs T ++ own) G→own.length+2*(mleaves T+l.length)+34≤N→N≤4096→G+10000*l.length≤MaxTag→MIn S T→MOk T →
  (∀k,mfind k T=m k)→(∀p∈l,0≤p.1∧p.1≤4294967295)→(∀p∈l,Ql p.2)→nodes.length+34*l.length≤10000→mleaves T+l.length≤400 →
  ∃nodes' S' T',LoadW l (⟨Qs T,nodes⟩,S) (⟨Qs T',nodes'⟩,S')∧MIn S' T'∧MOk T'∧PInv N S' (mhs T' ++ own) (G+10000*l.length)∧(∀b∈own,∀s,S.at b=some s→S'.at b=some s) ∧
   (∀k,mfind k T'=(l.foldl (fun m p=>putF m p.1 p.2) m) k)∧mleaves T'≤mleaves T+l.length
 |[],T,nodes,S,own,G,m,h,hn,h4,hG,hi,ho,hf,hk,hv,hnl,hlq=>⟨nodes,S,T,rfl,hi,ho,by simpa using h,fun _ _ _ h=>h,hf,Nat.le_refl _⟩
 |p :: l,T,nodes,S,own,G,m,h,hn,h4,hG,hi,ho,hf,hk,hv,hnl,hlq=>by
  simp only[List.length_cons] at hn hG hnl hlq
  have hml:=mhs_len T
  have hp:=hk p (by simp)
  obtain⟨e,S1,T1,e1,d1,_,_⟩:=put_is p.1 p.2 h (by simp only[List.length_append];omega) (by omega) hi ho hp.1 hp.2
  have hinv1:PInv N S1 (e.gone ++ (mhs T1 ++ own)) (G+e.made.length):=by
   refine d1.made.inv.perm (List.perm_iff_count.2 fun x=>?_)
   have c:=List.perm_iff_count.1 d1.perm x
   simp only[List.count_append] at c ⊢
   omega
  obtain⟨S2,e2,h2,k2⟩:=giveAll_is e.gone hinv1
  have hlen:=d1.perm.length_eq
  have hlen2:=d1.len
  have hml1:=mhs_len T1
  have hlv:=d1.leaves
  simp only[List.length_append] at hlen
  have hnd:=hinv1.nodup
  have hdis:∀a∈mhs T1 ++ own,a∉e.gone:=fun a ha hg=>(List.nodup_append.1 hnd).2.2 a hg a ha rfl
  have hnl1:(notIn (nodes ++ e.made) e.gone).length+34*l.length≤10000:=by
   have:(notIn (nodes ++ e.made) e.gone).length≤(nodes ++ e.made).length:=List.length_filter_le _ _
   rw[List.length_append] at this
   omega
  obtain⟨nodes',S3,T3,e3,g1,g2,g3,g4,g5,g6⟩:=loadW_is l T1 (notIn (nodes ++ e.made) e.gone) S2 own (G+10000) (putF m p.1 p.2) (h2.later (by omega)) (by omega) h4 (by omega)
   (d1.tin.of fun a ha n hn=>by
    obtain⟨s,q1,q2⟩:=Ze.1 hn
    exact Ze.2 ⟨s,k2 a (hdis a (List.mem_append_left _ ha)) s q1,q2⟩) d1.tok
   (fun k=>by
    rw[d1.find k]
    unfold putF
    by_cases e:k=p.1
    ·rw[if_pos e,if_pos e]
    ·rw[if_neg e,if_neg e,hf k]) (fun q hq=>hk q (by simp[hq])) (fun q hq=>hv q (by simp[hq])) hnl1 (by omega)
  refine⟨nodes',S3,T3,?_,g1,g2,g3.later (by simp only[List.length_cons];omega),fun b hb s hs=>?_,g5,by simp only[List.length_cons];omega⟩
  ·refine⟨keyB_of hp.1 hp.2,hv p (by simp),wayIn_of hi ho (by omega) hp.1 hp.2,by show nodes.length≤10000;omega,e,S1,S2,e1,e2,by omega,by omega,by rw[h2.slots,h.slots],?_⟩
   rw[d1.root]
   exact e3
  ·exact g4 b hb s (k2 b (hdis b (List.mem_append_right _ hb)) s (d1.made.keep b s hs))
end
section
def ManyW:List (Int × Int)→ChangeS × PoolS→ChangeS × PoolS→Prop
 |[],x,y=>x=y
 |p :: l,(c,S),y=>Qt p.1=true∧Ql p.2∧WayIn S c.root p.1∧c.made.length≤10000∧c.gone.length≤10000∧0≤c.told.many∧c.told.many≤1000000∧∃e S1 c2 S2,S.trieput c.root p.1 p.2=some (e,S1) ∧
   goneBack e.gone ({c with root:=e.root,told:={c.told with many:=c.told.many+(if e.root≠c.root then 1 else 0)}},S1)=some (c2,S2)∧e.made.length≤1000∧e.gone.length≤10000∧S2.slots.length=S.slots.length∧Ql e.root∧ManyW l ({c2 with made:=c2.made ++ e.made},S2) y
theorem ManyW.is:∀{l:List (Int × Int)} {x y:ChangeS × PoolS},ManyW l x y→manyPairs l x=some y
 |[],x,y,h=>by
  have h:x=y:=h
  rw[h];rfl
 |p :: l,(c,S),y,h=>by
  obtain⟨_,_,_,_,_,_,_,e,S1,c2,S2,e1,e2,_,_,_,_,h⟩:=h
  unfold manyPairs
  rw[e1,Zj]
  dsimp only
  rw[e2,Zj]
  exact h.is
def ManyOk (l:List (Int × Int))(root:Int)(S:PoolS):Prop:=l.length≤1000∧∃y,ManyW l (⟨root,[],[],ToldS.zero⟩,S) y
theorem manyW_is {N:Nat}{own:List Int}{S0:PoolS}{T0:Option Tr}{m0:Int→Option Int}(hN:N≤4096)(hT0:(mhs T0).Nodup)(hsub:∀a∈mhs T0,a∈own):∀(l:List (Int × Int)) (c:ChangeS) (S:PoolS) (G:Int) (T:Option Tr) (x:(Int→Option Int) × Int) (K:Nat),
  ManyIs N S0 S own G T0 T m0 x c K→own.length+K+34*l.length≤N→G+10000*l.length≤MaxTag→(∀p∈l,0≤p.1∧p.1≤4294967295)→(∀p∈l,Ql p.2)→x.2+l.length≤1000000 →
  ∃c' S' T',ManyW l (c,S) (c',S')∧ManyIs N S0 S' own (G+10000*l.length) T0 T' m0 (l.foldl manyStep x) c' (K+34*l.length)
 |[],c,S,G,T,x,K,h,hn,hG,hk,hv,hmx=>⟨c,S,T,rfl,by simpa using h⟩
 |p :: l,c,S,G,T,x,K,h,hn,hG,hk,hv,hmx=>by
  simp only[List.length_cons] at hn hG hmx
  have hp:=hk p (by simp)
  have hlen:=h.len
  have hndm:=h.inv.nodup
  have hndall:(mhs T0 ++ c.made).Nodup:=by
   refine List.nodup_append.2 ⟨hT0,(List.nodup_append.1 hndm).1,fun a ha b hb e=>?_⟩
   subst e
   exact (List.nodup_append.1 hndm).2.2 a hb a (hsub a ha) rfl
  have hndT:=(List.nodup_append.1 (h.perm.nodup_iff.1 hndall)).1
  have hTsub:∀a∈mhs T,a∈c.made∨a∈own:=by
   intro a ha
   have:a∈mhs T0 ++ c.made:=h.perm.mem_iff.2 (List.mem_append_left _ ha)
   rcases List.mem_append.1 this with q|q
   ·exact .inr (hsub a q)
   ·exact .inl q
  obtain⟨e,S1,T1,e1,d,d1,d2⟩:=put_is p.1 p.2 h.inv (by simp only[List.length_append];omega) (by omega) h.tin h.tok hp.1 hp.2
  have hfreshT:∀a∈e.made,a∉mhs T:=by
   intro a ha hb
   obtain⟨s,hs⟩:=h.tin.alive a hb
   exact d.made.fresh a ha s hs
  have hndTe:(mhs T ++ e.made).Nodup:=List.nodup_append.2 ⟨hndT,(List.nodup_append.1 d.made.inv.nodup).1,fun a ha b hb e=>by
   subst e
   exact hfreshT a hb ha⟩
  have hnd1:=d.perm.nodup_iff.1 hndTe
  have hinv1:PInv N S1 (c.made ++ (e.made ++ own)) (G+e.made.length):=by
   refine d.made.inv.perm (List.perm_iff_count.2 fun y=>?_)
   simp only[List.count_append]
   omega
  obtain⟨c2,S2,g,e2,i2,k2,g2,r2,t2,l2,p2,o2⟩:=goneBack_is e.gone {c with root:=e.root,told:={c.told with many:=c.told.many+(if e.root≠c.root then 1 else 0)}} S1 (G+e.made.length) (own:=e.made ++ own) hinv1 (List.nodup_append.1 hnd1).2.1
   (fun a ha=>by
    have:a∈mhs T ++ e.made:=d.perm.mem_iff.2 (List.mem_append_right _ ha)
    rcases List.mem_append.1 this with q|q
    ·exact (hTsub a q).imp id (fun q=>List.mem_append_right _ q)
    ·exact .inr (List.mem_append_left _ q))
  have hgl:e.gone.length≤4096+34:=by
   have c1:=d.perm.length_eq
   have c2:=h.perm.length_eq
   have c3:=d.len
   have c4:(mhs T0).length≤own.length:=List.Nodup.length_le_of_subset hT0 hsub
   simp only[List.length_append] at c1 c2
   omega
  have hdl:=d.len
  have hroot:(e.root≠c.root)↔x.1 p.1≠some p.2:=by
   constructor
   ·intro hr hc
    exact hr (by rw[d1 (by rw[h.find];exact hc),h.root])
   ·intro hc hr
    have hx:=d2 (by rw[h.find];exact hc)
    rcases alive_root h.tin with h0|⟨s,hs⟩
    ·rw[hr,h.root,h0] at hx
     exact d.made.nz _ hx rfl
    ·exact d.made.fresh _ hx s (by rw[hr,h.root];exact hs)
  have hnext:ManyIs N S0 S2 own (G+10000) T0 T1 m0 (manyStep x p) {c2 with made:=c2.made ++ e.made} (K+34):=by
   refine⟨?_,fun a ha s hs=>?_,?_,d.tok,fun k=>?_,?_,?_,?_,?_,?_,?_,?_⟩
   ·refine (i2.later (by omega)).perm ?_
    rw[List.append_assoc]
   ·exact k2 a (.inr (List.mem_append_right _ ha)) s (d.made.keep a s (h.keep a ha s hs))
   ·refine d.tin.of fun a ha n hn=>?_
    obtain⟨s,q1,q2⟩:=Ze.1 hn
    exact Ze.2 ⟨s,k2 a (.inl fun hc=>(List.nodup_append.1 hnd1).2.2 a ha a hc rfl) s q1,q2⟩
   ·rw[d.find k]
    unfold manyStep putF
    dsimp only
    by_cases q:k=p.1
    ·rw[if_pos q,if_pos q]
    ·rw[if_neg q,if_neg q,h.find]
   ·refine List.perm_iff_count.2 fun y=>?_
    have c1:=List.perm_iff_count.1 h.perm y
    have c2':=List.perm_iff_count.1 d.perm y
    have c3:=List.perm_iff_count.1 p2 y
    dsimp only at c3 ⊢
    rw[g2]
    simp only[List.count_append] at c1 c2' c3 ⊢
    omega
   ·show c2.root=_
    rw[r2]
    exact d.root
   ·show (c2.made ++ e.made).length≤K+34
    rw[List.length_append]
    have:c2.made.length≤c.made.length:=l2
    omega
   ·show c2.told=_
    rw[t2]
    dsimp only
    rw[h.many]
    unfold manyStep
    simp only[hroot]
   ·have:=h.pos
    unfold manyStep
    dsimp only
    split <;> omega
   ·intro hz
    have hpos:=h.pos
    have hx:x.1 p.1=some p.2:=by
     refine Classical.byContradiction fun hc=>?_
     have:x.2+1=0:=by
      have hz:x.2+(if x.1 p.1≠some p.2 then 1 else 0)=0:=hz
      rwa [if_pos hc] at hz
     omega
    have hz2:x.2=0:=by
     have hz:x.2+(if x.1 p.1≠some p.2 then 1 else 0)=0:=hz
     rw[if_neg (by simp[hx])] at hz
     omega
    obtain⟨s1,s2,s3⟩:=h.same hz2
    have hsame:=put_same_is h.tin h.tok hp.1 hp.2 (by rw[h.find];exact hx)
    rw[e1,←h.root] at hsame
    cases hsame
    have e2':some (({c with root:=c.root,told:={c.told with many:=c.told.many+(if c.root≠c.root then 1 else 0)}}:ChangeS),S)=some (c2,S2):=e2
    cases e2'
    refine⟨s1,?_,fun k=>?_⟩
    ·show c.made ++ []=[]
     rw[s2];rfl
    ·unfold manyStep putF
     dsimp only
     by_cases q:k=p.1
     ·rw[if_pos q,q,←s3,hx]
     ·rw[if_neg q,s3]
   ·intro hz
    by_cases hx:x.1 p.1=some p.2
    ·have hz2:x.2≠0:=by
      intro hc
      refine hz ?_
      show x.2+(if x.1 p.1≠some p.2 then 1 else 0)=0
      rw[if_neg (by simp[hx]),hc]
      rfl
     have hin:=h.new hz2
     have hsame:=put_same_is h.tin h.tok hp.1 hp.2 (by rw[h.find];exact hx)
     rw[e1,←h.root] at hsame
     cases hsame
     have e2':some (({c with root:=c.root,told:={c.told with many:=c.told.many+(if c.root≠c.root then 1 else 0)}}:ChangeS),S)=some (c2,S2):=e2
     cases e2'
     exact List.mem_append_left _ hin
    ·have:=d2 (by rw[h.find];exact hx)
     refine List.mem_append_right _ ?_
     show c2.root∈_
     rw[r2]
     exact this
  have hmst:(manyStep x p).2≤x.2+1:=by
   unfold manyStep
   dsimp only
   split <;> omega
  obtain⟨c',S',T',f1,f2⟩:=manyW_is hN hT0 hsub l _ S2 (G+10000) T1 _ (K+34) hnext (by omega) (by omega) (fun q hq=>hk q (by simp[hq])) (fun q hq=>hv q (by simp[hq])) (by omega)
  refine⟨c',S',T',?_,?_⟩
  ·have hlv:mleaves T≤100000:=by
    have hl1:(mhs T).length≤(c.made ++ own).length:=List.Nodup.length_le_of_subset hndT (fun a ha=>List.mem_append.2 (hTsub a ha))
    have hl2:=h.inv.own_le
    cases T with
    |none=>exact Nat.zero_le _
    |some t=>
     have h3:=t.hs_len
     have hl1:t.hs.length≤(c.made ++ own).length:=hl1
     show t.leaves≤100000
     have:=t.leaves_pos
     omega
   have hgn:c.gone.length≤10000:=by
    have c2:=h.perm.length_eq
    have c4:(mhs T0).length≤own.length:=List.Nodup.length_le_of_subset hT0 hsub
    simp only[List.length_append] at c2
    omega
   have hmy:c.told.many=x.2:=by rw[h.many]
   have hps:=h.pos
   refine⟨keyB_of hp.1 hp.2,hv p (by simp),by rw[h.root];exact wayIn_of h.tin h.tok (by omega) hp.1 hp.2,by omega,by omega,by omega,by omega,e,S1,c2,S2,by rw[h.root];exact e1,e2,by omega,by omega,by rw[i2.slots,h.inv.slots],by rw[d.root];exact d.tin.rin,f1⟩
  ·have a1:G+10000*((p :: l).length:Int)=G+10000+10000*(l.length:Int):=by simp only[List.length_cons];omega
   have a2:K+34*(p :: l).length=K+34+34*l.length:=by simp only[List.length_cons];omega
   rw[a1,a2]
   exact f2
theorem manyOk_is {N:Nat}{S:PoolS}{own:List Int}{G:Int}{T:Option Tr}{l:List (Int × Int)}{m:Int→Option Int}(hN:N≤4096)(h:PInv N S own G)(hn:own.length+34*l.length≤N)(hG:G+10000*l.length≤MaxTag)(hi:MIn S T)(ho:MOk T)(hd:(mhs T).Nodup)(hsub:∀a∈mhs T,a∈own)(hm:∀k,mfind k T=m k)
  (hk:∀p∈l,0≤p.1∧p.1≤4294967295) (hv:∀p∈l,Ql p.2):ManyOk l (Qs T) S:=by
 obtain⟨c,S',T',e1,e2⟩:=manyW_is (S0:=S) (m0:=m) hN hd hsub l ⟨Qs T,[],[],ToldS.zero⟩ S G T (m,0) 0
  ⟨by simpa using h,fun _ _ _ h=>h,hi,ho,hm,List.Perm.refl _,rfl,Nat.zero_le _,rfl,Int.le_refl _,fun _=>⟨rfl,rfl,fun _=>rfl⟩,fun h=>absurd rfl h⟩ (by omega) hG hk hv (by show (0:Int)+_≤_;omega)
 exact⟨by omega,_,e1⟩
end
end Go.Proofs.YteeefedoffplmaaGreat
