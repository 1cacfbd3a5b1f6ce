/- StoreAlone, part Pab: Give, Take, Append, Epoch, Epoch2, Room. -/
import Derived.Test.YteeefedoffplmaaGreatPaa
import Derived.StillTailTactics
import Derived.Maps.AppendAt
import Derived.RegionTactic
import Derived.OwnWalk
import Derived.Deep.DeepCutAuto
import Derived.Deep.RegionLaw
import Derived.Laws.CopyRow
set_option linter.unusedSimpArgs false
set_option linter.unusedVariables false
set_option maxRecDepth 100000
set_option maxHeartbeats 51200000
namespace Go.Proofs.YteeefedoffplmaaGreat
open Go.RowKit Lib Go.Proofs.Tryz
end Go.Proofs.YteeefedoffplmaaGreat
namespace Go.Proofs.YteeefedoffplmaaGreat
open Lib Go.Proofs.Tryz
open Go.RowKit
theorem pileIs (b i n k:Nat)(w:World)(hc:w.cell? ⟨b,1,none⟩=some (Qr k n))(h1:1≤i)(h2:i<n)(_:n≤4097):
  Calls prog 184 #[ptr b,.int .i64 (i:Int)] w fun e w'=>e=.returned (.bool true)∧w=w':=by
 unfold Qr at hc
 unfold ptr
 have e:decide (i<n)=true:=by simp;omega
 go_enter func184,ntmps184
 go_wp2_with fail
 go_ret
 exact⟨rfl,rfl⟩
theorem calls_rev {P:Program}{f:FuncId}{args:Array Value}{w:World}{v:Ending}(h:Calls P f args w fun e w'=>e=v∧w=w'):Calls P f args w fun e w'=>e=v∧w'=w:=h.mono fun _ _ ⟨a,b⟩=>⟨a,b.symm⟩
theorem push_spec {S S':PoolS}{i:Int}(h:S.push i=some S'):∃n:Nat,i=n∧1≤n∧n<S.next.length∧n≤1048575∧isWordB S.head=true∧S'={S with next:=S.next.set n (Qo S.head),head:=Za n ((tagW S.head+1) % T40)}:=by
 unfold PoolS.push at h
 split at h
 ·rename_i hc
  injection h with h
  obtain⟨h1,h2,h3,h4⟩:=hc
  unfold T20 at h3
  refine⟨i.toNat,by omega,by omega,by omega,by omega,h4,?_⟩
  rw[←h]
  have:((i.toNat:Nat):Int)=i:=by omega
  rw[this]
 ·cases h
theorem push_any (w:World)(L:PoolL)(S:PoolS)(hp:PoolAt w L S)(i:Int)(S':PoolS)(hS:S.push i=some S'):
  Calls prog 193 #[ptr L.fb,.pointer none,.int .i64 i] w (Stored L S' w (.int .i64 0)):=by
 obtain⟨n,rfl,h1,h2,h3,hw,rfl⟩:=push_spec hS
 obtain⟨m,hm⟩:∃m:Nat,Qo S.head=m:=⟨(Qo S.head).toNat,by have:=(idxW_bound S.head).1;omega⟩
 have hmb:m≤1048575:=by have:=(idxW_bound S.head).2;omega
 obtain⟨y,hy⟩:∃y,S.next[n]?=some y:=⟨_,List.getElem?_eq_getElem h2⟩
 have his:=pileIs L.fb n S.next.length L.nb w (hp.f.cell rfl) h1 h2 (by rw[hp.len];exact hp.most)
 have hl:=Zf L.fb 0 S.head w (hp.f.cell rfl)
 have hix:=calls_rev (index_is hm w.drew)
 have hst:=atomStore L.nb n y w.drew (m:Int) (hp.drew.next hy) (hp.drew.n.frozen _)
 have hp2:=hp.drew.setNext n (m:Int) (by constructor <;> omega)
 have hnx:=next_any S.head (n:Int) (w.drew.setCell ⟨L.nb,n,none⟩ (.int .i64 m)) hw (by omega) (by omega)
 have hcas:=atomCas L.fb 0 S.head (w.drew.setCell ⟨L.nb,n,none⟩ (.int .i64 m)) (Za n ((tagW S.head+1) % T40)) (hp2.f.cell rfl) (hp2.f.frozen _)
 have hfin:=hp2.setHead (Za n ((tagW S.head+1) % T40))
 rw[hm]
 have honly:Only L.blocks w ((w.drew.setCell ⟨L.nb,n,none⟩ (.int .i64 m)).setCell ⟨L.fb,0,none⟩ (.int .i64 (Za n ((tagW S.head+1) % T40)))):=
  ((Only.drew _ _).setCell (.inl (by simp[PoolL.blocks])) _).setCell (.inl (by simp[PoolL.blocks])) _
 have HF:=hid hfin;have HO:=hid honly;have HST:=hid hst;have HNX:=hid hnx;have HCAS:=hid hcas;have HIX:=hid hix
 have c1:w.cell? ⟨L.fb,1,none⟩=some (Qr L.nb S.next.length):=hp.f.cell rfl
 generalize S.head=hd at *
 generalize Za n ((tagW hd+1) % T40)=tw' at *
 unfold ptr at his ⊢
 unfold Qr at c1
 clear hp hp2 hfin honly hst hnx hcas hm hy hw hS hix
 go_enter func193,ntmps193
 go_wp2_with (go_at_call 184;refine his.mono ?_;rintro e w' ⟨rfl,rfl⟩)
 refine wp_loop_rounds 1 ?_
 rw[rounds_succ]
 go_wp2_with (first|(go_at_call 71;refine (Qx _).mono ?_;rintro e w' ⟨rfl,rfl⟩)|(go_at_call 51;refine hl.mono ?_;rintro e w' ⟨rfl,rfl⟩))
 refine wp_region_still_tail 8 (by kernel_rfl) (by kernel_rfl) ?_
 simp only[List.take_succ_cons,List.take_zero,List.drop_succ_cons,List.drop_zero]
 change wpStill _ _ (World.drew _) (fun a'=>wpList _ _ _ _ a' (World.drew _)) _ _
 iterate 7 still_step
 still_call HIX.out
 refine wpStill_nil ?_
 go_wp2_with (first|(go_at_call 100;refine HST.out.mono ?_;rintro e w' ⟨rfl,rfl⟩)|(go_at_call 71;refine (Qx _).mono ?_;rintro e w' ⟨rfl,rfl⟩)|(go_at_call 217;refine HNX.out.mono ?_;rintro e w' ⟨rfl,rfl⟩)|(go_at_call 135;refine HCAS.out.mono ?_;rintro e w' ⟨rfl,rfl⟩))
 go_ret
 exact⟨rfl,HF.out,HO.out⟩
end Go.Proofs.YteeefedoffplmaaGreat
/- A pool's Give at a handle in use. Conditions: the pool lies in memory; the handle's slot is in use for it. -/
namespace Go.Proofs.YteeefedoffplmaaGreat
open Lib Go.Proofs.Tryz
open Go.RowKit
theorem neqNode (x y:NodeS)(w:World):(binOp .neq 218 (.agg #[.int .i64 x.a,.int .i64 x.b,.int .i64 x.c,.int .i64 x.d]) (.agg #[.int .i64 y.a,.int .i64 y.b,.int .i64 y.c,.int .i64 y.d])).run prog w=.ok (.bool (decide (x≠y))) w:=by
 have h1:prog.stoodInHeld 218=false:=by kernel_rfl
 have hu:=Tryz.underlying218
 obtain⟨x0,x1,x2,x3⟩:=x
 obtain⟨y0,y1,y2,y3⟩:=y
 go_simp
 by_cases e0:x0=y0 <;> by_cases e1:x1=y1 <;> by_cases e2:x2=y2 <;> by_cases e3:x3=y3 <;> simp[e0,e1,e2,e3]
theorem give_spec {S S':PoolS}{h:Int}{s:SlotS}(ha:S.at h=some s)(hS:S.give h=some S'){n:Nat}(hn:Qo h=n):(S.with n ⟨s.gen+1,poison,poison,poisoned⟩).push n=some S':=by
 unfold PoolS.give at hS
 simp only[ha,bind,Option.bind,hn] at hS
 exact hS
theorem give_slot {S S':PoolS}{h:Int}(hS:S.give h=some S'):∃s,S.at h=some s:=by
 unfold PoolS.give at hS
 cases ha:S.at h with
 |none=>simp[ha] at hS
 |some s=>exact⟨s,rfl⟩
attribute [-go_sem] run_neq_struct
theorem give_any (w:World)(L:PoolL)(S:PoolS)(hp:PoolAt w L S)(h:Int)(S':PoolS)(hS:S.give h=some S'):
  Calls prog 138 #[ptr L.pb,.pointer none,.int .i64 h] w (Stored L S' w (.int .i64 0)):=by
 obtain⟨s,ha⟩:=give_slot hS
 obtain⟨n,hn,h1,hs,hlt,hodd,hg⟩:=at_spec ha
 have hpush:=give_spec ha hS hn
 have hat:=at_any w L S hp h s ha n hn
 have htb:=tagW_bound h
 rw[←hg] at htb
 obtain⟨g1,g2⟩:=htb
 have hok:=hp.ok s (List.mem_of_getElem? hs)
 have hokg:Ql (s.gen+1):=by constructor <;> omega
 have hcas:=atomCas L.lb (n*7+0) s.gen w (s.gen+1) (hp.slot hs (j:=0) (by omega) rfl) (hp.l.frozen _)
 have hp1:PoolAt (w.setCell ⟨L.lb,n*7+0,none⟩ (.int .i64 (s.gen+1))) L (S.with n (s.setj 0 (s.gen+1))):=hp.setSlot hs (by omega) rfl ⟨hokg,hok.mark,hok.link,hok.node⟩
 have ho1:Only L.blocks w (w.setCell ⟨L.lb,n*7+0,none⟩ (.int .i64 (s.gen+1))):=(Only.refl _ _).setCell (.inl (by simp[PoolL.blocks])) _
 have HS:=hid hs;have HN:=hid hn;have HPU:=hid hpush;have HG:=hid hokg
 have HP:=hid hp1;have HO:=hid ho1
 have HPB:Hid (Blk w L.pb [Qr L.lb S.slots.length,ptr L.fb,.int .i64 S.faults] 124):=hid hp.p
 have HAP:=hid hp.apart
 rw[Nat.add_zero] at hcas HP HO
 unfold ptr at hat ⊢
 generalize hw1:w.setCell ⟨L.lb,n*7,none⟩ (.int .i64 (s.gen+1))=w1 at hcas HP HO
 clear hw1 hok hs hn hpush hp1 ho1 hp ha hodd hg hS hokg
 generalize hgg:s.gen=g at *
 have HGG:=hid hgg
 clear hgg
 have hq:∀V,(binOp .neq 218 (.agg #[.int .i64 s.node.a,.int .i64 s.node.b,.int .i64 s.node.c,.int .i64 s.node.d]) (.agg #[.int .i64 (-7777777),.int .i64 (-7777777),.int .i64 (-7777777),.int .i64 (-7777777)])).run prog V=.ok (.bool (decide (s.node≠poisoned))) V:=fun V=>neqNode s.node poisoned V
 have hho:∀o:Obj,Calls prog 172 #[.pointer (some ⟨L.lb,n*7,none⟩)] (w1.alloc o) fun e w'=>e=.returned s.node.val∧Below (w1.alloc o).heap.size (w1.alloc o) w':=fun o=>
  have hs':=S.with_get HS.out (s.setj 0 (g+1))
  holds_any L.lb (n*7) s.node _ ((HP.out.alloc o).slot hs' (j:=3) (by omega) rfl) ((HP.out.alloc o).slot hs' (j:=4) (by omega) rfl) ((HP.out.alloc o).slot hs' (j:=5) (by omega) rfl) ((HP.out.alloc o).slot hs' (j:=6) (by omega) rfl)
 have HHO:=hid hho
 clear hho
 unfold NodeS.val at HHO
 have HPL:Hid (Ql (-7777777)):=hid (by constructor <;> omega)
 have HPO:Hid (Ql poison):=hid (by unfold poison;constructor <;> omega)
 by_cases hpo:s.node=poisoned
 all_goals
  have hd:=(Bool.eq_false_or_eq_true (decide (s.node≠poisoned))).symm
  rcases hd with hd|hd
  all_goals try (exfalso;simp[hpo] at hd;done)
  simp only[hd] at hq
  have HPN:=hid hpo
  clear hpo hd
 all_goals
  generalize hna:s.node.a=na at hq HHO
  generalize hnb:s.node.b=nb at hq HHO
  generalize hnc:s.node.c=nc at hq HHO
  generalize hnd:s.node.d=nd at hq HHO
  clear hna hnb hnc hnd
  go_enter func138,ntmps138
  go_wp2_with (first|(go_at_call 71;refine (Qx _).mono ?_;rintro e w' ⟨rfl,rfl⟩)|(go_at_call 191;refine hat.mono ?_;rintro e w' ⟨rfl,rfl⟩)|(go_at_call 135;refine hcas.mono ?_;rintro e w' ⟨rfl,rfl⟩)|(go_at_call 172;refine (HHO.out _).mono ?_;rintro e w2 ⟨rfl,hb⟩;have HP:=hid ((HP.out.alloc _).below hb);have HO:=hid ((HO.out.alloc _).trans (.of_below hb));have hn9:=blk_behind hb;have hz:=hn9.lt;have c0:=hn9.cell (i:=0) rfl;have c1:=hn9.cell (i:=1) rfl;have c2:=hn9.cell (i:=2) rfl;have c3:=hn9.cell (i:=3) rfl;clear hb hn9 hat hcas)|(go_at_call 192;refine (lays_any _ L _ (HP.out.alloc _) n _ (PoolS.with_get _ HS.out _) poisoned poison poison ⟨HPO.out,HPO.out,HPO.out,HPO.out⟩ HPO.out HPO.out).mono ?_;rintro e w3 ⟨rfl,hp,ho⟩;rw[PoolS.with_with] at hp;have HP:=hid hp;have HO:=hid ((HO.out.alloc _).trans ho);clear hp ho hq c0 c1 c2 c3 hz)|(go_at_call 100;(with_reducible refine (Qv HS HP 1 (by omega) (-7777777) HPL.out _ rfl).mono ?_);rintro e w4 ⟨rfl,hp,ho⟩;have HP:=hid hp;have HO:=hid (HO.out.trans ho);have cpb:=hp.p.cell (i:=1) rfl;clear hp ho)|(go_at_call 100;(with_reducible refine (Qv HS (hid (HP.out.alloc _)) 1 (by omega) (-7777777) HPL.out _ rfl).mono ?_);rintro e w4 ⟨rfl,hp,ho⟩;have HP:=hid hp;have HO:=hid ((HO.out.alloc _).trans ho);have cpb:=hp.p.cell (i:=1) rfl;clear hp ho)|(go_at_call 100;(with_reducible refine (Qv HS HP 2 (by omega) (-7777777) HPL.out _ rfl).mono ?_);rintro e w4 ⟨rfl,hp,ho⟩;have HP:=hid hp;have HO:=hid (HO.out.trans ho);have cpb:=hp.p.cell (i:=1) rfl;clear hp ho)|(go_at_call 100;(with_reducible refine (Qv HS (hid (HP.out.alloc _)) 2 (by omega) (-7777777) HPL.out _ rfl).mono ?_);rintro e w4 ⟨rfl,hp,ho⟩;have HP:=hid hp;have HO:=hid ((HO.out.alloc _).trans ho);have cpb:=hp.p.cell (i:=1) rfl;clear hp ho))
  have cpb:=HP.out.drew.p.cell (i:=1) rfl
  unfold ptr at cpb
  have HIX:=hid fun W=>calls_rev (index_is HN.out W)
  refine wp_region_still_tail 7 (by kernel_rfl) (by kernel_rfl) ?_
  simp only[List.take_succ_cons,List.take_zero,List.drop_succ_cons,List.drop_zero]
  change wpStill _ _ (World.drew _) (fun a'=>wpList _ _ _ _ a' (World.drew _)) _ _
  iterate 6 still_step
  still_call (HIX.out _)
  refine wpStill_nil ?_
  have hpu:Calls prog 193 #[.pointer (some ⟨L.fb,0,none⟩),.pointer none,.int .i64 (n:Int)] _ _:=push_any _ L _ HP.out.drew n S' (by first|exact HPU.out|(have:=HPU.out;rw[←HPN.out] at this;exact this))
  go_wp2_with (go_at_call 193;refine hpu.mono ?_;rintro e w5 ⟨rfl,hp,ho⟩;have HP:=hid hp;have HO:=hid (HO.out.drew'.trans ho);clear hp ho hpu)
  go_ret
  exact⟨rfl,HP.out,HO.out⟩
end Go.Proofs.YteeefedoffplmaaGreat
namespace Go.Proofs.YteeefedoffplmaaGreat
open Go.RowKit Lib Go.Proofs.Tryz
theorem take_spec {S S':PoolS}{x:NodeS}{link h:Int}(ht:S.take x link=some (h,S')):
  ∃(n m:Nat) (s:SlotS),Qo S.head=n∧1≤n∧n≤1048575∧m≤1048575∧S.next[n]?=some (m:Int)∧S.slots[n]?=some s∧0≤s.gen∧s.gen+1≤1099511627775∧isWordB S.head=true∧h=Za n (s.gen+1) ∧
   S'=({S with head:=Za m ((tagW S.head+1) % T40)}:PoolS).with n ⟨s.gen+1,0,link,x⟩:=by
 simp only[PoolS.take,Option.bind_eq_bind,Option.bind_eq_some_iff] at ht
 obtain⟨next,hn,s,hs,ht⟩:=ht
 have hb:=idxW_bound S.head
 split at ht
 ·rename_i hc
  obtain⟨c1,c2,c3,c4,c5,c6⟩:=hc
  unfold T20 at c3
  unfold MaxTag at c6
  injection ht with ht
  injection ht with h1 h2
  obtain⟨m,rfl⟩:=Int.eq_ofNat_of_zero_le c2
  refine⟨(Qo S.head).toNat,m,s,by omega,by omega,by omega,by omega,hn,hs,c5,c6,c4,?_,?_⟩
  ·rw[←h1]
   congr 1
   omega
  ·rw[←h2]
   rfl
 ·cases ht
def Took (L:PoolL)(S':PoolS)(c:Nat)(h:Int)(w:World)(r:Value)(e:Ending)(w':World):Prop:=e=.returned r∧PoolAt w' L S'∧Only (c :: L.blocks) w w'∧Blk w' c [.int .i64 h] 3
theorem take1_any (w:World)(L:PoolL)(S:PoolS)(hp:PoolAt w L S)(n:Nat)(s:SlotS)(hs:S.slots[n]?=some s)(x:NodeS)(hx:x.Ok)(link:Int)(hl:Ql link)(hn:n≤1048575)(hg0:0≤s.gen)(hg:s.gen+1≤1099511627775)
  (c4 c6 c7 c10:Nat) (k4:w.cell? ⟨c4,0,none⟩=some (ptr L.pb)) (k6:Blk w c6 x.cells 218) (k7:w.cell? ⟨c7,0,none⟩=some (.int .i64 link)) (k10:Blk w c10 [.int .i64 0] 3) (hc:c10∉L.all):
  Calls prog 235 #[.int .i64 (n:Int),ptr c4,ptr c6,ptr c7,ptr c10] w (Took L (S.with n ⟨s.gen+1,0,link,x⟩) c10 (Za n (s.gen+1)) w (.tuple #[])):=by
 have cpb:w.cell? ⟨L.pb,0,none⟩=some (Qr L.lb S.slots.length):=hp.p.cell rfl
 have hlt:n<S.slots.length:=(List.getElem?_eq_some_iff.1 hs).1
 have d0:=k6.cell (i:=0) rfl;have d1:=k6.cell (i:=1) rfl;have d2:=k6.cell (i:=2) rfl;have d3:=k6.cell (i:=3) rfl
 have hla:=lays_any w L S hp n s hs x 0 link hx (by constructor <;> omega) hl
 have hadd:∀w1,PoolAt w1 L (S.with n ⟨s.gen,0,link,x⟩)→Calls prog 227 #[.pointer (some ⟨L.lb,n*7,none⟩),.int .i64 1] w1 fun e w'=>e=.returned (.int .i64 (s.gen+1))∧w1.setCell ⟨L.lb,n*7,none⟩ (.int .i64 (s.gen+1))=w':=fun w1 hp1=>by
  have h0:=atomAdd L.lb (n*7+0) s.gen w1 1 (hp1.slot (S.with_get hs _) (j:=0) (by omega) rfl) (hp1.l.frozen _)
  rw[IntWalk.wrap64_in (s.gen+1) (by omega)] at h0
  exact h0
 have hset:∀w1,PoolAt w1 L (S.with n ⟨s.gen,0,link,x⟩)→PoolAt (w1.setCell ⟨L.lb,n*7,none⟩ (.int .i64 (s.gen+1))) L (S.with n ⟨s.gen+1,0,link,x⟩):=fun w1 hp1=>by
  have h0:=hp1.setSlot (S.with_get hs _) (j:=0) (s':=⟨s.gen+1,0,link,x⟩) (v:=.int .i64 (s.gen+1)) (by omega) rfl ⟨(show Ql (s.gen+1) from ⟨by omega,by omega⟩),(show Ql 0 from ⟨by omega,by omega⟩),hl,hx⟩
  have e:({S.with n ⟨s.gen,0,link,x⟩ with slots:=(S.with n ⟨s.gen,0,link,x⟩).slots.set n ⟨s.gen+1,0,link,x⟩}:PoolS)=S.with n ⟨s.gen+1,0,link,x⟩:=S.with_with n _ _
  rwa [e] at h0
 have HLA:=hid hla;have HADD:=hid hadd;have HSET:=hid hset;have K10:=hid k10;have HC:=hid hc
 unfold NodeS.val at HLA
 unfold ptr at k4 ⊢
 unfold Qr at cpb
 clear hla hadd hset hp hs k6 hc hx hl k10
 generalize s.gen=g at *
 go_enter func235,ntmps235
 go_wp2_with (first|(go_at_call 192;refine HLA.out.mono ?_;rintro e w1 ⟨rfl,hp1,ho1⟩;have HO:=hid ho1;have HP:=hid hp1;clear ho1 hp1)|(go_at_call 227;refine (HADD.out _ HP.out).mono ?_;rintro e w' ⟨rfl,rfl⟩;have HP:=hid (HSET.out _ HP.out);have k:=(K10.out.only HO.out (fun h=>HC.out (by simp[PoolL.all];simp[PoolL.blocks] at h;simp[h]))).other (fun h=>HC.out (by simp[PoolL.all,h])) (b':=L.lb) (n*7) (.int .i64 (g+1));have K:=hid k;have kc:=k.cell (i:=0) rfl;have kf:=k.frozen 0;clear k)|(go_at_call 81;refine (pack_any _ _ _ (by omega) (by omega) (by omega) (by omega)).mono ?_;rintro e w' ⟨rfl,rfl⟩))
 have hfin:Hid (PoolAt _ L _):=hid (HP.out.only (X:=[c10]) ((Only.refl _ _).setCell (p:=⟨c10,0,none⟩) (.inl (by simp)) (.int .i64 (Za n (g+1)))) (fun k hk=>by simp;exact fun e=>HC.out (e ▸ hk)))
 go_end0
 exact⟨rfl,hfin.out,((HO.out.mono (fun k hk=>by simp[hk])).setCell (.inl (by simp[PoolL.blocks])) _).setCell (.inl (by simp)) _,K.out.set 0 _⟩
theorem pop_any (w:World)(L:PoolL)(S:PoolS)(hp:PoolAt w L S)(x:NodeS)(hx:x.Ok)(link:Int)(hl:Ql link)(h:Int)(S':PoolS)(ht:S.take x link=some (h,S'))
  (c4 c6 c7 c10:Nat) (k4:Blk w c4 [ptr L.pb] 53) (k6:Blk w c6 x.cells 218) (k7:Blk w c7 [.int .i64 link] 3) (k10:Blk w c10 [.int .i64 0] 3) (hc:∀c,c=c4∨c=c6∨c=c7∨c=c10→c∉L.all):
  Calls prog 234 #[ptr L.fb,.pointer none,.func (.func 235) #[] #[ptr c4,ptr c6,ptr c7,ptr c10]] w fun e w'=>∃n:Int,Took L S' c10 h w (.tuple #[.int .i64 n,.int .i64 0]) e w':=by
 obtain⟨n,m,s,hn,h1,h2,h3,hnx,hs,hg0,hg,hw,rfl,rfl⟩:=take_spec ht
 have hlt:n<S.next.length:=(List.getElem?_eq_some_iff.1 hnx).1
 have hl1:=Zf L.fb 0 S.head w (hp.f.cell rfl)
 have hl2:=Zf L.nb n m w (hp.next hnx)
 have hix:=index_is hn w
 have c1:w.cell? ⟨L.fb,1,none⟩=some (Qr L.nb S.next.length):=hp.f.cell rfl
 have hnext:=next_any S.head (m:Int) w hw (by omega) (by omega)
 have hcas:=atomCas L.fb 0 S.head w (Za m ((tagW S.head+1) % T40)) (hp.f.cell rfl) (hp.f.frozen _)
 have hp1:=hp.setHead (Za m ((tagW S.head+1) % T40))
 have ho1:Only L.blocks w (w.setCell ⟨L.fb,0,none⟩ (.int .i64 (Za m ((tagW S.head+1) % T40)))):=(Only.refl _ _).setCell (.inl (by simp[PoolL.blocks])) _
 have hne:∀c,c=c4∨c=c6∨c=c7∨c=c10→c∉L.blocks:=fun c h hb=>hc c h (by simp[PoolL.all];simp[PoolL.blocks] at hb;simp[hb])
 have htk:=take1_any _ L _ hp1 n s hs x hx link hl h2 hg0 hg c4 c6 c7 c10 ((k4.only ho1 (hne _ (by simp))).cell rfl) (k6.only ho1 (hne _ (by simp))) ((k7.only ho1 (hne _ (by simp))).cell rfl) (k10.only ho1 (hne _ (by simp))) (hc _ (by simp))
 have HTK:=hid htk;have HO:=hid ho1;have HCAS:=hid hcas;have HNX:=hid hnext;have HIX:=hid hix
 clear hp hp1 ho1 htk hcas hnext hnx hs k4 k6 k7 k10 hc hne hn hx hl hw hix ht
 generalize S.head=hd at *
 generalize S.next.length=len at *
 generalize hto:Za m ((tagW hd+1) % T40)=tw' at *
 clear hto
 unfold ptr at HTK ⊢
 unfold Qr at c1
 go_enter func234,ntmps234
 go_wp2_with fail
 refine wp_loop_rounds 1 ?_
 rw[rounds_succ]
 go_wp2_with (first|(go_at_call 71;refine (Qx _).mono ?_;rintro e w' ⟨rfl,rfl⟩)|(go_at_call 51;(first|(with_reducible refine hl1.mono ?_)|(with_reducible refine hl2.mono ?_));rintro e w' ⟨rfl,rfl⟩)|(go_at_call 95;refine HIX.out.mono ?_;rintro e w' ⟨rfl,rfl⟩)|(go_at_call 217;refine HNX.out.mono ?_;rintro e w' ⟨rfl,rfl⟩)|(go_at_call 135;refine HCAS.out.mono ?_;rintro e w' ⟨rfl,rfl⟩)|(go_at_call 235;refine HTK.out.mono ?_;rintro e w1 ⟨rfl,hp1,ho,hb⟩;have HP:=hid hp1;have HO:=hid ((HO.out.mono (fun k hk=>List.mem_cons_of_mem _ hk)).trans ho);have HB:=hid hb;clear hp1 ho hb))
 go_ret2
 exact⟨n,rfl,HP.out,HO.out,HB.out⟩
def takeW (w:World)(pb:Nat)(x:NodeS)(link:Int):World:=
 (((w.alloc (.cells #[.pointer (some ⟨pb,0,none⟩)] 53)).alloc (.cells #[.int .i64 x.a,.int .i64 x.b,.int .i64 x.c,.int .i64 x.d] 218)).alloc (.cells #[.int .i64 link] 3)).alloc (.cells #[.int .i64 0] 3)
theorem takeW_only (w:World)(pb:Nat)(x:NodeS)(link:Int):Only [] w (takeW w pb x link):=((((Only.refl _ _).alloc _).alloc _).alloc _).alloc _
theorem takeW_blk (w:World)(pb:Nat)(x:NodeS)(link:Int):Blk (takeW w pb x link) w.heap.size [ptr pb] 53∧Blk (takeW w pb x link) (w.heap.size+1) x.cells 218∧Blk (takeW w pb x link) (w.heap.size+2) [.int .i64 link] 3∧Blk (takeW w pb x link) (w.heap.size+3) [.int .i64 0] 3:=by
 have e1:=Blk.new w [ptr pb] 53
 have e2:=Blk.new (w.alloc (.cells #[.pointer (some ⟨pb,0,none⟩)] 53)) x.cells 218
 have e3:=Blk.new ((w.alloc (.cells #[.pointer (some ⟨pb,0,none⟩)] 53)).alloc (.cells #[.int .i64 x.a,.int .i64 x.b,.int .i64 x.c,.int .i64 x.d] 218)) [.int .i64 link] 3
 have e4:=Blk.new (((w.alloc (.cells #[.pointer (some ⟨pb,0,none⟩)] 53)).alloc (.cells #[.int .i64 x.a,.int .i64 x.b,.int .i64 x.c,.int .i64 x.d] 218)).alloc (.cells #[.int .i64 link] 3)) [.int .i64 0] 3
 rw[World.size_alloc] at e2
 rw[World.size_alloc,World.size_alloc] at e3
 rw[World.size_alloc,World.size_alloc,World.size_alloc] at e4
 exact⟨((e1.alloc _).alloc _).alloc _,(e2.alloc _).alloc _,e3.alloc _,e4⟩
def Made (L:PoolL)(S':PoolS)(w:World)(r:Value)(e:Ending)(w':World):Prop:=e=.returned r∧PoolAt w' L S'∧Only L.blocks w w'
theorem take_any (w:World)(L:PoolL)(S:PoolS)(hp:PoolAt w L S)(x:NodeS)(hx:x.Ok)(link:Int)(hl:Ql link)(h:Int)(S':PoolS)(ht:S.take x link=some (h,S')):
  Calls prog 214 #[ptr L.pb,.pointer none,x.val,.int .i64 link] w (Made L S' w (I2 h)):=by
 obtain⟨b0,b1,b2,b3⟩:=takeW_blk w L.pb x link
 have hlt:=hp.lt
 have hpop:=pop_any (takeW w L.pb x link) L S (hp.only (takeW_only _ _ _ _) (by simp)) x hx link hl h S' ht w.heap.size (w.heap.size+1) (w.heap.size+2) (w.heap.size+3) b0 b1 b2 b3 (by
  intro c hc hm
  have:=hlt c hm
  rcases hc with rfl|rfl|rfl|rfl <;> omega)
 have HO:=hid (takeW_only w L.pb x link)
 have cpb:(takeW w L.pb x link).cell? ⟨L.pb,1,none⟩=some (ptr L.fb):=(hp.only (takeW_only w L.pb x link) (by simp)).p.cell rfl
 have HPOP:=hid hpop
 have hf:=b3.frozen
 unfold takeW at HPOP cpb
 unfold ptr at HPOP cpb ⊢
 unfold NodeS.val I2
 clear hpop hp ht b0 b1 b2 b3 hlt hf
 go_enter func214,ntmps214
 go_wp2_with (go_at_call 234;refine HPOP.out.mono ?_;rintro e w1 ⟨n,rfl,hp1,ho,hb⟩;have HP:=hid hp1;have HO1:=hid ho;have c0:=hb.cell (i:=0) rfl;clear hp1 ho hb)
 go_ret2
 exact⟨rfl,HP.out,((HO.out.mono (fun k hk=>by simp at hk)).trans HO1.out).fresh (fun k hk hlt=>by
  rcases List.mem_cons.1 hk with rfl|hk
  ·omega
  ·exact hk)⟩
def Row (w:World)(A:Option Addr)(xs:List Value):Prop:=
 ∀j u,xs[j]?=some u→∃b off,A=some ⟨b,off,none⟩∧w.cell? ⟨b,off+j,none⟩=some u
theorem cell_lt {w:World}{a:Addr}{v:Value}(h:w.cell? a=some v):a.block<w.heap.size:=block_lt_of_cell h
theorem Row.keep {w w':World}{A:Option Addr}{xs:List Value}(h:Row w A xs)(hk:∀a v,w.cell? a=some v→w'.cell? a=some v):Row w' A xs:=
 fun j u hu=>let ⟨b,off,e,hc⟩:=h j u hu;⟨b,off,e,hk _ _ hc⟩
theorem Row.below {w w':World}{A:Option Addr}{xs:List Value}(h:Row w A xs)(hb:Below w.heap.size w w'):Row w' A xs:=h.keep (fun _ _ h=>Zh hb h)
theorem Row.drewN {w:World}{A:Option Addr}{xs:List Value}(h:Row w A xs)(n:Nat):Row (w.drewN n) A xs:=h
theorem Row.alloc {w:World}{A:Option Addr}{xs:List Value}(h:Row w A xs)(o:Obj):Row (w.alloc o) A xs:=h.below ((Below.refl _ _).alloc (Nat.le_refl _) _)
theorem Row.nil (w:World)(A:Option Addr):Row w A []:=fun j u hu=>by simp at hu
def ElemOk (P:Program)(t e size bytes:Nat):Prop:=
 P.underlying t=some (.slice e)∧0<size∧∃i z,P.info? e=some i∧i.zero=some z∧i.size=size∧i.bytes=bytes∧z.cells.size=size
theorem elemOk_of {P:Program}{t e size bytes:Nat}(ht:P.underlying t=some (.slice e))(hs:0<size)(z:Value)(hi:(P.info? e).map (fun i=>(i.zero,i.size,i.bytes))=some (some z,size,bytes))(hz:z.cells.size=size):ElemOk P t e size bytes:=by
 cases hq:P.info? e with
 |none=>simp[hq] at hi
 |some i=>
  simp[hq] at hi
  exact⟨ht,hs,i,z,hq,hi.1,hi.2.1,hi.2.2,hz⟩
section
variable {P:Program}{w:World}{base t e size bytes:Nat}{v:Value}{n:Nat}{xs:List Value}
theorem append_nil_run (E:ElemOk P t e size bytes)(hown:w.ownsRow base e size v n xs)(ty:TypeId)(c:Nat):(Builtin.append_ #[t,t] ty #[v,.slice none 0 c]).run P w=.ok v w:=by
 obtain⟨ht,_,i,z,hi,_⟩:=E
 rcases hown.2 with ⟨rfl,rfl⟩|⟨g,cap,cur,rfl,_,_,hnc,_⟩
 ·simp[Builtin.append_,run_underlying ht,sizeOf,typeInfo,hi,Builtin.lenOf,Builtin.firstCells]
 ·simp[Builtin.append_,run_underlying ht,sizeOf,typeInfo,hi,Builtin.lenOf,Builtin.firstCells,hnc,storeCells]
theorem append_run (E:ElemOk P t e size bytes)(hown:w.ownsRow base e size v n xs)(ty:TypeId){A:Option Addr}{m c:Nat}{news:List Value}(hr:Row w A news)(hl:news.length=m*size)(h1:∀u∈news,u.oneCell'=true)
  (h63:n+m≤maxLen) (hbytes:(n+m)*bytes≤140737488355328) (hbase:base≤w.heap.size) (hA:A=none→m=0):
  ∃v' w',(Builtin.append_ #[t,t] ty #[v,.slice A m c]).run P w=.ok v' w'∧w'.ownsRow base e size v' (n+m) (xs ++ news)∧w.grownBy w' v.ownBlock ∧
   (v'.ownBlock=v.ownBlock∨v'.ownBlock=some w.heap.size):=by
 have E':=E
 obtain⟨ht,hs,i,z,hi,hz,h2,h3,h4⟩:=E'
 cases A with
 |none=>
  obtain rfl:=hA rfl
  have hn:news=[]:=List.eq_nil_of_length_eq_zero (by simpa using hl)
  subst hn
  exact⟨v,w,append_nil_run E hown ty c,by simpa using hown,World.grownBy.refl w _,.inl rfl⟩
 |some ad=>
  have hcells:∀j u,news[j]?=some u→w.cell? (ad.add j)=some u:=by
   intro j u hu
   obtain⟨b,off,e1,hc⟩:=hr j u hu
   injection e1 with e1
   rw[e1,addr_add]
   exact hc
  obtain⟨v',w',hrun,g2,g3,_,g5⟩:=run_append_own_at (P:=P) w base t ty e i z size bytes ht hi hz h2 h3 h4 hs v n xs hown ad m c news hl hcells h1 h63 hbytes hbase
  exact⟨v',w',hrun,g2,g3,g5⟩
theorem wp_append_is {o:Oper}{a:Act}{K:Act→World→Prop}{Q:Exit→Act→World→Prop}(s x:Operand)
  (ho:o.op=.call {callee:=.builtin .append,args:=#[s,x],argTypes:=#[t,t]}) (E:ElemOk P t e size bytes) (hs:a.eval s=v) (hown:w.ownsRow base e size v n xs)
  (A:Option Addr) (m c:Nat) (news:List Value) (hx:a.eval x=.slice A m c) (hr:Row w A news) (hl:news.length=m*size) (h1:∀u∈news,u.oneCell'=true)
  (h63:n+m≤maxLen) (hbytes:(n+m)*bytes≤140737488355328) (hbase:base≤w.heap.size) (hA:A=none→m=0)
  (h:∀v' w',w'.ownsRow base e size v' (n+m) (xs ++ news)→w.grownBy w' v.ownBlock→(v'.ownBlock=v.ownBlock∨v'.ownBlock=some w.heap.size)→K (a.put o.dst v') w'):o.wp P a w K Q:=by
 obtain⟨v',w',hrun,h2,h3,h4⟩:=append_run E hown o.type (c:=c) hr hl h1 h63 hbytes hbase hA
 unfold Oper.wp execOp
 simp only[ho,resolve,invoke,builtin,Sem.run_bind,Sem.run_pure,Result.andThen_ok,List.map_toArray,List.map_cons,List.map_nil,hs,hx,hrun]
 exact h v' w' h2 h3 h4
theorem Qj {ops:Array Oper}{rest:List Oper}{o:Oper}{a:Act}{Q:Exit→Act→World→Prop}(hgd:o.guard=none)(s x:Operand)
  (ho:o.op=.call {callee:=.builtin .append,args:=#[s,x],argTypes:=#[t,t]}) (E:ElemOk P t e size bytes) (hs:a.eval s=v) (hown:w.ownsRow base e size v n xs)
  (A:Option Addr) (m c:Nat) (news:List Value) (hx:a.eval x=.slice A m c) (hr:Row w A news) (hl:news.length=m*size) (h1:∀u∈news,u.oneCell'=true)
  (h63:n+m≤maxLen) (hbytes:(n+m)*bytes≤140737488355328) (hbase:base≤w.heap.size) (hA:A=none→m=0)
  (h:∀v' w',w'.ownsRow base e size v' (n+m) (xs ++ news)→w.grownBy w' v.ownBlock→(v'.ownBlock=v.ownBlock∨v'.ownBlock=some w.heap.size)→wpList P ops Q rest (a.put o.dst v') w'):wpList P ops Q (o :: rest) a w:=
 wpList_plain hgd fun _ hK=>wp_append_is s x ho E hs hown A m c news hx hr hl h1 h63 hbytes hbase hA fun v' w' h2 h3 h4=>hK _ _ (h v' w' h2 h3 h4)
theorem Zb {ops:Array Oper}{o:Oper}{a:Act}{K:Act→World→Prop}{Q:Exit→Act→World→Prop}{F:Prop}(hgd:o.guard=none)(s x:Operand)
  (ho:o.op=.call {callee:=.builtin .append,args:=#[s,x],argTypes:=#[t,t]}) (E:ElemOk P t e size bytes) (hs:a.eval s=v) (hown:w.ownsRow base e size v n xs)
  (A:Option Addr) (m c:Nat) (news:List Value) (hx:a.eval x=.slice A m c) (hr:Row w A news) (hl:news.length=m*size) (h1:∀u∈news,u.oneCell'=true)
  (h63:n+m≤maxLen) (hbytes:(n+m)*bytes≤140737488355328) (hbase:base≤w.heap.size) (hA:A=none→m=0)
  (h:∀v' w',w'.ownsRow base e size v' (n+m) (xs ++ news)→w.grownBy w' v.ownBlock→(v'.ownBlock=v.ownBlock∨v'.ownBlock=some w.heap.size)→K (a.put o.dst v') w'):
  if Region.wanted o (yielded ops a.tmps)=true then Oper.wp P o a w K Q else F:=by
 have hw:Region.wanted o (yielded ops a.tmps)=true:=by simp[Region.wanted,hgd]
 rw[if_pos hw]
 exact wp_append_is s x ho E hs hown A m c news hx hr hl h1 h63 hbytes hbase hA h
theorem Qc (h:w.ownsRow base e size v n xs):∃A c,v=.slice A n c∧Row w A xs∧(A=none→n=0):=by
 rcases h.2 with ⟨rfl,rfl⟩|⟨g,cap,cur,rfl,_,hg,hnc,_,hs,ht⟩
 ·refine⟨none,0,rfl,?_,fun _=>rfl⟩
  have:xs=[]:=List.eq_nil_of_length_eq_zero (by simpa using h.1)
  subst this
  exact Row.nil _ _
 ·refine⟨some ⟨g,0,none⟩,cap,rfl,fun j u hu=>⟨g,0,rfl,?_⟩,fun e=>by cases e⟩
  have:=h.cells (g:=g) rfl j u hu
  rwa [addr_add] at this
theorem own_grown {w':World}{row:Option Nat}(h:w.ownsRow base e size v n xs)(hg:w.grownBy w' row)(hne:∀g,v.ownBlock=some g→row≠some g):w'.ownsRow base e size v n xs:=
 h.kept hg (by
  cases hv:v.ownBlock with
  |none=>exact .inl rfl
  |some g=>exact .inr (fun e=>hne g hv e.symm))
theorem own_below {w':World}(h:w.ownsRow base e size v n xs)(hb:Below w.heap.size w w'):w'.ownsRow base e size v n xs:=
 own_grown (row:=none) h ⟨hb.os,hb.tape,hb.output,hb.size,fun k hk _=>hb.block k hk⟩ (fun _ _=>by simp)
theorem Qn {b':Nat}(h:w.ownsRow base e size v n xs)(hb:b'≤base):w.ownsRow b' e size v n xs:=
 ⟨h.1,h.2.imp id (fun ⟨g,cap,cur,e,hg,r⟩=>⟨g,cap,cur,e,Nat.le_trans hb hg,r⟩)⟩
theorem Only.grown {X:List Nat}{a b c:World}(h:Only X a b){row:Option Nat}(hg:b.grownBy c row)(hr:∀k,row=some k→a.heap.size≤k∨k∈X):Only X a c:=
 ⟨hg.os.trans h.os,hg.tape.trans h.tape,hg.output.trans h.output,Nat.le_trans h.size hg.size,fun k hk hn=>(hg.block k (Nat.lt_of_lt_of_le hk h.size) (fun e=>by
  rcases hr k e.symm with h1|h1
  ·omega
  ·exact hn h1)).trans (h.block k hk hn)⟩
theorem Qe {w w':World}{base e size:Nat}{v:Value}{n:Nat}{xs:List Value}{X:List Nat}(h:w.ownsRow base e size v n xs)(ho:Only X w w')(hx:∀k,v.ownBlock=some k→k∉X):w'.ownsRow base e size v n xs:=by
 rcases h.2 with ⟨rfl,rfl⟩|⟨g,cap,cur,rfl,r⟩
 ·exact⟨h.1,.inl ⟨rfl,rfl⟩⟩
 ·refine⟨h.1,.inr ⟨g,cap,cur,rfl,r.1,?_,r.2.2⟩⟩
  rw[ho.block g (Array.getElem?_eq_some_iff.1 r.2.1).1 (hx g rfl)]
  exact r.2.1
end
end Go.Proofs.YteeefedoffplmaaGreat
namespace Go.Proofs.YteeefedoffplmaaGreat
open Lib Go.Proofs.Tryz
open Go.RowKit
def Zc (l:List Int):List Value:=l.map (Value.int .i64)
theorem ints_length (l:List Int):(Zc l).length=l.length:=by simp[Zc]
theorem ints_snoc (l:List Int)(x:Int):Zc (l ++ [x])=Zc l ++ [.int .i64 x]:=by simp[Zc]
theorem ints_one (l:List Int):∀u∈Zc l,u.oneCell'=true:=by
 intro u hu
 obtain⟨x,_,rfl⟩:=List.mem_map.1 hu
 rfl
theorem Zd {α:Type}{l:List α}{j:Nat}{e:α}(h:l[j]?=some e):l.take (j+1)=l.take j ++ [e]:=by
 rw[List.take_add_one,h]
 rfl
theorem elemInt:ElemOk prog 64 3 1 8:=elemOk_of (by kernel_rfl) (by decide) (.int .i64 0) (by kernel_rfl) rfl
theorem Zg (w:World)(cs:List Value)(t:TypeId):Row (w.alloc (.cells cs.toArray t)) (some ⟨w.heap.size,0,none⟩) cs:=fun j u hu=>
 ⟨w.heap.size,0,rfl,by rw[Nat.zero_add];exact (Blk.new w cs t).cell hu⟩
structure ClockL where
 cb:Nat
 lb:Nat
structure ClockAt (w:World)(K:ClockL)(C:ClockS):Prop where
 c:Blk w K.cb [.int .i64 C.now,Qr K.lb C.leases.length] 166
 l:Blk w K.lb (Zc C.leases) 122
 apart:K.cb≠K.lb
 most:C.leases.length≤64
 now:0≤C.now∧C.now≤1099511627776
 ok:∀x∈C.leases,0≤x∧x≤1099511627776
theorem ClockAt.only {w w':World}{K:ClockL}{C:ClockS}(h:ClockAt w K C){X:List Nat}(ho:Only X w w')(h1:K.cb∉X)(h2:K.lb∉X):ClockAt w' K C:=⟨h.c.only ho h1,h.l.only ho h2,h.apart,h.most,h.now,h.ok⟩
theorem clockNow (w:World)(K:ClockL)(C:ClockS)(h:ClockAt w K C):Calls prog 60 #[ptr K.cb,.pointer none] w fun e w'=>e=.returned (.int .i64 C.now)∧w=w':=by
 have hl:=Zf K.cb 0 C.now w (h.c.cell rfl)
 unfold ptr
 clear h
 go_enter func60,ntmps60
 go_wp2_with (first|(go_at_call 71;refine (Qx _).mono ?_;rintro e w' ⟨rfl,rfl⟩)|(go_at_call 51;refine hl.mono ?_;rintro e w' ⟨rfl,rfl⟩))
 go_ret
 exact⟨rfl,rfl⟩
def NewInts (l:List Int)(w:World)(e:Ending)(w':World):Prop:=∃v,e=.returned v∧w'.ownsRow w.heap.size 3 1 v l.length (Zc l)∧Only [] w w'
def LsRel (C:ClockS)(w:World)(k:Nat)(out i:Value)(wr:World):Prop:=
 ∃j:Nat,j≤C.leases.length∧i=.int .i64 j∧k=C.leases.length-j∧wr.ownsRow w.heap.size 3 1 out j (Zc (C.leases.take j))∧Only [] w wr
theorem clockLeases (w:World)(K:ClockL)(C:ClockS)(h:ClockAt w K C):Calls prog 61 #[ptr K.cb] w (NewInts C.leases w):=by
 have H:=hid h
 have c1:w.cell? ⟨K.cb,1,none⟩=some (Qr K.lb C.leases.length):=h.c.cell rfl
 have hm:=h.most
 unfold ptr
 unfold Qr at c1
 clear h
 go_enter func61,ntmps61
 go_wp2_with fail
 go_loopg [3,10] C.leases.length (fun k out i wr=>LsRel C w k out i wr)
 case atStart=>exact⟨0,Nat.zero_le _,rfl,rfl,World.ownsRow_nil _ _ 3 1,Only.refl _ _⟩
 case round=>
  obtain⟨j,hj,rfl,rfl,hown,ho⟩:=hrel
  have HO:=hid ho
  have HW:=hid hown
  clear ho hown c1
  by_cases hlt:j<C.leases.length
  ·obtain⟨x,hx⟩:∃x,C.leases[j]?=some x:=⟨_,List.getElem?_eq_getElem hlt⟩
   have hK:=H.out.only HO.out (by simp) (by simp)
   have c1:wr.cell? ⟨K.cb,1,none⟩=some (Qr K.lb C.leases.length):=hK.c.cell rfl
   have hl:=Zf K.lb j x wr (hK.l.cell (by simp[Zc,hx]))
   unfold Qr at c1
   have HX:=hid hx
   clear hK hx
   have hlt':(j:Int)<C.leases.length:=by omega
   go_wp2_with (first|(go_at_call 51;refine hl.mono ?_;rintro e w' ⟨rfl,rfl⟩)|(at_builtin;(refine Qj rfl (.tmp 13) (.tmp 21) rfl elemInt rfl (HW.out.alloc (.cells #[.int .i64 x] 3)) _ 1 _ [.int .i64 x] rfl (Zg _ _ _) rfl (by simp[Value.oneCell']) (by unfold maxLen;omega) (by omega) (by have:=HO.out.size;simp;omega) (fun e=>by cases e) ?_);intro v2 w2 hown2 hg2 hat2;have HW2:=hid hown2;have HO2:=hid ((HO.out.alloc _).grown hg2 (fun k hk=>.inl (HW.out.lt k hk).1));clear hown2 hg2 hat2))
   go_roundg (C.leases.length-(j+1))
   case measure=>omega
   case rel=>exact⟨j+1,by omega,by go_num,rfl,by rw[Zd HX.out,ints_snoc];exact HW2.out,HO2.out⟩
  ·have hjl:j=C.leases.length:=by omega
   have HJ:=hid hjl
   clear hjl
   go_wp2_with fail
   go_ret
   refine⟨_,rfl,?_,HO.out⟩
   have:=HW.out
   rw[HJ.out,List.take_length] at this
   exact this
def minL (m:Int)(l:List Int):Int:=l.foldl (fun m x=>if x=0 then m else min m (x-1)) m
def LtRel (C:ClockS)(k:Nat)(m i:Value)(w wr:World):Prop:=
 ∃j:Nat,j≤C.leases.length∧i=.int .i64 j∧k=C.leases.length-j∧m=.int .i64 (minL C.now (C.leases.take j))∧w=wr
theorem minL_snoc (m:Int)(l:List Int)(x:Int):minL m (l ++ [x])=if x=0 then minL m l else min (minL m l) (x-1):=by simp[minL]
theorem clockLeast (w:World)(K:ClockL)(C:ClockS)(h:ClockAt w K C):Calls prog 129 #[ptr K.cb,.pointer none] w fun e w'=>e=.returned (.int .i64 C.least)∧w=w':=by
 have H:=hid h
 have c1:w.cell? ⟨K.cb,1,none⟩=some (Qr K.lb C.leases.length):=h.c.cell rfl
 have hm:=h.most
 have hnow:=clockNow w K C h
 unfold ptr at hnow ⊢
 unfold Qr at c1
 clear h
 go_enter func129,ntmps129
 go_wp2_with (go_at_call 60;refine hnow.mono ?_;rintro e w' ⟨rfl,rfl⟩)
 go_loopg [5,16] C.leases.length (fun k m i wr=>LtRel C k m i w wr)
 case atStart=>exact⟨0,Nat.zero_le _,rfl,rfl,rfl,rfl⟩
 case round=>
  obtain⟨j,hj,rfl,rfl,rfl,rfl⟩:=hrel
  by_cases hlt:j<C.leases.length
  ·obtain⟨x,hx⟩:∃x,C.leases[j]?=some x:=⟨_,List.getElem?_eq_getElem hlt⟩
   have hl:=Zf K.lb j x w (H.out.l.cell (by simp[Zc,hx]))
   have hxo:=H.out.ok x (List.mem_of_getElem? hx)
   have HX:=hid hx
   have hs:=hid (minL_snoc C.now (C.leases.take j) x)
   clear hx
   generalize hmm:minL C.now (C.leases.take j)=mm at *
   have HMM:=hid hmm
   clear hmm
   have hlt':(j:Int)<C.leases.length:=by omega
   by_cases hx0:x=0
   ·subst hx0
    go_wp2_with (first|(go_at_call 71;refine (Qx _).mono ?_;rintro e w' ⟨rfl,rfl⟩)|(go_at_call 51;refine hl.mono ?_;rintro e w' ⟨rfl,rfl⟩))
    go_roundg (C.leases.length-(j+1))
    case measure=>omega
    case rel=>exact⟨j+1,by omega,by go_num,rfl,by rw[Zd HX.out,hs.out];simp,rfl⟩
   ·have hq:(x != 0)=true:=by simp[hx0]
    have HX0:=hid hx0
    clear hx0
    obtain⟨o1,o2⟩:=hxo
    go_wp2_with (first|(go_at_call 71;refine (Qx _).mono ?_;rintro e w' ⟨rfl,rfl⟩)|(go_at_call 51;refine hl.mono ?_;rintro e w' ⟨rfl,rfl⟩))
    all_goals
     go_roundg (C.leases.length-(j+1))
     case measure=>omega
     case rel=>exact⟨j+1,by omega,by go_num,rfl,by rw[Zd HX.out,hs.out,if_neg HX0.out];congr 1;omega,rfl⟩
  ·have hjl:j=C.leases.length:=by omega
   have HJ:=hid hjl
   clear hjl
   go_wp2_with fail
   go_ret
   exact⟨ret_int (by rw[HJ.out,List.take_length];rfl),rfl⟩
end Go.Proofs.YteeefedoffplmaaGreat
/- The epoch, for worker 0: Enter, Leave, Retire, Advance, At, Waiting. Conditions: the epoch lies in memory; nobody but worker 0 was ever within. -/
namespace Go.Proofs.YteeefedoffplmaaGreat
open Lib Go.Proofs.Tryz
open Go.RowKit
def zI:Value:=.int .i64 0
def nilS:Value:=.slice none 0 0
def epochCells (pb:Nat)(E:EpochS)(lv:Value):List Value:=
 [ptr pb,.int .i64 E.workers,.int .i64 E.now,.int .i64 E.at0,zI,zI,zI,zI,zI,zI,zI,.int .i64 E.deep,lv,zI,nilS,zI,nilS,zI,nilS,zI,nilS,zI,nilS,zI,nilS,zI,nilS]
def waitCells (l:List (Int × Int)):List Value:=l.flatMap fun x=>[.int .i64 x.1,.int .i64 x.2]
structure EpochAt (w:World)(eb pb base:Nat)(ed:Option Nat)(E:EpochS):Prop where
 ex:∃lv,Blk w eb (epochCells pb E lv) 185∧w.ownsRow base 229 2 lv E.list.length (waitCells E.list)∧lv.ownBlock=ed
 lt:eb<base
 room:base≤w.heap.size
 workers:1≤E.workers∧E.workers≤8
 now:0≤E.now∧E.now≤1099511627776
 at0:0≤E.at0∧E.at0≤1099511627776
 deep:0≤E.deep∧E.deep≤1
 ok:∀x∈E.list,Ql x.1∧0≤x.2∧x.2≤1099511627776
theorem EpochAt.only {w w':World}{eb pb base:Nat}{ed:Option Nat}{E:EpochS}(h:EpochAt w eb pb base ed E){X:List Nat}(ho:Only X w w')(h1:eb∉X)(h2:∀k,ed=some k→k∉X):EpochAt w' eb pb base ed E:=by
 obtain⟨⟨lv,hb,hown,he⟩,h3,hr,h4,h5,h6,h7,h8⟩:=h
 exact⟨⟨lv,hb.only ho h1,Qe hown ho (fun k hk=>h2 k (he ▸ hk)),he⟩,h3,Nat.le_trans hr ho.size,h4,h5,h6,h7,h8⟩
theorem ed_ge {w:World}{eb pb base:Nat}{ed:Option Nat}{E:EpochS}(h:EpochAt w eb pb base ed E):∀k,ed=some k→base≤k:=by
 obtain⟨lv,hb,hown,he⟩:=h.ex
 intro k hk
 exact (hown.lt k (he.trans hk)).1
theorem Qm {w w2:World}{b:Nat}{cs:List Value}{t:TypeId}{row:Option Nat}(h:Blk w b cs t)(hg:w.grownBy w2 row)(hne:row≠some b):Blk w2 b cs t:=(hg.block b h.lt (fun e=>hne e.symm)).trans h
theorem elemWait:ElemOk prog 180 229 2 16:=elemOk_of (by kernel_rfl) (by decide) (.agg #[.int .i64 0,.int .i64 0]) (by kernel_rfl) rfl
theorem waitCells_snoc (l:List (Int × Int))(x:Int × Int):waitCells (l ++ [x])=waitCells l ++ [.int .i64 x.1,.int .i64 x.2]:=by simp[waitCells]
theorem retire_fin {w wa w2:World}{eb pb base:Nat}{ed:Option Nat}{E:EpochS}{lv v2:Value}{x:Int}(h:EpochAt w eb pb base ed E)(hx:Ql x)(hb:Blk w eb (epochCells pb E lv) 185)(he:lv.ownBlock=ed)(hw:Only [] w wa)
  (hg:wa.grownBy w2 lv.ownBlock) (hown:w2.ownsRow base 229 2 v2 (E.list.length+1) (waitCells E.list ++ [.int .i64 x,.int .i64 E.now])) (hat:v2.ownBlock=lv.ownBlock∨v2.ownBlock=some wa.heap.size) (hne:lv.ownBlock≠some eb):
  EpochAt (w2.setCell ⟨eb,12,none⟩ v2) eb pb base v2.ownBlock (E.retire x)∧Only (eb :: ed.toList) w (w2.setCell ⟨eb,12,none⟩ v2)∧(v2.ownBlock=ed∨∃g,v2.ownBlock=some g∧w.heap.size≤g):=by
 have ho2:Only (eb :: ed.toList) w w2:=(hw.mono (fun k hk=>by simp at hk)).grown hg (fun k hk=>.inr (by rw[he] at hk;simp[hk]))
 have ho3:=ho2.setCell (p:=⟨eb,12,none⟩) (.inl (by simp)) v2
 have hb2:Blk w2 eb (epochCells pb E lv) 185:=Qm (hb.only hw (by simp)) hg hne
 refine⟨⟨⟨v2,hb2.set 12 v2,?_,rfl⟩,h.lt,Nat.le_trans h.room ho3.size,h.workers,h.now,h.at0,h.deep,?_⟩,ho3,?_⟩
 ·have h1:(E.retire x).list=E.list ++ [(x,E.now)]:=rfl
  rw[h1,List.length_append,List.length_singleton,waitCells_snoc]
  refine Qe hown ((Only.refl [eb] _).setCell (p:=⟨eb,12,none⟩) (.inl (by simp)) v2) (fun k hk=>?_)
  have:=(hown.lt k hk).1
  have:=h.lt
  simp
  omega
 ·intro y hy
  have h1:(E.retire x).list=E.list ++ [(x,E.now)]:=rfl
  rw[h1] at hy
  rcases List.mem_append.1 hy with hy|hy
  ·exact h.ok y hy
  ·obtain rfl:=List.mem_singleton.1 hy
   exact⟨hx,h.now⟩
 ·rcases hat with hat|hat
  ·exact .inl (hat.trans he)
  ·exact .inr ⟨_,hat,hw.size⟩
def Retired (eb pb base:Nat)(ed:Option Nat)(E':EpochS)(w:World)(e:Ending)(w':World):Prop:=
 ∃ed',e=.returned (.int .i64 0)∧EpochAt w' eb pb base ed' E'∧Only (eb :: ed.toList) w w'∧(ed'=ed∨∃g,ed'=some g∧w.heap.size≤g)
section
variable (w:World)(eb pb base:Nat)(ed:Option Nat)(E:EpochS)(h:EpochAt w eb pb base ed E)
include h
theorem mine_any:Calls prog 132 #[ptr eb,.pointer none] w fun e w'=>e=.returned (.pointer (some ⟨eb,11,none⟩))∧w=w':=by
 obtain⟨lv,hb,hown,he⟩:=h.ex
 obtain⟨k1,k2⟩:=h.workers
 have c1:w.cell? ⟨eb,1,none⟩=some (.int .i64 (E.workers:Int)):=hb.cell rfl
 have e1:decide ((0:Int)<(E.workers:Int))=true:=by simp;omega
 unfold ptr
 clear h hb hown
 generalize (E.workers:Int)=ws at *
 go_enter func132,ntmps132
 go_wp2_with (go_at_call 157;refine (number_nil _).mono ?_;rintro e w' ⟨rfl,rfl⟩)
 go_ret
 exact⟨rfl,rfl⟩
def Epoched (eb pb base:Nat)(X:List Nat)(ed:Option Nat)(E':EpochS)(w:World)(r:Value)(e:Ending)(w':World):Prop:=e=.returned r∧EpochAt w' eb pb base ed E'∧Only X w w'
theorem enter_any (hd:E.deep=0):Calls prog 85 #[ptr eb,.pointer none] w (Epoched eb pb base [eb] ed E.enter w (.int .i64 0)):=by
 have hmine:=mine_any w eb pb base ed E h
 obtain⟨lv,hb,hown,he⟩:=h.ex
 have c11:w.cell? ⟨eb,11,none⟩=some (.int .i64 0):=by rw[←hd];exact hb.cell rfl
 have hl:=Zf eb 2 E.now w (hb.cell rfl)
 have hnum:=fun W=>calls_rev (number_nil W)
 have hst:=atomStore eb 3 E.at0 w.drew E.now (hb.drew.cell rfl) (hb.frozen _)
 have hb1:=hb.drew.set 3 (.int .i64 E.now)
 have d11:(w.setCell ⟨eb,3,none⟩ (.int .i64 E.now)).cell? ⟨eb,11,none⟩=some (.int .i64 0):=by rw[←hd];exact (hb.set 3 (.int .i64 E.now)).cell rfl
 have f11:=hb.frozen 11
 have hb2:=hb1.set 11 (.int .i64 1)
 have hfin:EpochAt ((w.drew.setCell ⟨eb,3,none⟩ (.int .i64 E.now)).setCell ⟨eb,11,none⟩ (.int .i64 1)) eb pb base ed E.enter∧Only [eb] w ((w.drew.setCell ⟨eb,3,none⟩ (.int .i64 E.now)).setCell ⟨eb,11,none⟩ (.int .i64 1)):=by
  have ho:Only [eb] w ((w.drew.setCell ⟨eb,3,none⟩ (.int .i64 E.now)).setCell ⟨eb,11,none⟩ (.int .i64 1)):=((Only.drew _ _).setCell (.inl (by simp)) _).setCell (.inl (by simp)) _
  refine⟨⟨⟨lv,?_,Qe hown ho (fun k hk=>by have:=ed_ge h k (he ▸ hk);have:=h.lt;simp;omega),he⟩,h.lt,Nat.le_trans h.room ho.size,h.workers,h.now,?_,?_,h.ok⟩,ho⟩
  ·have e1:E.enter={E with at0:=E.now,deep:=1}:=by simp[EpochS.enter,hd]
   rw[e1]
   exact hb2
  ·simp only[EpochS.enter,hd,if_true]
   exact h.now
  ·simp[EpochS.enter,hd]
 have HF:=hid hfin;have HST:=hid hst;have HN:=hid hnum
 unfold ptr at hmine ⊢
 clear h hb hown hb1 hb2 hfin hst hd hnum
 generalize E.now=now at *
 go_enter func85,ntmps85
 go_wp2_with (first|(go_at_call 132;refine hmine.mono ?_;rintro e w' ⟨rfl,rfl⟩)|(go_at_call 71;refine (Qx _).mono ?_;rintro e w' ⟨rfl,rfl⟩)|(go_at_call 51;refine hl.mono ?_;rintro e w' ⟨rfl,rfl⟩))
 refine wp_region_still_tail 7 (by kernel_rfl) (by kernel_rfl) ?_
 simp only[List.take_succ_cons,List.take_zero,List.drop_succ_cons,List.drop_zero]
 change wpStill _ _ (World.drew _) (fun a'=>wpList _ _ _ _ a' (World.drew _)) _ _
 iterate 2 still_step
 still_call (HN.out _)
 iterate 4 still_step
 refine wpStill_nil ?_
 go_wp2_with (go_at_call 100;refine HST.out.mono ?_;rintro e w' ⟨rfl,rfl⟩)
 go_ret
 exact⟨rfl,HF.out⟩
theorem retire_any (x:Int)(hx:Ql x)(hlen:E.list.length≤100000):Calls prog 131 #[ptr eb,.pointer none,.int .i64 x] w (Retired eb pb base ed (E.retire x) w):=by
 have hmine:=mine_any w eb pb base ed E h
 obtain⟨lv,hb,hown,he⟩:=h.ex
 obtain⟨A,c,hlv,hrow,hnil⟩:=Qc hown
 have c12:w.cell? ⟨eb,12,none⟩=some lv:=hb.cell rfl
 have hl:=calls_rev (Zf eb 2 E.now w.drew (hb.drew.cell rfl))
 rw[hlv] at c12
 have HB:=hid hb;have HOWN:=hid hown;have HL:=hid hl;have HLV:=hid hlv
 unfold ptr at hmine ⊢
 clear hb hown hl hlv hrow hnil
 generalize hnow:E.now=now at *
 have HNOW:=hid hnow
 clear hnow
 go_enter func131,ntmps131
 go_wp2_with (first|(go_at_call 132;refine hmine.mono ?_;rintro e w' ⟨rfl,rfl⟩)|(go_at_call 71;refine (Qx _).mono ?_;rintro e w' ⟨rfl,rfl⟩))
 have hoa:(w.alloc (.cells #[.int .i64 x,.int .i64 now] 229)).drew.ownsRow base 229 2 (.slice A E.list.length c) E.list.length (waitCells E.list):=by
  rw[←HLV.out]
  exact HOWN.out.alloc _
 have hrE:Row (w.alloc (.cells #[.int .i64 x,.int .i64 now] 229)).drew (some ⟨w.heap.size,0,none⟩) [.int .i64 x,.int .i64 now]:=Zg w [.int .i64 x,.int .i64 now] 229
 have hbase:base≤(w.alloc (.cells #[.int .i64 x,.int .i64 now] 229)).drew.heap.size:=by have:=h.room;simp;omega
 have hne:(Value.slice A E.list.length c).ownBlock≠some eb:=by
  intro e
  rw[←HLV.out] at e
  have:=(HOWN.out.lt eb e).1
  have:=h.lt
  omega
 have HNE:=hid hne
 clear hne
 have c12':=Qb c12 (.cells #[.int .i64 x,.int .i64 now] 229)
 have HOA:=hid hoa;have HROW:=hid hrE;have HBASE:=hid hbase
 have H:=hid h
 have HXX:=hid hx
 clear hx
 clear hoa hrE hbase h
 go_region_law (first|(go_simp;go_at_call 51;refine HL.out.mono ?_;rintro e w' ⟨rfl,rfl⟩)|(refine Zb rfl (.tmp 19) (.tmp 26) rfl elemWait rfl HOA.out _ 1 _ [.int .i64 x,.int .i64 now] rfl HROW.out rfl (by simp[Value.oneCell']) (by unfold maxLen;omega) (by omega) HBASE.out (fun e=>by cases e) ?_;intro v2 w2 hown2 hg2 hat2;obtain⟨A2,cc2,rfl,_,_⟩:=Qc hown2;have hb2:=Qm (HB.out.alloc (.cells #[.int .i64 x,.int .i64 now] 229)).drew hg2 HNE.out;have d12:=hb2.cell (i:=12) rfl;have f12:=hb2.frozen 12;have HFIN:=hid (retire_fin H.out HXX.out HB.out he ((Only.refl [] w).alloc (.cells #[.int .i64 x,.int .i64 now] 229)).drew' (by rw[HLV.out];exact hg2) (by rw[HNOW.out];exact hown2) (by rw[HLV.out];exact hat2) (by rw[HLV.out];exact HNE.out));clear hown2 hg2 hat2 hb2))
 all_goals
  go_wp2_with fail
  go_ret
  exact⟨_,rfl,HFIN.out⟩
end
end Go.Proofs.YteeefedoffplmaaGreat
namespace Go.Proofs.YteeefedoffplmaaGreat
open Go.RowKit Lib Go.Proofs.Tryz
theorem at_cells (pb:Nat)(E:EpochS)(lv:Value)(h0:E.at0=0)(k:Nat)(hk:k<8):(epochCells pb E lv)[3+k]?=some (.int .i64 0):=by
 unfold epochCells
 rw[h0]
 obtain rfl|rfl|rfl|rfl|rfl|rfl|rfl|rfl:k=0∨k=1∨k=2∨k=3∨k=4∨k=5∨k=6∨k=7:=by omega
 all_goals rfl
theorem advance1 (k:Int)(c:Nat)(w:World):Calls prog 134 #[.int .i64 k,.int .i64 0,ptr c] w fun e w'=>e=.returned (.bool true)∧w=w':=by
 unfold ptr
 go_enter func134,ntmps134
 go_wp2
 go_ret
 exact⟨rfl,rfl⟩
def OtRel (n:Nat)(k:Nat)(i:Value)(w wr:World):Prop:=∃j:Nat,j≤n∧i=.int .i64 j∧k=n-j∧w=wr
section
variable (w:World)(eb pb base:Nat)(ed:Option Nat)(E:EpochS)(h:EpochAt w eb pb base ed E)
include h
theorem others_any (h0:E.at0=0)(c:Nat):Calls prog 133 #[ptr eb,.pointer none,.func (.func 134) #[] #[ptr c]] w fun e w'=>e=.returned (.bool true)∧w=w':=by
 obtain⟨lv,hb,hown,he⟩:=h.ex
 obtain⟨k1,k2⟩:=h.workers
 have c1:w.cell? ⟨eb,1,none⟩=some (.int .i64 (E.workers:Int)):=hb.cell rfl
 have hl:=fun k hk=>Zf eb (3+k) 0 w (hb.cell (at_cells pb E lv h0 k hk))
 have HL:=hid hl
 have ha1:=fun k=>advance1 k c w
 unfold ptr at ha1 ⊢
 have HA1:=hid ha1
 clear h hb hown hl h0 ha1
 generalize E.workers=n at *
 go_enter func133,ntmps133
 go_wp2_with fail
 go_loopg [12] n (fun k i wr=>OtRel n k i w wr)
 case atStart=>exact⟨0,Nat.zero_le _,rfl,rfl,rfl⟩
 case round=>
  obtain⟨j,hj,rfl,rfl,rfl⟩:=hrel
  by_cases hlt:j<n
  ·have hlt':(j:Int)<n:=by omega
   have hj8:(j:Int)<8:=by omega
   have hlj:=HL.out j (by omega)
   go_wp2_with (first|(go_at_call 71;refine (Qx _).mono ?_;rintro e w' ⟨rfl,rfl⟩)|(go_at_call 51;refine hlj.mono ?_;rintro e w' ⟨rfl,rfl⟩)|(go_at_call 134;refine (HA1.out _).mono ?_;rintro e w' ⟨rfl,rfl⟩))
   go_roundg (n-(j+1))
   case measure=>omega
   case rel=>exact⟨j+1,by omega,by go_num,rfl,rfl⟩
  ·go_wp2_with fail
   go_ret
   exact⟨rfl,rfl⟩
theorem advance_any (h0:E.at0=0)(hn:E.now+1≤1099511627776):Calls prog 73 #[ptr eb,.pointer none] w (Epoched eb pb base [eb] ed {E with now:=E.now+1} w (.bool true)):=by
 have hmine:=mine_any w eb pb base ed E h
 have hal:∀o:Obj,EpochAt (w.alloc o) eb pb base ed E:=fun o=>h.only (X:=[]) ((Only.refl _ _).alloc o) (by simp) (by simp)
 have hoth:=fun o=>others_any (w.alloc o) eb pb base ed E (hal o) h0 w.heap.size
 obtain⟨lv,hb,hown,he⟩:=h.ex
 obtain⟨n1,n2⟩:=h.now
 have hl:=Zf eb 2 E.now w (hb.cell rfl)
 have hba:=(hb.alloc (.cells #[.int .i64 E.now] 2)).drew
 have hcas:=atomCas eb 2 E.now _ (E.now+1) (hba.cell rfl) (hba.frozen _)
 have hfin:EpochAt ((w.alloc (.cells #[.int .i64 E.now] 2)).drew.setCell ⟨eb,2,none⟩ (.int .i64 (E.now+1))) eb pb base ed {E with now:=E.now+1}∧Only [eb] w ((w.alloc (.cells #[.int .i64 E.now] 2)).drew.setCell ⟨eb,2,none⟩ (.int .i64 (E.now+1))):=by
  have ho:Only [eb] w ((w.alloc (.cells #[.int .i64 E.now] 2)).drew.setCell ⟨eb,2,none⟩ (.int .i64 (E.now+1))):=(((Only.refl _ _).alloc _).drew').setCell (.inl (by simp)) _
  exact⟨⟨⟨lv,hba.set 2 _,Qe hown ho (fun k hk=>by have:=ed_ge h k (he ▸ hk);have:=h.lt;simp;omega),he⟩,h.lt,Nat.le_trans h.room ho.size,h.workers,⟨by show 0≤E.now+1;omega,hn⟩,h.at0,h.deep,h.ok⟩,ho⟩
 have HF:=hid hfin;have HCAS:=hid hcas;have HOT:=hid hoth
 have c9:=cell_new w #[.int .i64 E.now] 2 0 _ rfl
 unfold ptr at hmine HOT ⊢
 clear h hb hba hown hfin hcas hoth hal h0
 generalize E.now=now at *
 go_enter func73,ntmps73
 go_wp2_with (first|(go_at_call 132;refine hmine.mono ?_;rintro e w' ⟨rfl,rfl⟩)|(go_at_call 71;refine (Qx _).mono ?_;rintro e w' ⟨rfl,rfl⟩)|(go_at_call 51;refine hl.mono ?_;rintro e w' ⟨rfl,rfl⟩)|(go_at_call 133;refine (HOT.out _).mono ?_;rintro e w' ⟨rfl,rfl⟩))
 refine wp_region_still_tail 6 (by kernel_rfl) (by kernel_rfl) ?_
 simp only[List.take_succ_cons,List.take_zero,List.drop_succ_cons,List.drop_zero]
 change wpStill _ _ (World.drew _) (fun a'=>wpList _ _ _ _ a' (World.drew _)) _ _
 iterate 6 still_step
 refine wpStill_nil ?_
 go_wp2_with (go_at_call 135;refine HCAS.out.mono ?_;rintro e w' ⟨rfl,rfl⟩)
 go_ret
 exact⟨rfl,HF.out⟩
end
theorem wpList_append_room_is {P:Program}{t e size bytes:Nat}{w:World}{ops:Array Oper}{rest:List Oper}{o:Oper}{a:Act}{Q:Exit→Act→World→Prop}(hgd:o.guard=none)(s x:Operand)
  (ho:o.op=.call {callee:=.builtin .append,args:=#[s,x],argTypes:=#[t,t]}) (E:ElemOk P t e size bytes) {g n cap:Nat} {cur:Array Value} (hs:a.eval s=.slice (some ⟨g,0,none⟩) n cap) (hg:w.heap[g]?=some (.cells cur e (0,0)))
  (A:Option Addr) (m c:Nat) (news:List Value) (hx:a.eval x=.slice A m c) (hr:Row w A news) (hl:news.length=m*size) (h1:∀u∈news,u.oneCell'=true) (hroom:n+m≤cap) (hfit:n*size+m*size≤cur.size) (hA:A=none→m=0)
  (h:∀w',w'.heap[g]?=some (.cells (cur.toList.take (n*size) ++ news ++ cur.toList.drop (n*size+m*size)).toArray e (0,0))→w.grownBy w' (some g)→w'.heap.size=w.heap.size→wpList P ops Q rest (a.put o.dst (.slice (some ⟨g,0,none⟩) (n+m) cap)) w'):
  wpList P ops Q (o :: rest) a w:=by
 refine wpList_plain hgd fun K hK=>?_
 obtain⟨ht,hsz,i,z,hi,hz,h2,h3,h4⟩:=E
 cases A with
 |none=>
  obtain rfl:=hA rfl
  have hn:news=[]:=List.eq_nil_of_length_eq_zero (by simpa using hl)
  subst hn
  have hrun:(Builtin.append_ #[t,t] o.type #[.slice (some ⟨g,0,none⟩) n cap,.slice none 0 c]).run P w=.ok (.slice (some ⟨g,0,none⟩) n cap) w:=by
   simp[Builtin.append_,run_underlying ht,sizeOf,typeInfo,hi,Builtin.lenOf,Builtin.firstCells,show n≤cap by omega,storeCells]
  unfold Oper.wp execOp
  simp only[ho,resolve,invoke,builtin,Sem.run_bind,Sem.run_pure,Result.andThen_ok,List.map_toArray,List.map_cons,List.map_nil,hs,hx,hrun]
  refine hK _ _ (h w ?_ (World.grownBy.refl w _) rfl)
  rw[hg]
  simp
 |some ad=>
  have hcells:∀j u,news[j]?=some u→w.cell? (ad.add j)=some u:=by
   intro j u hu
   obtain⟨b,off,e1,hc⟩:=hr j u hu
   injection e1 with e1
   rw[e1,addr_add]
   exact hc
  have hrun:=run_append_room (P:=P) w t o.type e i ht hi g n cap cur hg ad m c news (by rw[h2];exact hl) hcells h1 hroom (by rw[h2,hl];exact hfit)
  unfold Oper.wp execOp
  simp only[ho,resolve,invoke,builtin,Sem.run_bind,Sem.run_pure,Result.andThen_ok,List.map_toArray,List.map_cons,List.map_nil,hs,hx,hrun]
  refine hK _ _ (h _ ?_ ⟨rfl,rfl,rfl,by simp,fun k _ hk=>setRow_other w g k _ (fun e=>hk (by rw[e]))⟩ (by simp))
  rw[setRow_heap w g cur _ e _ hg,h2,hl]
theorem run_clear {P:Program}{t e size bytes:Nat}{w:World}(E:ElemOk P t e size bytes){z:Value}(hz:(zeroValue e).run P w=.ok z w)(hzs:z.cells.size=size)(hz1:∀v∈z.cells.toList,v.oneCell'=true)
  {g off m c:Nat} {cur:Array Value} (hg:w.heap[g]?=some (.cells cur e (0,0))) (hfit:off+m*size≤cur.size) (ty:TypeId):
  ∃w',(Builtin.clear_ #[t] ty #[.slice (some ⟨g,off,none⟩) m c]).run P w=.ok (.tuple #[]) w'∧(∃cur':Array Value,w'.heap[g]?=some (.cells cur' e (0,0))∧cur'.size=cur.size∧cur'.toList.take off=cur.toList.take off)∧w.grownBy w' (some g):=by
 obtain⟨ht,hsz,i,z',hi,hz',h2,h3,h4⟩:=E
 have hlt:g<w.heap.size:=(Array.getElem?_eq_some_iff.1 hg).1
 cases m with
 |zero=>
  refine⟨w,?_,⟨cur,hg,rfl,rfl⟩,World.grownBy.refl w _⟩
  simp[Builtin.clear_,run_underlying ht]
 |succ m=>
  have hlen:(Builtin.zeroCells z.cells (m+1)).toList.length=(m+1)*size:=by rw[Array.length_toList,size_zeroCells,hzs]
  have hone:∀v∈(Builtin.zeroCells z.cells (m+1)).toList,v.oneCell'=true:=by
   intro v hv
   simp[Builtin.zeroCells] at hv
   obtain⟨k,hk,rfl⟩:=hv
   have hpos:0<z.cells.size:=by omega
   have hlt2:k % z.cells.size<z.cells.size:=Nat.mod_lt _ hpos
   rw[getElem!_pos z.cells _ hlt2]
   exact hz1 _ (by simp)
  have hst:=run_storeCells_at P g off e (Builtin.zeroCells z.cells (m+1)).toList 0 cur w hg (by rw[hlen];omega) hone
  simp only[Nat.add_zero,hlen] at hst
  refine⟨w.setRow g (cur.toList.take off ++ (Builtin.zeroCells z.cells (m+1)).toList ++ cur.toList.drop (off+(m+1)*size)).toArray,by simp[Builtin.clear_,run_underlying ht,hz,hst],⟨(cur.toList.take off ++ (Builtin.zeroCells z.cells (m+1)).toList ++ cur.toList.drop (off+(m+1)*size)).toArray,?_,?_,?_⟩,?_⟩
  ·simp only[World.setRow]
   rw[Array.getElem?_modify]
   simp[hg]
  ·simp only[List.size_toArray,List.length_append,List.length_take,List.length_drop,Array.length_toList]
   rw[size_zeroCells,hzs]
   omega
  ·simp only[List.append_assoc]
   rw[List.take_append_of_le_length (by simp;omega),List.take_take]
   simp
  ·refine⟨rfl,rfl,rfl,by simp[World.setRow],fun k hk hne=>?_⟩
   simp only[World.setRow]
   rw[Array.getElem?_modify,if_neg (fun e=>hne (by rw[e]))]
theorem wpList_clear_is {P:Program}{t e size bytes:Nat}{w:World}{ops:Array Oper}{rest:List Oper}{o:Oper}{a:Act}{Q:Exit→Act→World→Prop}(hgd:o.guard=none)(x:Operand)
  (ho:o.op=.call {callee:=.builtin .clear,args:=#[x],argTypes:=#[t]}) (E:ElemOk P t e size bytes) {z:Value} (hz:(zeroValue e).run P w=.ok z w) (hzs:z.cells.size=size) (hz1:∀v∈z.cells.toList,v.oneCell'=true)
  {g off m c:Nat} {cur:Array Value} (hx:a.eval x=.slice (some ⟨g,off,none⟩) m c) (hg:w.heap[g]?=some (.cells cur e (0,0))) (hfit:off+m*size≤cur.size)
  (h:∀w',(∃cur':Array Value,w'.heap[g]?=some (.cells cur' e (0,0))∧cur'.size=cur.size∧cur'.toList.take off=cur.toList.take off)→w.grownBy w' (some g)→wpList P ops Q rest (a.put o.dst (.tuple #[])) w'):
  wpList P ops Q (o :: rest) a w:=by
 refine wpList_plain hgd fun K hK=>?_
 obtain⟨w',hrun,h1,h2⟩:=run_clear E hz hzs hz1 hg hfit o.type (c:=c)
 unfold Oper.wp execOp
 simp only[ho,resolve,invoke,builtin,Sem.run_bind,Sem.run_pure,Result.andThen_ok,List.map_toArray,List.map_cons,List.map_nil,hx,hrun]
 exact hK _ _ (h w' h1 h2)
end Go.Proofs.YteeefedoffplmaaGreat
