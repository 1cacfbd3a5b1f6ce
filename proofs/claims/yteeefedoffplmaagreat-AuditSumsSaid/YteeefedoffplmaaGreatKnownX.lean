/- the store that known() builds, in plain values: put, trimmed, collected. -/
import Derived.Test.YteeefedoffplmaaGreatTrims
import Derived.Test.YteeefedoffplmaaGreatGetters
import Derived.Test.YteeefedoffplmaaGreatSame
set_option linter.unusedSimpArgs false
set_option linter.unusedVariables false
namespace Go.Proofs.YteeefedoffplmaaGreat
open Go.RowKit

def zS : PoolS := ⟨[], 0, [], 0⟩
def zC : ChainS := ⟨0, []⟩
def kX0 : StoreS := StoreS.new 2 2 20 2 [(1, 10)] 0
def kC0 : ChainS := kX0.chains.headD zC
def kLeaf1 : EditS × PoolS := (mkLeaf 1 10 (.zero, kX0.pool)).getD (.zero, zS)
def kFirst : Int × ChainS × PoolS := (kC0.first kLeaf1.2 ⟨kLeaf1.1.root, 1, 0, 0⟩).getD (0, zC, zS)
def kA0 : LPartS := ⟨0, [(1, 10)], 0⟩
def kW : StoreS := waitX kX0 0 kA0 kFirst.2.1 kFirst.2.2
def kTop : Int × Int × PoolS := (kFirst.2.1.top kW.clock.now kW.pool).getD (0, 0, zS)
def kN : NodeS := (kTop.2.2.read kTop.1).getD ⟨0, 0, 0, 0⟩
def kLeaf2 : EditS × PoolS := (mkLeaf 1 11 (oldEdit 10 kN.a, kTop.2.2)).getD (.zero, zS)
def kPush : Int × ChainS × PoolS := (kFirst.2.1.push kW.clock.now kLeaf2.2 kTop.1 ⟨kLeaf2.1.root, kN.b + 1, 0, 0⟩ kLeaf2.1.gone).getD (0, zC, zS)
def kXA : StoreS := wroteX kW 0 kPush.2.1 kPush.2.2
def kToldA : ToldS := toldOf kLeaf2.1 kN.b

def kAt : Option Int × PoolS := (kPush.2.1.atStamp kXA.clock.now kXA.pool kXA.clock.least).getD (none, zS)
def kV : Int := kAt.1.getD 0
def kCut : Int × List Int × ChainS × PoolS := (kPush.2.1.cut kAt.2 kV).getD (0, [], zC, zS)
def kG : Int := kCut.2.1.headD 0
def kCut2 : Int × List Int × ChainS × PoolS := (kCut.2.2.1.cut kCut.2.2.2 kCut.1).getD (0, [], zC, zS)
def kXB : StoreS := { kXA with pool := kCut2.2.2.2, epoch := ((kXA.epoch.enter.retire kG).retire kCut.1).leave, chains := kXA.chains.set 0 kCut2.2.2.1 }
def kXB1 : StoreS := { kXB with epoch := { kXB.epoch with now := kXB.epoch.now + 1 } }
def kXB2 : StoreS := { kXB1 with epoch := { kXB1.epoch with now := kXB1.epoch.now + 1 } }
def kR : Int × EpochS × PoolS := (collect kXB2.epoch kXB2.pool).getD (0, kXB2.epoch, zS)
def kXC : StoreS := { kXB2 with epoch := kR.2.1, pool := kR.2.2 }
theorem kPuts (Y : StoreL) (hn : Y.n = 2) : Puts1 Y kX0 kXA 0 1 11 kToldA := by
  refine ⟨by decide +kernel, by rw [hn]; decide +kernel, by decide +kernel, kA0, kC0, kFirst.2.1, kFirst.2.2, kTop.1, kLeaf2.1, kN.b, kPush.2.1, kPush.2.2, ?_, rfl, ?_, rfl, rfl⟩
  · exact ⟨by decide +kernel, by decide +kernel, by decide +kernel, 1, 10, kLeaf1.1, kLeaf1.2, kFirst.1, rfl, by decide +kernel, by unfold In64; decide +kernel, by decide +kernel, by decide +kernel, by unfold In64; decide +kernel⟩
  · exact ⟨by decide +kernel, by unfold In64; decide +kernel, ⟨kFirst.2.1, kTop.2.1, kTop.2.2, kN, 10, kLeaf2.2, kPush.1, by decide +kernel, by decide +kernel, by decide +kernel, rfl, by decide +kernel, by decide +kernel, by decide +kernel, by decide +kernel, by decide +kernel, by decide +kernel⟩,
      by unfold In64; decide +kernel, by unfold In64; decide +kernel, by decide +kernel, by decide +kernel⟩
theorem kTrims : Trims1 kXA kXB 0 := by
  refine ⟨by decide +kernel, by decide +kernel, kPush.2.1, kV, kAt.2, kCut.1, kG, kCut.2.2.1, kCut.2.2.2, kCut2.2.2.1, kCut2.2.2.2, by decide +kernel, by decide +kernel, by decide +kernel, by decide +kernel, by decide +kernel, by unfold In64; decide +kernel, by unfold In64; decide +kernel, by decide +kernel, by decide +kernel, by decide +kernel, by decide +kernel, by decide +kernel, rfl⟩
theorem kCollect : collect kXB2.epoch kXB2.pool = some kR ∧ kR.1 = 2 ∧ kXB2.epoch.list.length ≤ 100000 ∧ kR.2.2.slots.length = kXB2.pool.slots.length := by
  refine ⟨by decide +kernel, by decide +kernel, by decide +kernel, by decide +kernel⟩
theorem kAdv : kXB.epoch.at0 = 0 ∧ kXB.epoch.now + 1 ≤ 1099511627776 ∧ kXB1.epoch.at0 = 0 ∧ kXB1.epoch.now + 1 ≤ 1099511627776 := by decide +kernel
/- the audits -/
def lookB (sl : List SlotS) (h : Int) (s : SlotS) : Bool :=
  decide (1 ≤ idxW h) && decide (sl[(idxW h).toNat - 1]? = some s) && decide (handleL s ((idxW h).toNat - 1) = h) && decide (h ≠ 0)
theorem lookB_yes {sl : List SlotS} {h : Int} {s : SlotS} (hb : lookB sl h s = true) : LookYes sl h s := by
  simp only [lookB, Bool.and_eq_true, decide_eq_true_eq] at hb
  obtain ⟨⟨⟨h1, h2⟩, h3⟩, h4⟩ := hb
  exact ⟨⟨(idxW h).toNat - 1, h2, by omega, h3⟩, h4⟩
def leafyB (sl : List SlotS) (ps : List (Int × SlotS)) : Bool :=
  ps.all fun p => lookB sl p.1 p.2 && (match sl[(idxW p.2.node.a).toNat - 1]? with | some s => lookB sl p.2.node.a s && decide (s.node.a ≤ 0) | none => false)
theorem leafyB_yes {sl : List SlotS} {ps : List (Int × SlotS)} (hb : leafyB sl ps = true) : Leafy sl ps := by
  intro p hp
  have := List.all_eq_true.1 hb p hp
  simp only [Bool.and_eq_true] at this
  obtain ⟨h1, h2⟩ := this
  refine ⟨lookB_yes h1, ?_⟩
  split at h2
  · next s _ =>
    simp only [Bool.and_eq_true, decide_eq_true_eq] at h2
    exact ⟨s, lookB_yes h2.1, h2.2⟩
  · cases h2
def in64B (x : Int) : Bool := decide (-9223372036854775808 ≤ x) && decide (x ≤ 9223372036854775807)
theorem in64B_yes {x : Int} (h : in64B x = true) : In64 x := by
  simp only [in64B, Bool.and_eq_true, decide_eq_true_eq] at h
  exact h
def auditB (X : StoreS) (pss : List (List (Int × SlotS))) : Bool :=
  decide (pss.length = X.chains.length) && (pss.zip X.chains).all (fun x => decide (x.2.versions X.pool = x.1.map (·.1)) && leafyB (X.pool.slots.drop 1) x.1 && decide (x.1.length ≤ 4096)) &&
    (List.range (pss.length + 1)).all (fun j => decide ((allV pss j).length ≤ 4096)) && decide (X.epoch.at0 = 0) && decide (X.epoch.workers = 2) && decide (X.epoch.list.length ≤ 4096) &&
    decide (((claimsOf (allV pss pss.length) X.epoch.list).map (·.1)).Nodup) && ((claimsOf (allV pss pss.length) X.epoch.list).map (·.1)).all in64B && X.pool.slots.all (fun s => decide (0 ≤ s.gen) && decide (s.gen ≤ 1099511627775)) && decide (2 ≤ X.pool.slots.length)
theorem auditB_yes {X : StoreS} {pss : List (List (Int × SlotS))} (hb : auditB X pss = true) : Audits X pss := by
  simp only [auditB, Bool.and_eq_true, decide_eq_true_eq] at hb
  obtain ⟨⟨⟨⟨⟨⟨⟨⟨⟨h1, h2⟩, h3⟩, h4⟩, h5⟩, h6⟩, h7⟩, h8⟩, h9⟩, h10⟩ := hb
  refine ⟨h1, fun i ps hi => ?_, fun j hj => ?_, h4, h5, h6, h7, fun k hk => in64B_yes (List.all_eq_true.1 h8 k hk), fun s hs => ?_, h10⟩
  · have hlt : i < X.chains.length := by rw [← h1]; exact (List.getElem?_eq_some_iff.1 hi).1
    have hC : X.chains[i]? = some X.chains[i] := List.getElem?_eq_getElem hlt
    have hz : (ps, X.chains[i]) ∈ pss.zip X.chains := by
      refine List.mem_of_getElem? (i := i) ?_
      rw [List.getElem?_zip_eq_some]
      exact ⟨hi, hC⟩
    have := List.all_eq_true.1 h2 _ hz
    simp only [Bool.and_eq_true, decide_eq_true_eq] at this
    exact ⟨_, hC, this.1.1, leafyB_yes this.1.2, this.2⟩
  · have := List.all_eq_true.1 h3 j (List.mem_range.2 (by omega))
    simpa using this
  · have := List.all_eq_true.1 h9 s hs
    simp only [Bool.and_eq_true, decide_eq_true_eq] at this
    exact this
def pssOf (X : StoreS) : List (List (Int × SlotS)) := X.chains.map fun C => (C.versions X.pool).map fun h => (h, (X.pool.slots[(idxW h).toNat]?).getD ⟨0, 0, 0, ⟨0, 0, 0, 0⟩⟩)
theorem kAuditA : Audits kXA (pssOf kXA) := auditB_yes (by decide +kernel)
theorem kAuditB : Audits kXB (pssOf kXB) := auditB_yes (by decide +kernel)
theorem kAuditC : Audits kXC (pssOf kXC) := auditB_yes (by decide +kernel)
def trimsB (X : StoreS) (pss : List (List (Int × SlotS))) (n : Nat) : Bool :=
  decide (X.clock.leases = List.replicate n 0) && decide (n ≤ 64) && pss.all (fun ps => ps.all fun p => decide (p.2.mark ≠ 0) && decide (p.2.mark ≤ X.clock.now)) &&
    (pss.zip X.chains).all (fun x => decide (x.2.sets.length = X.pool.slots.length) && x.1.all fun p => decide ((x.2.set X.pool p.1).length ≤ 100000))
theorem trimsB_yes {X : StoreS} {pss : List (List (Int × SlotS))} {n : Nat} (hb : trimsB X pss n = true) : TrimsOk X pss n := by
  simp only [trimsB, Bool.and_eq_true, decide_eq_true_eq] at hb
  obtain ⟨⟨⟨h1, h2⟩, h3⟩, h4⟩ := hb
  refine ⟨h1, h2, fun i ps hi p hp => ?_, fun i ps C hi hC => ?_⟩
  · have := List.all_eq_true.1 (List.all_eq_true.1 h3 ps (List.mem_of_getElem? hi)) p hp
    simp only [Bool.and_eq_true, decide_eq_true_eq] at this
    exact this
  · have hz : (ps, C) ∈ pss.zip X.chains := by
      refine List.mem_of_getElem? (i := i) ?_
      rw [List.getElem?_zip_eq_some]
      exact ⟨hi, hC⟩
    have := List.all_eq_true.1 h4 _ hz
    simp only [Bool.and_eq_true, decide_eq_true_eq] at this
    refine ⟨this.1, fun p hp => ?_⟩
    have := List.all_eq_true.1 this.2 p hp
    simpa using this
theorem kTrimsA : TrimsOk kXA (pssOf kXA) 2 := trimsB_yes (by decide +kernel)
theorem kTrimVals : (List.range (pssOf kXA).length).map (trimPart kXA (pssOf kXA)) = [2, 0] := by decide +kernel
theorem kLeast : leastL (pssOf kXA) (pssOf kXA).length = 2 := by decide +kernel
/-- the uses of a store. -/
def usesX (X : StoreS) : List UseS := usesFrom ((X.pool.places).getD []) (claimsOf (allV (pssOf X) (pssOf X).length) X.epoch.list) (X.pool.slots.drop 1)
structure UsesOk (X : StoreS) : Prop where
  free : ∃ free, X.pool.places = some free ∧ free.length ≤ 5000 ∧ (∀ k ∈ free, In64 k)
  zero : 0 ∉ (claimsOf (allV (pssOf X) (pssOf X).length) X.epoch.list).map (·.1)
  len : (usesX X).length = 20
def usesB (X : StoreS) : Bool :=
  (match X.pool.places with | some free => decide (free.length ≤ 5000) && free.all in64B | none => false) && !((claimsOf (allV (pssOf X) (pssOf X).length) X.epoch.list).map (·.1)).contains 0 && decide ((usesX X).length = 20)
theorem usesB_yes {X : StoreS} (hb : usesB X = true) : UsesOk X := by
  simp only [usesB, Bool.and_eq_true, decide_eq_true_eq, Bool.not_eq_true'] at hb
  obtain ⟨⟨h1, h2⟩, h3⟩ := hb
  refine ⟨?_, by simpa using h2, h3⟩
  split at h1
  · next free hf =>
    simp only [Bool.and_eq_true, decide_eq_true_eq] at h1
    exact ⟨free, hf, h1.1, fun k hk => in64B_yes (List.all_eq_true.1 h1.2 k hk)⟩
  · cases h1
theorem kUsesA : UsesOk kXA := usesB_yes (by decide +kernel)
theorem kUsesB : UsesOk kXB := usesB_yes (by decide +kernel)
theorem kUsesC : UsesOk kXC := usesB_yes (by decide +kernel)
theorem kUseVals : (usesX kXA).take 5 = [⟨3, 0, 1, 1, 0⟩, ⟨2, 0, 1, 1, 0⟩, ⟨3, 0, 2, 2, 0⟩, ⟨2, 0, 2, 2, 0⟩, ⟨1, 0, 0, 0, 0⟩] ∧ (usesX kXB).take 2 = [⟨4, 0, 0, 0, 0⟩, ⟨4, 0, 0, 0, 0⟩] ∧
    cnt 1 (usesX kXC) = 18 ∧ cnt 2 (usesX kXC) = 1 ∧ cnt 3 (usesX kXC) = 1 ∧ cnt 4 (usesX kXC) = 0 ∧ cnt 5 (usesX kXC) = 0 := by decide +kernel
theorem kRest : kXA.epoch.list = [] ∧ kXA.clock.leases = List.replicate 2 0 ∧ restL (pssOf kXA) (usesX kXA) = false ∧ kXC.epoch.list = [] ∧ kXC.clock.leases = List.replicate 2 0 ∧ restL (pssOf kXC) (usesX kXC) = true := by decide +kernel
end Go.Proofs.YteeefedoffplmaaGreat
