/- The store as plain data, and what its functions do to it, for a worker that is nil (calls done alone). Every function answers none where something goes otherwise than in a map that is in order. No condition. -/
import GoSem.Claim
namespace Go.Proofs.YteeefedoffplmaaGreat

/- words -/
def T40 : Int := 1099511627776
def T20 : Int := 1048576
def K32 : Int := 4294967296
def MaxTag : Int := 1099511627775
def isWordB (w : Int) : Bool := decide (0 ≤ w) && decide (w < T20 * T40)
def idxW (w : Int) : Int := if isWordB w then w / T40 else 0
def tagW (w : Int) : Int := if isWordB w then w % T40 else 0
def packW (i t : Int) : Int := i * T40 + t
def keyB (k : Int) : Bool := decide (0 ≤ k) && decide (k < K32)
def poison : Int := -7777777

/- the pool -/
structure NodeS where
  a : Int
  b : Int
  c : Int
  d : Int
deriving DecidableEq
structure SlotS where
  gen : Int
  mark : Int
  link : Int
  node : NodeS
deriving DecidableEq
structure PoolS where
  slots : List SlotS
  head : Int
  next : List Int
  faults : Int
deriving DecidableEq

/-- the place of a handle whose slot is in use for it. -/
def PoolS.at (S : PoolS) (h : Int) : Option SlotS := do
  let s ← S.slots[(idxW h).toNat]?
  if 1 ≤ idxW h ∧ tagW h % 2 = 1 ∧ s.gen = tagW h then some s else none
def PoolS.read (S : PoolS) (h : Int) : Option NodeS := (S.at h).map SlotS.node
def PoolS.put (S : PoolS) (i : Nat) (s : SlotS) : PoolS := { S with slots := S.slots.set i s }
def PoolS.take (S : PoolS) (x : NodeS) (link : Int) : Option (Int × PoolS) := do
  let i := idxW S.head
  let next ← S.next[i.toNat]?
  let s ← S.slots[i.toNat]?
  if 1 ≤ i ∧ 0 ≤ next ∧ next < T20 ∧ isWordB S.head ∧ 0 ≤ s.gen ∧ s.gen + 1 ≤ MaxTag then
    some (packW i (s.gen + 1), { S with slots := S.slots.set i.toNat ⟨s.gen + 1, 0, link, x⟩, head := packW next ((tagW S.head + 1) % T40) })
  else none
def poisoned : NodeS := ⟨poison, poison, poison, poison⟩
def PoolS.push (S : PoolS) (i : Int) : Option PoolS :=
  if 1 ≤ i ∧ i < S.next.length ∧ i < T20 ∧ isWordB S.head then some { S with next := S.next.set i.toNat (idxW S.head), head := packW i ((tagW S.head + 1) % T40) } else none
def PoolS.give (S : PoolS) (h : Int) : Option PoolS := do
  let s ← S.at h
  (S.put (idxW h).toNat ⟨s.gen + 1, poison, poison, poisoned⟩).push (idxW h)
def PoolS.giveAll (S : PoolS) : List Int → Option PoolS
  | [] => some S
  | h :: l => do (← S.give h).giveAll l
def PoolS.setMark (S : PoolS) (h v : Int) : Option PoolS := do
  let s ← S.at h
  some (S.put (idxW h).toNat { s with mark := v })
def PoolS.setLink (S : PoolS) (h v : Int) : Option PoolS := do
  let s ← S.at h
  some (S.put (idxW h).toNat { s with link := v })
def PoolS.new (n : Nat) : PoolS :=
  { slots := List.replicate (n + 1) ⟨0, 0, 0, ⟨0, 0, 0, 0⟩⟩, head := packW 1 0, next := (List.range (n + 1)).map (fun i => if 1 ≤ i ∧ i < n then (i : Int) + 1 else 0), faults := 0 }
/-- the free places from the head on. -/
def PoolS.placesFrom (S : PoolS) : Nat → Int → List Int → Option (List Int)
  | 0, _, _ => none
  | n + 1, i, out => if 1 ≤ i ∧ i < S.next.length then (if i ∈ out then none else do S.placesFrom n (← S.next[i.toNat]?) (out ++ [i])) else some out
def PoolS.places (S : PoolS) : Option (List Int) := S.placesFrom (S.next.length + 1) (idxW S.head) []

/- the tree -/
inductive Shape where
  | leaf (key value : Int)
  | inner (place : Nat) (first left right count : Int)
deriving DecidableEq
def pow2 (n : Nat) : Int := ((2 ^ n : Nat) : Int)
def Shape.lo : Shape → Int
  | .leaf k _ => k
  | .inner _ f _ _ _ => f
def Shape.hi : Shape → Int
  | .leaf k _ => k
  | .inner p f _ _ _ => f + pow2 (p + 1) - 1
def Shape.count : Shape → Int
  | .leaf _ _ => 1
  | .inner _ _ _ _ c => c
def shaped (x : NodeS) : Option Shape :=
  if x.a < 0 then none
  else if x.a = 0 then (if keyB x.b ∧ x.d = 1 then some (.leaf x.b x.c) else none)
  else
    let p := ((x.a - 1) % 64).toNat
    let f := (x.a - 1) / 64
    if p < 32 ∧ keyB f ∧ f % pow2 (p + 1) = 0 then some (.inner p f x.b x.c x.d) else none
def PoolS.shape (S : PoolS) (h lo hi : Int) : Option Shape := do
  let s ← shaped (← S.read h)
  if lo ≤ s.lo ∧ s.hi ≤ hi then some s else none
structure StepS where
  place : Nat
  first : Int
  left : Int
  right : Int
  count : Int
  h : Int
  isRight : Bool
deriving DecidableEq
/-- on from a node. -/
def PoolS.downFrom (S : PoolS) (k : Int) : Nat → List StepS → Int → Shape → Option (List StepS × Int × Shape)
  | 0, _, _, _ => none
  | n + 1, way, h, s =>
    match s with
    | .leaf .. => some (way, h, s)
    | .inner p f l r c =>
      if s.lo ≤ k ∧ k ≤ s.hi then
        if f + pow2 p ≤ k then do S.downFrom k n (way ++ [⟨p, f, l, r, c, h, true⟩]) r (← S.shape r (f + pow2 p) s.hi)
        else do S.downFrom k n (way ++ [⟨p, f, l, r, c, h, false⟩]) l (← S.shape l f (f + pow2 p - 1))
      else some (way, h, s)
def PoolS.down (S : PoolS) (root k : Int) : Option (List StepS × Int × Shape) := do S.downFrom k 40 [] root (← S.shape root 0 (K32 - 1))
/-- value, had. -/
def PoolS.find (S : PoolS) (root k : Int) : Option (Int × Bool) :=
  if root = 0 then some (0, false) else do
    match ← S.down root k with
    | (_, _, .leaf k' v) => some (if k' = k then (v, true) else (0, false))
    | _ => some (0, false)

structure EditS where
  root : Int
  old : Int
  had : Bool
  gone : List Int
  made : List Int
deriving DecidableEq
def EditS.zero : EditS := ⟨0, 0, false, [], []⟩
/-- a node made. -/
def makes (x : NodeS) : EditS × PoolS → Option (EditS × PoolS)
  | (m, S) => do
    let (h, S) ← S.take x 0
    some ({ m with root := h, made := m.made ++ [h] }, S)
def mkLeaf (k v : Int) : EditS × PoolS → Option (EditS × PoolS) := makes ⟨0, k, v, 1⟩
def mkFork (p : Nat) (f l r c : Int) : EditS × PoolS → Option (EditS × PoolS) := makes ⟨f * 64 + p + 1, l, r, c⟩
/-- the way made anew, its last step first. -/
def upwards (more : Int) : List StepS → EditS × PoolS → Option (EditS × PoolS)
  | [], x => some x
  | s :: l, (m, S) => do
    let (m, S) ← mkFork s.place s.first (if s.isRight then s.left else m.root) (if s.isRight then m.root else s.right) (s.count + more) (m, S)
    upwards more l ({ m with gone := m.gone ++ [s.h] }, S)
/-- how many bits a number has, less one. -/
def placeX : Nat → Nat → Int
  | 0, _ => -1
  | n + 1, x => if x = 0 then -1 else 1 + placeX n (x / 2)
/-- the highest place at which two numbers differ. -/
def placeOf (a b : Nat) : Int := placeX 33 (a ^^^ b)
def splits (h : Int) (s : Shape) (k v : Int) (x : EditS × PoolS) : Option (EditS × PoolS) := do
  let (m, S) ← mkLeaf k v x
  let p := placeOf k.toNat s.lo.toNat
  if 0 ≤ p then mkFork p.toNat (s.lo / pow2 (p.toNat + 1) * pow2 (p.toNat + 1)) (if k < s.lo then m.root else h) (if k < s.lo then h else m.root) (s.count + 1) (m, S) else none
def PoolS.trieput (S : PoolS) (root k v : Int) : Option (EditS × PoolS) :=
  if root = 0 then mkLeaf k v (.zero, S) else do
    let (way, h, s) ← S.down root k
    match s with
    | .leaf k' v' =>
      if k' = k then
        if v' = v then some ({ EditS.zero with root := root, old := v, had := true }, S)
        else do upwards 0 way.reverse (← mkLeaf k v ({ EditS.zero with old := v', had := true, gone := [h] }, S))
      else do upwards 1 way.reverse (← splits h s k v (.zero, S))
    | _ => do upwards 1 way.reverse (← splits h s k v (.zero, S))
/-- none as the inner answer: there is no such key. -/
def PoolS.triedrop (S : PoolS) (root k : Int) : Option (Option (EditS × PoolS)) :=
  if root = 0 then some none else do
    let (way, h, s) ← S.down root k
    match s with
    | .leaf k' v' =>
      if k' = k then
        match way.reverse with
        | [] => some (some ({ EditS.zero with old := v', had := true, gone := [h] }, S))
        | x :: l => do some (some (← upwards (-1) l ({ EditS.zero with root := if x.isRight then x.left else x.right, old := v', had := true, gone := [h, x.h] }, S)))
      else some none
    | _ => some none

/- the clock, the epoch -/
structure ClockS where
  now : Int
  leases : List Int
deriving DecidableEq
structure EpochS where
  workers : Nat
  now : Int
  at0 : Int
  deep : Int
  list : List (Int × Int)
deriving DecidableEq
def ClockS.least (c : ClockS) : Int := c.leases.foldl (fun m x => if x = 0 then m else min m (x - 1)) c.now
/-- lease and stamp. -/
def ClockS.take (c : ClockS) : Option (Int × Int × ClockS) :=
  match c.leases.findIdx? (· = 0) with
  | none => none
  | some i => some (i, c.now, ⟨c.now + 1, c.leases.set i (c.now + 1)⟩)
def EpochS.enter (e : EpochS) : EpochS := { e with at0 := if e.deep = 0 then e.now else e.at0, deep := e.deep + 1 }
def EpochS.leave (e : EpochS) : EpochS := if e.deep = 0 then e else { e with at0 := if e.deep = 1 then 0 else e.at0, deep := e.deep - 1 }
def EpochS.retire (e : EpochS) (h : Int) : EpochS := { e with list := e.list ++ [(h, e.now)] }
/-- where worker 0 stands alone matters: the others stand at 0. -/
def EpochS.advance (e : EpochS) : Option EpochS := if e.at0 = 0 ∨ e.at0 = e.now then some { e with now := e.now + 1 } else none
def collectFrom : Nat → Int → EpochS × PoolS → Option (Int × EpochS × PoolS)
  | 0, _, _ => none
  | f + 1, n, (e, S) =>
    match e.list.findIdx? (fun x => x.2 + 2 ≤ e.now) with
    | none => some (n, e, S)
    | some i => do
      let x ← e.list[i]?
      let S ← S.give x.1
      collectFrom f (n + 1) ({ e with list := e.list.eraseIdx i }, S)
def collect (e : EpochS) (S : PoolS) : Option (Int × EpochS × PoolS) := collectFrom (e.list.length + 1) 0 (e, S)

/- chains -/
structure ChainS where
  head : Int
  sets : List (Int × List Int)
deriving DecidableEq
def settle (now : Int) (S : PoolS) (h : Int) : Option (Int × PoolS) := do
  let s ← S.at h
  if s.mark ≠ 0 then some (s.mark, S) else do some (now, ← S.setMark h now)
def ChainS.first (C : ChainS) (S : PoolS) (x : NodeS) : Option (Int × ChainS × PoolS) := do
  let (h, S) ← S.take x 0
  let S ← S.setMark h 1
  if C.head = 0 ∧ idxW h < C.sets.length then some (h, ⟨h, C.sets.set (idxW h).toNat (h, [])⟩, S) else none
def ChainS.top (C : ChainS) (now : Int) (S : PoolS) : Option (Int × Int × PoolS) := do
  if C.head = 0 then none else
  let (s, S) ← settle now S C.head
  some (C.head, s, S)
def ChainS.push (C : ChainS) (now : Int) (S : PoolS) (old : Int) (x : NodeS) (l : List Int) : Option (Int × ChainS × PoolS) := do
  let (h, S) ← S.take x old
  if C.head = old ∧ idxW h < C.sets.length then do
    let (_, S) ← settle now S h
    some (h, ⟨h, C.sets.set (idxW h).toNat (h, l)⟩, S)
  else none
/-- some none: there is none that old. -/
def atFrom (stamp : Int) (S : PoolS) : Nat → Int → Int → Option (Option Int)
  | 0, _, _ => none
  | f + 1, h, s => if s > stamp then do
      let x ← S.at h
      if x.link = 0 then some none else do
        let y ← S.at x.link
        atFrom stamp S f x.link y.mark
    else some (some h)
def ChainS.atStamp (C : ChainS) (now : Int) (S : PoolS) (stamp : Int) : Option (Option Int × PoolS) := do
  if C.head = 0 then some (none, S) else
  let (h, s, S) ← C.top now S
  let r ← atFrom stamp S (S.slots.length + 1) h s
  some (r, S)
/-- older, the set. -/
def ChainS.cut (C : ChainS) (S : PoolS) (h : Int) : Option (Int × List Int × ChainS × PoolS) := do
  let x ← S.at h
  let S ← S.setLink h 0
  if x.link = 0 then some (0, [], C, S) else do
    let s ← C.sets[(idxW h).toNat]?
    if s.1 = h then some (x.link, s.2, { C with sets := C.sets.set (idxW h).toNat (h, []) }, S) else some (x.link, [], C, S)
def aliveIn (slots : List SlotS) (h : Int) : Option SlotS := do
  let s ← slots[(idxW h).toNat]?
  if 1 ≤ idxW h ∧ s.gen = tagW h ∧ tagW h % 2 ≠ 0 then some s else none
def versionsFrom (slots : List SlotS) : Nat → Int → List Int → List Int
  | 0, _, out => out
  | f + 1, h, out => if h = 0 then out else
    match aliveIn slots h with
    | none => out
    | some s => versionsFrom slots f s.link (out ++ [h])
def ChainS.versions (C : ChainS) (S : PoolS) : List Int := versionsFrom S.slots (S.slots.length - 1) C.head []
def ChainS.set (C : ChainS) (S : PoolS) (h : Int) : List Int :=
  match aliveIn S.slots h, C.sets[(idxW h).toNat]? with
  | some _, some s => if s.1 = h then s.2 else []
  | _, _ => []

/- loads -/
structure LPartS where
  state : Int
  pairs : List (Int × Int)
  fails : Int
deriving DecidableEq
structure LoadingS where
  root : Int
  nodes : List Int
def loadPut : List (Int × Int) → LoadingS × PoolS → Option (LoadingS × PoolS)
  | [], x => some x
  | p :: l, (m, S) => do
    let (e, S) ← S.trieput m.root p.1 p.2
    let S ← S.giveAll e.gone
    loadPut l (⟨e.root, (m.nodes ++ e.made).filter (fun n => n ∉ e.gone)⟩, S)
/-- a part loaded, if nobody has; it fails never. -/
def ready (a : LPartS) (C : ChainS) (S : PoolS) : Option (LPartS × ChainS × PoolS) :=
  if a.state = 2 then some (a, C, S)
  else if a.state = 0 ∧ a.fails ≤ 0 then do
    let (m, S) ← loadPut a.pairs (⟨0, []⟩, S)
    let (_, C, S) ← C.first S ⟨m.root, 1, 0, 0⟩
    some ({ a with state := 2 }, C, S)
  else none

/- the store -/
structure StoreS where
  pool : PoolS
  clock : ClockS
  epoch : EpochS
  chains : List ChainS
  loads : List LPartS
deriving DecidableEq
structure ToldS where
  value : Int
  had : Bool
  number : Int
  new : Bool
  many : Int
deriving DecidableEq
def ToldS.zero : ToldS := ⟨0, false, 0, false, 0⟩
def partOf (key parts : Int) : Int := key * parts / K32
def StoreS.readyAt (X : StoreS) (p : Nat) : Option StoreS := do
  let a ← X.loads[p]?
  let C ← X.chains[p]?
  let (a, C, S) ← ready a C X.pool
  some { X with pool := S, loads := X.loads.set p a, chains := X.chains.set p C }
/-- the newest version, and its node. -/
def StoreS.newest (X : StoreS) (p : Nat) : Option (Int × NodeS × StoreS) := do
  let C ← X.chains[p]?
  let (h, _, S) ← C.top X.clock.now X.pool
  let n ← S.read h
  some (h, n, { X with pool := S })
def StoreS.within {α : Type} (X : StoreS) (f : StoreS → Option (α × StoreS)) : Option (α × StoreS) := do
  let (a, X) ← f { X with epoch := X.epoch.enter }
  some (a, { X with epoch := X.epoch.leave })
def StoreS.get (X : StoreS) (p : Nat) (key : Int) : Option (ToldS × StoreS) := do
  let X ← X.readyAt p
  X.within fun X => do
    let (_, n, X) ← X.newest p
    let (v, had) ← X.pool.find n.a key
    some (⟨v, had, n.b, false, 0⟩, X)
structure ChangeS where
  root : Int
  gone : List Int
  made : List Int
  told : ToldS
/-- a write: the change that it makes of a root; an error of its own is the inner none. -/
def StoreS.write (X : StoreS) (p : Nat) (f : Int → PoolS → Option (ChangeS × PoolS)) : Option (ToldS × StoreS) := do
  let X ← X.readyAt p
  X.within fun X => do
    let (h, n, X) ← X.newest p
    let (c, S) ← f n.a X.pool
    let told := { c.told with number := n.b }
    if !told.new then some (told, { X with pool := S }) else do
      let C ← X.chains[p]?
      let (_, C, S) ← C.push X.clock.now S h ⟨c.root, n.b + 1, 0, 0⟩ c.gone
      some ({ told with number := n.b + 1 }, { X with pool := S, chains := X.chains.set p C })
def changed (root : Int) (e : EditS) : ChangeS := ⟨e.root, e.gone, e.made, ⟨e.old, e.had, 0, decide (e.root ≠ root), 0⟩⟩
def putsC (k v : Int) (root : Int) (S : PoolS) : Option (ChangeS × PoolS) := do
  let (e, S) ← S.trieput root k v
  some (changed root e, S)
def StoreS.put (X : StoreS) (p : Nat) (k v : Int) : Option (ToldS × StoreS) := X.write p (putsC k v)
def retireAll (e : EpochS) (l : List Int) : EpochS := l.foldl EpochS.retire e
/-- how many; the chain cut from a version on. -/
def trimFrom : Nat → Int → Int → ChainS × EpochS × PoolS → Option (Int × ChainS × EpochS × PoolS)
  | 0, _, _, _ => none
  | f + 1, n, v, (C, e, S) => do
    let (older, l, C, S) ← C.cut S v
    if older = 0 then some (n, C, e, S) else trimFrom f (n + l.length + 1) older (C, retireAll e (l ++ [older]), S)
def StoreS.trim (X : StoreS) (p : Nat) : Option (Int × StoreS) := do
  let C ← X.chains[p]?
  let e := X.epoch.enter
  let (v, S) ← C.atStamp X.clock.now X.pool X.clock.least
  match v with
  | none => some (0, { X with pool := S, epoch := e.leave })
  | some v => do
    let (n, C, e, S) ← trimFrom (S.slots.length + 1) 0 v (C, e, S)
    some (n, { X with pool := S, epoch := e.leave, chains := X.chains.set p C })
def StoreS.advance (X : StoreS) : Option StoreS := do some { X with epoch := ← X.epoch.advance }
def StoreS.collect (X : StoreS) : Option (Int × StoreS) := do
  let (n, e, S) ← Go.Proofs.YteeefedoffplmaaGreat.collect X.epoch X.pool
  some (n, { X with epoch := e, pool := S })
def StoreS.new (parts workers slots leases : Nat) (source : List (Int × Int)) (fails : Int) : StoreS :=
  { pool := .new slots, clock := ⟨1, List.replicate leases 0⟩, epoch := ⟨workers, 1, 0, 0, []⟩, chains := List.replicate parts ⟨0, List.replicate (slots + 1) (0, [])⟩,
    loads := (List.range parts).map fun (p : Nat) => ⟨0, source.filter (fun x => decide (partOf x.1 parts = (p : Int))), max fails 0⟩ }

/- the audit -/
structure UseS where
  kind : Int
  part : Int
  from_ : Int
  to : Int
  worker : Int
deriving DecidableEq
def handleAt (slots : List SlotS) (i : Nat) : Int :=
  match slots[i + 1]? with
  | some s => if s.gen % 2 = 0 then 0 else packW (i + 1) s.gen
  | none => 0
def lookAt (slots : List SlotS) (h : Int) : Option SlotS := do
  let s ← slots[(idxW h).toNat]?
  if h ≠ 0 ∧ 1 ≤ idxW h ∧ handleAt slots ((idxW h).toNat - 1) = h then some s else none
def nodesFrom (slots : List SlotS) : Nat → Int → List Int → List Int
  | 0, _, out => out
  | f + 1, root, out =>
    match lookAt slots root with
    | none => out
    | some s => if s.node.a > 0 then nodesFrom slots f s.node.c (nodesFrom slots f s.node.b (out ++ [root])) else out ++ [root]
structure VersionS where
  h : Int
  part : Int
  number : Int
  stamp : Int
  nodes : List Int
def versionsOf (S : PoolS) (C : ChainS) (part : Int) : List VersionS :=
  (C.versions S).filterMap fun h => (lookAt S.slots h).map fun x => ⟨h, part, x.node.b, x.mark, nodesFrom S.slots 40 x.node.a []⟩
def claim (merge : UseS → UseS → UseS) (m : Int → Option UseS) (k : Int) (v : UseS) : Int → Option UseS :=
  fun y => if y = k then some (match m k with | some old => merge old v | none => v) else m y
def firstU (old _ : UseS) : UseS := old
def wider (old v : UseS) : UseS := if old.kind = 3 ∧ old.part = v.part then { old with from_ := min old.from_ v.from_, to := max old.to v.to } else old
def StoreS.allVersions (X : StoreS) : List VersionS := (X.chains.zipIdx.map fun x => versionsOf X.pool x.1 x.2).flatten
def StoreS.claims (X : StoreS) : Int → Option UseS :=
  let all := X.allVersions
  let m := all.foldl (fun m v => claim firstU m v.h ⟨2, v.part, v.number, v.number, 0⟩) (fun _ => none)
  let m := all.foldl (fun m v => v.nodes.foldl (fun m h => claim wider m h ⟨3, v.part, v.number, v.number, 0⟩) m) m
  X.epoch.list.foldl (fun m x => claim firstU m x.1 ⟨4, 0, 0, 0, 0⟩) m
def StoreS.uses (X : StoreS) : Option (List UseS) := do
  let free ← X.pool.places
  let by_ := X.claims
  some ((List.range (X.pool.slots.length - 1)).map fun i =>
    let h := handleAt X.pool.slots i
    if h = 0 then (if ((i : Int) + 1) ∈ free then ⟨1, 0, 0, 0, 0⟩ else ⟨5, 0, 0, 0, 0⟩)
    else match by_ h with
      | some u => u
      | none => ⟨5, 0, 0, 0, 0⟩)
structure SumsS where
  free : Int
  versions : Int
  nodes : Int
  waiting : Int
  other : Int
deriving DecidableEq
def sums (l : List UseS) : SumsS :=
  ⟨(l.filter (·.kind = 1)).length, (l.filter (·.kind = 2)).length, (l.filter (·.kind = 3)).length, (l.filter (·.kind = 4)).length, (l.filter (·.kind = 5)).length⟩
/-- what a Trim of a part would retire. -/
def trimsOf (now least : Int) (set : Int → List Int) (l : List VersionS) : Int :=
  let l' := l.dropWhile fun x => !decide ((if x.stamp = 0 then now else x.stamp) ≤ least)
  (l'.dropLast.map fun x => 1 + ((set x.h).length : Int)).sum
def StoreS.trims (X : StoreS) : List Int := X.chains.zipIdx.map fun x => trimsOf X.clock.now X.clock.least (x.1.set X.pool) (versionsOf X.pool x.1 x.2)
def StoreS.leastN (X : StoreS) : Int := (X.chains.map fun C => match versionsOf X.pool C 0 with | v :: _ => 1 + (v.nodes.length : Int) | [] => 0).sum
def StoreS.rest (X : StoreS) : Option Bool := do
  if X.epoch.at0 ≠ 0 ∨ X.epoch.list ≠ [] then some false
  else if X.clock.leases.any (· ≠ 0) then some false
  else if X.chains.any (fun C => decide (1 < (C.versions X.pool).length)) then some false
  else do some (decide ((sums (← X.uses)).other = 0))
end Go.Proofs.YteeefedoffplmaaGreat
