/- Abstract values for Go's memory, and a reckoner of regions over them: definitions. -/
import Derived.WalkKit
import Derived.Laws.AppendOwn
import Derived.Orders
namespace Go.Av
open Go

/-- Pure values: no name of a block in them. -/
inductive PV where
  | any
  | bl (b : Bool)
  | val (v : Value)
  | agg (n : Nat) (f : Nat → PV)
  | fn (g : Nat) (n : Nat) (f : Nat → PV)
  | rs (k n : Nat) (f : Nat → Nat → PV)
  | rn (k n : Nat) (f : Nat → Nat → PV)
  | rp (k : Nat) (f : Nat → PV)

/-- Values in a frame: a pure one, a pointer into a named block, a whole named row, a closure over named boxes, a tuple. -/
inductive AV where
  | p (v : PV)
  | pt (b i : Nat)
  | rpt (b k i j : Nat)
  | ssl (b k lo : Nat)
  | psl (b hi : Nat)
  | sl (b : Nat)
  | fnc (g : Nat) (l : List Nat)
  | tup (n : Nat) (f : Nat → AV)
  | ag (n : Nat) (f : Nat → AV)

inductive Blk where
  | box (ty : TypeId) (cells : List AV)
  | row (e : TypeId) (k n : Nat) (f : Nat → Nat → PV)

/-- What is known of a type. -/
inductive TK where
  | int (k : IntKind) | bool | str | slice (e : TypeId) | ptr (e : TypeId)
  | struct (fs : List (Nat × Nat × Bool))
  | arr (n k : Nat) (agg : Bool)
  | other
structure TI where
  kind : TK
  size : Nat
  bytes : Nat
  agg : Bool
  zero : List Value
  flat : List (Option IntKind)

structure St where
  N : Nat
  τ : Nat → AV
  η : Nat → Option Blk
  us : Nat → Bool

def upd {α : Type} (f : Nat → α) (k : Nat) (x : α) : Nat → α := fun t => match Nat.beq k t with | true => x | false => f t
def upds {α : Type} (f : Nat → α) : List (Nat × α) → Nat → α
  | [] => f
  | (k, x) :: l => upds (upd f k x) l

structure Eff where
  dst : Option (Nat × AV) := none
  ups : List (Nat × Option Blk) := []
  rd : List Nat := []
  nw : List Nat := []

def St.put (σ : St) : Option (Nat × AV) → (Nat → AV)
  | some (t, x) => upd σ.τ t x
  | none => σ.τ
def St.app (σ : St) (e : Eff) : St :=
  { N := σ.N, τ := σ.put e.dst, η := upds σ.η e.ups, us := upds σ.us (e.nw.map (·, true)) }

def fsts {α : Type} : List (Nat × α) → List Nat
  | [] => []
  | (k, _) :: l => k :: fsts l
def notB (b : Bool) : Bool := match b with | true => false | false => true
def andB (a b : Bool) : Bool := match a with | true => b | false => false
def orB (a b : Bool) : Bool := match a with | true => true | false => b

/-! Questions on data, by names that do not open of themselves. -/
@[irreducible] def iEq (a b : Int) : Bool := decide (a = b)
@[irreducible] def iLt (a b : Int) : Bool := decide (a < b)
@[irreducible] def iLe (a b : Int) : Bool := decide (a ≤ b)
@[irreducible] def sEq (a b : ByteArray) : Bool := decide (a = b)
@[irreducible] def bEq (a b : Bool) : Bool := decide (a = b)
@[irreducible] def sLt (a b : ByteArray) : Bool := Op.bytesLess a.toList b.toList
@[irreducible] def bt (s : ByteArray) (i : Nat) : Int := if h : i < s.size then ((s[i]'h).toNat : Int) else 0
@[irreducible] def wrapO (k : IntKind) (z : Int) : Int := k.wrap z

@[irreducible] def bitO (k : IntKind) (op : BinOp) (x y : Int) : Int :=
  match op with
  | .and => k.wrap (BitVec.ofInt k.bits x &&& BitVec.ofInt k.bits y).toNat
  | .or => k.wrap (BitVec.ofInt k.bits x ||| BitVec.ofInt k.bits y).toNat
  | _ => k.wrap (BitVec.ofInt k.bits x ^^^ BitVec.ofInt k.bits y).toNat

def cst : Value → PV
  | .bool b => .bl b
  | v => .val v
def ev (σ : St) : Operand → AV
  | .tmp t => σ.τ t
  | .const v => .p (cst v)
  | .global _ => .p .any
  | .func f => .p (.fn f 0 fun _ => .any)

/-- A list's element as a function. -/
def at_ {α : Type} (d : α) : List α → Nat → α
  | [], _ => d
  | x :: _, 0 => x
  | _ :: l, n + 1 => at_ d l n

/-- The n values from i on. -/
def upto {α : Type} (f : Nat → α) : Nat → Nat → List α
  | 0, _ => []
  | n + 1, i => f i :: upto f n (i + 1)
def aggL (l : List PV) : PV := .agg l.length (at_ .any l)

def frees : List Nat → List (Nat × Option Blk)
  | [] => []
  | b :: l => (b, none) :: frees l

def splice {α : Type} : List α → Nat → List α → List α
  | l, 0, [] => l
  | _ :: l, 0, y :: ys => y :: splice l 0 ys
  | x :: l, n + 1, ys => x :: splice l n ys
  | [], _, _ => []

/-- Boolean ways: told apart at once. -/
def boolK (x : AV) (K : Bool → Prop) : Prop :=
  match x with
  | .p (.bl c) => (match c with | true => K true | false => K false)
  | .p (.val (.bool c)) => (c = true → K true) ∧ (c = false → K false)
  | _ => False

/-! ### What stands for what -/
def RepP (w : World) (F : Nat → Prop) : PV → Value → Prop
  | .any, _ => True
  | .bl b, v => v = .bool b
  | .val u, v => v = u
  | .agg n f, v => ∃ cs : Array Value, v = .agg cs ∧ cs.size = n ∧ ∀ j, j < n → ∃ u, cs[j]? = some u ∧ u.oneCell' = true ∧ RepP w F (f j) u
  | .fn g n f, v => ∃ cs : Array Value, v = .func (.func g) #[] cs ∧ cs.size = n ∧ ∀ j, j < n → ∃ u, cs[j]? = some u ∧ RepP w F (f j) u
  | .rs k n f, v => ∃ A c, v = .slice A n c ∧ n ≤ c ∧ n ≤ maxLen ∧ (A = none → c = 0) ∧ (0 < n → ∃ ad : Addr, A = some ad ∧ F ad.block ∧
      ∀ i j, i < n → j < k → ∃ u, w.cell? (ad.add (i * k + j)) = some u ∧ u.oneCell' = true ∧ RepP w F (f i j) u)
  | .rn k n f, v => ∃ (ad : Addr) (c : Nat), v = .slice (some ad) n c ∧ n ≤ c ∧ n ≤ maxLen ∧ (0 < n → F ad.block ∧
      ∀ i j, i < n → j < k → ∃ u, w.cell? (ad.add (i * k + j)) = some u ∧ u.oneCell' = true ∧ RepP w F (f i j) u)
  | .rp k f, v => ∃ ad : Addr, v = .pointer (some ad) ∧ F ad.block ∧ ∀ j, j < k → ∃ u, w.cell? (ad.add j) = some u ∧ u.oneCell' = true ∧ RepP w F (f j) u

/-- The block at which a pointer or a slice begins. -/
def baseOf : Value → Option Nat
  | .pointer (some a) => some a.block
  | .slice (some a) _ _ => some a.block
  | _ => none

def RepV (w : World) (F : Nat → Prop) (ν : Nat → Option Value) : AV → Value → Prop
  | .p a, v => RepP w F a v
  | .pt b i, v => ∃ g, ν b = some (.pointer (some ⟨g, 0, none⟩)) ∧ v = .pointer (some ⟨g, i, none⟩)
  | .rpt b k i j, v => ∃ g n c, ν b = some (.slice (some ⟨g, 0, none⟩) n c) ∧ v = .pointer (some ⟨g, i * k + j, none⟩)
  | .ssl b k lo, v => ∃ g n c q ad, ν b = some (.slice (some ⟨g, 0, none⟩) n c) ∧ lo ≤ n ∧ v = .slice (some ad) (n - lo) q ∧ (lo < n → ad = ⟨g, lo * k, none⟩)
  | .psl b hi, v => ∃ g n c, ν b = some (.slice (some ⟨g, 0, none⟩) n c) ∧ hi ≤ n ∧ v = .slice (some ⟨g, 0, none⟩) hi c
  | .sl b, v => ν b = some v
  | .fnc g l, v => ∃ cs : Array Value, v = .func (.func g) #[] cs ∧ cs.size = l.length ∧ ∀ (j b : Nat), l[j]? = some b → ∃ g', cs[j]? = some (.pointer (some ⟨g', 0, none⟩)) ∧ ν b = some (.pointer (some ⟨g', 0, none⟩))
  | .tup n f, v => ∃ vs : Array Value, v = .tuple vs ∧ vs.size = n ∧ ∀ j, j < n → ∃ u, vs[j]? = some u ∧ RepV w F ν (f j) u
  | .ag n f, v => ∃ cs : Array Value, v = .agg cs ∧ cs.size = n ∧ ∀ j, j < n → ∃ u, cs[j]? = some u ∧ u.oneCell' = true ∧ RepV w F ν (f j) u

def BlkRep (w : World) (F : Nat → Prop) (ν : Nat → Option Value) (u : Value) : Blk → Prop
  | .box ty cells => ∃ (g : Nat) (cs : Array Value), u = .pointer (some ⟨g, 0, none⟩) ∧ w.heap[g]? = some (.cells cs ty (0, 0)) ∧ cs.size = cells.length ∧
      ∀ (j : Nat) (x : AV), cells[j]? = some x → ∃ c, cs[j]? = some c ∧ c.oneCell' = true ∧ RepV w F ν x c
  | .row e k n f => ∃ xs : List Value, w.ownsRow 0 e k u n xs ∧ ∀ i j, i < n → j < k → ∃ c, xs[i * k + j]? = some c ∧ c.oneCell' = true ∧ RepP w F (f i j) c

/-- The blocks of a frame: each named one is as told, no two are one, none is read-only. -/
structure HInv (w : World) (F : Nat → Prop) (ν : Nat → Option Value) (η : Nat → Option Blk) : Prop where
  fb : ∀ b, F b → b < w.heap.size
  rep : ∀ n blk, η n = some blk → ∃ u, ν n = some u ∧ BlkRep w F ν u blk
  sep : ∀ n m bn bm u u' g, η n = some bn → η m = some bm → ν n = some u → ν m = some u' → baseOf u = some g → baseOf u' = some g → n = m
  out : ∀ n bn u g, η n = some bn → ν n = some u → baseOf u = some g → ¬ F g

/-- The blocks that the names stand for. -/
def Owns (ν : Nat → Option Value) (η : Nat → Option Blk) (g : Nat) : Prop := ∃ n bn u, η n = some bn ∧ ν n = some u ∧ baseOf u = some g

structure Ext (w0 w : World) (S : Nat → Prop) : Prop where
  size : w0.heap.size ≤ w.heap.size
  blk : ∀ b, b < w0.heap.size → ¬ S b → w.heap[b]? = w0.heap[b]?
  os : w.os = w0.os
  tape : w.tape = w0.tape
  output : w.output = w0.output

/-- Where a call began. -/
structure Gh where
  w : World
  F : Nat → Prop
  S : Nat → Prop
  ν : Nat → Option Value
  m : Nat

/-- All that is true of a frame at a place of the text. -/
structure FInv (G : Gh) (σ : St) (a : Act) (w : World) (F : Nat → Prop) (ν : Nat → Option Value) : Prop where
  heap : HInv w F ν σ.η
  tmps : ∀ t, RepV w F ν (σ.τ t) (a.tmps.getD t undef)
  names : ∀ b, σ.us b = false → ν b = none
  ext : Ext G.w w G.S
  same : ∀ n, n < G.m → ν n = G.ν n
  owns : ∀ g, Owns ν σ.η g → G.S g ∨ G.w.heap.size ≤ g
  fl : ∀ b, G.F b → F b
  fr : ∀ b, F b → G.F b ∨ G.S b ∨ G.w.heap.size ≤ b
  used : ∀ n, n < G.m → σ.us n = true
def Inv (G : Gh) (σ : St) (a : Act) (w : World) : Prop := (a.defers = [] ∧ G.w.drawn ≤ w.drawn) ∧ a.tmps.size = σ.N ∧ ∃ F ν, FInv G σ a w F ν

def enumB (l : List (Option Blk)) : Nat → Option Blk := at_ none l

/-- The function has a body that is walked. -/
def Ent (P : Program) (f : FuncId) : Prop := ∀ (args : Array Value) (w : World), (callFunc f args).run P w = .ok (.enter f args) w

/-- What a call comes to: its arguments, the blocks that it is handed (named 0, 1, ..), what it hands back, what becomes of the blocks (new ones behind). -/
def GCall (P : Program) (f : FuncId) (args : List AV) (bs : List (Option Blk)) (res : AV) (obs : List (Option Blk)) : Prop :=
  Ent P f ∧ ∀ (w : World) (F : Nat → Prop) (ν : Nat → Option Value) (vals : List Value), HInv w F ν (enumB bs) → (∀ n, bs.length ≤ n → ν n = none) →
    vals.length = args.length → (∀ (i : Nat) (x : AV) (v : Value), args[i]? = some x → vals[i]? = some v → RepV w F ν x v) →
    Calls P f vals.toArray w fun e w' => ∃ v F' ν', e = .returned v ∧ RepV w' F' ν' res v ∧ HInv w' F' ν' (enumB obs) ∧ Ext w w' (Owns ν (enumB bs)) ∧
      (∀ n, n < bs.length → ν' n = ν n) ∧ (∀ n, obs.length ≤ n → ν' n = none) ∧
      (∀ g, Owns ν' (enumB obs) g → Owns ν (enumB bs) g ∨ w.heap.size ≤ g) ∧
      (∀ b, F b → F' b) ∧ (∀ b, F' b → F b ∨ Owns ν (enumB bs) b ∨ w.heap.size ≤ b) ∧ w.drawn ≤ w'.drawn

/-- A call of plain data. -/
def PCall (P : Program) (f : FuncId) (args : List PV) (res : AV) (obs : List (Option Blk)) : Prop := GCall P f (args.map .p) [] res obs

/-! ### An argument as plain data: what it is, and which names lie behind it -/
/-- A value's cells, pure, and the rows behind them. -/
def pureOf (η : Nat → Option Blk) : AV → Option (PV × List Nat)
  | .p v => some (v, [])
  | .sl b => (match η b with | some (.row _ k n f) => some (.rs k n f, [b]) | _ => none)
  | _ => none
def purify (η : Nat → Option Blk) : List AV → Option (List PV × List Nat)
  | [] => some ([], [])
  | x :: l => match pureOf η x with
    | some (v, ns) => (match purify η l with | some (vs, ms) => some (v :: vs, ns ++ ms) | none => none)
    | none => none
def pcells : List AV → Option (List PV)
  | [] => some []
  | .p v :: l => (match pcells l with | some m => some (v :: m) | none => none)
  | _ :: _ => none
def boxView (η : Nat → Option Blk) (b : Nat) : Option PV :=
  match η b with
  | some (.box _ cells) => (match pcells cells with | some l => some (.rp l.length (at_ .any l)) | none => none)
  | _ => none
def boxViews (η : Nat → Option Blk) : List Nat → Option (List PV)
  | [] => some []
  | b :: l => match boxView η b with
    | some v => (match boxViews η l with | some m => some (v :: m) | none => none)
    | none => none
def viewOf (η : Nat → Option Blk) : AV → Option (PV × List Nat)
  | .p v => some (v, [])
  | .sl b => (match η b with | some (.row _ k n f) => some (.rs k n f, [b]) | _ => none)
  | .psl b hi => (match η b with | some (.row _ k _ f) => some (.rs k hi f, [b]) | _ => none)
  | .pt b 0 => (match boxView η b with | some v => some (v, [b]) | none => none)
  | .fnc g l => (match boxViews η l with | some vs => some (.fn g vs.length (at_ .any vs), l) | none => none)
  | _ => none
def idx : List Nat → Nat → Nat → Option Nat
  | [], _, _ => none
  | c :: l, b, i => match Nat.beq c b with | true => some i | false => idx l b (i + 1)
/-- An argument (or a result) told by its place among the names of a list, or as plain data. -/
def argOf0 (η : Nat → Option Blk) (N : List Nat) : AV → Option (AV × List Nat)
  | .p v => some (.p v, [])
  | .pt b i => (match idx N b 0 with
    | some j => some (.pt j i, [])
    | none => (match viewOf η (.pt b i) with | some (v, ns) => some (.p v, ns) | none => none))
  | .sl b => (match idx N b 0 with
    | some j => some (.sl j, [])
    | none => (match viewOf η (.sl b) with | some (v, ns) => some (.p v, ns) | none => none))
  | .psl b hi => (match idx N b 0 with
    | some j => some (.psl j hi, [])
    | none => (match viewOf η (.psl b hi) with | some (v, ns) => some (.p v, ns) | none => none))
  | .fnc g l => (match viewOf η (.fnc g l) with | some (v, ns) => some (.p v, ns) | none => none)
  | _ => none
def argsOf0 (η : Nat → Option Blk) (N : List Nat) : List AV → Option (List AV × List Nat)
  | [] => some ([], [])
  | x :: l => match argOf0 η N x with
    | some (v, ns) => (match argsOf0 η N l with | some (vs, ms) => some (v :: vs, ns ++ ms) | none => none)
    | none => none
def argOf (η : Nat → Option Blk) (N : List Nat) : AV → Option (AV × List Nat)
  | .ag n f => (match argsOf0 η N (upto f n 0) with
    | some (ys, ns) => (match pcells ys with | some vs => some (.p (aggL vs), ns) | none => some (.ag ys.length (at_ (.p .any) ys), ns))
    | none => none)
  | x => argOf0 η N x
def argsOf (η : Nat → Option Blk) (N : List Nat) : List AV → Option (List AV × List Nat)
  | [] => some ([], [])
  | x :: l => match argOf η N x with
    | some (v, ns) => (match argsOf η N l with | some (vs, ms) => some (v :: vs, ns ++ ms) | none => none)
    | none => none
def pureBlk : Option Blk → Bool
  | some (.box _ cells) => (match pcells cells with | some _ => true | none => false)
  | some (.row _ _ _ _) => true
  | none => true
def blksOf (η : Nat → Option Blk) : List Nat → Option (List (Option Blk))
  | [] => some []
  | b :: l => match η b with
    | some blk => (match pureBlk (some blk) with
      | true => (match blksOf η l with | some m => some (some blk :: m) | none => none)
      | false => none)
    | none => none
def memB (b : Nat) : List Nat → Bool
  | [] => false
  | c :: l => match Nat.beq c b with | true => true | false => memB b l
def apartB : List Nat → List Nat → Bool
  | [], _ => true
  | b :: l, m => match memB b m with | true => false | false => apartB l m
def nodupB : List Nat → Bool
  | [] => true
  | b :: l => match memB b l with | true => false | false => nodupB l
/-- The caller's names of a callee's. -/
def rho : List Nat → Nat → Nat → Nat
  | [], nm, j => nm + j
  | b :: _, _, 0 => b
  | _ :: l, nm, j + 1 => rho l nm j

/-- Names of what a call hands back, laid elsewhere. -/
noncomputable def ren (ρ : Nat → Nat) (x : AV) : AV :=
  AV.rec (motive := fun _ => AV) (fun v => .p v) (fun b i => .pt (ρ b) i) (fun b k i j => .rpt (ρ b) k i j) (fun b k i => .ssl (ρ b) k i) (fun b i => .psl (ρ b) i) (fun b => .sl (ρ b)) (fun g l => .fnc g (l.map ρ)) (fun n _ ih => .tup n ih) (fun n _ ih => .ag n ih) x
noncomputable def renB (ρ : Nat → Nat) : Option Blk → Option Blk
  | some (.box ty cells) => some (.box ty (cells.map (ren ρ)))
  | b => b
noncomputable def layFrom (ρ : Nat → Nat) : Nat → List (Option Blk) → List (Nat × Option Blk)
  | _, [] => []
  | i, b :: l => (ρ i, renB ρ b) :: layFrom ρ (i + 1) l
def anyIn (us : Nat → Bool) (nm : Nat) : Nat → Bool
  | 0 => false
  | n + 1 => us nm || anyIn us (nm + 1) n
def keysFrom (nm : Nat) : Nat → List Nat
  | 0 => []
  | n + 1 => nm :: keysFrom (nm + 1) n
def dstE (d : Option Nat) (x : AV) : Option (Nat × AV) := match d with | some t => some (t, x) | none => none

inductive CallK (P : Program) (nm : Nat) (g : FuncId) (xs : List AV) (σ : St) (d : Option Nat) (K : Eff → Prop) : Prop where
  /-- The blocks 'N' go in and come out; what else was handed over is read-only from now on. -/
  | go (N : List Nat) {ys : List AV} {ns : List Nat} {bs : List (Option Blk)} {res : AV} {obs : List (Option Blk)} (h : GCall P g ys bs res obs) (hv : argsOf σ.η N xs = some (ys, ns)) (hb : blksOf σ.η N = some bs)
      (hn : (nodupB N && apartB N ns) = true) (hl : Nat.ble N.length obs.length = true) (hf : anyIn σ.us nm (obs.length - N.length) = false)
      (k : K { dst := dstE d (ren (rho N nm) res), ups := frees ns ++ layFrom (rho N nm) 0 obs, rd := N ++ ns, nw := keysFrom nm (obs.length - N.length) })
  /-- Plain data in, a literal back: what was handed over is lent. -/
  | lent {ys : List AV} {ns : List Nat} {u : Value} (h : GCall P g ys [] (.p (.val u)) []) (hv : argsOf σ.η [] xs = some (ys, ns))
      (k : K { dst := dstE d (.p (.val u)), rd := ns })

/-! ### The reckoner: what an operation does, as a question with what follows behind it -/
def forceK (x : AV) (K : AV → Prop) : Prop :=
  match x with
  | .p v => (match v with | .any => K (.p .any) | .bl b => K (.p (.bl b)) | .val u => K (.p (.val u)) | .agg n f => K (.p (.agg n f)) | .fn g n f => K (.p (.fn g n f)) | .rs k n f => K (.p (.rs k n f)) | .rn k n f => K (.p (.rn k n f)) | .rp k f => K (.p (.rp k f)))
  | .pt b i => K (.pt b i)
  | .rpt b k i j => K (.rpt b k i j)
  | .ssl b k i => K (.ssl b k i)
  | .psl b i => K (.psl b i)
  | .sl b => K (.sl b)
  | .fnc g l => K (.fnc g l)
  | .tup n f => K (.tup n f)
  | .ag n f => K (.ag n f)
def retK (d : Option Nat) (x : AV) (K : Eff → Prop) : Prop := K { dst := dstE d x }
def vI (k : IntKind) (z : Int) : AV := .p (.val (.int k z))
def vB (b : Bool) : AV := .p (.val (.bool b))

def intOpK (op : BinOp) (k : IntKind) (x y : Int) (d : Option Nat) (K : Eff → Prop) : Prop :=
  match op with
  | .add => ∀ z, z = wrapO k (x + y) → retK d (vI k z) K
  | .sub => ∀ z, z = wrapO k (x - y) → retK d (vI k z) K
  | .mul => ∀ z, z = wrapO k (x * y) → retK d (vI k z) K
  | .eql => retK d (vB (iEq x y)) K
  | .neq => retK d (vB (!iEq x y)) K
  | .lss => retK d (vB (iLt x y)) K
  | .leq => retK d (vB (iLe x y)) K
  | .gtr => retK d (vB (iLt y x)) K
  | .geq => retK d (vB (iLe y x)) K
  | .quo => y ≠ 0 ∧ ∀ z, z = wrapO k (x.tdiv y) → retK d (vI k z) K
  | .rem => y ≠ 0 ∧ ∀ z, z = x.tmod y → retK d (vI k z) K
  | .and => ∀ z, z = bitO k .and x y → retK d (vI k z) K
  | .or => ∀ z, z = bitO k .or x y → retK d (vI k z) K
  | .xor => ∀ z, z = bitO k .xor x y → retK d (vI k z) K
  | _ => False

/-- A shift: the second number may be of another kind. -/
def shiftK (op : BinOp) (k : IntKind) (x y : Int) (d : Option Nat) (K : Eff → Prop) : Prop :=
  match op with
  | .shl => 0 ≤ y ∧ ∀ z, z = wrapO k (x * 2 ^ (min y.toNat k.bits)) → retK d (vI k z) K
  | .shr => 0 ≤ y ∧ ∀ z, z = x.fdiv (2 ^ (min y.toNat k.bits)) → retK d (vI k z) K
  | _ => False
def isShift : BinOp → Bool
  | .shl | .shr => true
  | _ => false

def strOpK (op : BinOp) (x y : ByteArray) (d : Option Nat) (K : Eff → Prop) : Prop :=
  match op with
  | .add => ((x.size + y.size : Nat) : Int) ≤ 9223372036854775807 ∧ retK d (.p (.val (.string (x ++ y)))) K
  | .eql => retK d (vB (sEq x y)) K
  | .neq => retK d (vB (!sEq x y)) K
  | .lss => retK d (vB (sLt x y)) K
  | .geq => retK d (vB (!sLt x y)) K
  | _ => False

def kEq : IntKind → IntKind → Bool
  | .i8, .i8 | .i16, .i16 | .i32, .i32 | .i64, .i64 | .u8, .u8 | .u16, .u16 | .u32, .u32 | .u64, .u64 => true
  | _, _ => false
/-- '==' of two structs, cell by cell. -/
def flatEq : List (Option IntKind) → (Nat → PV) → (Nat → PV) → Option Bool
  | [], _, _ => some true
  | some k :: l, f, g =>
    match f 0, g 0, flatEq l (fun j => f (j + 1)) (fun j => g (j + 1)) with
    | .val (.int k1 a), .val (.int k2 b), some r => (match kEq k k1 && kEq k k2 with | true => some (iEq a b && r) | false => none)
    | _, _, _ => none
  | none :: l, f, g =>
    match f 0, g 0, flatEq l (fun j => f (j + 1)) (fun j => g (j + 1)) with
    | .val (.string a), .val (.string b), some r => some (sEq a b && r)
    | _, _, _ => none

def tkOf (T : Nat → Option TI) (ty : TypeId) : TK := match T ty with | some ti => ti.kind | none => .other

def boolOf : AV → Option Bool
  | .p (.bl b) => some b
  | .p (.val (.bool b)) => some b
  | _ => none
def binOpK (T : Nat → Option TI) (op : BinOp) (ty : TypeId) (x y : AV) (d : Option Nat) (K : Eff → Prop) : Prop :=
  match tkOf T ty with
  | .int q => (match x with
    | .p (.val (.int k a)) => (match y with
      | .p (.val (.int k' b)) => (match isShift op with
        | true => shiftK op k a b d K
        | false => (match kEq k k' && kEq k q with | true => intOpK op k a b d K | false => False))
      | _ => False)
    | _ => False)
  | .slice _ => (match y with
    | .p (.val (.slice none 0 0)) => (match x with
      | .p (.rn _ _ _) => (match op with
        | .eql => retK d (.p (.bl false)) K
        | .neq => retK d (.p (.bl true)) K
        | _ => False)
      | .p (.val (.slice none 0 0)) => (match op with
        | .eql => retK d (.p (.bl true)) K
        | .neq => retK d (.p (.bl false)) K
        | _ => False)
      | _ => False)
    | _ => False)
  | .str => (match x with
    | .p (.val (.string a)) => (match y with | .p (.val (.string b)) => strOpK op a b d K | _ => False)
    | _ => False)
  | .bool => (match boolOf x with
    | some a => (match boolOf y with
      | some b => (match op with | .eql => retK d (vB (bEq a b)) K | .neq => retK d (vB (!bEq a b)) K | _ => False)
      | none => False)
    | none => False)
  | .struct _ => (match x with
    | .p (.agg n f) => (match y with
      | .p (.agg m g) => (match T ty with
        | some ti => (match flatEq ti.flat f g, Nat.beq n ti.flat.length && (Nat.beq m ti.flat.length && Nat.blt 0 n) with
          | some r, true => (match op with | .eql => retK d (vB r) K | .neq => retK d (vB (!r)) K | _ => False)
          | _, _ => False)
        | none => False)
      | _ => False)
    | _ => False)
  | _ => False

def nth? {α : Type} : List α → Nat → Option α
  | [], _ => none
  | x :: _, 0 => some x
  | _ :: l, n + 1 => nth? l n
def fieldOf (T : Nat → Option TI) (ty : TypeId) (i : Nat) : Option (Nat × Nat × Bool) :=
  match tkOf T ty with
  | .struct fs => nth? fs i
  | _ => none

def shift : Nat → (Nat → PV) → (Nat → PV)
  | 0, f => f
  | n + 1, f => shift n fun j => f (j + 1)

/-- A value of a size, out of cells. -/
def asVal (agg : Bool) (size : Nat) (f : Nat → PV) : PV := match agg with | true => aggL (upto f size 0) | false => f 0

def drop_ {α : Type} : Nat → List α → List α
  | 0, l => l
  | n + 1, _ :: l => drop_ n l
  | _ + 1, [] => []
def take_ {α : Type} : Nat → List α → List α
  | 0, _ => []
  | n + 1, x :: l => x :: take_ n l
  | _ + 1, [] => []

def loadK (T : Nat → Option TI) (ty : TypeId) (x : AV) (σ : St) (d : Option Nat) (K : Eff → Prop) : Prop :=
  match T ty with
  | none => False
  | some ti =>
    match x with
    | .p (.rp k f) => (match Nat.ble ti.size k with | true => forceK (.p (asVal ti.agg ti.size f)) fun x => retK d x K | false => False)
    | .rpt b q i j => (match σ.η b with
      | some (.row _ k n f) => (match Nat.ble (j + ti.size) k && Nat.beq q k with
        | true => i < n ∧ forceK (.p (asVal ti.agg ti.size (shift j (f i)))) fun x => K { dst := dstE d x, rd := [b] }
        | false => False)
      | _ => False)
    | .pt b i => (match σ.η b with
      | some (.box _ cells) => (match ti.agg with
        | false => (match drop_ i cells with | c :: _ => forceK c fun x => K { dst := dstE d x, rd := [b] } | [] => False)
        | true => (match purify σ.η (take_ ti.size (drop_ i cells)) with
          | some (vs, ns) => (match Nat.beq vs.length ti.size with
            | true => (match ns with
              | [] => K { dst := dstE d (.p (aggL vs)), rd := b :: ns, ups := frees ns }
              | _ :: _ => K { dst := dstE d (.p (aggL vs)), rd := b :: ns, ups := frees ns } ∨ K { dst := dstE d (.ag ti.size (at_ (.p .any) (take_ ti.size (drop_ i cells)))), rd := [b] })
            | false => False)
          | none => False))
      | _ => False)
    | _ => False

/-- What fits one cell; the names that this leans on. -/
def oneB (η : Nat → Option Blk) : AV → Option (List Nat)
  | .p (.val u) => (match u.oneCell' with | true => some [] | false => none)
  | .p .any => none
  | .p (.agg _ _) => none
  | .p _ => some []
  | .sl b => (match η b with | some (.row _ _ _ _) => some [b] | _ => none)
  | .tup _ _ => none
  | .ag _ _ => none
  | _ => some []

def storeK (T : Nat → Option TI) (ty : TypeId) (x y : AV) (σ : St) (d : Option Nat) (K : Eff → Prop) : Prop :=
  match T ty with
  | none => False
  | some ti =>
    match x with
    | .pt b i => (match σ.η b with
      | some (.box t cells) => (match ti.agg with
        | false => (match oneB σ.η y, Nat.blt i cells.length with
            | some ns, true => K { dst := dstE d (.p .any), rd := b :: ns, ups := [(b, some (.box t (splice cells i [y])))] }
            | _, _ => False)
        | true => (match y with
          | .p (.agg n f) => (match Nat.beq n ti.size, Nat.ble (i + n) cells.length with
            | true, true => K { dst := dstE d (.p .any), rd := [b], ups := [(b, some (.box t (splice cells i ((upto f n 0).map .p))))] }
            | _, _ => False)
          | .ag n f => (match Nat.beq n ti.size, Nat.ble (i + n) cells.length with
            | true, true => K { dst := dstE d (.p .any), rd := [b], ups := [(b, some (.box t (splice cells i (upto f n 0))))] }
            | _, _ => False)
          | _ => False))
      | _ => False)
    | _ => False

def fieldAddrK (T : Nat → Option TI) (ty : TypeId) (x : AV) (i : Nat) (d : Option Nat) (K : Eff → Prop) : Prop :=
  match fieldOf T ty i with
  | some (off, size, _) => (match size with
    | 0 => False
    | _ => match x with
      | .pt b j => retK d (.pt b (j + off)) K
      | .rpt b k r j => retK d (.rpt b k r (j + off)) K
      | .p (.rp k f) => (match Nat.ble (off + size) k with | true => retK d (.p (.rp size (shift off f))) K | false => False)
      | _ => False)
  | none => False

def fieldK (T : Nat → Option TI) (ty : TypeId) (x : AV) (i : Nat) (d : Option Nat) (K : Eff → Prop) : Prop :=
  match fieldOf T ty i with
  | some (off, size, agg) => (match x with
    | .p (.agg n f) => (match Nat.ble (off + size) n with | true => forceK (.p (asVal agg size (shift off f))) fun x => retK d x K | false => False)
    | _ => False)
  | none => False

def indexAddrK (T : Nat → Option TI) (ty : TypeId) (x y : AV) (σ : St) (d : Option Nat) (K : Eff → Prop) : Prop :=
  match y with
  | .p (.val (.int _ i)) => (match tkOf T ty with
    | .slice e => (match T e with
      | some te => (match x with
        | .p (.rs k n f) => (match Nat.beq k te.size with
          | true => (0 ≤ i ∧ i < (n : Int)) ∧ retK d (.p (.rp k (f i.toNat))) K
          | false => False)
        | .sl b => (match σ.η b with
          | some (.row _ k n _) => (match Nat.beq k te.size with
            | true => (0 ≤ i ∧ i < (n : Int)) ∧ K { dst := dstE d (.rpt b k i.toNat 0), rd := [b] }
            | false => False)
          | _ => False)
        | _ => False)
      | none => False)
    | _ => False)
  | _ => False

def lenK (T : Nat → Option TI) (ty : TypeId) (x : AV) (σ : St) (d : Option Nat) (K : Eff → Prop) : Prop :=
  match tkOf T ty with
  | .str => (match x with | .p (.val (.string s)) => retK d (vI .i64 (s.size : Int)) K | _ => False)
  | .slice _ => (match x with
    | .p (.val (.slice none 0 0)) => retK d (vI .i64 0) K
    | .p (.rs _ n _) => retK d (vI .i64 (n : Int)) K
    | .p (.rn _ n _) => retK d (vI .i64 (n : Int)) K
    | .psl _ hi => retK d (vI .i64 (hi : Int)) K
    | .sl b => (match σ.η b with | some (.row _ _ n _) => K { dst := dstE d (vI .i64 (n : Int)), rd := [b] } | _ => False)
    | _ => False)
  | _ => False

def indexK (T : Nat → Option TI) (ty : TypeId) (x y : AV) (d : Option Nat) (K : Eff → Prop) : Prop :=
  match tkOf T ty with
  | .str => (match x with
    | .p (.val (.string s)) => (match y with
      | .p (.val (.int _ i)) => (0 ≤ i ∧ i < (s.size : Int)) ∧ retK d (vI .u8 (bt s i.toNat)) K
      | _ => False)
    | _ => False)
  | _ => False

def boxK (ty : TypeId) (x : AV) (nm : Nat) (σ : St) (d : Option Nat) (K : Eff → Prop) : Prop :=
  match σ.us nm with
  | true => False
  | false => match x with
    | .p (.agg n f) => K { dst := dstE d (.pt nm 0), ups := [(nm, some (.box ty ((upto f n 0).map .p)))], nw := [nm] }
    | .ag n f => K { dst := dstE d (.pt nm 0), ups := [(nm, some (.box ty (upto f n 0)))], nw := [nm] }
    | x => (match oneB σ.η x with
      | some ns => K { dst := dstE d (.pt nm 0), ups := [(nm, some (.box ty [x]))], rd := ns, nw := [nm] }
      | none => False)

/-- Cells out of a value that is a part of something. -/
def cellsPV (agg : Bool) (size : Nat) (v : PV) : Option (List PV) :=
  match agg with
  | true => (match v with | .agg n f => (match Nat.beq n size with | true => some (upto f n 0) | false => none) | _ => none)
  | false => (match v with
    | .any => none
    | .agg _ _ => none
    | .val u => (match u.oneCell' with | true => some [.val u] | false => none)
    | v => some [v])
def fillP (place : Nat → Option (Nat × Nat × Bool)) (η : Nat → Option Blk) : List (Nat × AV) → List PV → Option (List PV × List Nat)
  | [], cs => some (cs, [])
  | (i, x) :: l, cs => match place i with
    | some (off, size, agg) => (match pureOf η x with
      | some (v, ns) => (match cellsPV agg size v with
        | some ws => (match Nat.beq ws.length size && Nat.ble (off + ws.length) cs.length with
          | true => (match fillP place η l (splice cs off ws) with | some (r, ms) => some (r, ns ++ ms) | none => none)
          | false => none)
        | none => none)
      | none => none)
    | none => none
def evParts (σ : St) : List (Nat × Operand) → List (Nat × AV)
  | [] => []
  | (i, x) :: l => (i, ev σ x) :: evParts σ l
def anyL : Nat → List PV
  | 0 => []
  | n + 1 => .any :: anyL n
def buildK (T : Nat → Option TI) (ty : TypeId) (parts : List (Nat × Operand)) (σ : St) (d : Option Nat) (K : Eff → Prop) : Prop :=
  match T ty with
  | some ti => (match ti.kind with
    | .struct fs => (match ti.zero with
      | [] => False
      | z :: zs => (match fillP (nth? fs) σ.η (evParts σ parts) ((z :: zs).map cst) with
        | some (cs, ns) => K { dst := dstE d (.p (aggL cs)), rd := ns, ups := frees ns }
        | none => False))
    | _ => False)
  | none => False
def allocK (T : Nat → Option TI) (ty : TypeId) (nm : Nat) (σ : St) (d : Option Nat) (K : Eff → Prop) : Prop :=
  match T ty, σ.us nm with
  | some ti, false => (match ti.zero with
    | [] => False
    | z :: zs => K { dst := dstE d (.pt nm 0), ups := [(nm, some (.box ty (((z :: zs).map cst).map .p)))], nw := [nm] })
  | _, _ => False
def buildSliceK (T : Nat → Option TI) (ty : TypeId) (len : Nat) (parts : List (Nat × Operand)) (nm : Nat) (σ : St) (d : Option Nat) (K : Eff → Prop) : Prop :=
  match tkOf T ty, σ.us nm with
  | .slice e, false => (match T e with
    | some te => (match te.zero, Nat.ble (len * te.size) 65536 with
      | _ :: _, true => (match fillP (fun i => some (i * te.size, te.size, te.agg)) σ.η (evParts σ parts) (anyL (len * te.size)) with
        | some (cs, ns) => K { dst := dstE d (.sl nm), rd := ns, ups := frees ns ++ [(nm, some (.row e te.size len fun i j => at_ .any cs (i * te.size + j)))], nw := [nm] }
        | none => False)
      | _, _ => False)
    | none => False)
  | _, _ => False
/-- A slice that is read: how wide, how long, its elements, the row behind it. -/
def srcOf (η : Nat → Option Blk) : AV → Option (Nat × Nat × (Nat → Nat → PV) × List Nat)
  | .p (.rs k n f) => some (k, n, f, [])
  | .p (.rn k n f) => some (k, n, f, [])
  | .p (.val (.slice none 0 0)) => some (0, 0, (fun _ _ => .any), [])
  | .sl b => (match η b with | some (.row _ k n f) => some (k, n, f, [b]) | _ => none)
  | _ => none
def catF (n : Nat) (f g : Nat → Nat → PV) : Nat → Nat → PV := fun i j => match Nat.blt i n with | true => f i j | false => g (i - n) j
def appendK (T : Nat → Option TI) (ty : TypeId) (x y : AV) (nm : Nat) (σ : St) (d : Option Nat) (K : Eff → Prop) : Prop :=
  match tkOf T ty, σ.us nm with
  | .slice e, false => (match T e with
    | some te => (match te.zero with
      | [] => False
      | _ :: _ => (match srcOf σ.η y with
        | some (k2, m, g, ns) => (match orB (Nat.beq k2 te.size) (Nat.beq m 0) with
          | true => (match x with
            | .p (.val (.slice none 0 0)) => (m ≤ maxLen ∧ m * te.bytes ≤ 140737488355328) ∧
                K { dst := dstE d (.sl nm), rd := ns, ups := [(nm, some (.row e te.size m g))], nw := [nm] }
            | .sl b => (match σ.η b with
              | some (.row e' k n f) => (match Nat.beq e' e && (Nat.beq k te.size && notB (memB b ns)) with
                | true => (n + m ≤ maxLen ∧ (n + m) * te.bytes ≤ 140737488355328) ∧
                  K { dst := dstE d (.sl nm), rd := b :: ns, ups := [(b, none), (nm, some (.row e te.size (n + m) (catF n f g)))], nw := [nm] }
                | false => False)
              | _ => False)
            | _ => False)
          | false => False)
        | none => False))
    | none => False)
  | _, _ => False
/-- Elements moved down within a row. -/
def moveF (hi lo n : Nat) (f : Nat → Nat → PV) : Nat → Nat → PV :=
  fun a j => match Nat.blt a hi with | true => f a j | false => (match Nat.blt a (hi + (n - lo)) with | true => f (lo + (a - hi)) j | false => .any)
def appendInK (T : Nat → Option TI) (ty : TypeId) (b hi : Nat) (y : AV) (σ : St) (d : Option Nat) (K : Eff → Prop) : Prop :=
  match tkOf T ty with
  | .slice e => (match T e with
    | some te => (match y with
      | .ssl b2 k lo => (match σ.η b with
        | some (.row e' k' n f) => (match Nat.beq b2 b && (Nat.beq e' e && (Nat.beq k te.size && Nat.beq k' te.size)) with
          | true => hi ≤ lo ∧ K { dst := dstE d (.psl b (hi + (n - lo))), rd := [b], ups := [(b, some (.row e' k' n (moveF hi lo n f)))] }
          | false => False)
        | _ => False)
      | _ => False)
    | none => False)
  | _ => False
def appendAllK (T : Nat → Option TI) (ty : TypeId) (x y : AV) (nm : Nat) (σ : St) (d : Option Nat) (K : Eff → Prop) : Prop :=
  match x with
  | .psl b hi => appendInK T ty b hi y σ d K
  | x => appendK T ty x y nm σ d K
def makeSliceK (T : Nat → Option TI) (ty : TypeId) (x y : AV) (nm : Nat) (σ : St) (d : Option Nat) (K : Eff → Prop) : Prop :=
  match tkOf T ty, σ.us nm with
  | .slice e, false => (match T e with
    | some te => (match te.zero with
      | [] => False
      | z :: zs => (match x with
        | .p (.val (.int _ l)) => (match y with
          | .p (.val (.int _ c)) => (0 ≤ l ∧ l ≤ c ∧ (te.bytes : Int) * c ≤ 281474976710656 ∧ c ≤ 9223372036854775807) ∧
              K { dst := dstE d (.sl nm), ups := [(nm, some (.row e te.size l.toNat fun _ j => at_ .any ((z :: zs).map cst) j))], nw := [nm] }
          | _ => False)
        | _ => False))
    | none => False)
  | _, _ => False
def bndK (x : Option AV) (dflt : Int) (K : Int → Prop) : Prop :=
  match x with
  | none => K dflt
  | some (.p (.val (.int _ i))) => K i
  | _ => False
def sliceK (T : Nat → Option TI) (ty : TypeId) (x : AV) (lo hi mx : Option AV) (σ : St) (d : Option Nat) (K : Eff → Prop) : Prop :=
  match mx with
  | some _ => False
  | none => (match tkOf T ty with
    | .str => (match x with
      | .p (.val (.string s)) => bndK lo 0 fun l => bndK hi (s.size : Int) fun h => (0 ≤ l ∧ l ≤ h ∧ h ≤ (s.size : Int)) ∧ retK d (.p (.val (.string (s.extract l.toNat h.toNat)))) K
      | _ => False)
    | .slice e => (match T e with
      | some te => (match x with
        | .p (.val (.slice none 0 0)) => bndK lo 0 fun l => bndK hi 0 fun h => (l = 0 ∧ h = 0) ∧ retK d (.p (.val (.slice none 0 0))) K
        | _ => (match viewOf σ.η x with
          | some (.rs k n f, ns) => (match Nat.beq k te.size with
            | true => bndK lo 0 fun l => bndK hi (n : Int) fun h => (0 ≤ l ∧ l ≤ h ∧ h ≤ (n : Int)) ∧
                K { dst := dstE d (.p (.rs k (h.toNat - l.toNat) fun i j => f (l.toNat + i) j)), rd := ns, ups := frees ns }
            | false => False)
          | _ => False))
      | none => False)
    | _ => False)
def convertK (T : Nat → Option TI) (src dst : TypeId) (x : AV) (d : Option Nat) (K : Eff → Prop) : Prop :=
  match tkOf T dst with
  | .int k => (match tkOf T src with
    | .int _ => (match x with | .p (.val (.int _ n)) => ∀ z, z = wrapO k n → retK d (vI k z) K | _ => False)
    | _ => False)
  | .str => (match tkOf T src with
    | .str => (match x with | .p (.val (.string s)) => retK d (.p (.val (.string s))) K | _ => False)
    | _ => False)
  | _ => False
def nilCheckK (x : AV) (d : Option Nat) (K : Eff → Prop) : Prop :=
  match x with
  | .pt b i => retK d (.pt b i) K
  | .rpt b k i j => retK d (.rpt b k i j) K
  | .p (.rp k f) => retK d (.p (.rp k f)) K
  | _ => False
/-- Some cells of one element of a row are other ones. -/
def setF (i j : Nat) (ys : List PV) (f : Nat → Nat → PV) : Nat → Nat → PV :=
  fun a b => match Nat.beq a i && (Nat.ble j b && Nat.blt b (j + ys.length)) with | true => at_ .any ys (b - j) | false => f a b
def storeRowK (T : Nat → Option TI) (ty : TypeId) (b q i j : Nat) (y : AV) (σ : St) (d : Option Nat) (K : Eff → Prop) : Prop :=
  match T ty with
  | some ti => (match σ.η b with
    | some (.row e k n f) => (match y with
      | .p v => (match cellsPV ti.agg ti.size v with
        | some ys => (match Nat.beq ys.length ti.size && (Nat.ble (j + ys.length) k && Nat.beq q k) with
          | true => i < n ∧ K { dst := dstE d (.p .any), rd := [b], ups := [(b, some (.row e k n (setF i j ys f)))] }
          | false => False)
        | none => False)
      | _ => False)
    | _ => False)
  | none => False
def storeAllK (T : Nat → Option TI) (ty : TypeId) (x y : AV) (σ : St) (d : Option Nat) (K : Eff → Prop) : Prop :=
  match x with
  | .rpt b q i j => storeRowK T ty b q i j y σ d K
  | x => storeK T ty x y σ d K
/-- The rest of an owned row, from an element on. -/
def sliceTailK (T : Nat → Option TI) (ty : TypeId) (b : Nat) (lo : AV) (σ : St) (d : Option Nat) (K : Eff → Prop) : Prop :=
  match tkOf T ty with
  | .slice e => (match T e with
    | some te => (match σ.η b with
      | some (.row _ k n _) => (match Nat.beq k te.size with
        | true => (match lo with
          | .p (.val (.int _ l)) => (0 < n ∧ 0 ≤ l ∧ l ≤ (n : Int)) ∧ K { dst := dstE d (.ssl b k l.toNat), rd := [b] }
          | _ => False)
        | false => False)
      | _ => False)
    | none => False)
  | _ => False
/-- The first elements of an owned row. -/
def slicePreK (T : Nat → Option TI) (ty : TypeId) (b : Nat) (hi : AV) (σ : St) (d : Option Nat) (K : Eff → Prop) : Prop :=
  match tkOf T ty with
  | .slice e => (match T e with
    | some _ => (match σ.η b with
      | some (.row _ _ n _) => (match hi with
        | .p (.val (.int _ h)) => (0 < n ∧ 0 ≤ h ∧ h ≤ (n : Int)) ∧ K { dst := dstE d (.psl b h.toNat), rd := [b] }
        | _ => False)
      | _ => False)
    | none => False)
  | _ => False
/-- What lies behind a row's first elements, to the row's end. -/
def sliceRestK (T : Nat → Option TI) (ty : TypeId) (b : Nat) (lo hi : AV) (σ : St) (d : Option Nat) (K : Eff → Prop) : Prop :=
  match tkOf T ty with
  | .slice e => (match T e with
    | some te => (match σ.η b with
      | some (.row _ k n _) => (match Nat.beq k te.size with
        | true => (match lo with
          | .p (.val (.int _ l)) => (match hi with
            | .p (.val (.int _ h)) => (0 ≤ l ∧ l ≤ (n : Int) ∧ h = (n : Int)) ∧ K { dst := dstE d (.ssl b k l.toNat), rd := [b] }
            | _ => False)
          | _ => False)
        | false => False)
      | _ => False)
    | none => False)
  | _ => False
/-- Bounds that are asked, and no more. -/
def sliceAskK (T : Nat → Option TI) (ty : TypeId) (b : Nat) (lo hi mx : AV) (σ : St) (d : Option Nat) (K : Eff → Prop) : Prop :=
  match tkOf T ty with
  | .slice e => (match T e with
    | some _ => (match σ.η b with
      | some (.row _ _ n _) => (match lo with
        | .p (.val (.int _ l)) => (match hi with
          | .p (.val (.int _ h)) => (match mx with
            | .p (.val (.int _ m)) => (0 < n ∧ 0 ≤ l ∧ l ≤ h ∧ h ≤ m ∧ m ≤ (n : Int)) ∧ K { dst := dstE d (.p .any), rd := [b] }
            | _ => False)
          | _ => False)
        | _ => False)
      | _ => False)
    | none => False)
  | _ => False
def sliceAllK (T : Nat → Option TI) (ty : TypeId) (x : AV) (lo hi mx : Option AV) (σ : St) (d : Option Nat) (K : Eff → Prop) : Prop :=
  match x, lo, hi, mx with
  | .sl b, some l, none, none => sliceTailK T ty b l σ d K
  | .sl b, none, some h, none => slicePreK T ty b h σ d K
  | .psl b _, some l, some h, none => sliceRestK T ty b l h σ d K
  | .sl b, some l, some h, some m => sliceAskK T ty b l h m σ d K
  | x, lo, hi, mx => sliceK T ty x lo hi mx σ d K
def tailF (lo : Nat) (f : Nat → Nat → PV) : Nat → Nat → PV := fun a j => match Nat.blt a lo with | true => f a j | false => .any
def clearK (T : Nat → Option TI) (ty : TypeId) (x : AV) (σ : St) (d : Option Nat) (K : Eff → Prop) : Prop :=
  match x with
  | .ssl b k lo => (match tkOf T ty with
    | .slice e => (match T e with
      | some te => (match te.zero with
        | [] => False
        | _ :: _ => (match σ.η b with
          | some (.row e' k' n f) => (match Nat.beq k te.size && Nat.beq k' k with
            | true => K { dst := dstE d (.p .any), rd := [b], ups := [(b, some (.row e' k' n (tailF lo f)))] }
            | false => False)
          | _ => False))
      | none => False)
    | _ => False)
  | _ => False
def ptsOf : List AV → Option (List Nat)
  | [] => some []
  | .pt b 0 :: l => (match ptsOf l with | some m => some (b :: m) | none => none)
  | _ :: _ => none
def makeFuncK (fn : Fn) (first caps : List Operand) (σ : St) (d : Option Nat) (K : Eff → Prop) : Prop :=
  match fn, first with
  | .func g, [] => (match caps with
    | [] => retK d (.p (.fn g 0 fun _ => .any)) K
    | _ :: _ => (match ptsOf (caps.map (ev σ)) with | some l => retK d (.fnc g l) K | none => False))
  | _, _ => False

def opK (P : Program) (T : Nat → Option TI) (nm : Nat) (o : Oper) (σ : St) (K : Eff → Prop) : Prop :=
  match o.op with
  | .move x => forceK (ev σ x) fun x => retK o.dst x K
  | .assign x => forceK (ev σ x) fun x => retK o.dst x K
  | .pick c a b => boolK (ev σ c) fun t => match t with | true => forceK (ev σ a) fun x => retK o.dst x K | false => forceK (ev σ b) fun x => retK o.dst x K
  | .binOp op ty x y _ => binOpK T op ty (ev σ x) (ev σ y) o.dst K
  | .unOp .not _ x => (match ev σ x with
    | .p (.bl b) => (match b with | true => retK o.dst (.p (.bl false)) K | false => retK o.dst (.p (.bl true)) K)
    | .p (.val (.bool b)) => retK o.dst (vB (!b)) K
    | _ => False)
  | .extract t i => (match ev σ t with | .tup n f => (match Nat.blt i n with | true => forceK (f i) fun x => retK o.dst x K | false => False) | _ => False)
  | .field ty x i => fieldK T ty (ev σ x) i o.dst K
  | .fieldAddr ty x i => fieldAddrK T ty (ev σ x) i o.dst K
  | .load ty x => loadK T ty (ev σ x) σ o.dst K
  | .store ty x y => storeAllK T ty (ev σ x) (ev σ y) σ o.dst K
  | .box ty x => boxK ty (ev σ x) nm σ o.dst K
  | .indexAddr ty x i => indexAddrK T ty (ev σ x) (ev σ i) σ o.dst K
  | .index ty x i => indexK T ty (ev σ x) (ev σ i) o.dst K
  | .call c => (match c.callee with
    | .builtin .len => (match c.args.toList, c.argTypes.toList with | [x], [ty] => lenK T ty (ev σ x) σ o.dst K | _, _ => False)
    | .builtin .append => (match c.args.toList, c.argTypes.toList with
      | [x, y], [ty, ty'] => (match Nat.beq ty ty' with | true => appendAllK T ty (ev σ x) (ev σ y) nm σ o.dst K | false => False)
      | _, _ => False)
    | .builtin .clear => (match c.args.toList, c.argTypes.toList with | [x], [ty] => clearK T ty (ev σ x) σ o.dst K | _, _ => False)
    | .value f => (match ev σ f with
      | .p (.fn g n cs) => CallK P nm g (c.args.toList.map (ev σ) ++ (upto cs n 0).map .p) σ o.dst K
      | .fnc g l => CallK P nm g (c.args.toList.map (ev σ) ++ l.map (.pt · 0)) σ o.dst K
      | _ => False)
    | _ => False)
  | .build ty parts => buildK T ty parts.toList σ o.dst K
  | .alloc ty => allocK T ty nm σ o.dst K
  | .buildSlice ty len parts => buildSliceK T ty len parts.toList nm σ o.dst K
  | .makeSlice ty x y => makeSliceK T ty (ev σ x) (ev σ y) nm σ o.dst K
  | .slice ty x lo hi mx => sliceAllK T ty (ev σ x) (lo.map (ev σ)) (hi.map (ev σ)) (mx.map (ev σ)) σ o.dst K
  | .convert src dst x => convertK T src dst (ev σ x) o.dst K
  | .nilCheck x => nilCheckK (ev σ x) o.dst K
  | .makeFunc fn first caps => makeFuncK fn first.toList caps.toList σ o.dst K
  | _ => False

def dstOf (ops : List Oper) (j : Nat) : Option Nat :=
  match ops, j with
  | o :: _, 0 => o.dst
  | _ :: l, j + 1 => dstOf l j
  | [], _ => none
def dstOk (d : Option Nat) (N : Nat) : Bool := match d with | some t => Nat.blt t N | none => true
def wantB (c want : Bool) : Bool := match c, want with | true, true => true | false, false => true | _, _ => false

/-- What an operation that was passed over leaves. -/
def isUndef : AV → Bool
  | .p (.val (.tuple _)) => true
  | _ => false
/-- The frame behind an operation, reckoned at once (no frame inside a frame). -/
noncomputable def goN (N : Nat) (τ : Nat → AV) (η : Nat → Option Blk) (nw : List Nat) : (Nat → Bool) → St :=
  List.rec (motive := fun _ => (Nat → Bool) → St) (fun us => ⟨N, τ, η, us⟩) (fun b _ ih us => ih (upd us b true)) nw
/-- A list's cells laid bare. -/
noncomputable def spine (l : List AV) : (List AV → St) → St :=
  List.rec (motive := fun _ => (List AV → St) → St) (fun K => K []) (fun x _ ih K => ih fun l => K (x :: l)) l
theorem spine_eq (l : List AV) (K : List AV → St) : spine l K = K l := by
  induction l generalizing K with
  | nil => rfl
  | cons x l ih => exact ih _
noncomputable def goU (N : Nat) (τ : Nat → AV) (us : Nat → Bool) (nw : List Nat) (ups : List (Nat × Option Blk)) : (Nat → Option Blk) → St :=
  List.rec (motive := fun _ => (Nat → Option Blk) → St) (fun η => goN N τ η nw us) (fun u _ ih η => match u with
    | (b, x) => match x with
      | none => ih (upd η b none)
      | some blk => match blk with
        | .box ty cells => spine cells fun cs => ih (upd η b (some (.box ty cs)))
        | .row e k n f => ih (upd η b (some (.row e k n f)))) ups
noncomputable def goE (N : Nat) (τ : Nat → AV) (η : Nat → Option Blk) (us : Nat → Bool) (e : Eff) : St :=
  match e with
  | ⟨dst, ups, _, nw⟩ => match dst with
    | none => goU N τ us nw ups η
    | some (t, x) => goU N (upd τ t x) us nw ups η
theorem goN_eq (N : Nat) (τ : Nat → AV) (η : Nat → Option Blk) (nw : List Nat) (us : Nat → Bool) : goN N τ η nw us = ⟨N, τ, η, upds us (nw.map (·, true))⟩ := by
  induction nw generalizing us with
  | nil => rfl
  | cons b l ih => exact ih _
theorem goU_eq (N : Nat) (τ : Nat → AV) (η : Nat → Option Blk) (us : Nat → Bool) (nw : List Nat) (ups : List (Nat × Option Blk)) : goU N τ us nw ups η = ⟨N, τ, upds η ups, upds us (nw.map (·, true))⟩ := by
  induction ups generalizing η with
  | nil => exact goN_eq _ _ _ _ _
  | cons u l ih =>
    obtain ⟨b, x⟩ := u
    cases x with
    | none => exact ih _
    | some x =>
      cases x with
      | row => exact ih _
      | box ty cells => exact (spine_eq cells _).trans (ih _)
theorem goE_eq (N : Nat) (τ : Nat → AV) (η : Nat → Option Blk) (us : Nat → Bool) (e : Eff) : goE N τ η us e = St.app ⟨N, τ, η, us⟩ e := by
  obtain ⟨dst, ups, rd, nw⟩ := e
  cases dst with
  | none => exact goU_eq _ _ _ _ _ _
  | some d => exact goU_eq _ _ _ _ _ _
/-- The operations of a region in the text's order; 'acc': what each has done, the last one first. -/
def opsK (P : Program) (T : Nat → Option TI) (ops : List Oper) (nm : Nat) (l : List Oper) : List Eff → St → (List Eff → St → Prop) → Prop :=
  List.rec (motive := fun _ => Nat → List Eff → St → (List Eff → St → Prop) → Prop) (fun _ acc σ K => K acc σ)
    (fun o _ ih nm acc σ K => match σ with
      | ⟨N, τ, η, us⟩ => match dstOk o.dst N with
        | false => False
        | true => match o.guard with
          | none => opK P T nm o ⟨N, τ, η, us⟩ fun e => ih (nm + 8) (e :: acc) (goE N τ η us e) K
          | some (j, want) => match dstOf ops j with
            | none => False
            | some t => match isUndef (τ t) with
              | true => ih (nm + 8) ({ dst := dstE o.dst (.p (.val undef)) } :: acc) (goE N τ η us { dst := dstE o.dst (.p (.val undef)) }) K
              | false => boolK (τ t) fun c =>
                match wantB c want with
                | true => opK P T nm o ⟨N, upd τ t (.p (.bl c)), η, us⟩ fun e => ih (nm + 8) (e :: acc) (goE N (upd τ t (.p (.bl c))) η us e) K
                | false => ih (nm + 8) ({ dst := dstE o.dst (.p (.val undef)) } :: acc) (goE N (upd τ t (.p (.bl c))) η us { dst := dstE o.dst (.p (.val undef)) }) K) l nm
theorem opsK_cons (P : Program) (T : Nat → Option TI) (ops : List Oper) (nm : Nat) (o : Oper) (rest : List Oper) (acc : List Eff) (N : Nat) (τ : Nat → AV) (η : Nat → Option Blk) (us : Nat → Bool) (K : List Eff → St → Prop) :
    opsK P T ops nm (o :: rest) acc ⟨N, τ, η, us⟩ K =
    match dstOk o.dst N with
    | false => False
    | true => match o.guard with
      | none => opK P T nm o ⟨N, τ, η, us⟩ fun e => opsK P T ops (nm + 8) rest (e :: acc) (St.app ⟨N, τ, η, us⟩ e) K
      | some (j, want) => match dstOf ops j with
        | none => False
        | some t => match isUndef (τ t) with
          | true => opsK P T ops (nm + 8) rest ({ dst := dstE o.dst (.p (.val undef)) } :: acc) (St.app ⟨N, τ, η, us⟩ { dst := dstE o.dst (.p (.val undef)) }) K
          | false => boolK (τ t) fun c =>
            match wantB c want with
            | true => opK P T nm o ⟨N, upd τ t (.p (.bl c)), η, us⟩ fun e => opsK P T ops (nm + 8) rest (e :: acc) (St.app ⟨N, upd τ t (.p (.bl c)), η, us⟩ e) K
            | false => opsK P T ops (nm + 8) rest ({ dst := dstE o.dst (.p (.val undef)) } :: acc) (St.app ⟨N, upd τ t (.p (.bl c)), η, us⟩ { dst := dstE o.dst (.p (.val undef)) }) K := by
  simp only [← goE_eq]
  rfl

/-! ### A region whose order is drawn: what each operation does must leave the others alone, or be ordered by the text -/
def tmpsOf : List Operand → List Nat
  | [] => []
  | .tmp t :: l => t :: tmpsOf l
  | _ :: l => tmpsOf l
def readsT (ops : List Oper) (o : Oper) : List Nat :=
  match o.guard with
  | some (j, _) => (match dstOf ops j with | some t => t :: tmpsOf o.op.operands.toList | none => tmpsOf o.op.operands.toList)
  | none => tmpsOf o.op.operands.toList
def memO (d : Option Nat) (l : List Nat) : Bool := match d with | some t => memB t l | none => false
def sameO (d e : Option Nat) : Bool := match d, e with | some t, some u => Nat.beq t u | _, _ => false
/-- Two operations that may go either way. -/
def indepB (ops : List Oper) (o : Oper) (e : Eff) (o' : Oper) (e' : Eff) : Bool :=
  andB (notB (memO o.dst (readsT ops o'))) (andB (notB (memO o'.dst (readsT ops o))) (andB (notB (sameO o.dst o'.dst))
    (andB (apartB (fsts e.ups ++ e.nw) (e'.rd ++ e'.nw)) (apartB (fsts e'.ups ++ e'.nw) (e.rd ++ e.nw)))))
def onesOf : List Edge → List Nat
  | [] => []
  | e :: l => match Region.binds .any e with | true => e.on :: onesOf l | false => onesOf l
def unionAt (anc : List (List Nat)) : List Nat → List Nat
  | [] => []
  | k :: l => k :: (nthL anc k ++ unionAt anc l)
where
  nthL : List (List Nat) → Nat → List Nat
  | [], _ => []
  | x :: _, 0 => x
  | _ :: l, n + 1 => nthL l n
/-- Of each operation those that go ahead of it in every order. -/
def ancs : List Oper → List (List Nat) → List (List Nat)
  | [], acc => acc
  | o :: l, acc => ancs l (acc ++ [unionAt acc (onesOf o.after.toList)])
def rowB (ops : List Oper) (an : List Nat) (o : Oper) (e : Eff) : Nat → List Oper → List Eff → Bool
  | k, o' :: l, e' :: m => andB (orB (indepB ops o' e' o e) (memB k an)) (rowB ops an o e (k + 1) l m)
  | _, _, _ => true
def allB (ops : List Oper) (anc : List (List Nat)) (effs : List Eff) : Nat → List Oper → List Eff → Bool
  | i, o :: l, e :: m => andB (rowB ops (unionAt.nthL anc i) o e 0 (take_ i ops) (take_ i effs)) (allB ops anc effs (i + 1) l m)
  | _, _, _ => true
def revE : List Eff → List Eff → List Eff
  | [], acc => acc
  | e :: l, acc => revE l (e :: acc)
def backB : Nat → List Oper → Bool
  | _, [] => true
  | i, o :: l => andB (allLt i (onesOf o.after.toList)) (backB (i + 1) l)
where
  allLt (i : Nat) : List Nat → Bool
  | [] => true
  | k :: l => andB (Nat.blt k i) (allLt i l)
/-- 'acc': the last one first. -/
def orderB (ops : List Oper) (acc : List Eff) : Bool :=
  andB (backB 0 ops) (allB ops (ancs ops []) (revE acc []) 0 ops (revE acc []))

/-- Behind a region. -/
def endK (draws : Bool) (ops : List Oper) (K : St → Prop) (acc : List Eff) (σ : St) : Prop :=
  match draws with
  | true => orderB ops acc = true ∧ K σ
  | false => K σ

/-- The frame in which a call begins. -/
def argsFrom : Nat → List AV → List (Nat × AV)
  | _, [] => []
  | i, x :: l => (i, x) :: argsFrom (i + 1) l
def start (N : Nat) (args : List AV) (bs : List (Option Blk)) : St :=
  { N, τ := upds (fun _ => .p .any) (argsFrom 0 args), η := enumB bs, us := fun n => Nat.blt n bs.length }

/-- A frame told by lists: all else is forgotten. -/
def told (N : Nat) (l : List (Nat × AV)) (h : List (Nat × Option Blk)) (us : List Nat) : St :=
  { N, τ := upds (fun _ => .p .any) l, η := upds (fun _ => none) h, us := upds (fun _ => false) (us.map (·, true)) }
def RepLe (x y : AV) : Prop := ∀ w F ν v, RepV w F ν x v → RepV w F ν y v
def BlkLe (b c : Blk) : Prop := ∀ w F ν u, BlkRep w F ν u b → BlkRep w F ν u c
def allB' {α : Type} (f : α → Bool) : List α → Bool
  | [] => true
  | x :: l => andB (f x) (allB' f l)
def namesOk (us : List Nat) : AV → Bool
  | .p _ => true
  | .pt b _ => memB b us
  | .rpt b _ _ _ => memB b us
  | .ssl b _ _ => memB b us
  | .psl b _ => memB b us
  | .sl b => memB b us
  | .fnc _ l => allB' (memB · us) l
  | .tup _ _ => false
  | .ag _ _ => false
def blkNamesOk (us : List Nat) : Option Blk → Bool
  | some (.box _ cells) => allB' (namesOk us) cells
  | _ => true
def tmpsLe (τ : Nat → AV) : List (Nat × AV) → Prop
  | [] => True
  | (t, x) :: l => RepLe (τ t) x ∧ tmpsLe τ l
def blkLe (η : Nat → Option Blk) : List (Nat × Option Blk) → Prop
  | [] => True
  | (b, some blk) :: l => (∃ blk0, η b = some blk0 ∧ BlkLe blk0 blk) ∧ blkLe η l
  | (_, none) :: l => blkLe η l
def distinctB : List (Nat × Option Blk) → Bool
  | [] => true
  | (k, _) :: l => andB (notB (memB k (fsts l))) (distinctB l)

/-- Names told anew. -/
def rhoM : List (Nat × Nat) → Nat → Nat
  | [], b => b
  | (k, v) :: m, b => match Nat.beq k b with | true => v | false => rhoM m b
noncomputable def renL (ρ : Nat → Nat) : List (Nat × AV) → List (Nat × AV)
  | [] => []
  | (t, x) :: l => (t, ren ρ x) :: renL ρ l
noncomputable def renH (ρ : Nat → Nat) : List (Nat × Option Blk) → List (Nat × Option Blk)
  | [] => []
  | (b, x) :: l => (ρ b, renB ρ x) :: renH ρ l
def mkRes : List AV → AV
  | [x] => x
  | l => .tup l.length (at_ (.p .any) l)
def getTmps (τ : Nat → AV) : List Nat → List AV
  | [] => []
  | t :: l => τ t :: getTmps τ l
def obsOf (η : Nat → Option Blk) : List Nat → Option (List (Option Blk))
  | [] => some []
  | b :: l => match pureBlk (η b) with
    | true => (match obsOf η l with | some m => some (η b :: m) | none => none)
    | false => none
def upFrom : Nat → Nat → List Nat
  | 0, _ => []
  | n + 1, i => i :: upFrom n (i + 1)
def obsLe : List (Option Blk) → List (Option Blk) → Prop
  | [], [] => True
  | none :: l, none :: m => obsLe l m
  | some b :: l, some c :: m => BlkLe b c ∧ obsLe l m
  | _, _ => False
/-- What a call hands back, out of the frame at its end: 'M': the names that it hands on beyond those that came in. -/
def RetK (m : Nat) (rs : List Nat) (res : AV) (obs : List (Option Blk)) (σ : St) : Prop :=
  ∃ (M : List Nat) (ys : List AV) (ns : List Nat) (obs0 : List (Option Blk)), argsOf σ.η (upFrom m 0 ++ M) (getTmps σ.τ rs) = some (ys, ns) ∧ obsOf σ.η (upFrom m 0 ++ M) = some obs0 ∧
    andB (nodupB (upFrom m 0 ++ M)) (apartB (upFrom m 0 ++ M) ns) = true ∧ RepLe (mkRes ys) res ∧ obsLe obs0 obs
/-- A result: a slot, or the variable at which it points, of a type. -/
abbrev RV := Nat × Option Nat
def toRV : RV → ResultVar
  | (t, none) => .tmp t
  | (t, some ty) => .cell t ty
def cellsOf : List RV → List (Nat × Nat)
  | [] => []
  | (t, some ty) :: l => (t, ty) :: cellsOf l
  | (_, none) :: l => cellsOf l
/-- The results that live in variables are read first. -/
def RetC (T : Nat → Option TI) (m : Nat) (rs : List Nat) (res : AV) (obs : List (Option Blk)) : List (Nat × Nat) → St → Prop
  | [], σ => RetK m rs res obs σ
  | (t, ty) :: l, ⟨N, τ, η, us⟩ =>
    match T ty with
    | some ti => (match τ t with
      | .pt b i => (match η b with
        | some (.box _ cells) => (match purify η (take_ ti.size (drop_ i cells)) with
          | some (vs, ns) => (match andB ti.agg (andB (Nat.beq vs.length ti.size) (Nat.blt t N)) with
            | true => (match ns with
              | [] => RetC T m rs res obs l ⟨N, upd τ t (.p (aggL vs)), upds η (frees ns), us⟩
              | _ :: _ => RetC T m rs res obs l ⟨N, upd τ t (.p (aggL vs)), upds η (frees ns), us⟩ ∨ RetC T m rs res obs l ⟨N, upd τ t (.ag ti.size (at_ (.p .any) (take_ ti.size (drop_ i cells)))), η, us⟩)
            | false => False)
          | none => False)
        | _ => False)
      | _ => False)
    | none => False
def PostK (T : Nat → Option TI) (m : Nat) (rv : List RV) (res : AV) (obs : List (Option Blk)) : Exit → St → Prop
  | .normal, σ => RetC T m (fsts rv) res obs (cellsOf rv) σ
  | .ret, σ => RetC T m (fsts rv) res obs (cellsOf rv) σ
  | _, _ => False

end Go.Av
