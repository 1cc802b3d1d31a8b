/- The interpreter's code level: definitions. -/
import Derived.Test.YtkoahnikmckgnaaGreatDoorWsA
set_option linter.unusedSimpArgs false
set_option linter.unusedVariables false
namespace Go.Proofs.YtkoahnikmckgnaaGreatDoor.Ws
open Go
noncomputable section

abbrev ExecA := Nat → Code → St → Option (AEx × St)

/-! ### A region whose order is drawn -/

/-- Equal for sure. -/
def vsame : Value → Value → Bool
  | .int k a, .int k' b => IntKind.beqF k k' && a == b
  | .bool a, .bool b => a == b
  | .string a, .string b => a.data.toList == b.data.toList
  | .pointer none, .pointer none => true
  | .slice none a b, .slice none c d => Nat.beq a c && Nat.beq b d
  | .map none, .map none => true
  | .nilFunc, .nilFunc => true
  | .nilIface, .nilIface => true
  | .tuple ⟨[]⟩, .tuple ⟨[]⟩ => true
  | _, _ => false

mutual
def AV.same : AV → AV → Bool
  | .raw a, .raw b => vsame a b
  | .ptr a b, .ptr c d => Nat.beq a c && Nat.beq b d
  | .slc a b c d, .slc a' b' c' d' => Nat.beq a a' && Nat.beq b b' && Nat.beq c c' && Nat.beq d d'
  | .slu a b c d, .slu a' b' c' d' => Nat.beq a a' && Nat.beq b b' && Nat.beq c c' && Nat.beq d d'
  | .emp, .emp => true
  | .map a, .map b => Nat.beq a b
  | .iface t v, .iface u w => Nat.beq t u && AV.same v w
  | .func (.func f) a b, .func (.func g) c d => Nat.beq f g && AV.sames a c && AV.sames b d
  | .agg a, .agg b => AV.sames a b
  | .tup a, .tup b => AV.sames a b
  | _, _ => false
def AV.sames : List AV → List AV → Bool
  | [], [] => true
  | a :: l, b :: m => AV.same a b && AV.sames l m
  | _, _ => false
end

/-- 0: reads nothing; 1: reads memory; 2: makes a block; 3: all else -/
def opKind (op : Op) : Nat :=
  match op with
  | .move _ | .assign _ | .pick .. | .build .. | .nilCheck _ | .binOp .. | .unOp .. | .sliceToArrayPointer .. | .makeInterface .. | .makeFunc ..
  | .slice .. | .fieldAddr .. | .field .. | .indexAddr .. | .index .. | .extract .. => 0
  | .load .. | .lookup .. => 1
  | .alloc _ | .box .. | .buildSlice .. | .makeSlice .. | .makeMap .. | .convert .. | .range .. => 2
  | .call { callee := .builtin .len, .. } => 1
  | .call { callee := .builtin .min, .. } | .call { callee := .builtin .max, .. } | .call { callee := .builtin .cap, .. } => 0
  | _ => 3

def mapCall (f : Operand → Operand) (c : Call) : Call :=
  { callee := (match c.callee with | .value x => .value (f x) | .invoke r n => .invoke (f r) n | .builtin b => .builtin b), args := c.args.map f, argTypes := c.argTypes }

/-- The same operation on other operands. -/
def mapOp (f : Operand → Operand) : Op → Op
  | .move x => .move (f x)
  | .assign x => .assign (f x)
  | .pick a b c => .pick (f a) (f b) (f c)
  | .alloc t => .alloc t
  | .box t x => .box t (f x)
  | .build t ps => .build t (ps.map fun p => (p.1, f p.2))
  | .buildSlice t n ps => .buildSlice t n (ps.map fun p => (p.1, f p.2))
  | .insert t m k v => .insert t (f m) (f k) (f v)
  | .load t a => .load t (f a)
  | .store t a v => .store t (f a) (f v)
  | .nilCheck x => .nilCheck (f x)
  | .binOp o t x y u => .binOp o t (f x) (f y) u
  | .unOp o t x => .unOp o t (f x)
  | .convert s d x => .convert s d (f x)
  | .sliceToArrayPointer d x => .sliceToArrayPointer d (f x)
  | .makeInterface t x => .makeInterface t (f x)
  | .makeFunc fn a b => .makeFunc fn (a.map f) (b.map f)
  | .makeMap t r => .makeMap t (r.map f)
  | .makeSlice t l c => .makeSlice t (f l) (f c)
  | .slice t x l h m => .slice t (f x) (l.map f) (h.map f) (m.map f)
  | .fieldAddr t x i => .fieldAddr t (f x) i
  | .field t x i => .field t (f x) i
  | .indexAddr t x i => .indexAddr t (f x) (f i)
  | .index t x i => .index t (f x) (f i)
  | .lookup t x i ok => .lookup t (f x) (f i) ok
  | .mapUpdate t m k v => .mapUpdate t (f m) (f k) (f v)
  | .range t x => .range t (f x)
  | .next it b => .next (f it) b
  | .extract x i => .extract (f x) i
  | .call c => .call (mapCall f c)
  | op => op

structure POp where
  op : Op
  guard : Option (Nat × Bool)
  kind : Nat
  lo : Nat
  hi : Nat

def edgesOf (o : Oper) : List Nat := (o.after.toList.filter fun e => Region.binds .any e).map (·.on)

def maxOf : List Nat → Nat
  | [] => 0
  | a :: l => Nat.max a (maxOf l)

/-- ranks so far (reversed), for each operation: what must have run before -/
def losOf : List Oper → List Nat → List (Nat × Nat) → List (Nat × Nat)
  | [], _, acc => acc.reverse
  | o :: l, ranks, acc =>
    let n := ranks.length
    let lo := maxOf ((edgesOf o).map fun j => ranks.getD (n - 1 - j) 0)
    match Nat.beq (opKind o.op) 3 with
    | true => losOf l ((lo + 1) :: ranks) ((lo, lo + 1) :: acc)
    | false => losOf l (lo :: ranks) ((lo, lo) :: acc)

def minAt (his : List Nat) (v : Nat) (js : List Nat) : List Nat :=
  his.zipIdx.map fun (h, j) => match js.contains j with | true => Nat.min h v | false => h

/-- from the last operation to the first: until when it may run -/
def hisOf : List (Nat × Oper × Nat × Nat) → List Nat → List Nat
  | [], his => his
  | (i, o, _, rank) :: l, his =>
    match Nat.beq (opKind o.op) 3 with
    | true => hisOf l (minAt his (rank - 1) (edgesOf o))
    | false => hisOf l (minAt his (his.getD i 0) (edgesOf o))

def writerOf (ops : List Oper) (t : Tmp) : Option Nat := ops.findIdx? fun o => o.dst == some t

/-- where an operation finds a temporary: what an operation before it gave (at nt + j), or as it was -/
def srcOf (nt : Nat) (ops : List Oper) (o : Oper) : Operand → Operand
  | .tmp t => match writerOf ops t with
    | some j => match (edgesOf o).contains j with
      | true => .tmp (nt + j)
      | false => .tmp t
    | none => .tmp t
  | x => x

def planOf (nt : Nat) (ops : List Oper) : List POp :=
  let los := losOf ops [] []
  let m := (ops.filter fun o => Nat.beq (opKind o.op) 3).length
  let his := hisOf ((ops.zip los).zipIdx.map fun ((o, lo, r), i) => (i, o, lo, r)).reverse (ops.map fun _ => m)
  (ops.zip los).zipIdx.map fun ((o, lo, _), i) =>
    { op := mapOp (srcOf nt ops o) o.op, guard := o.guard.map fun (g, b) => (nt + g, b), kind := opKind o.op, lo, hi := his.getD i 0 }

/-- what holds of a plan -/
def planOk (nt : Nat) (ops : List Oper) (ps : List POp) : Bool :=
  let m := (ps.filter fun p => Nat.beq p.kind 3).length
  let rank (p : POp) : Nat := if Nat.beq p.kind 3 then p.lo + 1 else p.lo
  Nat.beq ps.length ops.length &&
  (ops.zip ps).zipIdx.all fun ((o, p), i) =>
    -- the record
    (Nat.beq p.kind (opKind o.op)) &&
    -- edges go back
    ((edgesOf o).all fun j => Nat.blt j i) &&
    -- guard
    (match o.guard with
     | none => true
     | some (g, _) => (edgesOf o).contains g && (match ops[g]? with | some og => og.dst.isSome | none => false)) &&
    -- lo
    (Nat.beq p.lo 0 || (edgesOf o).any fun j => match ps[j]? with | some q => Nat.ble p.lo (rank q) | none => false) &&
    -- the effects are one chain
    (!(Nat.beq p.kind 3) || (Nat.blt p.lo m && ps.zipIdx.all fun (q, j) => !(Nat.beq q.kind 3 && Nat.beq q.lo p.lo) || Nat.beq i j)) &&
    -- hi
    (Nat.ble m p.hi || (ops.zip ps).zipIdx.any fun ((o', q), k) => (edgesOf o').contains i && Nat.blt i k && (if Nat.beq q.kind 3 then Nat.ble q.lo p.hi else Nat.ble q.hi p.hi)) &&
    -- temporaries
    (match o.dst with
     | some d => Nat.blt d nt && (ops.zipIdx.all fun (o', j) => !(o'.dst == some d) || Nat.beq i j)
     | none => true) &&
    (o.op.operands.toList.all fun x => match x with
      | .tmp t => Nat.blt t nt && (match writerOf ops t with
        | some j => Nat.beq i j || (edgesOf o).contains j || (match ops[j]? with | some oj => (edgesOf oj).contains i | none => false)
        | none => true)
      | _ => true)

def pwanted (tm : T AV) (p : POp) : Option Bool :=
  match p.guard with
  | none => some true
  | some (k, want) => match tm.get k with
    | some (.raw (.bool b)) => some (b == want)
    | some (.raw (.tuple _)) => some false
    | _ => none

def pexec (E : Env) (call : CallA) (tm : T AV) (H : AH) (p : POp) : Option (AV × AH) :=
  match pwanted tm p with
  | some true => aop E call (aeval tm) H p.op
  | some false => some (undefA, H)
  | none => none

def idOf : AV → Option Nat
  | .ptr id _ | .slc id _ _ _ | .slu id _ _ _ | .map id => some id
  | _ => none

/-- an operation that is no effect, out of turn -/
def qexec (E : Env) (tm : T AV) (H : AH) (p : POp) : Option (AV × AH) :=
  match pwanted tm p with
  | some true => match Nat.beq p.kind 2 with
    | true => match aalc E (aeval tm) H p.op with
      | some (.val v) => match idOf v with
        | none => some (v, H)
        | some _ => none
      | some (.blk f b) => match newBlk H b with
        | some (id, H') => match idOf (f id) with
          | some id' => match Nat.beq id id' with
            | true => some (f id, H')
            | false => none
          | none => none
        | none => none
      | none => none
    | false => match aop E (fun _ _ _ => none) (aeval tm) H p.op with
      | some (v, _) => some (v, H)
      | none => none
  | some false => some (undefA, H)
  | none => none

def runQ (E : Env) (nt : Nat) : List (POp × Nat) → T AV → AH → Option (T AV × AH)
  | [], tm, H => some (tm, H)
  | (p, i) :: l, tm, H => match qexec E tm H p with
    | some (v, H') => match tm.get (nt + i) with
      | none => runQ E nt l (tm.put (some v) (nt + i)) H'
      | some _ => none
    | none => none

def sameBlk : ABlk → ABlk → Bool
  | .cells n cs g, .cells n' cs' g' => Nat.beq n n' && (g == g') && (match loadN cs 0 n, loadN cs' 0 n with
    | some l, some l' => AV.sames l l'
    | _, _ => false)
  | .map [], .map [] => true
  | .iter s p, .iter s' p' => s.data.toList == s'.data.toList && Nat.beq p p'
  | _, _ => false

/-- the same operation once more, behind some effects -/
def again (E : Env) (tm : T AV) (H : AH) (p : POp) (u : AV) : Bool :=
  match pwanted tm p with
  | some false => true
  | some true => match Nat.beq p.kind 2 with
    | true => match aalc E (aeval tm) H p.op with
      | some (.val v) => match idOf u with
        | none => AV.same v u
        | some _ => false
      | some (.blk f b) => match idOf u with
        | some id => match H.get id with
          | some b' => AV.same (f id) u && sameBlk b b'
          | none => false
        | none => false
      | none => false
    | false => match aop E (fun _ _ _ => none) (aeval tm) H p.op with
      | some (v, _) => AV.same v u
      | none => false
  | none => false

def recheck (E : Env) (nt : Nat) (tm : T AV) (H : AH) : List (POp × Nat) → Bool
  | [] => true
  | (p, i) :: l => match tm.get (nt + i) with
    | some u => match again E tm H p u with
      | true => recheck E nt tm H l
      | false => false
    | none => false

def quietAt (ps : List POp) (s : Nat) : List (POp × Nat) := ps.zipIdx.filter fun (p, _) => !(Nat.beq p.kind 3) && Nat.beq p.lo s
def recheckAt (ps : List POp) (s : Nat) : List (POp × Nat) := ps.zipIdx.filter fun (p, _) => (Nat.beq p.kind 1 || Nat.beq p.kind 2) && Nat.blt p.lo s && Nat.ble s p.hi
def effAt (ps : List POp) (s : Nat) : Option (POp × Nat) := ps.zipIdx.find? fun (p, _) => Nat.beq p.kind 3 && Nat.beq p.lo s

def stages (E : Env) (call : CallA) (nt : Nat) (ps : List POp) : Nat → Nat → T AV → AH → Option (T AV × AH)
  | 0, _, tm, H => some (tm, H)
  | left + 1, s, tm, H => match effAt ps s with
    | some (p, i) => match pexec E call tm H p with
      | some (v, H') => match tm.get (nt + i) with
        | none => match recheck E nt (tm.put (some v) (nt + i)) H' (recheckAt ps (s + 1)) with
          | true => match runQ E nt (quietAt ps (s + 1)) (tm.put (some v) (nt + i)) H' with
            | some (tm'', H'') => stages E call nt ps left (s + 1) tm'' H''
            | none => none
          | false => none
        | some _ => none
      | none => none
    | none => none

def putDsts (nt : Nat) (vals : T AV) : List (Oper × Nat) → T AV → Option (T AV)
  | [], tm => some tm
  | (o, i) :: l, tm => match o.dst with
    | none => putDsts nt vals l tm
    | some d => match vals.get (nt + i) with
      | some v => putDsts nt vals l (tm.put (some v) d)
      | none => none

def effCount (ps : List POp) : Nat := (ps.filter fun p => Nat.beq p.kind 3).length

def adrawP (E : Env) (call : CallA) (nt : Nat) (ops : List Oper) (ps : List POp) (s : St) : Option St :=
  match runQ E nt (quietAt ps 0) s.tm s.h with
  | some (tm, H) => match stages E call nt ps (effCount ps) 0 tm H with
    | some (tm', H') => match putDsts nt tm' ops.zipIdx s.tm with
      | some tm'' => some ⟨tm'', H', s.ds⟩
      | none => none
    | none => none
  | none => none

def adraw (E : Env) (call : CallA) (nt : Nat) (ops : List Oper) (s : St) : Option St :=
  match planOk nt ops (planOf nt ops) with
  | true => adrawP E call nt ops (planOf nt ops) s
  | false => none

/-- the marks of the ranges over functions, one after the other -/
def aends : List Nat → AH → Option AH
  | [], H => some H
  | id :: l, H => match H.get id with
    | some .dfr => aends l (H.del id)
    | _ => none

def runFn (E : Env) (exec : ExecA) : CallA := fun f args H =>
  match E.fn f with
  | some F => match F.body with
    | some c => match Nat.ble args.length F.ntmps with
      | true => match exec F.ntmps c ⟨argTmps 0 args .e, H, []⟩ with
        | some (.exit _, _) => none
        | some (_, s) => match aends s.ds s.h with
          | some h => match aresults E s.tm h F.results.toList with
            | some vs => some (tupleOf vs, h)
            | none => none
          | none => none
        | none => none
      | false => none
    | none => none
  | none => none

mutual
/-- the same value n blocks further on -/
def shiftA (n : Nat) : AV → AV
  | .raw v => .raw v
  | .ptr id off => .ptr (n + id) off
  | .slc id off len cap => .slc (n + id) off len cap
  | .slu id off len sz => .slu (n + id) off len sz
  | .emp => .emp
  | .opq => .opq
  | .map id => .map (n + id)
  | .func f a b => .func f (shiftAs n a) (shiftAs n b)
  | .iface t v => .iface t (shiftA n v)
  | .agg cs => .agg (shiftAs n cs)
  | .tup vs => .tup (shiftAs n vs)
def shiftAs (n : Nat) : List AV → List AV
  | [] => []
  | v :: l => shiftA n v :: shiftAs n l
end

def T.map {α β : Type} (f : α → β) (t : T α) : T β :=
  T.rec (motive := fun _ => T β) .e (fun _ v _ ml mr => .n ml (v.map f) mr) t

def shiftBlk (n : Nat) : ABlk → ABlk
  | .cells k cs g => .cells k (cs.map (shiftA n)) g
  | .map es => .map (es.map fun p => (p.1, shiftA n p.2))
  | .iter s p => .iter s p
  | .dfr => .dfr
  | .rdy => .rdy

def addBlks (n : Nat) : List ABlk → AH → AH
  | [], H => H
  | b :: bs, H => addBlks n bs (H.new (shiftBlk n b))

def runBody (E : Env) (exec : ExecA) : CallA := fun f args H =>
  match E.hp f args H with
  | some r => some r
  | none => match E.orc f args with
    | some r => some (.raw r, H)
    | none => match E.tpl f args with
      | some (v, bs) => some (shiftA H.next v, addBlks H.next bs H)
      | none => runFn E exec f args H

def funcOf : AV → Option (Nat × List AV × List AV)
  | .func (.func g) a b => some (g, a, b)
  | .raw (.func (.func g) a b) => some (g, a.toList.map .raw, b.toList.map .raw)
  | _ => none

/-- a range over a function that gives nothing -/
def arange (E : Env) (exec : ExecA) (f : Operand) (s : St) : Option St :=
  match aeval s.tm f with
  | some v => match funcOf v with
    | some (g, first, cap) => match newBlk s.h .dfr with
      | some (d, H1) => match newBlk H1 .rdy with
        | some (r, H2) => match runFn E exec g (first ++ (.opq :: cap)) H2 with
          | some (_, H3) => match H3.get r with
            | some .rdy => some ⟨s.tm, H3.del r, d :: s.ds⟩
            | _ => none
          | none => none
        | none => none
      | none => none
    | none => none
  | none => none

def exRegion (E : Env) (ih : ExecA) (nt : Nat) (ops : Array Oper) (draw : Bool) (s : St) : Option (AEx × St) :=
  match (match draw with
    | true => adraw E (runBody E ih) nt ops.toList s
    | false => aregion E (runBody E ih) nt ops.toList ops.toList s) with
  | some s' => some (.normal, s')
  | none => none

def exSeq (ih : ExecA) (nt : Nat) (b : Code) (r : Option (AEx × St)) : Option (AEx × St) :=
  match r with
  | some (.normal, s') => ih nt b s'
  | r => r

def exCond (ih : ExecA) (nt : Nat) (x : Operand) (a b : Code) (s : St) : Option (AEx × St) :=
  match aeval s.tm x with
  | some (.raw (.bool true)) => ih nt a s
  | some (.raw (.bool false)) => ih nt b s
  | _ => none

def exBlock (id : Nat) (r : Option (AEx × St)) : Option (AEx × St) :=
  match r with
  | some (.exit j, s') => match Nat.beq j id with
    | true => some (.normal, s')
    | false => some (.exit j, s')
  | r => r

def exRange (E : Env) (ih : ExecA) (f : Operand) (s : St) : Option (AEx × St) :=
  match arange E ih f s with
  | some s' => some (.normal, s')
  | none => none

def aexec (E : Env) (fuel : Nat) : ExecA :=
  Nat.rec (motive := fun _ => ExecA) (fun _ _ _ => none) (fun _ ih nt c s =>
    Code.rec (motive := fun _ => Option (AEx × St)) (some (.normal, s)) (fun _ ops draw => exRegion E ih nt ops draw s) (fun a b _ _ => exSeq ih nt b (ih nt a s))
      (fun x a b _ _ => exCond ih nt x a b s) (fun id b _ => exBlock id (ih nt b s)) (fun b _ => exSeq ih nt (.loop b) (ih nt b s))
      (fun f _ _ _ _ _ => exRange E ih f s) (fun id => some (.exit id, s)) (fun _ _ => none) (fun _ => some (.normal, s)) (fun _ => none) (some (.ret, s)) (fun _ => none) c) fuel

theorem aexec_zero (E : Env) (nt : Nat) (c : Code) (s : St) : aexec E 0 nt c s = none := rfl
theorem aexec_succ (E : Env) (fuel : Nat) (nt : Nat) (c : Code) (s : St) : aexec E (fuel + 1) nt c s = match c with
    | .skip | .label _ => some (.normal, s)
    | .ret => some (.ret, s)
    | .exit id => some (.exit id, s)
    | .region _ ops true => match adraw E (runBody E (aexec E fuel)) nt ops.toList s with
      | some s' => some (.normal, s')
      | none => none
    | .region _ ops false => match aregion E (runBody E (aexec E fuel)) nt ops.toList ops.toList s with
      | some s' => some (.normal, s')
      | none => none
    | .seq a b => match aexec E fuel nt a s with
      | some (.normal, s') => aexec E fuel nt b s'
      | r => r
    | .cond x a b => match aeval s.tm x with
      | some (.raw (.bool true)) => aexec E fuel nt a s
      | some (.raw (.bool false)) => aexec E fuel nt b s
      | _ => none
    | .block id b => match aexec E fuel nt b s with
      | some (.exit j, s') => match Nat.beq j id with
        | true => some (.normal, s')
        | false => some (.exit j, s')
      | r => r
    | .loop b => match aexec E fuel nt b s with
      | some (.normal, s') => aexec E fuel nt (.loop b) s'
      | r => r
    | .rangeFunc f _ _ _ => match arange E (aexec E fuel) f s with
      | some s' => some (.normal, s')
      | none => none
    | _ => none := by
  cases c
  case region id ops draw => cases draw <;> rfl
  all_goals rfl

end
end Go.Proofs.YtkoahnikmckgnaaGreatDoor.Ws
