/-
  What the runner is: values, blocks, operations.
-/
import GoSem.Step
import Derived.Below
import Derived.Deep.MidRow
import Derived.Laws.IdiomCopy
import Derived.BigQuiet
import Derived.Handy
import Derived.Laws.Strings
import Derived.Laws.Strings2
import Derived.Laws.Concat
noncomputable section
set_option linter.unusedVariables false
set_option linter.unusedSimpArgs false
namespace Go.Sx

/-- A capacity: known, or the row's own less an offset. -/
inductive Cap where
  | k (n : Nat)
  | u (j : Nat)

/-- A value as the runner holds it: addresses are names, a string is its length and its bytes as one number. -/
inductive AV where
  | bool (b : Bool)
  | int (k : IntKind) (n : Int)
  | str (len n : Nat)
  | ptr (id off : Nat)
  | nilp
  | slice (id off len : Nat) (cap : Cap)
  | nilsl
  | emp (id off j alt : Nat)
  | map (id : Nat)
  | nilmap
  | fn (f : Nat) (first caps : List AV)
  | nilfn
  | ifc (t : Nat) (v : AV)
  | nilifc
  | agg (l : List AV)
  | tup (l : List AV)

/-- A tree of what stands at numbers. -/
inductive PT (α : Type) where
  | nil
  | node (v : Option α) (l r : PT α)

variable {α β : Type}

noncomputable def PT.get (t : PT α) : Nat → Option α := @PT.rec α (fun _ => Nat → Option α) (fun _ => none)
  (fun v _ _ gl gr k => @Nat.rec (fun _ => Option α) v (fun j _ => @Bool.rec (fun _ => Option α) (gr (Nat.div j 2)) (gl (Nat.div j 2)) (Nat.beq (Nat.mod j 2) 0)) k) t
theorem PT.get_nil (k : Nat) : (PT.nil : PT α).get k = none := rfl
theorem PT.get_node (v : Option α) (l r : PT α) (k : Nat) : (PT.node v l r).get k = match k with
    | 0 => v
    | j + 1 => match Nat.beq (Nat.mod j 2) 0 with
      | true => l.get (Nat.div j 2)
      | false => r.get (Nat.div j 2) := by
  cases k with
  | zero => rfl
  | succ j =>
    show @Bool.rec (fun _ => Option α) (r.get (Nat.div j 2)) (l.get (Nat.div j 2)) (Nat.beq (Nat.mod j 2) 0) = _
    simp only []
    cases Nat.beq (Nat.mod j 2) 0 <;> rfl
/-- The same, as it is compiled. -/
def PT.getC : PT α → Nat → Option α
  | .nil, _ => none
  | .node v l r, k => match k with
    | 0 => v
    | j + 1 => match Nat.beq (Nat.mod j 2) 0 with
      | true => l.getC (Nat.div j 2)
      | false => r.getC (Nat.div j 2)

theorem PT.get_eqC : @PT.get = @PT.getC := by
  funext α t
  induction t with
  | nil => rfl
  | node v l r hl hr =>
    funext k
    rw [PT.get_node]
    unfold PT.getC
    rw [hl, hr]
/-- Lays what stands at a number; the number itself bounds the way down. -/
def PT.putK : (f : Nat) → (t : PT α) → (k : Nat) → (o : Option α) → (c : PT α → β) → β
  | 0, t, _, _, c => c t
  | f + 1, t, k, o, c =>
      match t with
      | .nil => (match k with
        | 0 => c (.node o .nil .nil)
        | j + 1 => match Nat.beq (Nat.mod j 2) 0 with
          | true => putK f .nil (Nat.div j 2) o fun l' => c (.node none l' .nil)
          | false => putK f .nil (Nat.div j 2) o fun r' => c (.node none .nil r'))
      | .node v l r => (match k with
        | 0 => c (.node o l r)
        | j + 1 => match Nat.beq (Nat.mod j 2) 0 with
          | true => putK f l (Nat.div j 2) o fun l' => c (.node v l' r)
          | false => putK f r (Nat.div j 2) o fun r' => c (.node v l r'))

/-- 'putK' without what is done next. -/
noncomputable def PT.putD (f : Nat) : PT α → Nat → Option α → PT α := @Nat.rec (fun _ => PT α → Nat → Option α → PT α) (fun t _ _ => t)
  (fun _ ih t k o => @PT.rec α (fun _ => PT α)
    (@Nat.rec (fun _ => PT α) (.node o .nil .nil) (fun j _ => @Bool.rec (fun _ => PT α) (.node none .nil (ih .nil (Nat.div j 2) o)) (.node none (ih .nil (Nat.div j 2) o) .nil) (Nat.beq (Nat.mod j 2) 0)) k)
    (fun v l r _ _ => @Nat.rec (fun _ => PT α) (.node o l r) (fun j _ => @Bool.rec (fun _ => PT α) (.node v l (ih r (Nat.div j 2) o)) (.node v (ih l (Nat.div j 2) o) r) (Nat.beq (Nat.mod j 2) 0)) k) t) f
theorem PT.putD_zero (t : PT α) (k : Nat) (o : Option α) : PT.putD 0 t k o = t := rfl
theorem PT.putD_nil (f k : Nat) (o : Option α) : PT.putD (f + 1) .nil k o = match k with
    | 0 => .node o .nil .nil
    | j + 1 => if j % 2 = 0 then .node none (putD f .nil (j / 2) o) .nil else .node none .nil (putD f .nil (j / 2) o) := by
  cases k with
  | zero => rfl
  | succ j =>
    show @Bool.rec (fun _ => PT α) (.node none .nil (putD f .nil (j / 2) o)) (.node none (putD f .nil (j / 2) o) .nil) (Nat.beq (j % 2) 0) = _
    simp only []
    by_cases h : j % 2 = 0
    · rw [if_pos h, h]; rfl
    · rw [if_neg h]
      cases hb : Nat.beq (j % 2) 0 with
      | true => exact absurd (Nat.eq_of_beq_eq_true hb) h
      | false => rfl
theorem PT.putD_node (f : Nat) (v : Option α) (l r : PT α) (k : Nat) (o : Option α) : PT.putD (f + 1) (.node v l r) k o = match k with
    | 0 => .node o l r
    | j + 1 => if j % 2 = 0 then .node v (putD f l (j / 2) o) r else .node v l (putD f r (j / 2) o) := by
  cases k with
  | zero => rfl
  | succ j =>
    show @Bool.rec (fun _ => PT α) (.node v l (putD f r (j / 2) o)) (.node v (putD f l (j / 2) o) r) (Nat.beq (j % 2) 0) = _
    simp only []
    by_cases h : j % 2 = 0
    · rw [if_pos h, h]; rfl
    · rw [if_neg h]
      cases hb : Nat.beq (j % 2) 0 with
      | true => exact absurd (Nat.eq_of_beq_eq_true hb) h
      | false => rfl
/-- The same, as it is compiled. -/
def PT.putDC : (f : Nat) → (t : PT α) → (k : Nat) → (o : Option α) → PT α
  | 0, t, _, _ => t
  | f + 1, .nil, k, o => match k with
    | 0 => .node o .nil .nil
    | j + 1 => if j % 2 = 0 then .node none (putDC f .nil (j / 2) o) .nil else .node none .nil (putDC f .nil (j / 2) o)
  | f + 1, .node v l r, k, o => match k with
    | 0 => .node o l r
    | j + 1 => if j % 2 = 0 then .node v (putDC f l (j / 2) o) r else .node v l (putDC f r (j / 2) o)
theorem PT.putD_eqC : @PT.putD = @PT.putDC := by
  funext α f
  induction f with
  | zero => rfl
  | succ f ih =>
    funext t k o
    cases t with
    | nil => rw [PT.putD_nil]; unfold PT.putDC; rw [ih]
    | node v l r => rw [PT.putD_node]; unfold PT.putDC; rw [ih]
/-- A tree with something laid at a number. -/
def PT.put (t : PT α) (k : Nat) (o : Option α) : PT α := PT.putD (Nat.succ k) t k o
/-- What a block holds. -/
inductive AObj where
  | row (elem : Nat) (cells : List AV) (fz : Nat) (mk : Bool)
  | map (es : List (AV × AV × Nat)) (clock : Nat)
  | iter (len n pos : Nat)

/-- The blocks by their names, the next free name, and the older names (below 'lim') that were written. -/
structure Hp where
  m : PT AObj
  next : Nat
  lim : Nat
  log : List Nat

-- ------------------------------------------------------------------ forcing
def forceNat (n : Nat) (c : Nat → β) : β := match n with
  | 0 => c 0
  | p + 1 => c (Nat.succ p)
def forceInt (n : Int) (c : Int → β) : β := match n with
  | .ofNat m => forceNat m fun m' => c (.ofNat m')
  | .negSucc m => forceNat m fun m' => c (.negSucc m')
def forceCap (k : Cap) (c : Cap → β) : β := match k with
  | .k n => forceNat n fun n' => c (.k n')
  | .u n => forceNat n fun n' => c (.u n')
def forceBool (b : Bool) (c : Bool → β) : β := match b with
  | true => c true
  | false => c false
def forceS (v : AV) (c : AV → β) : β := match v with
  | .bool b => forceBool b fun b' => c (.bool b')
  | .int k n => forceInt n fun n' => c (.int k n')
  | .str l n => forceNat l fun l' => forceNat n fun n' => c (.str l' n')
  | .ptr i o => forceNat i fun i' => forceNat o fun o' => c (.ptr i' o')
  | .slice i o l k => forceNat i fun i' => forceNat o fun o' => forceNat l fun l' => forceCap k fun k' => c (.slice i' o' l' k')
  | .map i => forceNat i fun i' => c (.map i')
  | .emp i o j a => forceNat i fun i' => forceNat o fun o' => forceNat j fun j' => forceNat a fun a' => c (.emp i' o' j' a')
  | v => c v
def forceL : List AV → (List AV → β) → β
  | [], c => c []
  | a :: l, c => forceS a fun a' => forceL l fun l' => c (a' :: l')
def force (v : AV) (c : AV → β) : β := match v with
  | .agg l => forceL l fun l' => c (.agg l')
  | .tup l => forceL l fun l' => c (.tup l')
  | v => forceS v c
def forceO (o : AObj) (c : AObj → β) : β := match o with
  | .row e l z b => forceL l fun l' => forceNat z fun z' => c (.row e l' z' b)
  | .iter l n p => forceNat p fun p' => c (.iter l n p')
  | o => c o

-- ------------------------------------------------------------------ small functions
def nth : List α → Nat → Option α
  | [], _ => none
  | a :: l, k => match k with
    | 0 => some a
    | k + 1 => nth l k
def lenL : List α → Nat
  | [] => 0
  | _ :: l => Nat.succ (lenL l)
def app : List α → List α → List α
  | [], m => m
  | a :: l, m => a :: app l m
def dropL : List α → Nat → List α
  | [], _ => []
  | a :: l, k => match k with
    | 0 => a :: l
    | k + 1 => dropL l k
/-- The first k, if there are so many. -/
def takeL : Nat → List α → Option (List α)
  | 0, _ => some []
  | k + 1, l => match l with
    | [] => none
    | a :: l => match takeL k l with
      | some r => some (a :: r)
      | none => none
def sub? (l : List α) (off n : Nat) : Option (List α) := takeL n (dropL l off)
/-- The list with 'vs' from position k on; none where they do not fit. -/
def splice : List α → Nat → List α → Option (List α)
  | l, 0, [] => some l
  | l, 0, v :: vs => match l with
    | [] => none
    | _ :: r => match splice r 0 vs with
      | some r' => some (v :: r')
      | none => none
  | l, k + 1, vs => match l with
    | [] => none
    | a :: r => match splice r k vs with
      | some r' => some (a :: r')
      | none => none
def repl (a : α) : Nat → List α
  | 0 => []
  | k + 1 => a :: repl a k
def memN : List Nat → Nat → Bool
  | [], _ => false
  | a :: l, k => match Nat.beq a k with
    | true => true
    | false => memN l k
def mapO (f : α → Option β) : List α → Option (List β)
  | [] => some []
  | a :: l => match f a with
    | some b => (match mapO f l with
      | some r => some (b :: r)
      | none => none)
    | none => none

-- ------------------------------------------------------------------ values of the text
def packB : List UInt8 → Nat
  | [] => 0
  | b :: l => Nat.add b.toNat (Nat.mul 256 (packB l))
def ofScal : Value → Option AV
  | .bool b => some (.bool b)
  | .int k n => some (.int k n)
  | .string s => some (.str (lenL s.data.toList) (packB s.data.toList))
  | .pointer none => some .nilp
  | .slice none 0 0 => some .nilsl
  | .map none => some .nilmap
  | .nilFunc => some .nilfn
  | .nilIface => some .nilifc
  | _ => none
def ofAgg : Value → Option AV
  | .agg cs => match mapO ofScal cs.toList with
    | some l => some (.agg l)
    | none => none
  | v => ofScal v
def ofVal : Value → Option AV
  | .tuple vs => match mapO ofAgg vs.toList with
    | some l => some (.tup l)
    | none => none
  | v => ofAgg v

def ev (S : PT AV) : Operand → Option AV
  | .tmp t => S.get t
  | .const v => ofVal v
  | .global _ => none
  | .func f => some (.fn f [] [])

def cellsA : AV → List AV
  | .agg l => l
  | v => [v]

-- ------------------------------------------------------------------ integers
def top : IntKind → Nat
  | .i8 => 127 | .i16 => 32767 | .i32 => 2147483647 | .i64 => 9223372036854775807
  | .u8 => 255 | .u16 => 65535 | .u32 => 4294967295 | .u64 => 18446744073709551615
def wrapI (k : IntKind) (n : Int) : Int := match n with
  | .ofNat m => (match Nat.ble m (top k) with
    | true => .ofNat m
    | false => k.wrap (.ofNat m))
  | .negSucc m => k.wrap (.negSucc m)
def kindEq : IntKind → IntKind → Bool
  | .i8, .i8 | .i16, .i16 | .i32, .i32 | .i64, .i64 | .u8, .u8 | .u16, .u16 | .u32, .u32 | .u64, .u64 => true
  | _, _ => false
def ltI : Int → Int → Bool
  | .ofNat a, .ofNat b => Nat.blt a b
  | .ofNat _, .negSucc _ => false
  | .negSucc _, .ofNat _ => true
  | .negSucc a, .negSucc b => Nat.blt b a
def eqI : Int → Int → Bool
  | .ofNat a, .ofNat b => Nat.beq a b
  | .negSucc a, .negSucc b => Nat.beq a b
  | _, _ => false
def notB : Bool → Bool
  | true => false
  | false => true
def bitsI (op : BinOp) (k : IntKind) (a b : Int) : Option Int :=
  let slow : Option Int := match op with
    | .and => some (k.wrap ((BitVec.ofInt k.bits a &&& BitVec.ofInt k.bits b).toNat : Nat))
    | .or => some (k.wrap ((BitVec.ofInt k.bits a ||| BitVec.ofInt k.bits b).toNat : Nat))
    | .xor => some (k.wrap ((BitVec.ofInt k.bits a ^^^ BitVec.ofInt k.bits b).toNat : Nat))
    | .andNot => some (k.wrap ((BitVec.ofInt k.bits a &&& ~~~ (BitVec.ofInt k.bits b)).toNat : Nat))
    | _ => none
  match a, b with
  | .ofNat m, .ofNat n => (match Nat.ble m (top k), Nat.ble n (top k) with
    | true, true => (match op with
      | .and => some (.ofNat (Nat.land m n))
      | .or => some (.ofNat (Nat.lor m n))
      | .xor => some (.ofNat (Nat.xor m n))
      | _ => slow)
    | _, _ => slow)
  | _, _ => slow
/-- The number that an operation on two integers of a kind gives. -/
def arithI (op : BinOp) (k : IntKind) (a b : Int) : Option Int := match op with
  | .add => some (wrapI k (Int.add a b))
  | .sub => some (wrapI k (Int.sub a b))
  | .mul => some (wrapI k (Int.mul a b))
  | .quo => (match eqI b 0 with | true => none | false => some (wrapI k (Int.tdiv a b)))
  | .rem => (match eqI b 0 with | true => none | false => some (Int.tmod a b))
  | .and | .or | .xor | .andNot => bitsI op k a b
  | _ => none
def cmpI (op : BinOp) (a b : Int) : Option Bool := match op with
  | .eql => some (eqI a b)
  | .neq => some (notB (eqI a b))
  | .lss => some (ltI a b)
  | .leq => some (notB (ltI b a))
  | .gtr => some (ltI b a)
  | .geq => some (notB (ltI a b))
  | _ => none
def shiftI (op : BinOp) (k : IntKind) (a : Int) (b : Int) : Option Int := match b with
  | .negSucc _ => none
  | .ofNat y => match op with
    | .shl => some (wrapI k (Int.mul a (.ofNat (Nat.pow 2 (Nat.min y k.bits)))))
    | .shr => some (Int.fdiv a (.ofNat (Nat.pow 2 (Nat.min y k.bits))))
    | _ => none

-- ------------------------------------------------------------------ strings
def pow8 (l : Nat) : Nat := Nat.pow 2 (Nat.mul 8 l)
def byteAt (n i : Nat) : Nat := Nat.mod (Nat.div n (pow8 i)) 256
def ltB : Nat → Nat → Nat → Nat → Nat → Bool
  | 0, _, _, _, _ => false
  | f + 1, la, a, lb, b => match lb with
    | 0 => false
    | lb + 1 => match la with
      | 0 => true
      | la + 1 => match Nat.blt (Nat.mod a 256) (Nat.mod b 256) with
        | true => true
        | false => match Nat.beq (Nat.mod a 256) (Nat.mod b 256) with
          | true => ltB f la (Nat.div a 256) lb (Nat.div b 256)
          | false => false
def eqS (la a lb b : Nat) : Bool := match Nat.beq la lb with
  | true => Nat.beq (Nat.mod a (pow8 la)) (Nat.mod b (pow8 lb))
  | false => false
def ltS (la a lb b : Nat) : Bool := ltB (Nat.succ lb) la a lb b
def strBin (op : BinOp) (la a lb b : Nat) : Option AV := match op with
  | .add => (match Nat.ble (Nat.add la lb) 9223372036854775807 with
    | true => some (.str (Nat.add la lb) (Nat.add (Nat.mod a (pow8 la)) (Nat.mul b (pow8 la))))
    | false => none)
  | .eql => some (.bool (eqS la a lb b))
  | .neq => some (.bool (notB (eqS la a lb b)))
  | .lss => some (.bool (ltS la a lb b))
  | .leq => some (.bool (notB (ltS lb b la a)))
  | .gtr => some (.bool (ltS lb b la a))
  | .geq => some (.bool (notB (ltS la a lb b)))
  | _ => none
def subS (n l h : Nat) : AV := .str (Nat.sub h l) (Nat.mod (Nat.div n (pow8 l)) (pow8 (Nat.sub h l)))
/-- The bytes of a string as cells. -/
def bytesA : Nat → Nat → List AV
  | 0, _ => []
  | l + 1, n => .int .u8 (.ofNat (Nat.mod n 256)) :: bytesA l (Nat.div n 256)
/-- The string of byte cells. -/
def packA : List AV → Option Nat
  | [] => some 0
  | v :: l => match v with
    | .int .u8 (.ofNat b) => (match Nat.blt b 256, packA l with
      | true, some n => some (Nat.add b (Nat.mul 256 n))
      | _, _ => none)
    | _ => none

-- ------------------------------------------------------------------ equality
def eqScal : AV → AV → Option Bool
  | .bool a, .bool b => some (match a, b with | true, true | false, false => true | _, _ => false)
  | .int k a, .int l b => (match kindEq k l with | true => some (eqI a b) | false => none)
  | .str la a, .str lb b => some (eqS la a lb b)
  | _, _ => none
/-- Reckons '==' of two values that are no integers and no strings; 'none' where it is not told here. -/
def eqRef : TypeDesc → AV → AV → Option Bool
  | .bool, .bool a, .bool b => eqScal (.bool a) (.bool b)
  | .pointer _, .nilp, .nilp => some true
  | .pointer _, .nilp, .ptr _ _ => some false
  | .pointer _, .ptr _ _, .nilp => some false
  | .slice _, .nilsl, .nilsl => some true
  | .slice _, .nilsl, .slice .. => some false
  | .slice _, .nilsl, .emp .. => some false
  | .slice _, .emp .., .nilsl => some false
  | .slice _, .slice .., .nilsl => some false
  | .map _ _, .nilmap, .nilmap => some true
  | .map _ _, .nilmap, .map _ => some false
  | .map _ _, .map _, .nilmap => some false
  | .func _ _ _, .nilfn, .nilfn => some true
  | .func _ _ _, .nilfn, .fn .. => some false
  | .func _ _ _, .fn .., .nilfn => some false
  | _, _, _ => none

end Go.Sx

namespace Go.Sx

/-- What an operation does to the blocks: nothing, a new one (of the next free name), another content, an append (an old name goes, a new one comes). -/
inductive Upd where
  | non
  | new (o : AObj)
  | set (id : Nat) (o : AObj)
  | app (id : Nat) (o : AObj)

/-- What an operation gives: its value, and what it does to the blocks. -/
structure Eff where
  v : AV
  u : Upd

variable (P : Program)

def szT (t : Nat) : Option Nat := match P.info? t with
  | some i => some i.size
  | none => none
def zeroT (t : Nat) : Option (List AV) := match P.info? t with
  | some i => (match i.zero with
    | some z => (match ofAgg z with
      | some v => some (cellsA v)
      | none => none)
    | none => none)
  | none => none
def zeroV (t : Nat) : Option AV := match P.info? t with
  | some i => (match i.zero with
    | some z => ofAgg z
    | none => none)
  | none => none
def isAggT (t : Nat) : Option Bool := match P.underlying t with
  | some (.struct _) => some true
  | some (.array _ _) => some true
  | some _ => some false
  | none => none
def bytesT (t : Nat) : Option Nat := match P.info? t with
  | some i => some i.bytes
  | none => none

/-- A part of cells, of a type, from an offset on. -/
def partA (t : Nat) (cs : List AV) (off : Nat) : Option AV := match isAggT P t with
  | some true => (match szT P t with
    | some n => (match sub? cs off n with
      | some l => some (.agg l)
      | none => none)
    | none => none)
  | some false => nth cs off
  | none => none

variable (get : Nat → Option AObj) (next : Nat)

def opLoad (t : Nat) (a : AV) : Option Eff := match a with
  | .ptr id off => (match get id with
    | some (.row _ cs _ _) => (match partA P t cs off with
      | some v => some ⟨v, .non⟩
      | none => none)
    | _ => none)
  | _ => none

/-- Cells that may be stored one by one. -/
def oneA : AV → Bool
  | .agg _ => false
  | .tup _ => false
  | _ => true
def allOne : List AV → Bool
  | [] => true
  | v :: l => match oneA v with
    | true => allOne l
    | false => false
def opStore (t : Nat) (a x : AV) : Option Eff := match a with
  | .ptr id off => (match get id with
    | some (.row e cs fz mk) => (match szT P t with
      | some n => (match Nat.beq (lenL (cellsA x)) n, Nat.ble fz off, allOne (cellsA x) with
        | true, true, true => (match splice cs off (cellsA x) with
          | some cs' => some ⟨.tup [], .set id (.row e cs' fz mk)⟩
          | none => none)
        | _, _, _ => none)
      | none => none)
    | _ => none)
  | _ => none

/-- A new block with these cells, of this type. -/
def mkRow (e : Nat) (cs : List AV) (v : AV) : Eff := ⟨v, .new (.row e cs 0 false)⟩

def opAlloc (t : Nat) : Option Eff := match zeroT P t, szT P t with
  | some cs, some n => (match Nat.beq (lenL cs) n with
    | true => some (mkRow t cs (.ptr next 0))
    | false => none)
  | _, _ => none
def opBox (t : Nat) (x : AV) : Option Eff := match szT P t with
  | some n => (match Nat.beq (lenL (cellsA x)) n with
    | true => some (mkRow t (cellsA x) (.ptr next 0))
    | false => none)
  | none => none

/-- Lays parts into cells: each at its place, of its size. -/
def fillA (place : Nat → Option (Nat × Nat)) : List AV → List (Nat × AV) → Option (List AV)
  | cs, [] => some cs
  | cs, (i, v) :: rest => match place i with
    | some (off, size) => (match Nat.beq (lenL (cellsA v)) size with
      | true => (match splice cs off (cellsA v) with
        | some cs' => fillA place cs' rest
        | none => none)
      | false => none)
    | none => none
def fieldPlaceA (fs : List Field) (i : Nat) : Option (Nat × Nat) := match nth fs i with
  | some f => (match szT P f.type with
    | some n => some (f.offset, n)
    | none => none)
  | none => none
/-- All fields' types are known. -/
def sizesOk : List Field → Bool
  | [] => true
  | f :: fs => match szT P f.type with
    | some _ => sizesOk fs
    | none => false
def opBuild (t : Nat) (parts : List (Nat × AV)) : Option Eff := match zeroT P t with
  | some cs => (match P.underlying t with
    | some (.struct fs) => (match sizesOk P fs.toList, fillA (fieldPlaceA P fs.toList) cs parts with
      | true, some cs' => some ⟨.agg cs', .non⟩
      | _, _ => none)
    | some (.array _ e) => (match szT P e with
      | some n => (match fillA (fun i => some (Nat.mul i n, n)) cs parts with
        | some cs' => some ⟨.agg cs', .non⟩
        | none => none)
      | none => none)
    | _ => none)
  | none => none
/-- A list n times over. -/
def times (l : List AV) : Nat → List AV
  | 0 => []
  | n + 1 => app l (times l n)
def opBuildSlice (t len : Nat) (parts : List (Nat × AV)) : Option Eff := match P.underlying t with
  | some (.slice e) => (match szT P e, zeroT P e with
    | some n, some z => (match Nat.beq (lenL z) n, Nat.ble (Nat.mul len n) 16777216, Nat.beq n 0 with
      | true, true, false => (match fillA (fun i => some (Nat.mul i n, n)) (times z len) parts with
        | some cs => some (mkRow e cs (.slice next 0 len (.k len)))
        | none => none)
      | _, _, _ => none)
    | _, _ => none)
  | _ => none

def opField (t : Nat) (x : AV) (i : Nat) : Option Eff := match x with
  | .agg cs => (match P.underlying t with
    | some (.struct fs) => (match nth fs.toList i with
      | some f => (match partA P f.type cs f.offset with
        | some v => some ⟨v, .non⟩
        | none => none)
      | none => none)
    | _ => none)
  | _ => none
def opFieldAddr (t : Nat) (x : AV) (i : Nat) : Option Eff := match x with
  | .ptr id off => (match P.underlying t with
    | some (.struct fs) => (match nth fs.toList i with
      | some f => (match szT P f.type with
        | some 0 => none
        | some _ => some ⟨.ptr id (Nat.add off f.offset), .non⟩
        | none => none)
      | none => none)
    | _ => none)
  | _ => none
def opIndexAddr (t : Nat) (x ix : AV) : Option Eff := match ix with
  | .int _ (.ofNat i) => (match P.underlying t with
    | some (.array len e) => (match x, szT P e with
      | .ptr id off, some n => (match Nat.blt i len with
        | true => some ⟨.ptr id (Nat.add off (Nat.mul i n)), .non⟩
        | false => none)
      | _, _ => none)
    | some (.slice e) => (match x, szT P e with
      | .slice id off len _, some n => (match Nat.blt i len with
        | true => some ⟨.ptr id (Nat.add off (Nat.mul i n)), .non⟩
        | false => none)
      | _, _ => none)
    | _ => none)
  | _ => none
def opIndex (t : Nat) (x ix : AV) : Option Eff := match ix with
  | .int _ (.ofNat i) => (match P.underlying t, x with
    | some (.array len e), .agg cs => (match Nat.blt i len, szT P e with
      | true, some n => (match partA P e cs (Nat.mul i n) with
        | some v => some ⟨v, .non⟩
        | none => none)
      | _, _ => none)
    | some .string, .str l n => (match Nat.blt i l with
      | true => some ⟨.int .u8 (.ofNat (byteAt n i)), .non⟩
      | false => none)
    | _, _ => none)
  | _ => none

/-- A bound that may be left out. -/
def bound (o : Option AV) (d : Nat) : Option Nat := match o with
  | none => some d
  | some (.int _ (.ofNat i)) => some i
  | _ => none
def cutK (id off n a b m : Nat) : AV := match Nat.beq m a with
  | true => .slice id off (Nat.sub b a) (.k (Nat.sub m a))
  | false => .slice id (Nat.add off (Nat.mul a n)) (Nat.sub b a) (.k (Nat.sub m a))
/-- A third bound stands only beside a second one. -/
def mxOk : Option AV → Option AV → Bool
  | some _, none => false
  | _, _ => true
def opSlice (t : Nat) (x : AV) (lo hi mx : Option AV) : Option Eff := match x with
  | .str l n => (match P.underlying t, mx, bound lo 0, bound hi l with
    | some .string, none, some a, some b => (match Nat.ble a b, Nat.ble b l with
      | true, true => some ⟨subS n a b, .non⟩
      | _, _ => none)
    | _, _, _, _ => none)
  | .emp id off j alt => (match P.underlying t, mx with
    | some (.slice e), none => (match szT P e, bound lo 0, bound hi 0 with
      | some _, some a, some b => (match Nat.beq a 0, Nat.beq b 0 with
        | true, true => some ⟨.emp id off j alt, .non⟩
        | _, _ => none)
      | _, _, _ => none)
    | _, _ => none)
  | .nilsl => (match P.underlying t, mxOk mx hi with
    | some (.slice e), true => (match szT P e, bound lo 0, bound hi 0, bound mx 0 with
      | some _, some a, some b, some m => (match Nat.beq a 0, Nat.beq b 0, Nat.beq m 0 with
        | true, true, true => some ⟨.nilsl, .non⟩
        | _, _, _ => none)
      | _, _, _, _ => none)
    | _, _ => none)
  | .slice id off len (.k c) => (match P.underlying t, mxOk mx hi with
    | some (.slice e), true => (match szT P e, bound lo 0, bound hi len, bound mx c with
      | some n, some a, some b, some m => (match Nat.ble a b, Nat.ble b m, Nat.ble m c with
        | true, true, true => some ⟨cutK id off n a b m, .non⟩
        | _, _, _ => none)
      | _, _, _, _ => none)
    | _, _ => none)
  | .slice id off len (.u j) => (match P.underlying t, mx with
    | some (.slice e), none => (match szT P e, bound lo 0, bound hi len with
      | some n, some a, some b => (match Nat.ble a b, Nat.ble b len with
        | true, true => (match Nat.beq a 0, Nat.blt a len with
          | false, false => some ⟨.emp id (Nat.add off (Nat.mul a n)) (Nat.add j a) off, .non⟩
          | _, _ => some ⟨.slice id (Nat.add off (Nat.mul a n)) (Nat.sub b a) (.u (Nat.add j a)), .non⟩)
        | _, _ => none)
      | _, _, _ => none)
    | some (.slice e), some _ => (match mxOk mx hi, szT P e, bound lo 0, bound hi len, bound mx 0 with
      | true, some n, some a, some b, some m => (match Nat.ble a b, Nat.ble b m, Nat.ble m len with
        | true, true, true => some ⟨cutK id off n a b m, .non⟩
        | _, _, _ => none)
      | _, _, _, _, _ => none)
    | _, _ => none)
  | .ptr id off => (match P.underlying t, mxOk mx hi with
    | some (.array c e), true => (match szT P e, bound lo 0, bound hi c, bound mx c with
      | some n, some a, some b, some m => (match Nat.ble a b, Nat.ble b m, Nat.ble m c with
        | true, true, true => some ⟨cutK id off n a b m, .non⟩
        | _, _, _ => none)
      | _, _, _, _ => none)
    | _, _ => none)
  | _ => none

def opLen (t : Nat) (x : AV) : Option Eff := match P.underlying t, x with
  | some .string, .str l _ => some ⟨.int .i64 (.ofNat l), .non⟩
  | some (.slice _), .slice _ _ l _ => some ⟨.int .i64 (.ofNat l), .non⟩
  | some (.slice _), .nilsl => some ⟨.int .i64 (.ofNat 0), .non⟩
  | some (.slice _), .emp .. => some ⟨.int .i64 (.ofNat 0), .non⟩
  | some (.array n _), _ => some ⟨.int .i64 (.ofNat n), .non⟩
  | some (.map _ _), .nilmap => some ⟨.int .i64 (.ofNat 0), .non⟩
  | some (.map _ _), .map id => (match get id with
    | some (.map es _) => some ⟨.int .i64 (.ofNat (lenL es)), .non⟩
    | _ => none)
  | _, _ => none
def opCap (t : Nat) (x : AV) : Option Eff := match P.underlying t, x with
  | some (.slice _), .slice _ _ _ (.k c) => some ⟨.int .i64 (.ofNat c), .non⟩
  | some (.slice _), .nilsl => some ⟨.int .i64 (.ofNat 0), .non⟩
  | _, _ => none

/-- The length of what is appended or copied. -/
def lenA : AV → Option Nat
  | .str l _ => some l
  | .slice _ _ l _ => some l
  | .nilsl => some 0
  | .emp .. => some 0
  | _ => none
/-- The first cells of what is appended or copied: 'n' elements of 'size' cells. -/
def firstA (size n : Nat) : AV → Option (List AV)
  | .str l b => (match Nat.ble n l, Nat.beq size 1 with
    | true, true => some (bytesA n b)
    | _, _ => none)
  | .slice id off _ _ => (match get id with
    | some (.row _ cs _ _) => sub? cs off (Nat.mul n size)
    | _ => none)
  | .nilsl => (match n with
    | 0 => some []
    | _ => none)
  | .emp .. => (match n with
    | 0 => some []
    | _ => none)
  | _ => none
def orB : Bool → Bool → Bool
  | true, _ => true
  | false, b => b
/-- What may be appended or copied: a slice or a string. -/
def srcT (t : Nat) : Bool := match P.underlying t with
  | some (.slice _) => true
  | some .string => true
  | _ => false
/-- A new array of so many elements is no more than the model bears. -/
def fits (n eb : Nat) : Bool := Nat.ble (Nat.mul (Nat.mul 200 n) (Nat.succ eb)) 281474976710656
def appNil (e eb : Nat) (n : Nat) (new : List AV) : Option Eff := match Nat.beq n 0 with
  | true => some ⟨.nilsl, .non⟩
  | false => (match fits n eb with
    | true => some (mkRow e new (.slice next 0 n (.u 0)))
    | false => none)
def appK (e eb size id off len c n : Nat) (new : List AV) : Option Eff := match get id with
  | some (.row e0 cs fz mk) => (match Nat.ble (Nat.add len n) c with
    | true => (match splice cs (Nat.add off (Nat.mul len size)) new, Nat.ble fz (Nat.add off (Nat.mul len size)) with
      | some cs', true => some ⟨.slice id off (Nat.add len n) (.k c), .set id (.row e0 cs' fz mk)⟩
      | _, _ => none)
    | false => (match fits (Nat.add len n) eb, sub? cs off (Nat.mul len size) with
      | true, some old => some (mkRow e (app old new) (.slice next 0 (Nat.add len n) (.u 0)))
      | _, _ => none))
  | _ => none
def appU (e eb size id off len j n : Nat) (new : List AV) : Option Eff := match get id with
  | some (.row e0 cs fz mk) => (match Nat.beq e0 e, Nat.beq off (Nat.mul j size), Nat.ble fz (Nat.add off (Nat.mul len size)), sub? cs off (Nat.mul len size), fits (Nat.add len n) eb with
    | true, true, true, some old, true => some ⟨.slice next 0 (Nat.add len n) (.u 0), .app id (.row e (app old new) (Nat.sub fz off) (orB mk (notB (Nat.beq off 0))))⟩
    | _, _, _, _, _ => none)
  | _ => none
def opAppend (types : List Nat) (s x : AV) : Option Eff := match types with
  | [st, xt] => (match P.underlying st, srcT P xt with
    | some (.slice e), true => (match szT P e, bytesT P e, zeroT P e, lenA x with
      | some size, some eb, some z, some n => (match Nat.beq size 0, firstA get size n x, Nat.beq (lenL z) size with
        | false, some new, true => (match allOne new with
          | true => (match s with
            | .nilsl => appNil next e eb n new
            | .slice id off len (.k c) => appK get next e eb size id off len c n new
            | .slice id off len (.u j) => (match Nat.beq n 0 with
              | true => some ⟨.slice id off len (.u j), .non⟩
              | false => appU get next e eb size id off len j n new)
            | .emp id off j alt => (match Nat.beq n 0 with
              | true => some ⟨.emp id off j alt, .non⟩
              | false => appU get next e eb size id off 0 j n new)
            | _ => none)
          | false => none)
        | _, _, _ => none)
      | _, _, _, _ => none)
    | _, _ => none)
  | _ => none
def opCopy (types : List Nat) (d x : AV) : Option Eff := match types with
  | dt :: _ => (match P.underlying dt with
    | some (.slice e) => (match szT P e, lenA x with
      | some size, some l => (match d with
        | .slice id off dl _ => (match firstA get size (Nat.min l dl) x, get id with
          | some new, some (.row e' cs fz mk) => (match splice cs off new, Nat.ble fz off, allOne new with
            | some cs', true, true => some ⟨.int .i64 (.ofNat (Nat.min l dl)), .set id (.row e' cs' fz mk)⟩
            | _, _, _ => none)
          | _, _ => none)
        | _ => none)
      | _, _ => none)
    | _ => none)
  | _ => none
def minA (mx : Bool) : AV → List AV → Option AV
  | a, [] => some a
  | .int k x, .int _ y :: l => (match mx with
    | true => (match ltI x y with
      | true => minA mx (.int k y) l
      | false => minA mx (.int k x) l)
    | false => (match ltI y x with
      | true => minA mx (.int k y) l
      | false => minA mx (.int k x) l))
  | _, _ => none

/-- The types of keys that are told here. -/
def keyT (t : Nat) : Bool := match P.underlying t with
  | some (.int _) => true
  | some .string => true
  | some .bool => true
  | _ => false
def keyEq (k : TypeDesc) (a b : AV) : Option Bool := match k, a, b with
  | .int _, .int _ _, .int _ _ => eqScal a b
  | .string, .str _ _, .str _ _ => eqScal a b
  | .bool, .bool _, .bool _ => eqScal a b
  | _, _, _ => none
/-- The place and the value of a key. -/
def findA (kt : TypeDesc) (k : AV) : List (AV × AV × Nat) → Nat → Option (Option (Nat × AV))
  | [], _ => some none
  | (k', v, _) :: es, i => match keyEq kt k k' with
    | some true => some (some (i, v))
    | some false => findA kt k es (Nat.succ i)
    | none => none
def setEntry (k v : AV) : List (AV × AV × Nat) → Nat → List (AV × AV × Nat)
  | [], _ => []
  | (k', v', b) :: es, i => match i with
    | 0 => (k, v, b) :: es
    | i + 1 => (k', v', b) :: setEntry k v es i
def pushE (e : AV × AV × Nat) : List (AV × AV × Nat) → List (AV × AV × Nat)
  | [] => [e]
  | x :: es => x :: pushE e es
def opLookup (t : Nat) (m k : AV) (ok : Bool) : Option Eff := match P.underlying t with
  | some (.map kt et) => (match keyT P kt, P.underlying kt, zeroV P et with
    | true, some kd, some z =>
      (match (match m with
        | .nilmap => some ([] : List (AV × AV × Nat))
        | .map id => (match get id with
          | some (.map es _) => some es
          | _ => none)
        | _ => none) with
      | some es => (match findA kd k es 0 with
        | some (some (_, v)) => (match ok with
          | true => some ⟨.tup [v, .bool true], .non⟩
          | false => some ⟨v, .non⟩)
        | some none => (match ok with
          | true => some ⟨.tup [z, .bool false], .non⟩
          | false => some ⟨z, .non⟩)
        | none => none)
      | none => none)
    | _, _, _ => none)
  | _ => none
def opUpdate (t : Nat) (m k v : AV) : Option Eff := match P.underlying t, m with
  | some (.map kt _), .map id => (match keyT P kt, P.underlying kt, get id with
    | true, some kd, some (.map es clock) => (match findA kd k es 0 with
      | some (some (i, _)) => some ⟨.tup [], .set id (.map (setEntry k v es i) clock)⟩
      | some none => some ⟨.tup [], .set id (.map (pushE (k, v, clock) es) (Nat.succ clock))⟩
      | none => none)
    | _, _, _ => none)
  | _, _ => none

def encA (c : Nat) : AV :=
  match Nat.blt c 128 with
  | true => .str 1 c
  | false => match Nat.blt c 2048 with
    | true => .str 2 (Nat.add (Nat.add 192 (Nat.div c 64)) (Nat.mul 256 (Nat.add 128 (Nat.mod c 64))))
    | false => match Nat.blt c 65536 with
      | true => .str 3 (Nat.add (Nat.add 224 (Nat.div c 4096)) (Nat.mul 256 (Nat.add (Nat.add 128 (Nat.mod (Nat.div c 64) 64)) (Nat.mul 256 (Nat.add 128 (Nat.mod c 64))))))
      | false => .str 4 (Nat.add (Nat.add 240 (Nat.div c 262144)) (Nat.mul 256 (Nat.add (Nat.add 128 (Nat.mod (Nat.div c 4096) 64)) (Nat.mul 256 (Nat.add (Nat.add 128 (Nat.mod (Nat.div c 64) 64)) (Nat.mul 256 (Nat.add 128 (Nat.mod c 64))))))))
def opConvert (src dst : Nat) (x : AV) : Option Eff := match P.underlying src, P.underlying dst, x with
  | some _, some (.int k), .int _ n => some ⟨.int k (wrapI k n), .non⟩
  | some _, some .string, .int _ (.ofNat c) => (match Nat.blt c 55296 with
    | true => some ⟨encA c, .non⟩
    | false => none)
  | some _, some .string, .str l n => some ⟨.str l n, .non⟩
  | some _, some (.slice e), .str l n => (match P.underlying e, szT P e with
    | some (.int .u8), some 1 => some ⟨.slice next 0 l (.u 0), .new (.row e (bytesA l n) 0 true)⟩
    | _, _ => none)
  | some (.slice e), some .string, .nilsl => (match P.underlying e with
    | some (.int .u8) => some ⟨.str 0 0, .non⟩
    | _ => none)
  | some (.slice e), some .string, .slice id off len _ => (match P.underlying e, get id with
    | some (.int .u8), some (.row _ cs _ _) => (match sub? cs off len with
      | some l => (match packA l with
        | some n => some ⟨.str len n, .non⟩
        | none => none)
      | none => none)
    | _, _ => none)
  | _, _, _ => none

def opMakeSlice (t : Nat) (len cap : AV) : Option Eff := match P.underlying t, len, cap with
  | some (.slice e), .int _ (.ofNat l), .int _ (.ofNat c) => (match szT P e, zeroT P e, bytesT P e with
    | some n, some z, some eb => (match Nat.beq (lenL z) n, Nat.beq n 0, Nat.ble l c, Nat.ble c 4194304, Nat.ble eb 1048576 with
      | true, false, true, true, true => some (mkRow e (times z c) (.slice next 0 l (.k c)))
      | _, _, _, _, _ => none)
    | _, _, _ => none)
  | _, _, _ => none

/-- '==' at a type, to a depth. -/
def equalA : Nat → Nat → AV → AV → Option Bool
  | 0, _, _, _ => none
  | d + 1, t, x, y => match P.underlying t with
    | some (.struct fs) => (match x, y with
      | .agg xs, .agg ys => (match P.stoodInHeld t with
        | true => none
        | false => go (equalA d) xs ys fs.toList)
      | _, _ => none)
    | some .bool => (match x, y with
      | .bool _, .bool _ => eqScal x y
      | _, _ => none)
    | some (.int _) => (match x, y with
      | .int _ _, .int _ _ => eqScal x y
      | _, _ => none)
    | some .string => (match x, y with
      | .str _ _, .str _ _ => eqScal x y
      | _, _ => none)
    | some k => eqRef k x y
    | none => none
where
  go (rec : Nat → AV → AV → Option Bool) (xs ys : List AV) : List Field → Option Bool
    | [] => some true
    | f :: fs => match (if f.name = "_" then some (some true) else (match partA P f.type xs f.offset, partA P f.type ys f.offset with
        | some a, some b => some (rec f.type a b)
        | _, _ => none)) with
      | some (some true) => go rec xs ys fs
      | some (some false) => some false
      | _ => none
def isAggV : AV → Bool
  | .agg _ => true
  | _ => false
/-- What stands in the way of '==' at two structs: an interface type with methods in a part. -/
def guardOk (t : Nat) (x : AV) : Bool := match isAggV x with
  | true => notB (P.eqGuardType P.depth t)
  | false => match x with
    | .nilifc => false
    | _ => true
def opBin (op : BinOp) (t : Nat) (x y : AV) : Option Eff := match x, y with
  | .int k a, .int k' b => (match op with
    | .shl => (match shiftI .shl k a b with
      | some n => some ⟨.int k n, .non⟩
      | none => none)
    | .shr => (match shiftI .shr k a b with
      | some n => some ⟨.int k n, .non⟩
      | none => none)
    | _ => (match kindEq k k' with
      | true => (match arithI op k a b with
        | some n => some ⟨.int k n, .non⟩
        | none => (match cmpI op a b with
          | some r => some ⟨.bool r, .non⟩
          | none => none))
      | false => none))
  | .str la a, .str lb b => (match strBin op la a lb b with
    | some v => some ⟨v, .non⟩
    | none => none)
  | _, _ => (match op with
    | .eql => (match guardOk P t x, equalA P 8 t x y with
      | true, some r => some ⟨.bool r, .non⟩
      | _, _ => none)
    | .neq => (match guardOk P t x, equalA P 8 t x y with
      | true, some r => some ⟨.bool (notB r), .non⟩
      | _, _ => none)
    | _ => none)
def opUn (op : UnOp) (x : AV) : Option Eff := match op, x with
  | .not, .bool b => some ⟨.bool (notB b), .non⟩
  | .neg, .int k n => some ⟨.int k (wrapI k (Int.sub 0 n)), .non⟩
  | .xor, .int k n => (match bitsI .xor k (if k.signed then -1 else k.max) n with
    | some r => some ⟨.int k r, .non⟩
    | none => none)
  | _, _ => none

def evs (S : PT AV) : List Operand → Option (List AV)
  | [] => some []
  | x :: l => match ev S x with
    | some v => (match evs S l with
      | some r => some (v :: r)
      | none => none)
    | none => none
def evP (S : PT AV) : List (Nat × Operand) → Option (List (Nat × AV))
  | [] => some []
  | (i, x) :: l => match ev S x with
    | some v => (match evP S l with
      | some r => some ((i, v) :: r)
      | none => none)
    | none => none
def evO (S : PT AV) : Option Operand → Option (Option AV)
  | none => some none
  | some x => match ev S x with
    | some v => some (some v)
    | none => none
def opSliceData : AV → Option Eff
  | .nilsl => some ⟨.nilp, .non⟩
  | .slice id off len (.k c) => (match Nat.beq c 0 with
    | true => none
    | false => some ⟨.ptr id off, .non⟩)
  | .slice id off len (.u _) => (match Nat.beq len 0 with
    | true => none
    | false => some ⟨.ptr id off, .non⟩)
  | _ => none
def opUString (types : List Nat) (p n : AV) : Option Eff := match types, n with
  | [pt, _], .int .i64 (.ofNat n) => (match Nat.beq n 0 with
    | true => (match p with
      | .nilp => some ⟨.str 0 0, .non⟩
      | .ptr _ _ => some ⟨.str 0 0, .non⟩
      | _ => none)
    | false => (match p with
      | .ptr id off => (match get id, Nat.beq off 0 with
        | some (.row e cs fz false), true => (match P.underlying pt, P.underlying e, szT P e, sub? cs 0 n, Nat.ble n 9223372036854775807 with
          | some (.pointer pe), some (.int .u8), some 1, some l, true => (match Nat.beq e pe, packA l with
            | true, some k => some ⟨.str n k, .set id (.row e cs (Nat.max fz n) false)⟩
            | _, _ => none)
          | _, _, _, _, _ => none)
        | _, _ => none)
      | _ => none))
  | _, _ => none
def opBuiltin (b : Builtin) (types : List Nat) (args : List AV) : Option Eff := match b, args with
  | .len, [x] => (match types with
    | t :: _ => opLen P get t x
    | [] => none)
  | .cap, [x] => (match types with
    | t :: _ => opCap P t x
    | [] => none)
  | .append, [s, x] => opAppend P get next types s x
  | .copy, [d, x] => opCopy P get types d x
  | .unsafeSliceData, [x] => opSliceData x
  | .unsafeString, [p, n] => opUString P get types p n
  | .min, x :: l => (match minA false x l with
    | some v => some ⟨v, .non⟩
    | none => none)
  | .max, x :: l => (match minA true x l with
    | some v => some ⟨v, .non⟩
    | none => none)
  | _, _ => none

/-- What an operation gives that calls no function. -/
def aop (o : Op) (S : PT AV) : Option Eff := match o with
  | .move x => (match ev S x with
    | some v => some ⟨v, .non⟩
    | none => none)
  | .assign x => (match ev S x with
    | some v => some ⟨v, .non⟩
    | none => none)
  | .pick c a b => (match ev S c with
    | some (.bool true) => (match ev S a with
      | some v => some ⟨v, .non⟩
      | none => none)
    | some (.bool false) => (match ev S b with
      | some v => some ⟨v, .non⟩
      | none => none)
    | _ => none)
  | .alloc t => opAlloc P next t
  | .box t x => (match ev S x with
    | some v => opBox P next t v
    | none => none)
  | .build t ps => (match evP S ps.toList with
    | some l => opBuild P t l
    | none => none)
  | .buildSlice t n ps => (match evP S ps.toList with
    | some l => opBuildSlice P next t n l
    | none => none)
  | .load t a => (match ev S a with
    | some v => opLoad P get t v
    | none => none)
  | .store t a x => (match ev S a, ev S x with
    | some p, some v => opStore P get t p v
    | _, _ => none)
  | .nilCheck x => (match ev S x with
    | some (.ptr i o) => some ⟨.ptr i o, .non⟩
    | some (.fn f a b) => some ⟨.fn f a b, .non⟩
    | _ => none)
  | .binOp op t x y _ => (match ev S x, ev S y with
    | some a, some b => opBin P op t a b
    | _, _ => none)
  | .unOp op _ x => (match ev S x with
    | some a => opUn op a
    | none => none)
  | .convert s d x => (match ev S x with
    | some a => opConvert P get next s d a
    | none => none)
  | .makeFunc (.func f) first caps => (match evs S first.toList, evs S caps.toList with
    | some a, some b => some ⟨.fn f a b, .non⟩
    | _, _ => none)
  | .makeMap _ none => some ⟨.map next, .new (.map [] 0)⟩
  | .makeSlice t l c => (match ev S l, ev S c with
    | some a, some b => opMakeSlice P next t a b
    | _, _ => none)
  | .slice t x lo hi mx => (match ev S x, evO S lo, evO S hi, evO S mx with
    | some v, some a, some b, some c => opSlice P t v a b c
    | _, _, _, _ => none)
  | .fieldAddr t x i => (match ev S x with
    | some v => opFieldAddr P t v i
    | none => none)
  | .field t x i => (match ev S x with
    | some v => opField P t v i
    | none => none)
  | .indexAddr t x i => (match ev S x, ev S i with
    | some v, some j => opIndexAddr P t v j
    | _, _ => none)
  | .index t x i => (match ev S x, ev S i with
    | some v, some j => opIndex P t v j
    | _, _ => none)
  | .lookup t x i ok => (match ev S x, ev S i with
    | some v, some j => opLookup P get t v j ok
    | _, _ => none)
  | .mapUpdate t m k v => (match ev S m, ev S k, ev S v with
    | some m, some k, some v => opUpdate P get t m k v
    | _, _, _ => none)
  | .insert t m k v => (match ev S m, ev S k, ev S v with
    | some m, some k, some v => opUpdate P get t m k v
    | _, _, _ => none)
  | .extract t i => (match ev S t with
    | some (.tup l) => (match nth l i with
      | some v => some ⟨v, .non⟩
      | none => none)
    | _ => none)
  | .call c => (match c.callee with
    | .builtin b => (match evs S c.args.toList with
      | some l => opBuiltin P get next b c.argTypes.toList l
      | none => none)
    | _ => none)
  | _ => none

end Go.Sx

namespace Go.Sx

inductive AX where
  | normal
  | exit (id : Nat)
  | ret

inductive Res where
  | no
  | ok (x : AX) (S : PT AV) (H : Hp)

inductive Out where
  | no
  | ok (v : AV) (H : Hp)

/-- Code for short: what a smaller measure runs. -/
abbrev Run := Nat → Code → PT AV → Hp → Res
abbrev Orc := Nat → List AV → (Nat → Option AObj) → Nat → Option Eff
abbrev Big := Nat → List AV → Hp → Option (AV × Hp)

/-- The blocks behind an effect. -/
def layH (id : Nat) (o : Option AObj) (H : Hp) : Hp := ⟨H.m.put id o, H.next, H.lim, if id < H.lim ∧ id ∉ H.log then id :: H.log else H.log⟩
def newH (o : AObj) (H : Hp) : Hp := ⟨H.m.put H.next (some o), H.next + 1, H.lim, H.log⟩
def Upd.onto (H : Hp) : Upd → Hp
  | .non => H
  | .new o => newH o H
  | .set id o => layH id (some o) H
  | .app id o => newH o (layH id none H)
/-- The name that an effect turns. -/
def Upd.on : Upd → Option Nat
  | .set id _ => some id
  | .app id _ => some id
  | _ => none

def putS (nt : Nat) (dst : Option Nat) (v : AV) (S : PT AV) : Option (PT AV) := match dst with
  | none => some S
  | some d => if d < nt then some (S.put d (some v)) else none

def dstAt : List Oper → Nat → Option Nat
  | [], _ => none
  | o :: os, k => match k with
    | 0 => o.dst
    | k + 1 => dstAt os k
/-- Whether an operation is to be done. -/
def wantedA (all : List Oper) (g : Option (Nat × Bool)) (S : PT AV) : Option Bool := match g with
  | none => some true
  | some (j, want) => match dstAt all j with
    | none => some false
    | some t => match S.get t with
      | some (.bool b) => some (match b, want with
        | true, true => true
        | false, false => true
        | _, _ => false)
      | some (.tup _) => some false
      | _ => none

def fromArgs : List AV → Nat → PT AV → PT AV
  | [], _, S => S
  | v :: l, k, S => fromArgs l (k + 1) (S.put k (some v))

def resultsA (P : Program) (get : Nat → Option AObj) (S : PT AV) : List ResultVar → Option (List AV)
  | [] => some []
  | .tmp t :: l => (match S.get t, resultsA P get S l with
    | some v, some r => some (v :: r)
    | _, _ => none)
  | .cell a t :: l => (match S.get a with
    | some (.ptr id off) => (match get id with
      | some (.row _ cs _ _) => (match partA P t cs off, resultsA P get S l with
        | some v, some r => some (v :: r)
        | _, _ => none)
      | _ => none)
    | _ => none)
def oneOf : List AV → AV
  | [v] => v
  | l => .tup l

section
variable (P : Program) (fnAt : Nat → Option Func) (orc : Orc) (big : Big)

/-- Blocks laid open, then what is done next. -/
def openH {β : Type} (H : Hp) (c : Hp → β) : β := match H with
  | ⟨m, n, l, g⟩ => forceNat n fun n' => c ⟨m, n', l, g⟩
theorem openH_eq {β : Type} (H : Hp) (c : Hp → β) : openH H c = c H := by
  obtain ⟨m, n, l, g⟩ := H
  cases n <;> rfl
def callR (ih : Run) (f : Nat) (args : List AV) (H : Hp) : Option (AV × Hp) := match orc f args H.m.get H.next with
  | some e => openH (e.u.onto H) fun H' => some (e.v, H')
  | none => match big f args H with
  | some (v, H') => openH H' fun H' => some (v, H')
  | none => match fnAt f with
    | some fn => (match fn.body with
      | some code => (match ih fn.ntmps code (fromArgs args 0 .nil) H with
        | .ok x S' H' => (match x with
          | .exit _ => none
          | _ => match resultsA P H'.m.get S' fn.results.toList with
            | some l => some (oneOf l, H')
            | none => none)
        | .no => none)
      | none => none)
    | none => none

/-- The function and the arguments of a call that is no builtin's. -/
def callOf (o : Op) (S : PT AV) : Option (Option (Nat × List AV)) := match o with
  | .call k => (match k.callee with
    | .value f => (match ev S f, evs S k.args.toList with
      | some (.fn f first caps), some args => some (some (f, app first (app args caps)))
      | _, _ => none)
    | _ => some none)
  | _ => some none

def opR (ih : Run) (o : Op) (S : PT AV) (H : Hp) : Option (AV × Hp) := match callOf o S with
  | some (some (f, args)) => callR P fnAt orc big ih f args H
  | some none => (match aop P H.m.get H.next o S with
    | some e => openH (e.u.onto H) fun H' => some (e.v, H')
    | none => none)
  | none => none

/-- A region in the text's order. -/
def opsR (ih : Run) (nt : Nat) (all : List Oper) : List Oper → PT AV → Hp → Option (PT AV × Hp)
  | [], S, H => some (S, H)
  | o :: os, S, H => match wantedA all o.guard S with
    | some true => (match opR P fnAt orc big ih o.op S H with
      | some (v, H') => (match putS nt o.dst v S with
        | some S' => opsR ih nt all os S' H'
        | none => none)
      | none => none)
    | some false => (match putS nt o.dst (.tup []) S with
      | some S' => opsR ih nt all os S' H
      | none => none)
    | none => none

-- ------------------------------------------------------------------ a region that draws its order
/-- Bit j of a number. -/
def bitN (m j : Nat) : Bool := Nat.beq (Nat.mod (Nat.div m (Nat.pow 2 j)) 2) 1
/-- What an edge binds of, under whatever rows. -/
def bindsA (e : Edge) : Bool := match e.ground with
  | .textOnly _ => false
  | .gcOnly _ => false
  | _ => true
/-- All that an operation stands behind: its direct edges, and what these stand behind. -/
def maskOf (done : List Nat) : List Edge → Nat
  | [] => 0
  | e :: es => match bindsA e with
    | true => Nat.lor (Nat.lor (Nat.pow 2 e.on) ((nth done e.on).getD 0)) (maskOf done es)
    | false => maskOf done es
def masksFrom : List Oper → List Nat → List Nat
  | [], done => done
  | o :: os, done => masksFrom os (done ++ [maskOf done o.after.toList])
def masksOf (ops : List Oper) : List Nat := masksFrom ops []
def tmpsOf : List Operand → List Nat
  | [] => []
  | .tmp t :: l => t :: tmpsOf l
  | _ :: l => tmpsOf l
/-- The slots that an operation reads. -/
def readsOf (all : List Oper) (o : Oper) : List Nat := tmpsOf o.op.operands.toList ++ (match o.guard with
  | none => []
  | some (j, _) => (dstAt all j).toList)
/-- Of the operations before, those that write a slot of 'rs' stand before by an edge. -/
def writersOk (rs : List Nat) (mask : Nat) : List Oper → Nat → Bool
  | [], _ => true
  | o :: os, j => match o.dst with
    | none => writersOk rs mask os (j + 1)
    | some d => match memN rs d with
      | false => writersOk rs mask os (j + 1)
      | true => match bitN mask j with
        | true => writersOk rs mask os (j + 1)
        | false => false
/-- Of the operations behind, those that write a slot of 'rs' stand behind by an edge. -/
def laterOk (rs : List Nat) (i : Nat) (masks : List Nat) : List Oper → Nat → Bool
  | [], _ => true
  | o :: os, j => match o.dst with
    | none => laterOk rs i masks os (j + 1)
    | some d => match memN rs d with
      | false => laterOk rs i masks os (j + 1)
      | true => match bitN ((nth masks j).getD 0) i with
        | true => laterOk rs i masks os (j + 1)
        | false => false
/-- What binds points back. -/
def edgesBack (i : Nat) : List Edge → Bool
  | [] => true
  | e :: es => match bindsA e with
    | true => (match Nat.blt e.on i with
      | true => edgesBack i es
      | false => false)
    | false => edgesBack i es
def slotsOkAt (all : List Oper) (masks : List Nat) (o : Oper) (i : Nat) : Bool :=
  let rs := readsOf all o
  let ws := rs ++ o.dst.toList
  match edgesBack i o.after.toList with
  | false => false
  | true => match writersOk ws ((nth masks i).getD 0) (all.take i) 0 with
    | true => laterOk ws i masks (all.drop (i + 1)) (i + 1)
    | false => false
def slotsOkFrom (all : List Oper) (masks : List Nat) : List Oper → Nat → Bool
  | [], _ => true
  | o :: os, i => match slotsOkAt all masks o i with
    | true => slotsOkFrom all masks os (i + 1)
    | false => false
def slotsOk (all : List Oper) : Bool := slotsOkFrom all (masksOf all) all 0

/-- What an operation has touched: new names from 'lo' to 'hi', and elder ones. -/
structure Tch where
  j : Nat
  lo : Nat
  hi : Nat
  wr : List Nat
def tmem (t : Tch) (id : Nat) : Bool := match Nat.ble t.lo id with
  | true => (match Nat.blt id t.hi with
    | true => true
    | false => memN t.wr id)
  | false => memN t.wr id
/-- None of some names was touched by an operation that is not bound to come before. -/
def freeOf (mask : Nat) (ids : List Nat) : List Tch → Bool
  | [] => true
  | t :: ts => match bitN mask t.j with
    | true => freeOf mask ids ts
    | false => match ids.any (tmem t) with
      | true => false
      | false => freeOf mask ids ts
/-- No operation that is not bound to come before has read one of some names. -/
def unreadBy (mask : Nat) (wr : List Nat) : List (Nat × Option (List Nat)) → Bool
  | [] => true
  | (k, r) :: rs => match bitN mask k with
    | true => unreadBy mask wr rs
    | false => match r with
      | none => (match wr with
        | [] => unreadBy mask wr rs
        | _ => false)
      | some ids => match wr.any (memN ids) with
        | true => false
        | false => unreadBy mask wr rs
/-- Names touched by operations that are not bound to come before. -/
def looseOf (mask : Nat) : List Tch → List Nat
  | [] => []
  | t :: ts => match bitN mask t.j with
    | true => looseOf mask ts
    | false => (List.range' t.lo (t.hi - t.lo)) ++ (t.wr ++ looseOf mask ts)
def idsOf : AV → List Nat
  | .ptr id _ => [id]
  | .slice id _ _ _ => [id]
  | .emp id _ _ _ => [id]
  | .map id => [id]
  | _ => []
def idsE (S : PT AV) (x : Operand) : List Nat := match ev S x with
  | some v => idsOf v
  | none => []
def idsEs (S : PT AV) : List Operand → List Nat
  | [] => []
  | x :: l => idsE S x ++ idsEs S l
/-- The names that an operation may read or turn. -/
def foot (o : Op) (S : PT AV) : List Nat := match o with
  | .load _ a => idsE S a
  | .store _ a _ => idsE S a
  | .convert _ _ x => idsE S x
  | .lookup _ m _ _ => idsE S m
  | .mapUpdate _ m _ _ => idsE S m
  | .insert _ m _ _ => idsE S m
  | .call c => idsEs S c.args.toList
  | _ => []
/-- The blocks of some names alone. -/
def subT (m : PT AObj) : List Nat → PT AObj
  | [] => .nil
  | id :: l => (subT m l).put id (m.get id)
/-- The blocks but for some names. -/
def dropT (m : PT AObj) : List Nat → PT AObj
  | [] => m
  | id :: l => (dropT m l).put id none
/-- The blocks of some names laid again. -/
def backT (m0 : PT AObj) (m : PT AObj) : List Nat → PT AObj
  | [] => m
  | id :: l => (backT m0 m l).put id (m0.get id)
mutual
/-- A value mentions none of some names. -/
def cleanV (bad : List Nat) : AV → Bool
  | .ptr i _ => notB (memN bad i)
  | .slice i _ _ _ => notB (memN bad i)
  | .emp i _ _ _ => notB (memN bad i)
  | .map i => notB (memN bad i)
  | .fn _ a b => match cleanL bad a with
    | true => cleanL bad b
    | false => false
  | .ifc _ v => cleanV bad v
  | .agg l => cleanL bad l
  | .tup l => cleanL bad l
  | _ => true
def cleanL (bad : List Nat) : List AV → Bool
  | [] => true
  | v :: l => match cleanV bad v with
    | true => cleanL bad l
    | false => false
end
def cleanM (bad : List Nat) : List (AV × AV × Nat) → Bool
  | [] => true
  | (k, v, _) :: l => match cleanV bad k, cleanV bad v with
    | true, true => cleanM bad l
    | _, _ => false
def cleanO (bad : List Nat) : AObj → Bool
  | .row _ cs _ _ => cleanL bad cs
  | .map es _ => cleanM bad es
  | .iter .. => true
def cleanU (bad : List Nat) : Upd → Bool
  | .non => true
  | .new o => cleanO bad o
  | .set _ o => cleanO bad o
  | .app _ o => cleanO bad o
def cleanE (bad : List Nat) (e : Eff) : Bool := match bad with
  | [] => true
  | b :: bs => match cleanV (b :: bs) e.v with
    | true => cleanU (b :: bs) e.u
    | false => false
def cleanT (bad : List Nat) (m : PT AObj) : List Nat → Bool
  | [] => true
  | id :: l => match m.get id with
    | some o => (match cleanO bad o with
      | true => cleanT bad m l
      | false => false)
    | none => cleanT bad m l
def cleanC (bad : List Nat) (v : AV) (m : PT AObj) (lo hi : Nat) (log : List Nat) : Bool := match bad with
  | [] => true
  | b :: bs => match cleanV (b :: bs) v with
    | true => cleanT (b :: bs) m (List.range' lo (hi - lo) ++ log)
    | false => false
/-- New names of operations that are not bound to come before. -/
def newLoose (mask : Nat) : List Tch → List Nat
  | [] => []
  | t :: ts => match bitN mask t.j with
    | true => newLoose mask ts
    | false => (List.range' t.lo (t.hi - t.lo)) ++ newLoose mask ts
def logOf (lim : Nat) (log : List Nat) : List Nat → List Nat
  | [] => log
  | id :: l => if id < lim then id :: logOf lim log l else logOf lim log l

def drawR (ih : Run) (nt : Nat) (all : List Oper) (masks : List Nat) : List Oper → Nat → PT AV → Hp → List Tch → List (Nat × Option (List Nat)) → Option (PT AV × Hp)
  | [], _, S, H, _, _ => some (S, H)
  | o :: os, i, S, H, T, R => match wantedA all o.guard S with
    | none => none
    | some false => (match putS nt o.dst (.tup []) S with
      | some S' => drawR ih nt all masks os (i + 1) S' H T R
      | none => none)
    | some true => (match callOf o.op S with
      | none => none
      | some none =>
        let ids := foot o.op S
        (match aop P (subT H.m ids).get H.next o.op S with
        | none => none
        | some e => (match freeOf ((nth masks i).getD 0) ids T, unreadBy ((nth masks i).getD 0) e.u.on.toList R, cleanE (newLoose ((nth masks i).getD 0) T) e, putS nt o.dst e.v S with
          | true, true, true, some S' => openH (e.u.onto H) fun H' => drawR ih nt all masks os (i + 1) S' H' (⟨i, H.next, H'.next, e.u.on.toList⟩ :: T) ((i, some ids) :: R)
          | _, _, _, _ => none))
      | some (some (f, args)) =>
        let ls := looseOf ((nth masks i).getD 0) T
        (match callR P fnAt orc big ih f args ⟨dropT H.m ls, H.next, H.next, []⟩ with
        | none => none
        | some (v, Ho) => (match unreadBy ((nth masks i).getD 0) Ho.log R, cleanC (newLoose ((nth masks i).getD 0) T) v Ho.m H.next Ho.next Ho.log, putS nt o.dst v S with
          | true, true, some S' => drawR ih nt all masks os (i + 1) S' ⟨backT H.m Ho.m ls, Ho.next, H.lim, logOf H.lim H.log Ho.log⟩ (⟨i, H.next, Ho.next, Ho.log⟩ :: T) ((i, none) :: R)
          | _, _, _ => none)))

def codeR (ih : Run) (nt : Nat) (c : Code) (S : PT AV) (H : Hp) : Res := match c with
  | .skip => .ok .normal S H
  | .label _ => .ok .normal S H
  | .region _ ops draw => (match draw with
    | false => (match opsR P fnAt orc big ih nt ops.toList ops.toList S H with
      | some (S', H') => .ok .normal S' H'
      | none => .no)
    | true => (match slotsOk ops.toList with
      | true => (match drawR P fnAt orc big ih nt ops.toList (masksOf ops.toList) ops.toList 0 S H [] [] with
        | some (S', H') => .ok .normal S' H'
        | none => .no)
      | false => .no))
  | .seq a b => (match ih nt a S H with
    | .ok x S' H' => (match x with
      | .normal => ih nt b S' H'
      | x => .ok x S' H')
    | .no => .no)
  | .cond x a b => (match ev S x with
    | some (.bool true) => ih nt a S H
    | some (.bool false) => ih nt b S H
    | _ => .no)
  | .block id a => (match ih nt a S H with
    | .ok x S' H' => (match x with
      | .exit i => (match Nat.beq i id with
        | true => .ok .normal S' H'
        | false => .ok (.exit i) S' H')
      | x => .ok x S' H')
    | .no => .no)
  | .loop a => (match ih nt a S H with
    | .ok x S' H' => (match x with
      | .normal => ih nt (.loop a) S' H'
      | x => .ok x S' H')
    | .no => .no)
  | .exit id => .ok (.exit id) S H
  | .ret => .ok .ret S H
  | _ => .no

def run : Nat → Run
  | 0 => fun _ _ _ _ => .no
  | n + 1 => codeR P fnAt orc big (run n)

def call (n f : Nat) (args : List AV) (H : Hp) : Option (AV × Hp) := callR P fnAt orc big (run P fnAt orc big n) f args H
end

end Go.Sx

namespace Go.Sx
open Go.RowKit

/-- Where names lie: the block and the place in it, and the capacity in elements. -/
structure Env where
  at_ : Nat → Nat × Nat
  cap : Nat → Nat

def Env.addr (E : Env) (id off : Nat) : Addr := ⟨(E.at_ id).1, (E.at_ id).2 + off, none⟩

def bytesL : Nat → Nat → List UInt8
  | 0, _ => []
  | l + 1, n => UInt8.ofNat (n % 256) :: bytesL l (n / 256)
def strV (l n : Nat) : Value := .string ⟨(bytesL l n).toArray⟩

section
variable (E : Env) (nx : Nat)
mutual
/-- A value of the runner reads as a value of the model. -/
def VR : AV → Value → Prop
  | .bool b, x => x = .bool b
  | .int k n, x => x = .int k n
  | .str l n, x => x = strV l n
  | .ptr i o, x => i < nx ∧ x = .pointer (some (E.addr i o))
  | .nilp, x => x = .pointer none
  | .slice i o l c, x => i < nx ∧ (match c with
    | .k n => x = .slice (some (E.addr i o)) l n
    | .u j => j + l ≤ E.cap i ∧ x = .slice (some (E.addr i o)) l (E.cap i - j))
  | .nilsl, x => x = .slice none 0 0
  | .emp i o j a, x => i < nx ∧ j ≤ E.cap i ∧ x = .slice (some (E.addr i (if E.cap i = j then a else o))) 0 (E.cap i - j)
  | .map i, x => i < nx ∧ x = .map (some (E.at_ i).1)
  | .nilmap, x => x = .map none
  | .fn f a b, x => ∃ xs ys, VRs a xs ∧ VRs b ys ∧ x = .func (.func f) xs.toArray ys.toArray
  | .nilfn, x => x = .nilFunc
  | .ifc t v, x => ∃ y, VR v y ∧ x = .iface t y
  | .nilifc, x => x = .nilIface
  | .agg l, x => ∃ xs, VRs l xs ∧ x = .agg xs.toArray
  | .tup l, x => ∃ xs, VRs l xs ∧ x = .tuple xs.toArray
def VRs : List AV → List Value → Prop
  | [], xs => xs = []
  | a :: l, xs => ∃ x r, VR a x ∧ VRs l r ∧ xs = x :: r
end
end

/-- Two places of names agree below a name. -/
def Agree (E E' : Env) (nx : Nat) : Prop := ∀ i, i < nx → E'.at_ i = E.at_ i ∧ E'.cap i = E.cap i
theorem Agree.refl (E : Env) (nx : Nat) : Agree E E nx := fun _ _ => ⟨rfl, rfl⟩
theorem Agree.trans {E E' E'' : Env} {a b : Nat} (h : Agree E E' a) (h' : Agree E' E'' b) (hab : a ≤ b) : Agree E E'' a := fun i hi =>
  ⟨(h' i (Nat.lt_of_lt_of_le hi hab)).1.trans (h i hi).1, (h' i (Nat.lt_of_lt_of_le hi hab)).2.trans (h i hi).2⟩
theorem Agree.addr {E E' : Env} {nx : Nat} (h : Agree E E' nx) {i : Nat} (hi : i < nx) (o : Nat) : E'.addr i o = E.addr i o := by simp [Env.addr, (h i hi).1]

mutual
theorem VR.mono {E E' : Env} {nx nx' : Nat} (h : Agree E E' nx) (hn : nx ≤ nx') : ∀ (v : AV) (x : Value), VR E nx v x → VR E' nx' v x
  | .bool _, _, hv | .int _ _, _, hv | .str _ _, _, hv | .nilp, _, hv | .nilsl, _, hv | .nilmap, _, hv | .nilfn, _, hv | .nilifc, _, hv => by simpa [VR] using hv
  | .ptr i o, x, hv => by
    simp only [VR] at hv ⊢
    exact ⟨Nat.lt_of_lt_of_le hv.1 hn, by rw [h.addr hv.1]; exact hv.2⟩
  | .slice i o l (.k n), x, hv => by
    simp only [VR] at hv ⊢
    exact ⟨Nat.lt_of_lt_of_le hv.1 hn, by rw [h.addr hv.1]; exact hv.2⟩
  | .slice i o l (.u j), x, hv => by
    simp only [VR] at hv ⊢
    refine ⟨Nat.lt_of_lt_of_le hv.1 hn, ?_⟩
    rw [h.addr hv.1, (h i hv.1).2]; exact hv.2
  | .emp i o j a, x, hv => by
    simp only [VR] at hv ⊢
    refine ⟨Nat.lt_of_lt_of_le hv.1 hn, ?_⟩
    rw [h.addr hv.1, (h i hv.1).2]; exact hv.2
  | .map i, x, hv => by
    simp only [VR] at hv ⊢
    exact ⟨Nat.lt_of_lt_of_le hv.1 hn, by rw [(h i hv.1).1]; exact hv.2⟩
  | .fn f a b, x, hv => by
    simp only [VR] at hv ⊢
    obtain ⟨xs, ys, h1, h2, h3⟩ := hv
    exact ⟨xs, ys, VRs.mono h hn a xs h1, VRs.mono h hn b ys h2, h3⟩
  | .ifc t v, x, hv => by
    simp only [VR] at hv ⊢
    obtain ⟨y, h1, h2⟩ := hv
    exact ⟨y, VR.mono h hn v y h1, h2⟩
  | .agg l, x, hv => by
    simp only [VR] at hv ⊢
    obtain ⟨y, h1, h2⟩ := hv
    exact ⟨y, VRs.mono h hn l y h1, h2⟩
  | .tup l, x, hv => by
    simp only [VR] at hv ⊢
    obtain ⟨y, h1, h2⟩ := hv
    exact ⟨y, VRs.mono h hn l y h1, h2⟩
theorem VRs.mono {E E' : Env} {nx nx' : Nat} (h : Agree E E' nx) (hn : nx ≤ nx') : ∀ (v : List AV) (x : List Value), VRs E nx v x → VRs E' nx' v x
  | [], _, hv => by simpa [VRs] using hv
  | a :: l, x, hv => by
    simp only [VRs] at hv ⊢
    obtain ⟨y, r, h1, h2, h3⟩ := hv
    exact ⟨y, r, VR.mono h hn a y h1, VRs.mono h hn l r h2, h3⟩
end

/-- Entries of a map. -/
def ERs (E : Env) (nx : Nat) : List (AV × AV × Nat) → List MapEntry → Prop
  | [], xs => xs = []
  | (k, v, b) :: l, xs => ∃ x y r, VR E nx k x ∧ VR E nx v y ∧ ERs E nx l r ∧ xs = ⟨x, y, b⟩ :: r
theorem ERs.mono {E E' : Env} {nx nx' : Nat} (h : Agree E E' nx) (hn : nx ≤ nx') : ∀ (v : List (AV × AV × Nat)) (x : List MapEntry), ERs E nx v x → ERs E' nx' v x
  | [], _, hv => hv
  | (k, v, b) :: l, x, hv => by
    obtain ⟨y, z, r, h1, h2, h3, h4⟩ := hv
    exact ⟨y, z, r, VR.mono h hn k y h1, VR.mono h hn v z h2, ERs.mono h hn l r h3, h4⟩

/-- What a block holds, as the runner has it. -/
def ObjAt (P : Program) (E : Env) (nx : Nat) (w : World) (id : Nat) : AObj → Prop
  | .row e cs fz mk => ∃ c fr, w.heap[(E.at_ id).1]? = some (.cells c e fr) ∧ c.size = (E.at_ id).2 + E.cap id * P.cellsOf e ∧
      (∀ i v, nth cs i = some v → ∃ x, c[(E.at_ id).2 + i]? = some x ∧ VR E nx v x) ∧
      (∀ o, (E.at_ id).2 + fz ≤ o → o < c.size → ¬ (fr.1 ≤ o ∧ o < fr.2)) ∧ (mk = false → (E.at_ id).2 = 0 ∧ (fr.1 = fr.2 ∨ fr.2 ≤ fz))
  | .map es clock => ∃ l, w.heap[(E.at_ id).1]? = some (.map l.toArray clock) ∧ ERs E nx es l
  | .iter .. => False

theorem ObjAt.lt {P : Program} {E : Env} {nx : Nat} {w : World} {id : Nat} {o : AObj} (h : ObjAt P E nx w id o) : (E.at_ id).1 < w.heap.size := by
  cases o with
  | row e cs fz mk =>
    obtain ⟨c, fr, h, _⟩ := h
    exact (Array.getElem?_eq_some_iff.1 h).1
  | map es clock =>
    obtain ⟨l, h, _⟩ := h
    exact (Array.getElem?_eq_some_iff.1 h).1
  | iter => exact h.elim

theorem ObjAt.mono {P : Program} {E E' : Env} {nx nx' : Nat} {w w' : World} {id : Nat} {o : AObj} (h : ObjAt P E nx w id o) (hi : id < nx) (ha : Agree E E' nx) (hn : nx ≤ nx')
    (hb : w'.heap[(E.at_ id).1]? = w.heap[(E.at_ id).1]?) : ObjAt P E' nx' w' id o := by
  cases o with
  | row e cs fz mk =>
    obtain ⟨c, fr, h0, h1, h2, h3, h4⟩ := h
    simp only [ObjAt, (ha id hi).1, (ha id hi).2]
    exact ⟨c, fr, hb.trans h0, h1, fun i v hv => let ⟨x, hx, hr⟩ := h2 i v hv; ⟨x, hx, VR.mono ha hn v x hr⟩, h3, h4⟩
  | map es clock =>
    obtain ⟨l, h0, h1⟩ := h
    simp only [ObjAt, (ha id hi).1]
    exact ⟨l, hb.trans h0, ERs.mono ha hn es l h1⟩
  | iter => exact h.elim

/-- The streams and the tape are as they were. -/
structure Calm (w w' : World) : Prop where
  os : w'.os = w.os
  tape : w'.tape = w.tape
  output : w'.output = w.output
theorem Calm.refl (w : World) : Calm w w := ⟨rfl, rfl, rfl⟩
theorem Calm.trans {a b c : World} (h : Calm a b) (k : Calm b c) : Calm a c := ⟨k.os.trans h.os, k.tape.trans h.tape, k.output.trans h.output⟩

/-- What an operation did to the world. -/
def UPost (P : Program) (E : Env) (nx : Nat) (w : World) (E' : Env) (w' : World) : Upd → Prop
  | .non => E' = E ∧ w'.heap = w.heap ∧ Calm w w'
  | .new o => Agree E E' nx ∧ (E'.at_ nx).1 = w.heap.size ∧ ObjAt P E' (nx + 1) w' nx o ∧ w'.heap.size = w.heap.size + 1 ∧ (∀ k, k < w.heap.size → w'.heap[k]? = w.heap[k]?) ∧ Calm w w'
  | .set id o => E' = E ∧ ObjAt P E nx w' id o ∧ w'.heap.size = w.heap.size ∧ (∀ k, k ≠ (E.at_ id).1 → w'.heap[k]? = w.heap[k]?) ∧ Calm w w'
  | .app id o => Agree E E' nx ∧ ObjAt P E' (nx + 1) w' nx o ∧ Calm w w' ∧
      (((E'.at_ nx).1 = (E.at_ id).1 ∧ w'.heap.size = w.heap.size ∧ (∀ k, k ≠ (E.at_ id).1 → w'.heap[k]? = w.heap[k]?)) ∨
       ((E'.at_ nx).1 = w.heap.size ∧ w'.heap.size = w.heap.size + 1 ∧ (∀ k, k < w.heap.size → w'.heap[k]? = w.heap[k]?)))
/-- The next free name behind an operation. -/
def Upd.nx (nx : Nat) : Upd → Nat
  | .non => nx
  | .new _ => nx + 1
  | .set _ _ => nx
  | .app _ _ => nx + 1

/-- The slots that the runner knows. -/
def SR (E : Env) (nx : Nat) (S : PT AV) (a : Act) : Prop := ∀ t v, S.get t = some v → ∃ x, a.tmps[t]? = some x ∧ VR E nx v x
/-- The blocks that may be read. -/
def GR (P : Program) (E : Env) (nx : Nat) (w : World) (get : Nat → Option AObj) : Prop := ∀ id o, get id = some o → id < nx ∧ ObjAt P E nx w id o

end Go.Sx

namespace Go.Sx
open Go.RowKit

variable {α β : Type}

theorem nth_eq : ∀ (l : List α) (k : Nat), nth l k = l[k]?
  | [], _ => rfl
  | a :: l, 0 => rfl
  | a :: l, k + 1 => by simpa [nth] using nth_eq l k
theorem lenL_eq : ∀ l : List α, lenL l = l.length
  | [] => rfl
  | a :: l => by simp [lenL, lenL_eq l]
theorem app_eq : ∀ l m : List α, app l m = l ++ m
  | [], _ => rfl
  | a :: l, m => by simp [app, app_eq l m]
theorem dropL_eq : ∀ (l : List α) (k : Nat), dropL l k = l.drop k
  | [], _ => by simp [dropL]
  | a :: l, 0 => rfl
  | a :: l, k + 1 => by simpa [dropL] using dropL_eq l k
theorem takeL_eq : ∀ (k : Nat) (l r : List α), takeL k l = some r → r = l.take k ∧ k ≤ l.length
  | 0, l, r, h => by simp [takeL] at h; simp [h]
  | k + 1, [], r, h => by simp [takeL] at h
  | k + 1, a :: l, r, h => by
    simp only [takeL] at h
    cases h' : takeL k l with
    | none => simp [h'] at h
    | some q =>
      simp [h'] at h
      obtain ⟨h1, h2⟩ := takeL_eq k l q h'
      subst h
      exact ⟨by simp [h1], by simp; omega⟩
theorem sub?_spec {l : List α} {off n : Nat} {r : List α} (h : sub? l off n = some r) : r.length = n ∧ ∀ i, i < n → r[i]? = l[off + i]? ∧ off + i < l.length := by
  unfold sub? at h
  obtain ⟨h1, h2⟩ := takeL_eq _ _ _ h
  rw [dropL_eq] at h1 h2
  simp at h2
  subst h1
  constructor
  · simp; omega
  · intro i hi
    exact ⟨by rw [List.getElem?_take, if_pos hi, List.getElem?_drop], by omega⟩
theorem splice_spec : ∀ (l : List α) (k : Nat) (vs r : List α), splice l k vs = some r → k + vs.length ≤ l.length ∧ r.length = l.length ∧ ∀ i, r[i]? = if k ≤ i ∧ i < k + vs.length then vs[i - k]? else l[i]?
  | l, 0, [], r, h => by
    simp [splice] at h
    subst h
    refine ⟨by simp, rfl, fun i => ?_⟩
    rw [if_neg (by simp)]
  | [], 0, v :: vs, r, h => by simp [splice] at h
  | a :: l, 0, v :: vs, r, h => by
    simp only [splice] at h
    cases h' : splice l 0 vs with
    | none => simp [h'] at h
    | some q =>
      simp [h'] at h
      obtain ⟨h1, h2, h3⟩ := splice_spec l 0 vs q h'
      subst h
      refine ⟨by simp at h1 ⊢; omega, by simp [h2], fun i => ?_⟩
      cases i with
      | zero => simp
      | succ i =>
        have := h3 i
        simp at this
        simp [this]
  | [], k + 1, vs, r, h => by simp [splice] at h
  | a :: l, k + 1, vs, r, h => by
    simp only [splice] at h
    cases h' : splice l k vs with
    | none => simp [h'] at h
    | some q =>
      simp [h'] at h
      obtain ⟨h1, h2, h3⟩ := splice_spec l k vs q h'
      subst h
      refine ⟨by simp; omega, by simp [h2], fun i => ?_⟩
      cases i with
      | zero => simp
      | succ i =>
        have := h3 i
        simp only [List.getElem?_cons_succ, this]
        by_cases hc : k ≤ i ∧ i < k + vs.length
        · rw [if_pos hc, if_pos (by omega), show i + 1 - (k + 1) = i - k by omega]
        · rw [if_neg hc, if_neg (by omega)]
theorem repl_eq (a : α) : ∀ k, repl a k = List.replicate k a
  | 0 => rfl
  | k + 1 => by simp [repl, repl_eq a k, List.replicate_succ]
theorem memN_eq : ∀ (l : List Nat) (k : Nat), memN l k = true ↔ k ∈ l
  | [], k => by simp [memN]
  | a :: l, k => by
    simp only [memN]
    cases h : Nat.beq a k with
    | true =>
      have : a = k := Nat.eq_of_beq_eq_true h
      simp [this]
    | false =>
      have : a ≠ k := Nat.ne_of_beq_eq_false h
      simp [memN_eq l k, Ne.symm this]
theorem mapO_spec (f : α → Option β) : ∀ (l : List α) (r : List β), mapO f l = some r → r.length = l.length ∧ ∀ (i : Nat) (a : α), l[i]? = some a → ∃ b, r[i]? = some b ∧ f a = some b
  | [], r, h => by simp [mapO] at h; subst h; simp
  | a :: l, r, h => by
    simp only [mapO] at h
    cases hf : f a with
    | none => simp [hf] at h
    | some b =>
      cases hm : mapO f l with
      | none => simp [hf, hm] at h
      | some q =>
        simp [hf, hm] at h
        subst h
        obtain ⟨h1, h2⟩ := mapO_spec f l q hm
        refine ⟨by simp [h1], fun i x hx => ?_⟩
        cases i with
        | zero => simp at hx; subst hx; exact ⟨b, by simp, hf⟩
        | succ i => simpa using h2 i x (by simpa using hx)

-- ------------------------------------------------------------------ trees
theorem beq_mod (j : Nat) : Nat.beq (Nat.mod j 2) 0 = decide (j % 2 = 0) := by
  rw [show Nat.mod j 2 = j % 2 from rfl]
  cases h : j % 2 with
  | zero => rfl
  | succ n => rfl
theorem PT.putK_eq : ∀ (f : Nat) (t : PT α) (k : Nat) (o : Option α) (c : PT α → β), PT.putK f t k o c = c (PT.putD f t k o)
  | 0, _, _, _, _ => rfl
  | f + 1, .nil, 0, _, _ => rfl
  | f + 1, .node .., 0, _, _ => rfl
  | f + 1, .nil, j + 1, o, c => by
    simp only [PT.putK, beq_mod, PT.putD_zero, PT.putD_nil, PT.putD_node]
    by_cases h : j % 2 = 0
    · simp only [h, decide_true, if_true]; exact PT.putK_eq f _ _ _ _
    · simp only [h, decide_false, if_false]; exact PT.putK_eq f _ _ _ _
  | f + 1, .node v l r, j + 1, o, c => by
    simp only [PT.putK, beq_mod, PT.putD_zero, PT.putD_nil, PT.putD_node]
    by_cases h : j % 2 = 0
    · simp only [h, decide_true, if_true]; exact PT.putK_eq f _ _ _ _
    · simp only [h, decide_false, if_false]; exact PT.putK_eq f _ _ _ _
theorem PT.putK_put (t : PT α) (k : Nat) (o : Option α) (c : PT α → β) : PT.putK (Nat.succ k) t k o c = c (t.put k o) := PT.putK_eq _ _ _ _ _
theorem PT.get_succ (v : Option α) (l r : PT α) (j : Nat) : (PT.node v l r).get (j + 1) = if j % 2 = 0 then l.get (j / 2) else r.get (j / 2) := by
  simp only [PT.get_node, beq_mod]
  by_cases h : j % 2 = 0
  · simp only [h, decide_true, if_true]; rfl
  · simp only [h, decide_false, if_false]; rfl
theorem PT.get_putD : ∀ (f : Nat) (t : PT α) (k : Nat) (o : Option α) (i : Nat), k < f → (PT.putD f t k o).get i = if i = k then o else t.get i := by
  intro f
  induction f with
  | zero => intro t k o i h; omega
  | succ f ih =>
    intro t k o i h
    cases k with
    | zero =>
      cases t <;> cases i
      · simp [PT.putD_zero, PT.putD_nil, PT.putD_node, PT.get_nil, PT.get_node]
      · simp only [PT.putD_zero, PT.putD_nil, PT.putD_node, PT.get_succ]; split <;> simp [PT.get_nil, PT.get_node]
      · simp [PT.putD_zero, PT.putD_nil, PT.putD_node, PT.get_nil, PT.get_node]
      · simp only [PT.putD_zero, PT.putD_nil, PT.putD_node, PT.get_succ]; simp
    | succ j =>
      have hj : j / 2 < f := by omega
      have key : ∀ (v : Option α) (l r : PT α), (if j % 2 = 0 then PT.node v (PT.putD f l (j / 2) o) r else .node v l (PT.putD f r (j / 2) o)).get i = if i = j + 1 then o else (PT.node v l r).get i := by
        intro v l r
        by_cases h1 : j % 2 = 0
        · rw [if_pos h1]
          cases i with
          | zero => simp [PT.get_nil, PT.get_node]
          | succ i =>
            rw [PT.get_succ, PT.get_succ]
            by_cases h2 : i % 2 = 0
            · rw [if_pos h2, if_pos h2, ih _ _ _ _ hj]
              by_cases h3 : i = j
              · subst h3; simp
              · rw [if_neg (by omega), if_neg (by omega)]
            · rw [if_neg h2, if_neg h2, if_neg (by omega)]
        · rw [if_neg h1]
          cases i with
          | zero => simp [PT.get_nil, PT.get_node]
          | succ i =>
            rw [PT.get_succ, PT.get_succ]
            by_cases h2 : i % 2 = 0
            · rw [if_pos h2, if_pos h2, if_neg (by omega)]
            · rw [if_neg h2, if_neg h2, ih _ _ _ _ hj]
              by_cases h3 : i = j
              · subst h3; simp
              · rw [if_neg (by omega), if_neg (by omega)]
      cases t with
      | nil =>
        have hn : (PT.nil : PT α).get i = (PT.node none .nil .nil).get i := by
          cases i with
          | zero => rfl
          | succ i => rw [PT.get_succ]; split <;> rfl
        rw [hn, ← key, PT.putD_nil]
      | node v l r => rw [← key, PT.putD_node]
theorem PT.get_put (t : PT α) (k : Nat) (o : Option α) (i : Nat) : (t.put k o).get i = if i = k then o else t.get i := PT.get_putD _ _ _ _ _ (Nat.lt_succ_self k)

-- ------------------------------------------------------------------ forcing changes nothing
theorem forceNat_eq (n : Nat) (c : Nat → β) : forceNat n c = c n := by cases n <;> rfl
theorem forceInt_eq (n : Int) (c : Int → β) : forceInt n c = c n := by cases n <;> simp [forceInt, forceNat_eq]
theorem forceCap_eq (k : Cap) (c : Cap → β) : forceCap k c = c k := by cases k <;> simp [forceCap, forceNat_eq]
theorem forceBool_eq (b : Bool) (c : Bool → β) : forceBool b c = c b := by cases b <;> rfl
theorem forceS_eq (v : AV) (c : AV → β) : forceS v c = c v := by cases v <;> simp [forceS, forceNat_eq, forceInt_eq, forceCap_eq, forceBool_eq]
theorem forceL_eq : ∀ (l : List AV) (c : List AV → β), forceL l c = c l
  | [], _ => rfl
  | a :: l, c => by simp [forceL, forceS_eq, forceL_eq l]
theorem force_eq (v : AV) (c : AV → β) : force v c = c v := by cases v <;> simp [force, forceL_eq, forceS_eq]
theorem forceO_eq (o : AObj) (c : AObj → β) : forceO o c = c o := by cases o <;> simp [forceO, forceL_eq, forceNat_eq]

-- ------------------------------------------------------------------ lists of values
theorem VRs.length {E : Env} {nx : Nat} : ∀ {l : List AV} {xs : List Value}, VRs E nx l xs → xs.length = l.length
  | [], xs, h => by simp [VRs] at h; simp [h]
  | a :: l, xs, h => by
    simp only [VRs] at h
    obtain ⟨x, r, _, h2, rfl⟩ := h
    simp [VRs.length h2]
theorem VRs.nth {E : Env} {nx : Nat} : ∀ {l : List AV} {xs : List Value}, VRs E nx l xs → ∀ (i : Nat) (v : AV), l[i]? = some v → ∃ x, xs[i]? = some x ∧ VR E nx v x
  | [], xs, h, i, v, hv => by simp at hv
  | a :: l, xs, h, i, v, hv => by
    simp only [VRs] at h
    obtain ⟨x, r, h1, h2, rfl⟩ := h
    cases i with
    | zero => simp at hv; subst hv; exact ⟨x, by simp, h1⟩
    | succ i => simpa using VRs.nth h2 i v (by simpa using hv)
theorem VRs.of_nth {E : Env} {nx : Nat} : ∀ {l : List AV} {xs : List Value}, xs.length = l.length → (∀ (i : Nat) (v : AV), l[i]? = some v → ∃ x, xs[i]? = some x ∧ VR E nx v x) → VRs E nx l xs
  | [], xs, hl, _ => by simp [VRs]; simpa using hl
  | a :: l, [], hl, _ => by simp at hl
  | a :: l, x :: xs, hl, h => by
    simp only [VRs]
    refine ⟨x, xs, ?_, VRs.of_nth (by simpa using hl) (fun i v hv => by simpa using h (i + 1) v (by simpa using hv)), rfl⟩
    obtain ⟨y, hy, hr⟩ := h 0 a rfl
    simp at hy
    subst hy
    exact hr
theorem VRs.append {E : Env} {nx : Nat} : ∀ {l m : List AV} {xs ys : List Value}, VRs E nx l xs → VRs E nx m ys → VRs E nx (l ++ m) (xs ++ ys)
  | [], m, xs, ys, h, h' => by simp [VRs] at h; subst h; simpa using h'
  | a :: l, m, xs, ys, h, h' => by
    simp only [VRs] at h
    obtain ⟨x, r, h1, h2, rfl⟩ := h
    simp only [List.cons_append, VRs]
    exact ⟨x, r ++ ys, h1, VRs.append h2 h', rfl⟩
/-- Values that exist for pointwise facts. -/
theorem VRs.exists {E : Env} {nx : Nat} (l : List AV) (h : ∀ (i : Nat) (v : AV), l[i]? = some v → ∃ x, VR E nx v x) : ∃ xs, VRs E nx l xs := by
  induction l with
  | nil => exact ⟨[], by simp [VRs]⟩
  | cons a l ih =>
    obtain ⟨x, hx⟩ := h 0 a rfl
    obtain ⟨r, hr⟩ := ih fun i v hv => h (i + 1) v (by simpa using hv)
    exact ⟨x :: r, by simp only [VRs]; exact ⟨x, r, hx, hr, rfl⟩⟩

-- ------------------------------------------------------------------ constants
theorem bytesL_length : ∀ l n, (bytesL l n).length = l
  | 0, _ => rfl
  | l + 1, n => by simp [bytesL, bytesL_length l]
theorem bytesL_pack : ∀ s : List UInt8, bytesL s.length (packB s) = s
  | [] => rfl
  | b :: s => by
    have h1 : (b.toNat + 256 * packB s) % 256 = b.toNat := by have := b.toNat_lt; omega
    have h2 : (b.toNat + 256 * packB s) / 256 = packB s := by have := b.toNat_lt; omega
    simp only [List.length_cons, bytesL, packB, Nat.add_eq, Nat.mul_eq, h1, h2, bytesL_pack s]
    simp
theorem ofScal_sound {v : Value} {a : AV} (h : ofScal v = some a) (E : Env) (nx : Nat) : VR E nx a v := by
  unfold ofScal at h
  split at h <;> simp at h <;> subst h <;> simp [VR]
  rename_i s
  rw [strV, lenL_eq, bytesL_pack]
theorem ofAgg_sound {v : Value} {a : AV} (h : ofAgg v = some a) (E : Env) (nx : Nat) : VR E nx a v := by
  unfold ofAgg at h
  split at h
  · rename_i cs
    cases hm : mapO ofScal cs.toList with
    | none => simp [hm] at h
    | some l =>
      simp [hm] at h
      subst h
      obtain ⟨h1, h2⟩ := mapO_spec _ _ _ hm
      simp only [VR]
      refine ⟨cs.toList, VRs.of_nth (by omega) fun i x hx => ?_, by simp⟩
      have hi : i < l.length := (List.getElem?_eq_some_iff.1 hx).1
      have hc : cs.toList[i]? = some (cs.toList[i]'(by omega)) := by simp [List.getElem?_eq_getElem (show i < cs.toList.length by omega)]
      obtain ⟨b, hb, hf⟩ := h2 i _ hc
      rw [hb] at hx
      injection hx with hx
      subst hx
      exact ⟨_, hc, ofScal_sound hf E nx⟩
  · exact ofScal_sound h E nx
theorem ofVal_sound {v : Value} {a : AV} (h : ofVal v = some a) (E : Env) (nx : Nat) : VR E nx a v := by
  unfold ofVal at h
  split at h
  · rename_i cs
    cases hm : mapO ofAgg cs.toList with
    | none => simp [hm] at h
    | some l =>
      simp [hm] at h
      subst h
      obtain ⟨h1, h2⟩ := mapO_spec _ _ _ hm
      simp only [VR]
      refine ⟨cs.toList, VRs.of_nth (by omega) fun i x hx => ?_, by simp⟩
      have hi : i < l.length := (List.getElem?_eq_some_iff.1 hx).1
      have hc : cs.toList[i]? = some (cs.toList[i]'(by omega)) := by simp [List.getElem?_eq_getElem (show i < cs.toList.length by omega)]
      obtain ⟨b, hb, hf⟩ := h2 i _ hc
      rw [hb] at hx
      injection hx with hx
      subst hx
      exact ⟨_, hc, ofAgg_sound hf E nx⟩
  · exact ofAgg_sound h E nx

-- ------------------------------------------------------------------ operands
theorem ev_sound {E : Env} {nx : Nat} {S : PT AV} {a : Act} (hS : SR E nx S a) {x : Operand} {v : AV} (h : ev S x = some v) : VR E nx v (a.eval x) := by
  cases x with
  | tmp t =>
    obtain ⟨y, hy, hr⟩ := hS t v h
    simp only [Act.eval, Array.getD_eq_getD_getElem?, hy, Option.getD_some]
    exact hr
  | const c => exact ofVal_sound h E nx
  | global g => simp [ev] at h
  | func f => simp [ev] at h; subst h; simp [VR, VRs, Act.eval]
theorem evs_sound {E : Env} {nx : Nat} {S : PT AV} {a : Act} (hS : SR E nx S a) : ∀ {xs : List Operand} {vs : List AV}, evs S xs = some vs → VRs E nx vs (xs.map a.eval)
  | [], vs, h => by simp [evs] at h; subst h; simp [VRs]
  | x :: xs, vs, h => by
    simp only [evs] at h
    cases hx : ev S x with
    | none => simp [hx] at h
    | some v =>
      cases hxs : evs S xs with
      | none => simp [hx, hxs] at h
      | some r =>
        simp [hx, hxs] at h
        subst h
        simp only [List.map_cons, VRs]
        exact ⟨_, _, ev_sound hS hx, evs_sound hS hxs, rfl⟩
/-- Parts with their places. -/
def PRs (E : Env) (nx : Nat) : List (Nat × AV) → List (Nat × Value) → Prop
  | [], xs => xs = []
  | (i, v) :: l, xs => ∃ x r, VR E nx v x ∧ PRs E nx l r ∧ xs = (i, x) :: r
theorem evP_sound {E : Env} {nx : Nat} {S : PT AV} {a : Act} (hS : SR E nx S a) : ∀ {xs : List (Nat × Operand)} {vs : List (Nat × AV)}, evP S xs = some vs → PRs E nx vs (xs.map fun p => (p.1, a.eval p.2))
  | [], vs, h => by simp [evP] at h; subst h; simp [PRs]
  | (i, x) :: xs, vs, h => by
    simp only [evP] at h
    cases hx : ev S x with
    | none => simp [hx] at h
    | some v =>
      cases hxs : evP S xs with
      | none => simp [hx, hxs] at h
      | some r =>
        simp [hx, hxs] at h
        subst h
        simp only [List.map_cons, PRs]
        exact ⟨_, _, ev_sound hS hx, evP_sound hS hxs, rfl⟩

end Go.Sx

namespace Go.Sx
open Go.RowKit

/-- An operation's value and its effect, told of the model's run. -/
def GivesV (P : Program) (E : Env) (nx : Nat) (w : World) (e : Eff) (r : Result Value) : Prop :=
  ∃ x w' E', r = .ok x w' ∧ UPost P E nx w E' w' e.u ∧ VR E' (e.u.nx nx) e.v x
def GivesU (P : Program) (E : Env) (nx : Nat) (w : World) (e : Eff) (r : Result Unit) : Prop :=
  ∃ w' E', r = .ok () w' ∧ UPost P E nx w E' w' e.u ∧ e.v = .tup []

section
variable {P : Program} {E : Env} {nx : Nat} {w : World}

theorem GivesV.pure {v : AV} {x : Value} {r : Result Value} (hr : r = .ok x w) (hv : VR E nx v x) : GivesV P E nx w ⟨v, .non⟩ r :=
  ⟨x, w, E, hr, ⟨rfl, rfl, Calm.refl w⟩, hv⟩

-- ------------------------------------------------------------------ types
theorem szT_info {t n : Nat} (h : szT P t = some n) : ∃ i, P.info? t = some i ∧ i.size = n := by
  unfold szT at h
  cases hi : P.info? t with
  | none => simp [hi] at h
  | some i => simp [hi] at h; exact ⟨i, rfl, h⟩
theorem szT_map {t n : Nat} (h : szT P t = some n) : (P.info? t).map (·.size) = some n := by
  obtain ⟨i, h1, h2⟩ := szT_info h
  simp [h1, h2]
theorem szT_cells {t n : Nat} (h : szT P t = some n) : P.cellsOf t = n := by
  obtain ⟨i, h1, h2⟩ := szT_info h
  simp [Program.cellsOf, h1, h2]
theorem szT_run {t n : Nat} (h : szT P t = some n) (w : World) : (sizeOf t).run P w = .ok n w := by
  obtain ⟨i, h1, h2⟩ := szT_info h
  simp [sizeOf, typeInfo, h1, h2]
theorem bytesT_info {t n : Nat} (h : bytesT P t = some n) : ∃ i, P.info? t = some i ∧ i.bytes = n := by
  unfold bytesT at h
  cases hi : P.info? t with
  | none => simp [hi] at h
  | some i => simp [hi] at h; exact ⟨i, rfl, h⟩
theorem bytesT_run {t n : Nat} (h : bytesT P t = some n) (w : World) : ∃ i, (typeInfo t).run P w = .ok i w ∧ i.bytes = n := by
  obtain ⟨i, h1, h2⟩ := bytesT_info h
  exact ⟨i, by simp [typeInfo, h1], h2⟩
theorem VR.cells {v : AV} {x : Value} (h : VR E nx v x) : VRs E nx (cellsA v) x.cells.toList := by
  have one : ∀ {v : AV} {x : Value}, VR E nx v x → cellsA v = [v] → x.cells = #[x] → VRs E nx (cellsA v) x.cells.toList := by
    intro v x h h1 h2
    rw [h1, h2]
    simp only [VRs]
    exact ⟨x, [], h, rfl, rfl⟩
  cases v with
  | agg l =>
    simp only [VR] at h
    obtain ⟨xs, h1, rfl⟩ := h
    simpa [cellsA, Value.cells] using h1
  | slice i o l c =>
    cases c <;> (simp only [VR] at h; refine one (by simp only [VR]; exact h) rfl ?_)
    · rw [h.2]; rfl
    · rw [h.2.2]; rfl
  | ptr | emp | map => simp only [VR] at h; refine one (by simp only [VR]; exact h) rfl ?_; first | (rw [h.2]; rfl) | (rw [h.2.2]; rfl)
  | fn => simp only [VR] at h; refine one (by simp only [VR]; exact h) rfl ?_; obtain ⟨_, _, _, _, rfl⟩ := h; rfl
  | ifc => simp only [VR] at h; refine one (by simp only [VR]; exact h) rfl ?_; obtain ⟨_, _, rfl⟩ := h; rfl
  | tup => simp only [VR] at h; refine one (by simp only [VR]; exact h) rfl ?_; obtain ⟨_, _, rfl⟩ := h; rfl
  | _ => simp only [VR] at h; subst h; exact one (by simp [VR]) rfl rfl
theorem zeroV_run {t : Nat} {v : AV} (h : zeroV P t = some v) : ∃ z, (∀ w, (zeroValue t).run P w = .ok z w) ∧ ∀ E nx, VR E nx v z := by
  unfold zeroV at h
  cases hi : P.info? t with
  | none => simp [hi] at h
  | some i =>
    cases hz : i.zero with
    | none => simp [hi, hz] at h
    | some z =>
      simp [hi, hz] at h
      exact ⟨z, fun w => by simp [zeroValue, typeInfo, hi, hz], fun E nx => ofAgg_sound h E nx⟩
theorem zeroT_run {t : Nat} {cs : List AV} (h : zeroT P t = some cs) : ∃ z, (∀ w, (zeroValue t).run P w = .ok z w) ∧ ∀ E nx, VRs E nx cs z.cells.toList := by
  unfold zeroT at h
  cases hi : P.info? t with
  | none => simp [hi] at h
  | some i =>
    cases hz : i.zero with
    | none => simp [hi, hz] at h
    | some z =>
      cases ho : ofAgg z with
      | none => simp [hi, hz, ho] at h
      | some v =>
        simp [hi, hz, ho] at h
        subst h
        exact ⟨z, fun w => by simp [zeroValue, typeInfo, hi, hz], fun E nx => (ofAgg_sound ho E nx).cells⟩
theorem isAggT_run {t : Nat} {b : Bool} (h : isAggT P t = some b) (w : World) : (isAgg t).run P w = .ok b w := by
  unfold isAggT at h
  cases hu : P.underlying t with
  | none => simp [hu] at h
  | some d =>
    rw [hu] at h
    unfold isAgg
    rw [Sem.run_bind, run_underlying hu w]
    cases d <;> simp at h <;> subst h <;> rfl
theorem isAggT_row {t : Nat} (h : isAggT P t = some true) : ∃ d, P.underlying t = some d ∧ d.isRow = true := by
  unfold isAggT at h
  cases hu : P.underlying t with
  | none => simp [hu] at h
  | some d =>
    rw [hu] at h
    cases d <;> simp at h <;> exact ⟨_, rfl, rfl⟩

-- ------------------------------------------------------------------ parts
/-- A part of a value. -/
theorem partA_run {t : Nat} {cs : List AV} {off : Nat} {v : AV} (h : partA P t cs off = some v) {xs : List Value} (hx : VRs E nx cs xs) (w : World) :
    ∃ x, (part t xs.toArray off).run P w = .ok x w ∧ VR E nx v x := by
  unfold partA at h
  cases hg : isAggT P t with
  | none => simp [hg] at h
  | some b =>
    cases b with
    | true =>
      cases hs : szT P t with
      | none => simp [hg, hs] at h
      | some n =>
        cases hl : sub? cs off n with
        | none => simp [hg, hs, hl] at h
        | some l =>
          simp [hg, hs, hl] at h
          subst h
          obtain ⟨h1, h2⟩ := sub?_spec hl
          refine ⟨.agg (xs.toArray.extract off (off + n)), by simp [part, isAggT_run hg, szT_run hs], ?_⟩
          simp only [VR]
          have hlen := hx.length
          have hle : off + n ≤ xs.length ∨ n = 0 := by
            rcases Nat.eq_zero_or_pos n with h0 | h0
            · exact .inr h0
            · left; have := (h2 (n - 1) (by omega)).2; omega
          have hel : (xs.drop off).take n = (xs.toArray.extract off (off + n)).toList := by
            simp [Array.toList_extract, List.extract_eq_take_drop]
          refine ⟨(xs.toArray.extract off (off + n)).toList, ?_, by simp⟩
          rw [← hel]
          refine VRs.of_nth ?_ fun i u hu => ?_
          · rcases hle with hle | hle
            · simp; omega
            · subst hle; simp only [List.take_zero, List.length_nil]; omega
          · have hi : i < n := by rw [← h1]; exact (List.getElem?_eq_some_iff.1 hu).1
            rw [(h2 i hi).1] at hu
            obtain ⟨x, hxx, hr⟩ := hx.nth _ _ hu
            exact ⟨x, by rw [List.getElem?_take, if_pos hi, List.getElem?_drop]; exact hxx, hr⟩
    | false =>
      simp [hg, nth_eq] at h
      obtain ⟨x, hxx, hr⟩ := hx.nth _ _ h
      exact ⟨x, by simp [part, isAggT_run hg, hxx], hr⟩

theorem Env.addr_add (E : Env) (id off n : Nat) : (E.addr id off).add n = E.addr id (off + n) := by
  rw [Env.addr, Addr.add_mid, Env.addr, Nat.add_assoc]
/-- The cells of a row, read in the world. -/
theorem ObjAt.cell {id e : Nat} {cs : List AV} {fz : Nat} {mk : Bool} (h : ObjAt P E nx w id (.row e cs fz mk)) {i : Nat} {v : AV} (hi : cs[i]? = some v) :
    ∃ x, w.cell? (E.addr id i) = some x ∧ VR E nx v x := by
  obtain ⟨c, fr, h0, h1, h2, h3⟩ := h
  obtain ⟨x, hx, hr⟩ := h2 i v (by rw [nth_eq]; exact hi)
  exact ⟨x, by simp [World.cell?, Env.addr, h0, hx], hr⟩
/-- A part of a row, as cells in the world. -/
theorem ObjAt.range {id e : Nat} {cs : List AV} {fz : Nat} {mk : Bool} (h : ObjAt P E nx w id (.row e cs fz mk)) {off n : Nat} {l : List AV} (hl : sub? cs off n = some l) :
    ∃ xs, VRs E nx l xs ∧ w.rangeAt (E.at_ id).1 ((E.at_ id).2 + off) xs := by
  obtain ⟨h1, h2⟩ := sub?_spec hl
  have hp : ∀ (i : Nat) (v : AV), l[i]? = some v → ∃ x, w.cell? (E.addr id (off + i)) = some x ∧ VR E nx v x := fun i v hv => by
    have hi : i < n := by rw [← h1]; exact (List.getElem?_eq_some_iff.1 hv).1
    rw [(h2 i hi).1] at hv
    exact h.cell hv
  obtain ⟨xs, hxs⟩ := VRs.exists (E := E) (nx := nx) l fun i v hv => let ⟨x, _, hr⟩ := hp i v hv; ⟨x, hr⟩
  -- the values themselves
  have : ∃ xs : List Value, xs.length = l.length ∧ ∀ (i : Nat) (v : AV), l[i]? = some v → ∃ x, xs[i]? = some x ∧ w.cell? (E.addr id (off + i)) = some x ∧ VR E nx v x := by
    clear hxs xs h1 h2 hl
    induction l generalizing off with
    | nil => exact ⟨[], rfl, by simp⟩
    | cons a l ih =>
      obtain ⟨x, hx, hr⟩ := hp 0 a rfl
      obtain ⟨xs, h1, h2⟩ := ih (off := off + 1) fun i v hv => by
        obtain ⟨x, hx, hr⟩ := hp (i + 1) v (by simpa using hv)
        exact ⟨x, by rw [show off + 1 + i = off + (i + 1) by omega]; exact hx, hr⟩
      refine ⟨x :: xs, by simp [h1], fun i v hv => ?_⟩
      cases i with
      | zero => simp at hv; subst hv; exact ⟨x, by simp, hx, hr⟩
      | succ i =>
        obtain ⟨y, hy, hc, hr⟩ := h2 i v (by simpa using hv)
        exact ⟨y, by simpa using hy, by rw [show off + (i + 1) = off + 1 + i by omega]; exact hc, hr⟩
  obtain ⟨ys, hy1, hy2⟩ := this
  refine ⟨ys, VRs.of_nth hy1 fun i v hv => let ⟨x, hx, _, hr⟩ := hy2 i v hv; ⟨x, hx, hr⟩, fun j v hv => ?_⟩
  have hj : j < l.length := by rw [← hy1]; exact (List.getElem?_eq_some_iff.1 hv).1
  obtain ⟨x, hx, hc, _⟩ := hy2 j l[j] (List.getElem?_eq_getElem hj)
  rw [hv] at hx
  injection hx with hx
  subst hx
  have : E.addr id (off + j) = ⟨(E.at_ id).1, (E.at_ id).2 + off + j, none⟩ := by simp [Env.addr, Nat.add_assoc]
  rw [← this]
  exact hc
/-- A variable that lies in a row. -/
theorem partA_load {id e : Nat} {cs : List AV} {fz : Nat} {mk : Bool} (h : ObjAt P E nx w id (.row e cs fz mk)) {t off : Nat} {v : AV} (hp : partA P t cs off = some v) :
    ∃ x, (loadVar t (E.addr id off)).run P w = .ok x w ∧ VR E nx v x := by
  unfold partA at hp
  cases hg : isAggT P t with
  | none => simp [hg] at hp
  | some b =>
    cases b with
    | true =>
      cases hs : szT P t with
      | none => simp [hg, hs] at hp
      | some n =>
        cases hl : sub? cs off n with
        | none => simp [hg, hs, hl] at hp
        | some l =>
          simp [hg, hs, hl] at hp
          subst hp
          obtain ⟨xs, hx, hr⟩ := h.range hl
          obtain ⟨d, hu, hd⟩ := isAggT_row hg
          refine ⟨.agg xs.toArray, ?_, by simp only [VR]; exact ⟨xs, hx, rfl⟩⟩
          exact run_loadVar_mid w _ _ t xs d hr hu hd (by rw [szT_map hs, hx.length, (sub?_spec hl).1])
    | false =>
      simp [hg, nth_eq] at hp
      obtain ⟨x, hx, hr⟩ := h.cell hp
      exact ⟨x, by simp [loadVar, isAggT_run hg, hx], hr⟩

theorem opLoad_sound {get : Nat → Option AObj} (hg : GR P E nx w get) {t : Nat} {a : AV} {e : Eff} (h : opLoad P get t a = some e) {p : Value} (hp : VR E nx a p) :
    GivesV P E nx w e ((Instr.loadAt t p).run P w) := by
  unfold opLoad at h
  split at h
  · rename_i id off
    split at h
    · rename_i e0 cs fz mk hget
      split at h
      · rename_i v hv
        injection h with h
        subst h
        simp only [VR] at hp
        obtain ⟨_, rfl⟩ := hp
        obtain ⟨x, hx, hr⟩ := partA_load (hg _ _ hget).2 hv
        exact GivesV.pure (x := x) (by simp [Instr.loadAt, Instr.sureAddr, hx]) hr
      · cases h
    · cases h
  · cases h
end

-- ------------------------------------------------------------------ stores
theorem heap_setCells_ne {b g : Nat} (hg : g ≠ b) : ∀ (vs : List Value) (o : Nat) (w : World), (w.setCells b o vs).heap[g]? = w.heap[g]?
  | [], _, _ => rfl
  | v :: r, o, w => by
    rw [World.setCells, heap_setCells_ne hg r (o + 1) _]
    exact Below.heap_setCell w ⟨b, o, none⟩ v g hg
theorem size_setCells {b : Nat} : ∀ (vs : List Value) (o : Nat) (w : World), (w.setCells b o vs).heap.size = w.heap.size
  | [], _, _ => rfl
  | v :: r, o, w => by
    rw [World.setCells, size_setCells r (o + 1) _]
    simp [World.setCell]
theorem calm_setCells {b : Nat} : ∀ (vs : List Value) (o : Nat) (w : World), Calm w (w.setCells b o vs)
  | [], _, w => Calm.refl w
  | v :: r, o, w => by
    rw [World.setCells]
    exact (show Calm w (w.setCell ⟨b, o, none⟩ v) from ⟨rfl, rfl, rfl⟩).trans (calm_setCells r (o + 1) _)
theorem setCells_row {b e : Nat} {fr : Nat × Nat} : ∀ (vs : List Value) (o : Nat) (w : World) (c : Array Value), w.heap[b]? = some (.cells c e fr) → o + vs.length ≤ c.size →
    ∃ c', (w.setCells b o vs).heap[b]? = some (.cells c' e fr) ∧ c'.size = c.size ∧ ∀ k, c'[k]? = if o ≤ k ∧ k < o + vs.length then vs[k - o]? else c[k]?
  | [], o, w, c, h, _ => ⟨c, h, rfl, fun k => by rw [if_neg (by simp)]⟩
  | v :: r, o, w, c, h, hl => by
    rw [World.setCells]
    have h1 : (w.setCell ⟨b, o, none⟩ v).heap[b]? = some (.cells (c.setIfInBounds o v) e fr) := by
      simp [World.setCell, Array.getElem?_modify, h]
    simp at hl
    obtain ⟨c', h2, h3, h4⟩ := setCells_row r (o + 1) _ _ h1 (by simp; omega)
    refine ⟨c', h2, by simpa using h3, fun k => ?_⟩
    rw [h4 k]
    by_cases hk : o + 1 ≤ k ∧ k < o + 1 + r.length
    · rw [if_pos hk, if_pos (by simp; omega), show k - o = (k - (o + 1)) + 1 by omega, List.getElem?_cons_succ]
    · rw [if_neg hk]
      by_cases hko : k = o
      · subst hko
        rw [if_pos (by simp)]
        simp [show k < c.size by omega]
      · rw [if_neg (by simp; omega), Array.getElem?_setIfInBounds_ne (Ne.symm hko)]

section
variable {P : Program} {E : Env} {nx : Nat} {w : World}
theorem VR.one {v : AV} {x : Value} (h : VR E nx v x) (ho : oneA v = true) : x.oneCell' = true := by
  cases v with
  | agg => simp [oneA] at ho
  | tup => simp [oneA] at ho
  | slice i o l c => cases c <;> simp only [VR] at h <;> first | (rw [h.2]; rfl) | (rw [h.2.2]; rfl)
  | ptr | emp | map => simp only [VR] at h; first | (rw [h.2]; rfl) | (rw [h.2.2]; rfl)
  | fn => simp only [VR] at h; obtain ⟨_, _, _, _, rfl⟩ := h; rfl
  | ifc => simp only [VR] at h; obtain ⟨_, _, rfl⟩ := h; rfl
  | str l n => simp only [VR, strV] at h; subst h; rfl
  | _ => simp only [VR] at h; subst h; rfl
theorem VRs.one : ∀ {l : List AV} {xs : List Value}, VRs E nx l xs → allOne l = true → ∀ x ∈ xs, x.oneCell' = true
  | [], xs, h, _, x, hx => by simp [VRs] at h; subst h; simp at hx
  | a :: l, xs, h, ho, x, hx => by
    simp only [VRs] at h
    obtain ⟨y, r, h1, h2, rfl⟩ := h
    simp only [allOne] at ho
    cases hoa : oneA a with
    | false => simp [hoa] at ho
    | true =>
      rw [hoa] at ho
      rcases List.mem_cons.1 hx with rfl | hx
      · exact h1.one hoa
      · exact VRs.one h2 ho x hx

/-- Cells laid into a row: the model stores them, and the row holds them. -/
theorem storeCells_row {id e : Nat} {cs cs' new : List AV} {fz off : Nat} {mk : Bool} (hid : id < nx) (h : ObjAt P E nx w id (.row e cs fz mk)) {xs : List Value} (hx : VRs E nx new xs) (ho : allOne new = true)
    (hsp : splice cs off new = some cs') (hfz : fz ≤ off) :
    ∃ w', (storeCells (E.addr id off) xs).run P w = .ok () w' ∧ ObjAt P E nx w' id (.row e cs' fz mk) ∧ w'.heap.size = w.heap.size ∧ (∀ k, k ≠ (E.at_ id).1 → w'.heap[k]? = w.heap[k]?) ∧ Calm w w' := by
  obtain ⟨h1, h2, h3⟩ := splice_spec _ _ _ _ hsp
  obtain ⟨c, fr, r0, r1, r2, r3, r4⟩ := h
  have hlen : xs.length = new.length := hx.length
  have hin : ∀ j, j < xs.length → (E.at_ id).2 + off + j < c.size := fun j hj => by
    obtain ⟨x, hxx, _⟩ := r2 (off + j) cs[off + j] (by rw [nth_eq]; exact List.getElem?_eq_getElem (by omega))
    have := (Array.getElem?_eq_some_iff.1 hxx).1
    omega
  have hrun := run_storeCells_cells (P := P) (E.at_ id).1 ((E.at_ id).2 + off) xs 0 w
    (fun j hj => by simp [World.cell?, r0, hin j hj])
    (fun j hj => by
      have := r3 ((E.at_ id).2 + off + j) (by omega) (hin j hj)
      simp [World.frozen?, r0]
      intro h5
      omega) (hx.one ho)
  have hsz : (E.at_ id).2 + off + xs.length ≤ c.size ∨ xs = [] := by
    rcases Nat.eq_zero_or_pos xs.length with h0 | h0
    · exact .inr (List.eq_nil_of_length_eq_zero h0)
    · left; have := hin (xs.length - 1) (by omega); omega
  refine ⟨w.setCells (E.at_ id).1 ((E.at_ id).2 + off) xs, by simpa [Env.addr] using hrun, ?_, size_setCells _ _ _, fun k hk => heap_setCells_ne hk _ _ _, calm_setCells _ _ _⟩
  have hrow : ∃ c', (w.setCells (E.at_ id).1 ((E.at_ id).2 + off) xs).heap[(E.at_ id).1]? = some (.cells c' e fr) ∧ c'.size = c.size ∧ ∀ k, c'[k]? = if (E.at_ id).2 + off ≤ k ∧ k < (E.at_ id).2 + off + xs.length then xs[k - ((E.at_ id).2 + off)]? else c[k]? := by
    rcases hsz with hsz | hsz
    · exact setCells_row xs _ w c r0 hsz
    · subst hsz; exact ⟨c, r0, rfl, fun k => by rw [if_neg (by simp)]⟩
  obtain ⟨c', q0, q1, q2⟩ := hrow
  refine ⟨c', fr, q0, by rw [q1, r1], fun i v hv => ?_, fun o ho1 ho2 => r3 o ho1 (by omega), r4⟩
  rw [nth_eq, h3 i] at hv
  by_cases hc : off ≤ i ∧ i < off + new.length
  · rw [if_pos hc] at hv
    obtain ⟨x, hxx, hr⟩ := hx.nth _ _ hv
    refine ⟨x, ?_, hr⟩
    rw [q2, if_pos (by omega), show (E.at_ id).2 + i - ((E.at_ id).2 + off) = i - off by omega]
    exact hxx
  · rw [if_neg hc] at hv
    obtain ⟨x, hxx, hr⟩ := r2 i v (by rw [nth_eq]; exact hv)
    exact ⟨x, by rw [q2, if_neg (by omega)]; exact hxx, hr⟩

theorem opStore_sound {get : Nat → Option AObj} (hg : GR P E nx w get) {t : Nat} {a v : AV} {e : Eff} (h : opStore P get t a v = some e) {p x : Value} (hp : VR E nx a p) (hx : VR E nx v x) :
    GivesU P E nx w e ((Instr.storeAt t p x).run P w) := by
  unfold opStore at h
  split at h
  · rename_i id off
    split at h
    · rename_i e0 cs fz mk hget
      split at h
      · rename_i n hn
        split at h
        · rename_i hl hf ho
          split at h
          · rename_i cs' hsp
            injection h with h
            subst h
            simp only [VR] at hp
            obtain ⟨_, rfl⟩ := hp
            have hle : fz ≤ off := Nat.le_of_ble_eq_true hf
            have hxs := hx.cells
            obtain ⟨w', h1, h2, h3, h4, h5⟩ := storeCells_row (hg _ _ hget).1 (hg _ _ hget).2 hxs ho hsp hle
            have hsz : x.cells.size = n := by
              have := hxs.length
              rw [← lenL_eq (cellsA v), Nat.eq_of_beq_eq_true hl] at this
              simpa using this
            refine ⟨w', E, ?_, ⟨rfl, h2, h3, h4, h5⟩, rfl⟩
            simp [Instr.storeAt, Instr.sureAddr, storeVar, szT_run hn, hsz, h1]
          · cases h
        · cases h
      · cases h
    · cases h
  · cases h
end

end Go.Sx

namespace Go.Sx
open Go.RowKit

/-- A name laid. -/
def Env.set (E : Env) (id : Nat) (p : Nat × Nat) (k : Nat) : Env := ⟨fun i => if i = id then p else E.at_ i, fun i => if i = id then k else E.cap i⟩
theorem Agree.set (E : Env) (nx : Nat) (p : Nat × Nat) (k : Nat) : Agree E (E.set nx p k) nx := fun i hi => by
  simp [Env.set, Nat.ne_of_lt hi]
@[simp] theorem Env.set_at (E : Env) (id : Nat) (p : Nat × Nat) (k : Nat) : (E.set id p k).at_ id = p := by simp [Env.set]
@[simp] theorem Env.set_cap (E : Env) (id : Nat) (p : Nat × Nat) (k : Nat) : (E.set id p k).cap id = k := by simp [Env.set]
theorem VR.set {E : Env} {nx : Nat} {v : AV} {x : Value} (h : VR E nx v x) (p : Nat × Nat) (k : Nat) : VR (E.set nx p k) (nx + 1) v x := VR.mono (Agree.set E nx p k) (Nat.le_succ nx) v x h

section
variable {P : Program} {E : Env} {nx : Nat} {w : World}

/-- A new row at the heap's end. -/
theorem newRow_post {w' : World} {e : Nat} {cs : List AV} {c : Array Value} {fr : Nat × Nat} {fz : Nat} {mk : Bool} (k : Nat) (hh : w'.heap = w.heap.push (.cells c e fr)) (hc : Calm w w') (hs : c.size = k * P.cellsOf e)
    (hv : ∀ (i : Nat) (v : AV), cs[i]? = some v → ∃ x, c[i]? = some x ∧ VR E nx v x) (hf : ∀ o, fz ≤ o → o < c.size → ¬ (fr.1 ≤ o ∧ o < fr.2)) (hm : mk = false → fr.1 = fr.2 ∨ fr.2 ≤ fz) :
    UPost P E nx w (E.set nx (w.heap.size, 0) k) w' (.new (.row e cs fz mk)) := by
  refine ⟨Agree.set _ _ _ _, by simp, ?_, by simp [hh], fun j hj => by rw [hh, Array.getElem?_push, if_neg (by omega)], hc⟩
  refine ⟨c, fr, by simp [hh], by simp [hs], fun i v hi => ?_, by simpa using hf, by simpa using hm⟩
  rw [nth_eq] at hi
  obtain ⟨x, hx, hr⟩ := hv i v hi
  exact ⟨x, by simpa using hx, hr.set _ _⟩

/-- A new row whose cells are all known. -/
theorem newRow_all {w' : World} {e : Nat} {cs : List AV} {c : Array Value} (k : Nat) (hh : w'.heap = w.heap.push (.cells c e)) (hc : Calm w w') (hs : c.size = k * P.cellsOf e) (hv : VRs E nx cs c.toList) :
    UPost P E nx w (E.set nx (w.heap.size, 0) k) w' (.new (.row e cs 0 false)) := by
  refine newRow_post k hh hc hs (fun i v hi => ?_) (fun o _ _ => by simp) (fun _ => .inl rfl)
  obtain ⟨x, hx, hr⟩ := hv.nth i v hi
  exact ⟨x, by simpa using hx, hr⟩

theorem opAlloc_sound {t : Nat} {e : Eff} (h : opAlloc P nx t = some e) : GivesV P E nx w e ((Instr.alloc t true (.tuple #[])).run P w) := by
  unfold opAlloc at h
  split at h
  · rename_i cs n hz hs
    split at h
    · rename_i hl
      injection h with h
      subst h
      obtain ⟨z, hz1, hz2⟩ := zeroT_run hz
      have hsz : z.cells.size = n := by
        have := (hz2 E nx).length
        rw [← lenL_eq cs, Nat.eq_of_beq_eq_true hl] at this
        simpa using this
      refine ⟨.pointer (some ⟨w.heap.size, 0, none⟩), { w with heap := w.heap.push (.cells z.cells t) }, E.set nx (w.heap.size, 0) 1, ?_, newRow_all 1 rfl ⟨rfl, rfl, rfl⟩ (by rw [hsz, szT_cells hs, Nat.one_mul]) (hz2 E nx), ?_⟩
      · simp [Instr.alloc, hz1, newVar, newRow]
      · simp only [mkRow, VR, Upd.nx]
        exact ⟨Nat.lt_succ_self nx, by simp [Env.addr]⟩
    · cases h
  · cases h
theorem opBox_sound {t : Nat} {v : AV} {x : Value} (hx : VR E nx v x) {e : Eff} (h : opBox P nx t v = some e) : GivesV P E nx w e ((Instr.box t x).run P w) := by
  unfold opBox at h
  split at h
  · rename_i n hs
    split at h
    · rename_i hl
      injection h with h
      subst h
      have hc := hx.cells
      have hsz : x.cells.size = n := by
        have := hc.length
        rw [← lenL_eq (cellsA v), Nat.eq_of_beq_eq_true hl] at this
        simpa using this
      refine ⟨.pointer (some ⟨w.heap.size, 0, none⟩), { w with heap := w.heap.push (.cells x.cells t) }, E.set nx (w.heap.size, 0) 1, ?_, newRow_all 1 rfl ⟨rfl, rfl, rfl⟩ (by rw [hsz, szT_cells hs, Nat.one_mul]) hc, ?_⟩
      · simp [Instr.box, newVar, newRow]
      · simp only [mkRow, VR, Upd.nx]
        exact ⟨Nat.lt_succ_self nx, by simp [Env.addr]⟩
    · cases h
  · cases h

-- ------------------------------------------------------------------ values out of parts
theorem foldl_set (off : Nat) : ∀ (l : List Value) (n : Nat) (c : Array Value), off + n + l.length ≤ c.size →
    ((l.zipIdx n).foldl (fun cs (p : Value × Nat) => cs.setIfInBounds (off + p.2) p.1) c).size = c.size ∧
    ∀ k, ((l.zipIdx n).foldl (fun cs (p : Value × Nat) => cs.setIfInBounds (off + p.2) p.1) c)[k]? = if off + n ≤ k ∧ k < off + n + l.length then l[k - (off + n)]? else c[k]?
  | [], n, c, _ => ⟨rfl, fun k => by rw [if_neg (by simp)]; rfl⟩
  | v :: l, n, c, h => by
    simp only [List.length_cons] at h
    simp only [List.zipIdx_cons, List.foldl_cons]
    obtain ⟨h1, h2⟩ := foldl_set off l (n + 1) (c.setIfInBounds (off + n) v) (by simp; omega)
    refine ⟨by simpa using h1, fun k => ?_⟩
    rw [h2 k]
    by_cases hk : off + (n + 1) ≤ k ∧ k < off + (n + 1) + l.length
    · rw [if_pos hk, if_pos (by simp; omega), show k - (off + n) = k - (off + (n + 1)) + 1 by omega, List.getElem?_cons_succ]
    · rw [if_neg hk]
      by_cases hko : k = off + n
      · subst hko
        rw [if_pos (by simp)]
        simp [show off + n < c.size by omega]
      · rw [if_neg (by simp; omega), Array.getElem?_setIfInBounds_ne (Ne.symm hko)]
theorem fillA_run {pa pm : Nat → Option (Nat × Nat)} (hp : ∀ i r, pa i = some r → pm i = some r) : ∀ {parts : List (Nat × AV)} {ps : List (Nat × Value)} {cs cs' : List AV} {c : Array Value}, PRs E nx parts ps → VRs E nx cs c.toList → fillA pa cs parts = some cs' →
    ∃ c', Instr.fill pm c ps = some c' ∧ VRs E nx cs' c'.toList ∧ c'.size = c.size
  | [], ps, cs, cs', c, hps, hc, h => by
    simp [PRs] at hps
    simp [fillA] at h
    subst hps h
    exact ⟨c, rfl, hc, rfl⟩
  | (i, v) :: parts, ps, cs, cs', c, hps, hc, h => by
    simp only [PRs] at hps
    obtain ⟨x, r, hx, hr, rfl⟩ := hps
    simp only [fillA] at h
    split at h
    · rename_i off size hpl
      split at h
      · rename_i hl
        split at h
        · rename_i cs1 hsp
          obtain ⟨h1, h2, h3⟩ := splice_spec _ _ _ _ hsp
          have hxc := hx.cells
          have hxl : x.cells.size = size := by
            have := hxc.length
            rw [← lenL_eq (cellsA v), Nat.eq_of_beq_eq_true hl] at this
            simpa using this
          have hxl' : (cellsA v).length = size := by rw [← lenL_eq]; exact Nat.eq_of_beq_eq_true hl
          have hcl : c.size = cs.length := by simpa using hc.length
          obtain ⟨f1, f2⟩ := foldl_set off x.cells.toList 0 c (by simp; omega)
          have hfold : (x.cells.zipIdx.foldl (fun cs (p : Value × Nat) => cs.setIfInBounds (off + p.2) p.1) c) = ((x.cells.toList.zipIdx 0).foldl (fun cs (p : Value × Nat) => cs.setIfInBounds (off + p.2) p.1) c) := by
            rw [← Array.foldl_toList, Array.toList_zipIdx]
          have hc1 : VRs E nx cs1 ((x.cells.toList.zipIdx 0).foldl (fun cs (p : Value × Nat) => cs.setIfInBounds (off + p.2) p.1) c).toList := by
            refine VRs.of_nth (by simp [f1, h2, hcl]) fun k u hu => ?_
            rw [h3 k] at hu
            simp only [Array.getElem?_toList, f2 k, Nat.add_zero, Array.length_toList, hxl]
            rw [hxl'] at hu
            by_cases hk : off ≤ k ∧ k < off + size
            · rw [if_pos hk] at hu ⊢
              simpa using hxc.nth _ _ hu
            · rw [if_neg hk] at hu ⊢
              simpa using hc.nth _ _ hu
          obtain ⟨c', g1, g2, g3⟩ := fillA_run hp hr hc1 h
          refine ⟨c', ?_, g2, by rw [g3, f1]⟩
          simp only [Instr.fill, hp i _ hpl]
          rw [if_neg (by simp [hxl]; omega)]
          rw [← g1, ← hfold]
        · cases h
      · cases h
    · cases h
theorem mapM_run {α β : Type} {f : α → Sem β} {g : α → β} (l : List α) (w : World) (h : ∀ a ∈ l, (f a).run P w = .ok (g a) w) : (l.mapM f).run P w = .ok (l.map g) w := by
  induction l with
  | nil => rfl
  | cons a l ih =>
    rw [List.mapM_cons]
    simp [h a (by simp), ih fun b hb => h b (by simp [hb])]
theorem sizesOk_spec : ∀ {fs : List Field}, sizesOk P fs = true → ∀ f ∈ fs, ∃ n, szT P f.type = some n
  | [], _, f, hf => by simp at hf
  | g :: fs, h, f, hf => by
    simp only [sizesOk] at h
    split at h
    · rename_i n hn
      rcases List.mem_cons.1 hf with rfl | hf
      · exact ⟨n, hn⟩
      · exact sizesOk_spec h f hf
    · cases h

theorem opBuild_sound {t : Nat} {parts : List (Nat × AV)} {ps : Array (Nat × Value)} (hp : PRs E nx parts ps.toList) {e : Eff} (h : opBuild P t parts = some e) :
    GivesV P E nx w e ((Instr.build t ps).run P w) := by
  unfold opBuild at h
  split at h
  · rename_i cs hz
    obtain ⟨z, hz1, hz2⟩ := zeroT_run hz
    split at h
    · rename_i fs hu
      split at h
      · rename_i cs' hso hfl
        injection h with h
        subst h
        have hmap : ((fs.mapM fun f => do pure (f.offset, ← sizeOf f.type)) : Sem (Array (Nat × Nat))).run P w = .ok (fs.map fun f => (f.offset, P.cellsOf f.type)) w := by
          rw [Array.mapM_eq_mapM_toList, Sem.run_map, mapM_run (g := fun f : Field => (f.offset, P.cellsOf f.type))]
          · rw [Result.andThen_ok, ← Array.toList_map]
          · intro f hf
            obtain ⟨n, hn⟩ := sizesOk_spec hso f hf
            simp [szT_run hn, szT_cells hn]
        have hpl : ∀ i r, fieldPlaceA P fs.toList i = some r → (fs.map fun f => (f.offset, P.cellsOf f.type))[i]? = some r := by
          intro i r hr
          unfold fieldPlaceA at hr
          rw [nth_eq] at hr
          split at hr
          · rename_i f hf
            split at hr
            · rename_i n hn
              injection hr with hr
              subst hr
              simp only [Array.getElem?_toList] at hf
              simp [hf, szT_cells hn]
            · cases hr
          · cases hr
        obtain ⟨c', g1, g2, g3⟩ := fillA_run (pm := fun i => (fs.map fun f => (f.offset, P.cellsOf f.type))[i]?) hpl hp (hz2 E nx) hfl
        refine GivesV.pure (x := .agg c') ?_ (by simp only [VR]; exact ⟨c'.toList, g2, by simp⟩)
        simp only [Instr.build, Sem.run_bind, hz1, Result.andThen_ok, run_underlying hu, hmap]
        rw [g1]
        rfl
      · cases h
    · rename_i n0 el hu
      split at h
      · rename_i n hn
        split at h
        · rename_i cs' hfl
          injection h with h
          subst h
          obtain ⟨c', g1, g2, g3⟩ := fillA_run (pm := fun i => some (i * n, n)) (fun i r hr => hr) hp (hz2 E nx) hfl
          refine GivesV.pure (x := .agg c') ?_ (by simp only [VR]; exact ⟨c'.toList, g2, by simp⟩)
          simp only [Instr.build, Sem.run_bind, hz1, Result.andThen_ok, run_underlying hu, szT_run hn]
          rw [g1]
          rfl
        · cases h
      · cases h
    · cases h
  · cases h

theorem times_spec (l : List AV) : ∀ n, (times l n).length = n * l.length ∧ ∀ i, i < n * l.length → (times l n)[i]? = l[i % l.length]?
  | 0 => by simp [times]
  | n + 1 => by
    obtain ⟨h1, h2⟩ := times_spec l n
    simp only [times, app_eq, List.length_append, h1, Nat.succ_mul]
    refine ⟨by omega, fun i hi => ?_⟩
    rw [List.getElem?_append]
    by_cases hil : i < l.length
    · rw [if_pos hil, Nat.mod_eq_of_lt hil]
    · rw [if_neg hil, h2 _ (by omega)]
      rw [Nat.mod_eq_sub_mod (a := i) (by omega)]
theorem VRs.times {l : List AV} {xs : List Value} (h : VRs E nx l xs) (n m : Nat) (hm : m = n * xs.length) : VRs E nx (times l n) ((Array.range m).map (fun i => xs.toArray[i % xs.toArray.size]!)).toList := by
  subst hm
  obtain ⟨h1, h2⟩ := times_spec l n
  have hl := h.length
  refine VRs.of_nth (by simp [h1, hl]) fun i v hv => ?_
  have hi : i < n * l.length := by rw [← h1]; exact (List.getElem?_eq_some_iff.1 hv).1
  rw [h2 i hi] at hv
  obtain ⟨x, hx, hr⟩ := h.nth _ _ hv
  refine ⟨x, ?_, hr⟩
  have hlt : i % xs.length < xs.length := (List.getElem?_eq_some_iff.1 (by rw [← hl] at hx; exact hx)).1
  simp only [Array.getElem?_toList, Array.getElem?_map, List.size_toArray]
  rw [Array.getElem?_range, if_pos (by rw [hl]; exact hi)]
  rw [← hl] at hx
  simp [hx, getElem!_pos, hlt, List.getElem?_eq_getElem hlt] at hx ⊢
  exact hx

theorem opBuildSlice_sound {t len : Nat} {parts : List (Nat × AV)} {ps : Array (Nat × Value)} (hp : PRs E nx parts ps.toList) {e : Eff} (h : opBuildSlice P nx t len parts = some e) :
    GivesV P E nx w e ((Instr.buildSlice t len ps).run P w) := by
  unfold opBuildSlice at h
  split at h
  · rename_i el hu
    split at h
    · rename_i n z hn hz
      split at h
      · rename_i hl hle hne
        split at h
        · rename_i cs hfl
          injection h with h
          subst h
          obtain ⟨zv, hz1, hz2⟩ := zeroT_run hz
          have hzl : zv.cells.size = n := by
            have := (hz2 E nx).length
            rw [← lenL_eq z, Nat.eq_of_beq_eq_true hl] at this
            simpa using this
          have hn0 : n ≠ 0 := Nat.ne_of_beq_eq_false hne
          have hle' : len * n ≤ 16777216 := Nat.le_of_ble_eq_true hle
          have hzero : VRs E nx (times z len) ((Array.range (len * n)).map (fun i => zv.cells[i % zv.cells.size]!)).toList := by
            have := (hz2 E nx).times len (len * n) (by simp [hzl])
            simpa using this
          by_cases hl0 : len = 0
          · subst hl0
            have hzero' : VRs E nx (times z 0) (((Array.range (0 * n)).map (fun i => (#[] : Array Value)[i % (#[] : Array Value).size]!)).toList) := by simp [times, VRs]
            obtain ⟨c', g1, g2, g3⟩ := fillA_run (pm := fun i => some (i * n, n)) (fun i r hr => hr) hp hzero' hfl
            refine ⟨.slice (some ⟨w.heap.size, 0, none⟩) 0 0, { w with heap := w.heap.push (.cells c' el) }, E.set nx (w.heap.size, 0) 0, ?_, newRow_all 0 rfl ⟨rfl, rfl, rfl⟩ (by simp [g3]) g2, ?_⟩
            · simp [Instr.buildSlice, run_underlying hu, szT_run hn, newRow]
              simp at g1
              simp [g1]
            · simp only [mkRow, VR, Upd.nx]
              exact ⟨Nat.lt_succ_self nx, by simp [Env.addr]⟩
          · obtain ⟨c', g1, g2, g3⟩ := fillA_run (pm := fun i => some (i * n, n)) (fun i r hr => hr) hp hzero hfl
            refine ⟨.slice (some ⟨w.heap.size, 0, none⟩) len len, { w with heap := w.heap.push (.cells c' el) }, E.set nx (w.heap.size, 0) len, ?_, newRow_all len rfl ⟨rfl, rfl, rfl⟩ (by simp [g3, szT_cells hn]) g2, ?_⟩
            · have h1 : ¬ (len * n > 2 ^ 24) := by omega
              have h3 : len * n ≠ 0 := Nat.mul_ne_zero hl0 hn0
              simp [Instr.buildSlice, run_underlying hu, szT_run hn, newRow, h1, h3, hz1, g1]
            · simp only [mkRow, VR, Upd.nx]
              exact ⟨Nat.lt_succ_self nx, by simp [Env.addr]⟩
        · cases h
      · cases h
    · cases h
  · cases h

-- ------------------------------------------------------------------ parts of values, addresses
theorem opField_sound {t i : Nat} {v : AV} {x : Value} (hx : VR E nx v x) {e : Eff} (h : opField P t v i = some e) : GivesV P E nx w e ((Instr.field t x i).run P w) := by
  unfold opField at h
  split at h
  · rename_i cs
    split at h
    · rename_i fs hu
      rw [nth_eq] at h
      split at h
      · rename_i f hf
        split at h
        · rename_i v hv
          injection h with h
          subst h
          simp only [VR] at hx
          obtain ⟨xs, h1, rfl⟩ := hx
          obtain ⟨y, h2, h3⟩ := partA_run hv h1 w
          simp only [Array.getElem?_toList] at hf
          exact GivesV.pure (x := y) (by simp [Instr.field, run_underlying hu, hf, asAgg, h2]) h3
        · cases h
      · cases h
    · cases h
  · cases h
theorem opFieldAddr_sound {t i : Nat} {v : AV} {x : Value} (hx : VR E nx v x) {e : Eff} (h : opFieldAddr P t v i = some e) : GivesV P E nx w e ((Instr.fieldAt t x i).run P w) := by
  unfold opFieldAddr at h
  split at h
  · rename_i id off
    split at h
    · rename_i fs hu
      rw [nth_eq] at h
      split at h
      · rename_i f hf
        split at h
        · cases h
        · rename_i n hn0 hn
          injection h with h
          subst h
          simp only [VR] at hx
          obtain ⟨h1, rfl⟩ := hx
          simp only [Array.getElem?_toList] at hf
          have hne : n ≠ 0 := hn0
          refine GivesV.pure (x := .pointer (some (E.addr id (off + f.offset)))) ?_ (by simp only [VR]; exact ⟨h1, rfl⟩)
          simp [Instr.fieldAt, run_underlying hu, hf, Instr.sureAddr, fieldPlace, szT_run hn, hne, Env.addr_add]
        · cases h
      · cases h
    · cases h
  · cases h
theorem opIndexAddr_sound {t : Nat} {v j : AV} {x y : Value} (hx : VR E nx v x) (hy : VR E nx j y) {e : Eff} (h : opIndexAddr P t v j = some e) : GivesV P E nx w e ((Instr.indexAt t x y).run P w) := by
  unfold opIndexAddr at h
  split at h
  · rename_i k i
    simp only [VR] at hy
    subst hy
    split at h
    · rename_i len el hu
      split at h
      · rename_i id off n hn
        split at h
        · rename_i hlt
          injection h with h
          subst h
          simp only [VR] at hx
          obtain ⟨h1, rfl⟩ := hx
          have hlt' : i < len := Nat.le_of_ble_eq_true hlt
          refine GivesV.pure (x := .pointer (some (E.addr id (off + i * n)))) ?_ (by simp only [VR]; exact ⟨h1, rfl⟩)
          simp [Instr.indexAt, asIntOf, run_underlying hu, Instr.sureAddr, szT_run hn, hlt', Env.addr_add]
        · cases h
      · cases h
    · rename_i el hu
      split at h
      · rename_i id off len c n hn
        split at h
        · rename_i hlt
          injection h with h
          subst h
          have hlt' : i < len := Nat.le_of_ble_eq_true hlt
          obtain ⟨cp, h1, rfl⟩ : ∃ cp, id < nx ∧ x = .slice (some (E.addr id off)) len cp := by
            cases c <;> simp only [VR] at hx
            · exact ⟨_, hx.1, hx.2⟩
            · exact ⟨_, hx.1, hx.2.2⟩
          refine GivesV.pure (x := .pointer (some (E.addr id (off + i * n)))) ?_ (by simp only [VR]; exact ⟨h1, rfl⟩)
          simp [Instr.indexAt, asIntOf, run_underlying hu, szT_run hn, hlt', Env.addr_add]
        · cases h
      · cases h
    · cases h
  · cases h
end

end Go.Sx

namespace Go.Sx
open Go.RowKit

-- ------------------------------------------------------------------ bytes
theorem pow8_eq (l : Nat) : pow8 l = 256 ^ l := by
  show 2 ^ (8 * l) = 256 ^ l
  rw [Nat.pow_mul]
theorem byteAt_eq (n i : Nat) : byteAt n i = n / 256 ^ i % 256 := by
  show n / pow8 i % 256 = _
  rw [pow8_eq]
theorem bytesL_get : ∀ (l n i : Nat), (bytesL l n)[i]? = if i < l then some (UInt8.ofNat (n / 256 ^ i % 256)) else none
  | 0, _, _ => by simp [bytesL]
  | l + 1, n, 0 => by simp [bytesL]
  | l + 1, n, i + 1 => by
    simp only [bytesL, List.getElem?_cons_succ, bytesL_get l, Nat.div_div_eq_div_mul]
    rw [show 256 * 256 ^ i = 256 ^ (i + 1) by rw [Nat.pow_succ, Nat.mul_comm]]
    by_cases h : i < l
    · rw [if_pos h, if_pos (by omega)]
    · rw [if_neg h, if_neg (by omega)]
theorem bytesL_ext {l m n k : Nat} (hl : l = m) (h : ∀ i, i < l → n / 256 ^ i % 256 = k / 256 ^ i % 256) : bytesL l n = bytesL m k := by
  subst hl
  refine List.ext_getElem? fun i => ?_
  rw [bytesL_get, bytesL_get]
  by_cases hi : i < l
  · rw [if_pos hi, if_pos hi, h i hi]
  · rw [if_neg hi, if_neg hi]
theorem pow_split {i k : Nat} (h : i < k) : (256 : Nat) ^ k = 256 ^ i * (256 * 256 ^ (k - i - 1)) := by
  rw [show (256 : Nat) * 256 ^ (k - i - 1) = 256 ^ (k - i - 1 + 1) by rw [Nat.pow_succ, Nat.mul_comm], ← Nat.pow_add]
  congr 1
  omega
theorem digit_mod {n i k : Nat} (h : i < k) : n % 256 ^ k / 256 ^ i % 256 = n / 256 ^ i % 256 := by
  rw [pow_split h, Nat.mod_mul_right_div_self, Nat.mod_mul_right_mod]
theorem bytesL_mod {l k n : Nat} (h : l ≤ k) : bytesL l (n % 256 ^ k) = bytesL l n := bytesL_ext rfl fun _ hi => digit_mod (Nat.lt_of_lt_of_le hi h)
theorem bytesL_cut (l n a b : Nat) (hb : b ≤ l) : ((bytesL l n).drop a).take (b - a) = bytesL (b - a) (n / 256 ^ a % 256 ^ (b - a)) := by
  refine List.ext_getElem? fun i => ?_
  rw [bytesL_mod (Nat.le_refl _), List.getElem?_take, List.getElem?_drop, bytesL_get, bytesL_get]
  by_cases hi : i < b - a
  · rw [if_pos hi, if_pos hi, if_pos (by omega), Nat.div_div_eq_div_mul, ← Nat.pow_add]
  · rw [if_neg hi, if_neg hi]
theorem bytesL_append (la a lb b : Nat) : bytesL la a ++ bytesL lb b = bytesL (la + lb) (a % 256 ^ la + b * 256 ^ la) := by
  refine List.ext_getElem? fun i => ?_
  rw [List.getElem?_append, bytesL_length, bytesL_get, bytesL_get, bytesL_get]
  by_cases hi : i < la
  · rw [if_pos hi, if_pos hi, if_pos (by omega)]
    congr 2
    rw [← digit_mod hi (n := a % 256 ^ la + b * 256 ^ la), Nat.add_mul_mod_self_right, Nat.mod_mod, digit_mod hi]
  · rw [if_neg hi]
    by_cases hi2 : i < la + lb
    · rw [if_pos (by omega), if_pos hi2]
      congr 2
      have hp : 0 < (256 : Nat) ^ la := Nat.pow_pos (by omega)
      rw [show (256 : Nat) ^ i = 256 ^ la * 256 ^ (i - la) by rw [← Nat.pow_add]; congr 1; omega, ← Nat.div_div_eq_div_mul, Nat.add_mul_div_right _ _ hp, Nat.div_eq_of_lt (Nat.mod_lt _ hp), Nat.zero_add]
    · rw [if_neg (by omega), if_neg hi2]
theorem bytesL_inj : ∀ (l a b : Nat), bytesL l a = bytesL l b ↔ a % 256 ^ l = b % 256 ^ l
  | 0, a, b => by simp [bytesL, Nat.mod_one]
  | l + 1, a, b => by
    simp only [bytesL, List.cons.injEq, bytesL_inj l]
    have h8 : UInt8.ofNat (a % 256) = UInt8.ofNat (b % 256) ↔ a % 256 = b % 256 := by
      constructor
      · intro h
        have := congrArg UInt8.toNat h
        simpa using this
      · intro h; rw [h]
    rw [h8, Nat.pow_succ, Nat.mul_comm (256 ^ l) 256, Nat.mod_mul, Nat.mod_mul]
    constructor
    · rintro ⟨h1, h2⟩; rw [h1, h2]
    · intro h
      have h1 : a % 256 = b % 256 := by omega
      exact ⟨h1, by omega⟩
theorem eqS_eq (la a lb b : Nat) : eqS la a lb b = (bytesL la a == bytesL lb b) := by
  unfold eqS
  cases hl : Nat.beq la lb with
  | true =>
    have : la = lb := Nat.eq_of_beq_eq_true hl
    subst this
    show Nat.beq (a % pow8 la) (b % pow8 la) = _
    rw [pow8_eq, Bool.eq_iff_iff, beq_iff_eq, bytesL_inj, Nat.beq_eq]
  | false =>
    have : la ≠ lb := Nat.ne_of_beq_eq_false hl
    simp only []
    symm
    rw [beq_eq_false_iff_ne]
    intro h
    have := congrArg List.length h
    rw [bytesL_length, bytesL_length] at this
    contradiction
theorem ltB_eq : ∀ (f la a lb b : Nat), lb < f → ltB f la a lb b = Op.bytesLess (bytesL la a) (bytesL lb b)
  | 0, _, _, _, _, h => by omega
  | f + 1, la, a, 0, b, _ => by cases la <;> simp [ltB, bytesL, Op.bytesLess]
  | f + 1, 0, a, lb + 1, b, _ => by simp [ltB, bytesL, Op.bytesLess]
  | f + 1, la + 1, a, lb + 1, b, h => by
    simp only [ltB, bytesL, Op.bytesLess]
    have e1 : ∀ n, (UInt8.ofNat (n % 256)).toNat = n % 256 := fun n => by simp
    have hlt : (UInt8.ofNat (a % 256) < UInt8.ofNat (b % 256)) ↔ a % 256 < b % 256 := by rw [UInt8.lt_iff_toNat_lt, e1, e1]
    have heq : (UInt8.ofNat (a % 256) = UInt8.ofNat (b % 256)) ↔ a % 256 = b % 256 := by rw [← UInt8.toNat_inj, e1, e1]
    show (match Nat.blt (a % 256) (b % 256) with | true => true | false => match Nat.beq (a % 256) (b % 256) with | true => ltB f la (a / 256) lb (b / 256) | false => false) = _
    cases hb : Nat.blt (a % 256) (b % 256) with
    | true =>
      have : a % 256 < b % 256 := Nat.le_of_ble_eq_true hb
      simp [hlt.2 this]
    | false =>
      have h1 : ¬ a % 256 < b % 256 := fun h' => by have := Nat.ble_eq_true_of_le (Nat.succ_le_of_lt h'); rw [show Nat.ble (a % 256).succ (b % 256) = Nat.blt (a % 256) (b % 256) from rfl, hb] at this; cases this
      have h2 : ¬ (UInt8.ofNat (a % 256) < UInt8.ofNat (b % 256)) := fun h' => h1 (hlt.1 h')
      cases hc : Nat.beq (a % 256) (b % 256) with
      | true =>
        have h3 := heq.2 (Nat.eq_of_beq_eq_true hc)
        simp only []
        rw [ltB_eq f la _ lb _ (by omega)]
        simp [h2, h3]
      | false =>
        have h3 : ¬ (UInt8.ofNat (a % 256) = UInt8.ofNat (b % 256)) := fun h' => Nat.ne_of_beq_eq_false hc (heq.1 h')
        simp [h2, h3]
theorem ltS_eq (la a lb b : Nat) : ltS la a lb b = Op.bytesLess (bytesL la a) (bytesL lb b) := ltB_eq _ _ _ _ _ (Nat.lt_succ_self lb)
theorem notB_eq (b : Bool) : notB b = !b := by cases b <;> rfl
theorem bytesLess_asymm : ∀ (x y : List UInt8), (Op.bytesLess x y || x == y) = !(Op.bytesLess y x)
  | [], [] => by simp [Op.bytesLess]
  | [], b :: y => by simp [Op.bytesLess]
  | a :: x, [] => by simp [Op.bytesLess]
  | a :: x, b :: y => by
    have ih := bytesLess_asymm x y
    simp only [Op.bytesLess]
    by_cases h1 : a < b
    · have h2 : ¬ b < a := fun h => by rw [UInt8.lt_iff_toNat_lt] at h h1; omega
      have h3 : ¬ b = a := fun h => by subst h; rw [UInt8.lt_iff_toNat_lt] at h1; omega
      simp [h1, h2, h3]
    · by_cases h2 : b < a
      · have h3 : ¬ a = b := fun h => by subst h; exact h1 h2
        simp [h1, h2, h3]
      · have h3 : a = b := by
          rw [← UInt8.toNat_inj]
          rw [UInt8.lt_iff_toNat_lt] at h1 h2
          omega
        subst h3
        simp only [h1, decide_false, Bool.false_or, beq_self_eq_true, Bool.true_and]
        rw [← ih]
        simp
section
variable {P : Program} {E : Env} {nx : Nat} {w : World}
theorem strBin_run {op : BinOp} {la a lb b : Nat} {v : AV} (h : strBin op la a lb b = some v) : ∃ x, (Op.stringOp op ⟨(bytesL la a).toArray⟩ ⟨(bytesL lb b).toArray⟩).run P w = .ok x w ∧ VR E nx v x := by
  unfold strBin at h
  cases op <;> simp only [] at h
  case add =>
    split at h
    · rename_i hle
      injection h with h
      subst h
      have hle' : la + lb ≤ 9223372036854775807 := Nat.le_of_ble_eq_true hle
      refine ⟨_, run_string_add_sum w _ _ (by simpa [ByteArray.size, bytesL_length] using hle'), ?_⟩
      simp only [VR, strV, ByteArray.mk_append_mk, bytesL_append]
      show _ = Value.string { data := (bytesL (la + lb) (a % pow8 la + b * pow8 la)).toArray }
      rw [pow8_eq]
    · cases h
  all_goals (first | cases h | skip)
  case eql => exact ⟨.bool (bytesL la a == bytesL lb b), by simp [Op.stringOp], by simp [VR, eqS_eq]⟩
  case neq => exact ⟨.bool !(bytesL la a == bytesL lb b), by simp [Op.stringOp], by simp [VR, eqS_eq, notB_eq]⟩
  case lss => exact ⟨.bool (Op.bytesLess (bytesL la a) (bytesL lb b)), by simp [Op.stringOp], by simp [VR, ltS_eq]⟩
  case leq => exact ⟨.bool (Op.bytesLess (bytesL la a) (bytesL lb b) || bytesL la a == bytesL lb b), by simp [Op.stringOp], by simp [VR, ltS_eq, notB_eq, ← bytesLess_asymm]⟩
  case gtr =>
    refine ⟨.bool !(Op.bytesLess (bytesL la a) (bytesL lb b) || bytesL la a == bytesL lb b), by simp [Op.stringOp], ?_⟩
    simp only [VR, ltS_eq]
    rw [bytesLess_asymm, Bool.not_not]
  case geq => exact ⟨.bool !(Op.bytesLess (bytesL la a) (bytesL lb b)), by simp [Op.stringOp], by simp [VR, ltS_eq, notB_eq]⟩

theorem opIndex_sound {t : Nat} {v j : AV} {x y : Value} (hx : VR E nx v x) (hy : VR E nx j y) {e : Eff} (h : opIndex P t v j = some e) : GivesV P E nx w e ((Instr.index t x y).run P w) := by
  unfold opIndex at h
  split at h
  · rename_i k i
    simp only [VR] at hy
    subst hy
    split at h
    · rename_i len el cs hu
      split at h
      · rename_i n hlt hn
        split at h
        · rename_i v hv
          injection h with h
          subst h
          simp only [VR] at hx
          obtain ⟨xs, h1, rfl⟩ := hx
          have hlt' : i < len := Nat.le_of_ble_eq_true hlt
          obtain ⟨y, h2, h3⟩ := partA_run hv h1 w
          refine GivesV.pure (x := y) ?_ h3
          have h2' : Sem.run P (part el xs.toArray (i * n)) w = .ok y w := h2
          simp [Instr.index, asIntOf, run_underlying hu, szT_run hn, hlt', h2']
        · cases h
      · cases h
    · rename_i l n hu
      split at h
      · rename_i hlt
        injection h with h
        subst h
        simp only [VR] at hx
        subst hx
        have hlt' : i < l := Nat.le_of_ble_eq_true hlt
        refine GivesV.pure (x := .int .u8 (.ofNat (byteAt n i))) ?_ (by simp [VR])
        have hg : (ByteArray.mk (bytesL l n).toArray)[i]? = some (UInt8.ofNat (n / 256 ^ i % 256)) := by
          rw [ByteArray.getElem?_lt' _ _ (by simpa [ByteArray.size, bytesL_length] using hlt')]
          have := bytesL_get l n i
          rw [if_pos hlt', List.getElem?_eq_getElem (by simpa [bytesL_length] using hlt')] at this
          injection this with this
          rw [← this]
          rfl
        simp [Instr.index, asIntOf, run_underlying hu, strV, hg, byteAt_eq]
      · cases h
    · cases h
  · cases h

-- ------------------------------------------------------------------ integers
theorem kindEq_eq {a b : IntKind} (h : kindEq a b = true) : a = b := by cases a <;> cases b <;> first | rfl | cases h
theorem eqI_eq (a b : Int) : eqI a b = decide (a = b) := by
  cases a with
  | ofNat m =>
    cases b with
    | ofNat n =>
      simp only [eqI]
      rw [Bool.eq_iff_iff, Nat.beq_eq]
      simp
      omega
    | negSucc n => simp [eqI]
  | negSucc m =>
    cases b with
    | ofNat n => simp [eqI]
    | negSucc n =>
      simp only [eqI]
      rw [Bool.eq_iff_iff, Nat.beq_eq]
      simp
theorem ltI_eq (a b : Int) : ltI a b = decide (a < b) := by
  cases a with
  | ofNat m =>
    cases b with
    | ofNat n =>
      simp only [ltI]
      rw [Bool.eq_iff_iff]
      show Nat.ble (m + 1) n = true ↔ _
      rw [Nat.ble_eq]
      simp only [decide_eq_true_eq, Int.ofNat_eq_natCast]
      omega
    | negSucc n => simp only [ltI]; symm; rw [decide_eq_false_iff_not]; simp only [Int.ofNat_eq_natCast]; omega
  | negSucc m =>
    cases b with
    | ofNat n => simp only [ltI]; symm; rw [decide_eq_true_eq]; simp only [Int.ofNat_eq_natCast]; omega
    | negSucc n =>
      simp only [ltI]
      rw [Bool.eq_iff_iff]
      show Nat.ble (n + 1) m = true ↔ _
      rw [Nat.ble_eq]
      simp only [decide_eq_true_eq]
      omega
theorem wrapI_eq (k : IntKind) (n : Int) : wrapI k n = k.wrap n := by
  cases n with
  | negSucc m => rfl
  | ofNat m =>
    simp only [wrapI]
    split
    · rename_i h
      have hm : m ≤ top k := Nat.le_of_ble_eq_true h
      symm
      unfold IntKind.wrap
      cases k <;> simp [top] at hm <;> simp [IntKind.bits, IntKind.signed] <;> omega
    · rfl
end
end Go.Sx
end
