/-
  Contracts of checksums, of repeated bytes; rows; images and spans. (Drawn together by ext.py out of the texts: Chars En Pl Oa Kit Kit2 Of Ga Bs Qr Ob Us Oc Od Oe Le Oj Om U2 K3 Os Pt Ex Ov O8 Sg S1 O7 S3 S5 Sp Sh Mk Tr Sq Ss Ja Jb Ra T00 T15 T16.)
-/
import Derived.Lib.DecodeN
import Derived.Lib.RuneBytes
import Derived.Lib.IndexMore
import Derived.Lib.TrimByte
import Derived.Test.YtiekfipjbmdkpaaGreatDoorProg
import Derived.WalkKit
import Derived.Lib.Hide
import Derived.Shelf.Unicode.DecodeSlow
import Derived.BigQuiet
import Derived.Deep.QuietTactic
import Derived.WalkSpells
import Derived.WalkLawsBesides
import Derived.Handy
import Derived.Lib.AppendStr
import Derived.Lib.FrozenHead
import Derived.Laws.BitsAllLaws
import Derived.Deep.WholeRow
import Derived.Laws.ResultCell
import Derived.Laws.CopyOwn
import Derived.Deep.OwnRows
import Derived.Lib.Slices
import Derived.Deep.RegionWith
import Derived.Lib.EndianBits
import Derived.StillTailTactics
import Derived.Lib.BufferWrite
import Derived.Laws.NewDeep
import Derived.Shelf.Abstract
import Derived.Laws.IdiomStrings
import Derived.Shelf.Strings.BuilderRune
import Derived.Laws.AppendOwnNone
import Derived.Lib.Walk
import Derived.Lib.SliceRun
import Derived.Lib.AppendZerosOnto
import Derived.Maps.OwnSet
import Derived.Maps.Views
import Derived.Deep.RegionLaw
import Derived.Deep.DeepCutAuto
import Derived.Deep.MidRow
import Derived.IntWalk
import Derived.OwnWalk
import Derived.Deep.RegionHeld3
import Derived.Deep.CutBlock
import Derived.Deep.Upon
import Derived.Laws.OwnMore
import Derived.Lib.Bytealg
namespace Go.Proofs.YtiekfipjbmdkpaaGreatDoor
namespace Cs

/-- A character's number. -/
def isChar (n : Int) : Bool := decide (32 ≤ n) && decide (n ≤ 65533) && (decide (n < 55296) || decide (57343 < n))

/-- Byte number i of a list, 0 beyond its end. -/
def byt (l : List UInt8) (i : Nat) : Nat := (l.getD i 0).toNat
/-- What Go's decoder says of the first bytes. -/
def raw (l : List UInt8) : Nat × Nat := Lib.decodeN l.length (byt l 0) (byt l 1) (byt l 2) (byt l 3)

/-- Whether a text can begin so. -/
def good (r : Nat × Nat) : Bool := isChar r.1 && !(r.1 == 65533 && r.2 == 1)

/-- The first character and its width; none if no character begins here. -/
def dec (l : List UInt8) : Option (Nat × Nat) := if good (raw l) then some (raw l) else none

/-- The characters, with fuel. -/
def charsF : Nat → List UInt8 → Option (List Nat)
  | 0, l => if l.length = 0 then some [] else none
  | f + 1, l => if l.length = 0 then some [] else match dec l with
    | none => none
    | some (n, k) => match charsF f (l.drop k) with
      | none => none
      | some t => some (n :: t)

/-- The characters of a text; none if the bytes are no text. -/
def chars (l : List UInt8) : Option (List Nat) := charsF l.length l

theorem chars_nil : chars [] = some [] := rfl

theorem chars_none {l : List UInt8} (h : 0 < l.length) (hd : dec l = none) : chars l = none := by
  unfold chars
  obtain ⟨m, hm⟩ : ∃ m, l.length = m + 1 := ⟨l.length - 1, by omega⟩
  rw [hm]
  simp only [charsF, hd]
  rw [if_neg (by omega)]

/-- Some characters have been read, the rest is still to be read. -/
def Read (l : List UInt8) (acc : List Nat) (rest : List UInt8) : Prop := chars l = match chars rest with
  | none => none
  | some t => some (acc ++ t)

theorem Read.start (l : List UInt8) : Read l [] l := by
  unfold Read
  cases chars l <;> rfl
theorem Read.fail {l rest : List UInt8} {acc : List Nat} (h : Read l acc rest) (h0 : 0 < rest.length) (hd : dec rest = none) : chars l = none := by
  unfold Read at h
  rw [h, chars_none h0 hd]
theorem Read.done {l rest : List UInt8} {acc : List Nat} (h : Read l acc rest) (h0 : rest.length = 0) : chars l = some acc := by
  unfold Read at h
  rw [h, List.eq_nil_of_length_eq_zero h0, chars_nil]
  simp

/-- The number that the first k bytes would encode. -/
def num (l : List UInt8) (k : Nat) : Int :=
  if k = 1 then byt l 0
  else if k = 2 then ((byt l 0 : Int) - 192) * 64 + byt l 1 - 128
  else ((byt l 0 : Int) - 224) * 4096 + ((byt l 1 : Int) - 128) * 64 + byt l 2 - 128

/-- The bytes of a character, as numbers. -/
def encZ (n : Int) : List Int :=
  if n < 128 then [n] else if n < 2048 then [192 + n / 64, 128 + n % 64] else [224 + n / 4096, 128 + n / 64 % 64, 128 + n % 64]

/-- The bytes of a number that is a character. -/
def enc (n : Int) : List UInt8 := (encZ n).map fun x => UInt8.ofNat x.toNat

end Cs
end Go.Proofs.YtiekfipjbmdkpaaGreatDoor
namespace Go.Proofs.YtiekfipjbmdkpaaGreatDoor
namespace Cs
/-- An entity identifier's bytes. -/
def entB (i s : List UInt8) : List UInt8 := 0 :: i ++ List.replicate (23 - i.length) 0 ++ s ++ List.replicate (8 - s.length) 0
end Cs

end Go.Proofs.YtiekfipjbmdkpaaGreatDoor
namespace Go.Proofs.YtiekfipjbmdkpaaGreatDoor
namespace Pm

/-- The k bytes of a number, the least significant one first. -/
def le : Nat → Nat → List UInt8
  | 0, _ => []
  | k + 1, n => UInt8.ofNat n :: le k (n / 256)
/-- The number with some bytes, the least significant one first. -/
def num : List UInt8 → Nat
  | [] => 0
  | b :: t => b.toNat + 256 * num t
theorem le_len (k n : Nat) : (le k n).length = k := by
  induction k generalizing n with
  | zero => rfl
  | succ k ih => simp [le, ih]
theorem num_le (k n : Nat) (h : n < 256 ^ k) : num (le k n) = n := by
  induction k generalizing n with
  | zero => simp at h; subst h; rfl
  | succ k ih =>
    unfold le num
    rw [ih (n / 256) (by rw [Nat.pow_succ] at h; omega), UInt8.toNat_ofNat']
    omega
theorem num_lt (l : List UInt8) : num l < 256 ^ l.length := by
  induction l with
  | nil => simp [num]
  | cons b t ih =>
    have hb : b.toNat < 256 := b.toNat_lt
    simp only [num, List.length_cons, Nat.pow_succ]
    omega
/-- The number at a place. -/
def at_ (s : List UInt8) (at' size : Nat) : Nat := num ((s.drop at').take size)
/-- A partition map. -/
structure M where
  kind : Int
  number : Int
  tables : List Int
  file : Int
  mirror : Int
  bitmap : Int

def word (n : Int) : Bool := decide (0 ≤ n) && decide (n < 4294967296)

def valid (x : M) : Bool :=
  decide (0 ≤ x.kind) && decide (x.kind ≤ 3) && decide (0 ≤ x.number) && decide (x.number ≤ 65535) &&
  (if x.kind = 2 then decide (1 ≤ x.tables.length) && decide (x.tables.length ≤ 4) else decide (x.tables.length = 0)) &&
  (if x.kind = 3 then true else decide (x.file = 0) && (decide (x.mirror = 0) && decide (x.bitmap = 0))) &&
  x.tables.all word && word x.file && word x.mirror && word x.bitmap
def all (l : List M) : Bool := decide (l.length ≤ 4) && l.all valid

/-- The identifiers of the kinds that have one. -/
def nameV : List UInt8 := [42, 85, 68, 70, 32, 86, 105, 114, 116, 117, 97, 108, 32, 80, 97, 114, 116, 105, 116, 105, 111, 110]
def nameS : List UInt8 := [42, 85, 68, 70, 32, 83, 112, 97, 114, 97, 98, 108, 101, 32, 80, 97, 114, 116, 105, 116, 105, 111, 110]
def nameM : List UInt8 := [42, 85, 68, 70, 32, 77, 101, 116, 97, 100, 97, 116, 97, 32, 80, 97, 114, 116, 105, 116, 105, 111, 110]
def nameOf (kind : Int) : List UInt8 := if kind = 1 then nameV else if kind = 2 then nameS else nameM
/-- What stands behind the number of a map of 64 bytes. -/
def body (x : M) : List UInt8 :=
  if x.kind = 2 then le 2 8 ++ le 1 x.tables.length ++ le 1 0 ++ le 4 120 ++ x.tables.flatMap (fun t => le 4 t.toNat)
  else if x.kind = 3 then le 4 x.file.toNat ++ le 4 x.mirror.toNat ++ le 4 x.bitmap.toNat ++ le 4 8 ++ le 2 8 ++ le 1 1
  else []
/-- A map of 64 bytes, without the zeros at its end. -/
def big (x : M) : List UInt8 := [2, 64, 0, 0] ++ Cs.entB (nameOf x.kind) [1, 2] ++ le 2 1 ++ le 2 x.number.toNat ++ body x
/-- The bytes of a map. -/
def bytes (x : M) : List UInt8 :=
  if x.kind = 0 then [1, 6] ++ le 2 1 ++ le 2 x.number.toNat else big x ++ List.replicate (64 - (big x).length) 0
def none : M := ⟨0, 0, [], 0, 0, 0⟩
end Pm
end Go.Proofs.YtiekfipjbmdkpaaGreatDoor
namespace Go.Proofs.YtiekfipjbmdkpaaGreatDoor
namespace Vs
open Pm (le num at_ le_len num_le num_lt)
/-- A slice of bytes. -/
def sl (s : List UInt8) (a n : Nat) : List UInt8 := (s.drop a).take n
theorem sl_head (p q : List UInt8) : sl (p ++ q) 0 p.length = p := by
  unfold sl
  rw [List.drop_zero, List.take_left]
/-- The sum of bytes. -/
def sumR (l : List UInt8) : Nat := l.foldl (fun s b => (s + b.toNat) % 256) 0
/-- The CRC: one bit, one byte, a text. -/
def crcBit (n : Nat) : Nat := if n / 32768 = 1 then (n * 2 % 65536) ^^^ 4129 else n * 2 % 65536
def crcBits : Nat → Nat → Nat
  | 0, n => n
  | k + 1, n => crcBits k (crcBit n)
def crcTab (b : Nat) : Nat := crcBits 8 (b * 256)
def crcStep (c b : Nat) : Nat := (c * 256 % 65536) ^^^ crcTab (c / 256 ^^^ b)
def crcR (l : List UInt8) : Nat := l.foldl (fun c b => crcStep c b.toNat) 0
theorem crcR_snoc (l : List UInt8) (b : UInt8) : crcR (l ++ [b]) = crcStep (crcR l) b.toNat := by simp [crcR]
theorem crcBit_lt (n : Nat) : crcBit n < 65536 := by
  unfold crcBit
  split
  · exact Nat.xor_lt_two_pow (n := 16) (Nat.mod_lt _ (by decide)) (by decide)
  · exact Nat.mod_lt _ (by decide)
theorem crcBits_snoc (k n : Nat) : crcBits (k + 1) n = crcBit (crcBits k n) := by
  induction k generalizing n with
  | zero => rfl
  | succ k ih => exact ih (crcBit n)
theorem crcBits_lt {n : Nat} (h : n < 65536) (k : Nat) : crcBits k n < 65536 := by
  cases k with
  | zero => exact h
  | succ k => rw [crcBits_snoc]; exact crcBit_lt _
theorem crcTab_lt {b : Nat} (h : b < 256) : crcTab b < 65536 := crcBits_lt (by omega) 8
theorem crcStep_lt {c b : Nat} (hc : c < 65536) (hb : b < 256) : crcStep c b < 65536 :=
  Nat.xor_lt_two_pow (n := 16) (Nat.mod_lt _ (by decide)) (crcTab_lt (Nat.xor_lt_two_pow (n := 8) (by omega) hb))
theorem crcR_lt (l : List UInt8) : crcR l < 65536 := by
  have : ∀ (l : List UInt8) (c : Nat), c < 65536 → l.foldl (fun c b => crcStep c b.toNat) c < 65536 := by
    intro l
    induction l with
    | nil => intro c h; exact h
    | cons b t ih => intro c h; exact ih _ (crcStep_lt h b.toNat_lt)
  exact this l 0 (by decide)

def z (n : Nat) : List UInt8 := List.replicate n 0
theorem z_len (n : Nat) : (z n).length = n := List.length_replicate
/-- A tag. -/
def tagH (id : Nat) : List UInt8 := le 2 id ++ le 2 3
def tagE (ser loc : Nat) (body : List UInt8) : List UInt8 := 0 :: (le 2 ser ++ (le 2 (crcR body) ++ (le 2 body.length ++ le 4 loc)))
def tagR (id ser loc : Nat) (body : List UInt8) : List UInt8 := tagH id ++ (UInt8.ofNat (sumR (tagH id ++ tagE ser loc body)) :: tagE ser loc body)
/-- The block of a descriptor. -/
def blk (id ser loc : Nat) (body : List UInt8) : List UInt8 := tagR id ser loc body ++ (body ++ z (2032 - body.length))
end Vs
end Go.Proofs.YtiekfipjbmdkpaaGreatDoor
namespace Go.Proofs.YtiekfipjbmdkpaaGreatDoor
open Go.RowKit
namespace Kit

/-- Bytes as cells. -/
def bytes (l : List UInt8) : List Value := l.map fun (b : UInt8) => Value.int .u8 (b.toNat : Int)
theorem bytes_append (l m : List UInt8) : bytes (l ++ m) = bytes l ++ bytes m := by simp [bytes]

theorem grown_of_below {w w' : World} (h : Below w.heap.size w w') : w.grownBy w' none :=
  ⟨h.os, h.tape, h.output, h.size, fun k hk _ => h.block k hk⟩

/-- A row that a call has made is not touched by what leaves old memory alone. -/
theorem own_below {w w' : World} {base e size n : Nat} {v : Value} {xs : List Value} (h : w.ownsRow base e size v n xs) (hb : Below w.heap.size w w') : w'.ownsRow base e size v n xs :=
  h.kept (grown_of_below hb) (by cases hv : v.ownBlock <;> simp)

/-- A slice value that reads as the cells xs. -/
def Row (w : World) (v : Value) (xs : List Value) : Prop := ∃ A c, v = .slice A xs.length c ∧ xs.length ≤ c ∧ xs.length ≤ maxLen ∧
  (0 < xs.length → ∃ b o, A = some ⟨b, o, none⟩ ∧ b < w.heap.size ∧ ∀ j u, xs[j]? = some u → w.cell? ⟨b, o + j, none⟩ = some u)

theorem Row.below {w w' : World} {v : Value} {xs : List Value} (h : Row w v xs) (hb : Below w.heap.size w w') : Row w' v xs := by
  obtain ⟨A, c, rfl, h1, h2, h3⟩ := h
  refine ⟨A, c, rfl, h1, h2, fun h0 => ?_⟩
  obtain ⟨b, o, rfl, hl, hc⟩ := h3 h0
  exact ⟨b, o, rfl, Nat.lt_of_lt_of_le hl hb.size, fun j u hu => (hb.cell (p := ⟨b, o + j, none⟩) hl).trans (hc j u hu)⟩

/-- Numbers as cells of type int. -/
def izs (l : List Int) : List Value := l.map (Value.int .i64)
theorem izs_length (l : List Int) : (izs l).length = l.length := by simp [izs]
/-- 'append(v, x, ..)' onto a row of the call's own: what is appended has just been laid. -/
theorem push {P : Program} {W : World} {ops : Array Oper} {rest : List Oper} {o : Oper} {a : Act} {Q : Exit → Act → World → Prop} (hgd : o.guard = none) (s x : Operand) (t : TypeId)
    (ho : o.op = .call { callee := .builtin .append, args := #[s, x], argTypes := #[t, t] })
    (base : Nat) (e : TypeId) (i : TypeInfo) (z : Value) (bytes : Nat) (ht : P.underlying t = some (.slice e)) (hi : P.info? e = some i) (hz : i.zero = some z)
    (hsize : i.size = 1) (hby : i.bytes = bytes) (hzs : z.cells.size = 1)
    (v : Value) (n : Nat) (xs : List Value) (hs : a.eval s = v) (hown : W.ownsRow base e 1 v n xs)
    (news : List Value) (m c : Nat) (hx : a.eval x = .slice (some ⟨W.heap.size, 0, none⟩) m c) (hm : news.length = m) (h1 : ∀ u ∈ news, u.oneCell' = true)
    (h63 : n + m ≤ maxLen) (hbytes : (n + m) * bytes ≤ 140737488355328) (hbase : base ≤ W.heap.size)
    (h : ∀ v' w', w'.ownsRow base e 1 v' (n + m) (xs ++ news) → Below base W w' → wpList P ops Q rest (a.put o.dst v') w') :
    wpList P ops Q (o :: rest) a (W.alloc (.cells news.toArray e)) := by
  refine wpList_append_own _ hgd s x t ho base e i z 1 bytes ht hi hz hsize hby hzs (by decide) v n xs hs (hown.alloc _) ⟨W.heap.size, 0, none⟩ m c news hx (by omega) ?_ h1 h63 hbytes (by simp; omega) ?_
  · intro j u hu
    rw [Addr.add_lit, World.cell?_alloc_at _ _ _ _ (by simp)]
    simpa using hu
  · intro v' w' ho' hg _
    refine h v' w' ho' ?_
    exact ((Below.refl base W).alloc hbase _).grown hg (by simp; omega) (fun k hk => (hown.lt k hk).1)
/-- The string of a row of bytes that the call owns. -/
theorem str_of_own {P : Program} {w : World} {src dst e base : Nat} {v : Value} {l : List UInt8} (hs : P.underlying src = some (.slice e)) (he : P.underlying e = some (.int .u8)) (hd : P.underlying dst = some .string)
    (h : w.ownsRow base e 1 v l.length (bytes l)) : (convert src dst v).run P w = .ok (.string ⟨l.toArray⟩) w := by
  rcases h.2 with ⟨rfl, h0⟩ | ⟨g, cap, cur, rfl, _, hg, _, _, _, htake⟩
  · have : l = [] := List.eq_nil_of_length_eq_zero h0
    subst this
    rw [run_convert_bytes_nil w src e hs he 0 0 dst hd]
    rfl
  · refine run_convert_bytes_back w src dst e _ cap l hs he hd fun j hj => ?_
    exact h.cells (g := g) rfl j _ (by simp [bytes, hj])

/-- A row that has just been laid is owned. -/
theorem own_new (w : World) (e : TypeId) (xs : List Value) (h : xs.length ≤ maxLen) : (w.alloc (.cells xs.toArray e)).ownsRow w.heap.size e 1 (.slice (some ⟨w.heap.size, 0, none⟩) xs.length xs.length) xs.length xs :=
  ⟨by simp, .inr ⟨w.heap.size, xs.length, xs.toArray, rfl, Nat.le_refl _, heap_alloc_new w _, Nat.le_refl _, h, by simp, by simp⟩⟩

theorem bytes_of (x : Int) (h0 : 0 ≤ x) (h1 : x < 256) : bytes [UInt8.ofNat x.toNat] = [Value.int .u8 x] := by
  have : (UInt8.ofNat x.toNat).toNat = x.toNat := by
    rw [UInt8.toNat_ofNat']; omega
  simp [bytes, this]; omega

/-- As 'push', the element type's row of the table as one fact. -/
theorem app {P : Program} {W : World} {ops : Array Oper} {rest : List Oper} {o : Oper} {a : Act} {Q : Exit → Act → World → Prop} {e : TypeId} {z : Value} {by8 : Nat}
    (hinfo : (P.info? e).map (fun i => (i.zero, i.size, i.bytes)) = some (some z, 1, by8)) (hzs : z.cells.size = 1) (hb1 : 1 ≤ by8) (hgd : o.guard = none) (s x : Operand) (t : TypeId)
    (ho : o.op = .call { callee := .builtin .append, args := #[s, x], argTypes := #[t, t] }) (ht : P.underlying t = some (.slice e)) (base : Nat)
    (v : Value) (n : Nat) (xs : List Value) (hs : a.eval s = v) (hown : W.ownsRow base e 1 v n xs)
    (news : List Value) (m c : Nat) (hx : a.eval x = .slice (some ⟨W.heap.size, 0, none⟩) m c) (hm : news.length = m) (h1 : ∀ u ∈ news, u.oneCell' = true)
    (hbytes : (n + m) * by8 ≤ 140737488355328) (hbase : base ≤ W.heap.size)
    (h : ∀ v' w', w'.ownsRow base e 1 v' (n + m) (xs ++ news) → Below base W w' → wpList P ops Q rest (a.put o.dst v') w') :
    wpList P ops Q (o :: rest) a (W.alloc (.cells news.toArray e)) := by
  obtain ⟨i, hi, hz0, hz1, hz2⟩ := info_parts hinfo
  have hnm : n + m ≤ 140737488355328 := Nat.le_trans (Nat.le_mul_of_pos_right _ hb1) hbytes
  exact push hgd s x t ho base e i z by8 ht hi hz0 hz1 hz2 hzs v n xs hs hown news m c hx hm h1 (by unfold maxLen; omega) hbytes hbase h

theorem one1 {a : Value} (ha : a.oneCell' = true) : ∀ u ∈ [a], u.oneCell' = true := by
  intro u hu; simp at hu; rw [hu]; exact ha
end Kit
end Go.Proofs.YtiekfipjbmdkpaaGreatDoor
namespace Go.Proofs.YtiekfipjbmdkpaaGreatDoor
open Go.RowKit
namespace Kit

theorem str_own {w : World} {base n : Nat} {v : Value} {l : List UInt8} (h : w.ownsRow base 5 1 v n (bytes l)) : (convert 162 9 v).run Tryz.prog w = .ok (.string ⟨l.toArray⟩) w := by
  have hn : n = l.length := by simpa [bytes] using h.1.symm
  subst hn
  exact str_of_own Tryz.underlying162 Tryz.underlying5 Tryz.underlying9 h

theorem own_nil (w : World) (e : Nat) : (w.alloc (.cells #[] e)).ownsRow w.heap.size e 1 (.slice (some ⟨w.heap.size, 0, none⟩) 0 0) 0 [] := by
  have := own_new w e [] (by simp [maxLen])
  simpa using this
theorem own_empty (w : World) (e : Nat) : (w.alloc (.cells #[] e)).ownsRow w.heap.size e 1 (.slice (some ⟨w.heap.size, 0, none⟩) 0 0) 0 (bytes []) := own_nil w e
theorem len_size (s : ByteArray) : s.data.toList.length = s.size := by simp
end Kit
end Go.Proofs.YtiekfipjbmdkpaaGreatDoor
namespace Go.Proofs.YtiekfipjbmdkpaaGreatDoor
open Go.RowKit

set_option maxHeartbeats 3200000 in
set_option maxRecDepth 100000 in
/-- One entry of the table. -/
theorem direct1_any (b : Nat) (hb : b < 256) (w : World) :
    Calls Tryz.prog 463 #[.int .u8 b] w fun e w' => e = .returned (.int .u16 (Vs.crcTab b : Nat)) ∧ w = w' := by
  go_enter Tryz.func463, Tryz.ntmps463
  go_wp2_with fail
  go_loop [3, 7] (fun nv kv => ∃ k : Nat, k ≤ 8 ∧ kv = .int .i64 k ∧ nv = .int .u16 (Vs.crcBits k (b * 256) : Nat)) (fun _ kv => 8 - (intOf kv).toNat)
  case atStart => exact ⟨0, Nat.zero_le _, rfl, congrArg (Value.int .u16) (by show (b : Int) * 256 = ((b * 256 : Nat) : Int); omega)⟩
  case round =>
    obtain ⟨k, hk, rfl, rfl⟩ := hrel
    by_cases hlt : k < 8
    · have hT := Vs.crcBits_lt (n := b * 256) (by omega) k
      have HN := Lib.hid (Vs.crcBits_snoc k (b * 256))
      generalize Vs.crcBits k (b * 256) = T at *
      by_cases h1 : T / 32768 = 1
      · have HN1 := Lib.hid (HN.out.trans (if_pos h1))
        clear HN
        go_wp2_with fail
        go_round
        case rel => exact ⟨k + 1, by omega, by go_num, by
          rw [HN1.out, IntKind.wrap_u16, show ((T : Int) * 2 % 65536) = ((T * 2 % 65536 : Nat) : Int) by omega]
          exact congrArg (Value.int .u16) (u16_xor_nat (T * 2 % 65536) 4129 (by omega) (by decide))⟩
        case measure => simp [intOf]; omega
      · have HN1 := Lib.hid (HN.out.trans (if_neg h1))
        clear HN
        go_wp2_with fail
        go_round
        case rel => exact ⟨k + 1, by omega, by go_num, by
          rw [HN1.out]
          exact congrArg (Value.int .u16) (by omega)⟩
        case measure => simp [intOf]; omega
    · obtain rfl : k = 8 := by omega
      have HT := Lib.hid (show Vs.crcBits 8 (b * 256) = Vs.crcTab b from rfl)
      generalize Vs.crcBits 8 (b * 256) = T at *
      go_wp2_with fail
      go_ret
      rw [HT.out]
      exact ⟨rfl, rfl⟩

/-- A whole array stored. -/
theorem wpList_store_row {P : Program} {ops : Array Oper} {rest : List Oper} {o : Oper} {a : Act} {w : World} {Q : Exit → Act → World → Prop} (hgd : o.guard = none) (ty : TypeId) (x v : Operand) (ho : o.op = .store ty x v)
    (g : Nat) (hx : a.eval x = .pointer (some ⟨g, 0, none⟩)) (t : TypeId) (old cs : Array Value) (hv : a.eval v = .agg cs) (hg : w.heap[g]? = some (.cells old t (0, 0))) (hi : (P.info? ty).map (·.size) = some cs.size) (hs : old.size = cs.size) (h1 : cs.all (·.oneCell') = true)
    (h : wpList P ops Q rest (a.put o.dst undef) (w.setRow g cs)) : wpList P ops Q (o :: rest) a w := by
  refine wpList_plain hgd fun K hK => ?_
  unfold Oper.wp execOp
  simp only [ho, hx, hv, Instr.storeAt, Instr.sureAddr, Sem.run_bind, Sem.run_pure, Result.andThen_ok, run_storeVar_row w g t ty old cs hg hi hs h1]
  exact hK _ _ h
theorem tabInfo : (Tryz.prog.info? 499).map (fun i => (i.zero, i.size)) = some (some (.agg (Array.replicate 256 (.int .u16 0))), 256) := by kernel_rfl

set_option maxHeartbeats 3200000 in
set_option maxRecDepth 100000 in
/-- The table. -/
theorem table_any (w : World) :
    Calls Tryz.prog 462 #[.func (.func 463) #[] #[]] w fun e w' => e = .returned (.agg ((List.range 256).map fun i => Value.int .u16 (Vs.crcTab i : Nat)).toArray) ∧ Below w.heap.size w w' := by
  have hz := (zero_of_info (P := Tryz.prog) tabInfo).1
  go_enter Tryz.func462, Tryz.ntmps462
  go_wp2_with fail
  go_loopw [4, 5] (fun _ iv wr => ∃ j : Nat, j ≤ 256 ∧ iv = .int .i64 j ∧ Hid (wr.rowIs (w.heap.size + 1) 499 256 (fun i => .int .u16 (if i < j then (Vs.crcTab i : Nat) else 0 : Nat))) ∧ Hid (wr.rowIs w.heap.size 499 256 (fun _ => .int .u16 0)) ∧ Below w.heap.size w wr) (fun _ iv _ => 256 - (intOf iv).toNat)
  case atStart =>
    have h1 := World.rowIs_alloc w (Array.replicate 256 (.int .u16 0)) 499 (fun _ => .int .u16 0) (fun i hi => by rw [Array.size_replicate] at hi; simp [hi])
    have h2 := World.rowIs_alloc (w.alloc (.cells (Array.replicate 256 (.int .u16 0)) 499)) (Array.replicate 256 (.int .u16 0)) 499 (fun _ => .int .u16 0) (fun i hi => by rw [Array.size_replicate] at hi; simp [hi])
    rw [Array.size_replicate] at h1 h2
    rw [World.size_alloc] at h2
    exact ⟨0, by omega, rfl, Lib.hid (h2.congr (fun i _ => by simp)), Lib.hid (h1.alloc _), ((Below.refl _ _).alloc (Nat.le_refl _) _).alloc (by simp) _⟩
  case round =>
    obtain ⟨j, hj, rfl, HR, HZ, hbw⟩ := hrel
    by_cases hlt : j < 256
    · have hc := HR.out.cell hlt
      have hf := HR.out.frozen j
      have C1 := Lib.hid (fun W => direct1_any j hlt W)
      have HB := Lib.hid hbw
      have hjz : (j : Int) < 256 := by omega
      clear hbw
      go_wp2_with fail
      with_reducible refine (C1.out _).mono ?_
      rintro e w2 ⟨rfl, rfl⟩
      go_wp2_with fail
      go_roundw
      case rel => exact ⟨j + 1, by omega, by go_num, Lib.hid ((HR.out.set j _).congr (fun i hi => by
        by_cases hij : i = j
        · subst hij; simp
        · by_cases h2 : i < j
          · have : i < j + 1 := by omega
            simp [hij, h2, this]
          · have : ¬ i < j + 1 := by omega
            simp [hij, h2, this])), Lib.hid (HZ.out.setOther (by simp) _), HB.out.setCell (by simp) _⟩
      case measure => simp [intOf]; omega
    · obtain rfl : j = 256 := by omega
      obtain ⟨c, hc, hn, hcc⟩ := HR.out
      obtain ⟨c0, hc0, hn0, _⟩ := HZ.out
      have HC := Lib.hid hc
      have HC0 := Lib.hid hc0
      have HN := Lib.hid hn
      have HN0 := Lib.hid hn0
      have HE := Lib.hid (show c = ((List.range 256).map fun i => Value.int .u16 (Vs.crcTab i : Nat)).toArray from by
        apply Array.ext_getElem?
        intro i
        by_cases hi : i < 256
        · rw [hcc i hi]
          simp [hi]
        · rw [Array.getElem?_eq_none (by omega), Array.getElem?_eq_none (by simp; omega)])
      clear hc hc0 hn hn0 hcc HR HZ
      have H1 := Lib.hid (show c.all (·.oneCell') = true by
        rw [HE.out, Array.all_eq_true_iff_forall_mem]
        intro u hu
        simp at hu
        obtain ⟨i, _, rfl⟩ := hu
        rfl)
      have hi := (zero_of_info (P := Tryz.prog) tabInfo).2
      have HI := Lib.hid hi
      clear hi
      go_wp2_with (first
        | refine wpList_load_row rfl 499 _ rfl (w.heap.size + 1) rfl 499 c (0, 0) _ HC.out Tryz.underlying499 rfl (by rw [HN.out]; exact HI.out) ?_
        | refine wpList_store_row rfl 499 _ _ rfl w.heap.size rfl 499 c0 c rfl HC0.out (by rw [HN.out]; exact HI.out) (by rw [HN.out, HN0.out]) H1.out ?_)
      refine bodyPost_ret (v := .agg c) ?_ rfl ⟨?_, ?_⟩
      · exact results_cell_row rfl _ _ w.heap.size 499 c (0, 0) _ rfl (setRow_heap _ _ c0 c _ _ HC0.out) Tryz.underlying499 rfl (by rw [HN.out]; exact HI.out)
      · rw [HE.out]
      · exact below_setRow hbw (Nat.le_refl _) _

namespace Vs
/-- The table as a value. -/
def tabA : Array Value := ((List.range 256).map fun i => Value.int .u16 (crcTab i : Nat)).toArray
theorem tabA_size : tabA.size = 256 := by simp [tabA]
theorem tabA_at {i : Nat} (h : i < 256) : tabA[i]? = some (.int .u16 (crcTab i : Nat)) := by simp [tabA, h]
theorem tabA_one : tabA.all (·.oneCell') = true := by
  rw [Array.all_eq_true_iff_forall_mem]
  intro u hu
  simp [tabA] at hu
  obtain ⟨i, _, rfl⟩ := hu
  rfl
end Vs

set_option maxHeartbeats 3200000 in
set_option maxRecDepth 100000 in
/-- checksum.direct. -/
theorem direct_any (w : World) : Calls Tryz.prog 435 #[] w fun e w' => e = .returned (.agg Vs.tabA) ∧ Below w.heap.size w w' := by
  have hz := (zero_of_info (P := Tryz.prog) tabInfo).1
  have CT := Lib.hid (fun W => table_any W)
  have HI := Lib.hid (zero_of_info (P := Tryz.prog) tabInfo).2
  rw [show ((List.range 256).map fun i => Value.int .u16 (Vs.crcTab i : Nat)).toArray = Vs.tabA from rfl] at CT
  have HN := Lib.hid Vs.tabA_size
  have H1 := Lib.hid Vs.tabA_one
  generalize Vs.tabA = c at *
  go_enter Tryz.func435, Tryz.ntmps435
  go_wp2_with fail
  with_reducible refine (CT.out _).mono ?_
  rintro e w2 ⟨rfl, hb2⟩
  have HC0 := Lib.hid ((hb2.block w.heap.size (by simp)).trans (heap_alloc_new w (.cells (Array.replicate 256 (.int .u16 0)) 499)))
  have HB := Lib.hid (((Below.refl _ w).alloc (Nat.le_refl _) (.cells (Array.replicate 256 (.int .u16 0)) 499)).trans (hb2.mono (by simp)))
  clear hb2
  go_wp2_with (refine wpList_store_row rfl 499 _ _ rfl w.heap.size rfl 499 (Array.replicate 256 (.int .u16 0)) c rfl HC0.out (by rw [HN.out]; exact HI.out) (by rw [HN.out, Array.size_replicate]) H1.out ?_)
  refine bodyPost_ret (v := .agg c) ?_ rfl ⟨rfl, ?_⟩
  · exact results_cell_row rfl _ _ w.heap.size 499 c (0, 0) _ rfl (setRow_heap _ _ (Array.replicate 256 (.int .u16 0)) c _ _ HC0.out) Tryz.underlying499 rfl (by rw [HN.out]; exact HI.out)
  · exact below_setRow HB.out (Nat.le_refl _) _

set_option maxHeartbeats 3200000 in
set_option maxRecDepth 100000 in
/-- checksum.ExtendCRC16, from 0 on. -/
theorem extend_any (s : ByteArray) (w : World) (hs : s.size ≤ 9223372036854775807) : Calls Tryz.prog 378 #[.int .u16 0, .string s] w fun e w' => e = .returned (.int .u16 (Vs.crcR s.data.toList : Nat)) ∧ Below w.heap.size w w' := by
  have hdl := Kit.len_size s
  have hz := (zero_of_info (P := Tryz.prog) tabInfo).1
  have CT := Lib.hid (fun W => direct_any W)
  have HI := Lib.hid (zero_of_info (P := Tryz.prog) tabInfo).2
  have HN := Lib.hid Vs.tabA_size
  have H1 := Lib.hid Vs.tabA_one
  have HAT := Lib.hid (fun i h => Vs.tabA_at (i := i) h)
  generalize Vs.tabA = c at *
  go_enter Tryz.func378, Tryz.ntmps378
  go_wp2_with fail
  with_reducible refine (CT.out _).mono ?_
  rintro e w2 ⟨rfl, hb2⟩
  have HC0 := Lib.hid (heap_alloc_new w2 (.cells (Array.replicate 256 (.int .u16 0)) 499))
  have HB := Lib.hid (hb2.alloc hb2.size (.cells (Array.replicate 256 (.int .u16 0)) 499))
  have hg2 := hb2.size
  clear hb2
  go_wp2_with (refine wpList_store_row rfl 499 _ _ rfl w2.heap.size rfl 499 (Array.replicate 256 (.int .u16 0)) c rfl HC0.out (by rw [HN.out]; exact HI.out) (by rw [HN.out, Array.size_replicate]) H1.out ?_)
  have HCELL := Lib.hid (fun i (hi : i < 256) => (cell_setRow_same (w2.alloc (.cells (Array.replicate 256 (.int .u16 0)) 499)) w2.heap.size i _ c _ _ HC0.out).trans (HAT.out i hi))
  have HBT := Lib.hid (below_setRow HB.out hg2 c)
  clear HB HC0 CT HI HN H1 HAT hz
  generalize (w2.alloc (.cells (Array.replicate 256 (.int .u16 0)) 499)).setRow w2.heap.size c = wT at *
  generalize w2.heap.size = g at *
  go_loop [0, 6, 10] (fun cv _ iv => ∃ i : Nat, i ≤ s.size ∧ iv = .int .i64 i ∧ cv = .int .u16 (Vs.crcR (s.data.toList.take i) : Nat)) (fun _ _ iv => s.size - (intOf iv).toNat)
  case atStart => exact ⟨0, Nat.zero_le _, rfl, rfl⟩
  case round =>
    obtain ⟨i, hi, rfl, rfl⟩ := hrel
    by_cases hlt : i < s.size
    · have hT := Vs.crcR_lt (s.data.toList.take i)
      have HN := Lib.hid (show Vs.crcR (s.data.toList.take (i + 1)) = Vs.crcStep (Vs.crcR (s.data.toList.take i)) (s[i]'hlt).toNat by
        rw [List.take_succ_eq_append_getElem (by rw [hdl]; exact hlt), Vs.crcR_snoc]
        rfl)
      generalize Vs.crcR (s.data.toList.take i) = T at *
      have hb := UInt8.toNat_lt (s[i]'hlt)
      have hx := Nat.xor_lt_two_pow (n := 8) (x := T / 256) (y := (s[i]'hlt).toNat) (by omega) hb
      have hq : (T : Int) / 256 < 256 := by omega
      have hq0 : 0 ≤ (T : Int) / 256 := by omega
      have hcell := HCELL.out _ hx
      have h8 := u8_xor_nat (T / 256) (s[i]'hlt).toNat (by omega) hb
      rw [show ((T / 256 : Nat) : Int) = (T : Int) / 256 by omega] at h8
      go_wp2_with fail
      go_round
      case rel => exact ⟨i + 1, by omega, by go_num, by
        rw [HN.out, IntKind.wrap_u16, show ((T : Int) * 256 % 65536) = ((T * 256 % 65536 : Nat) : Int) by omega]
        exact congrArg (Value.int .u16) (u16_xor_nat (T * 256 % 65536) _ (by omega) (Vs.crcTab_lt hx))⟩
      case measure => simp [intOf]; omega
    · obtain rfl : i = s.size := by omega
      have HT := Lib.hid (show s.data.toList.take s.size = s.data.toList from List.take_of_length_le (by omega))
      rw [HT.out]
      go_wp2_with fail
      go_ret
      exact ⟨rfl, HBT.out⟩

set_option maxHeartbeats 1600000 in
set_option maxRecDepth 100000 in
/-- checksum.CRC16. -/
theorem crc16_any (s : ByteArray) (w : World) (hs : s.size ≤ 9223372036854775807) : Calls Tryz.prog 294 #[.string s] w fun e w' => e = .returned (.int .u16 (Vs.crcR s.data.toList : Nat)) ∧ Below w.heap.size w w' := by
  have CE := Lib.hid (fun W => extend_any s W hs)
  generalize Vs.crcR s.data.toList = T at *
  go_enter Tryz.func294, Tryz.ntmps294
  go_wp2_with fail
  with_reducible refine (CE.out _).mono ?_
  rintro e w2 ⟨rfl, hb2⟩
  go_wp2_with fail
  go_ret
  exact ⟨rfl, hb2⟩
end Go.Proofs.YtiekfipjbmdkpaaGreatDoor
namespace Go.Proofs.YtiekfipjbmdkpaaGreatDoor
set_option linter.unusedVariables false
open Go.RowKit
namespace Vs
theorem crcBit_form {n : Nat} (h : n < 65536) : crcBit n = (n * 2 % 65536) ^^^ (n / 32768 * 4129) := by
  unfold crcBit
  split
  · rename_i e
    rw [e]
  · have : n / 32768 = 0 := by omega
    rw [this]
    simp
theorem bit_dist : ∀ a b : Fin 2, ((a.val ^^^ b.val) * 4129) = (a.val * 4129) ^^^ (b.val * 4129) := by decide
theorem xor_lt {x y : Nat} (hx : x < 65536) (hy : y < 65536) : x ^^^ y < 65536 := Nat.xor_lt_two_pow (n := 16) hx hy
theorem xor_4 (a b c d : Nat) : (a ^^^ b) ^^^ (c ^^^ d) = (a ^^^ c) ^^^ (b ^^^ d) := by
  rw [Nat.xor_assoc, Nat.xor_assoc, ← Nat.xor_assoc b c d, Nat.xor_comm b c, Nat.xor_assoc c b d]
theorem crcBit_xor {x y : Nat} (hx : x < 65536) (hy : y < 65536) : crcBit (x ^^^ y) = crcBit x ^^^ crcBit y := by
  rw [crcBit_form hx, crcBit_form hy, crcBit_form (xor_lt hx hy), xor_4]
  have e1 : (x ^^^ y) * 2 % 65536 = (x * 2 % 65536) ^^^ (y * 2 % 65536) := by
    have h1 : (x ^^^ y) * 2 = x * 2 ^^^ y * 2 := by
      have := Nat.shiftLeft_xor_distrib (a := x) (b := y) (i := 1)
      simpa [Nat.shiftLeft_eq] using this
    rw [h1]
    exact Nat.xor_mod_two_pow (n := 16)
  have e2 : (x ^^^ y) / 32768 = (x / 32768) ^^^ (y / 32768) := by
    have := Nat.shiftRight_xor_distrib (a := x) (b := y) (i := 15)
    simpa [Nat.shiftRight_eq_div_pow] using this
  rw [e1, e2]
  have := bit_dist ⟨x / 32768, by omega⟩ ⟨y / 32768, by omega⟩
  simp only [] at this
  rw [this]
theorem crcBits_xor (k : Nat) {x y : Nat} (hx : x < 65536) (hy : y < 65536) : crcBits k (x ^^^ y) = crcBits k x ^^^ crcBits k y := by
  induction k with
  | zero => rfl
  | succ k ih => rw [crcBits_snoc, crcBits_snoc, crcBits_snoc, ih, crcBit_xor (crcBits_lt hx k) (crcBits_lt hy k)]
theorem crc_low : ∀ i : Fin 256, crcBits 8 i.val = i.val * 256 := by decide +kernel
theorem xor_256 {c b : Nat} (hc : c < 65536) : c ^^^ (b * 256) = (c / 256 ^^^ b) * 256 ^^^ (c % 256) := by
  have h1 : (c / 256 ^^^ b) * 256 = c / 256 * 256 ^^^ b * 256 := by
    have := Nat.shiftLeft_xor_distrib (a := c / 256) (b := b) (i := 8)
    simpa [Nat.shiftLeft_eq] using this
  have h2 : c = c / 256 * 256 ^^^ c % 256 := by
    apply Nat.eq_of_testBit_eq
    intro i
    rw [Nat.testBit_xor, show (256 : Nat) = 2 ^ 8 from rfl, Nat.testBit_mul_two_pow, Nat.testBit_mod_two_pow, Nat.testBit_div_two_pow]
    by_cases hi : i < 8
    · rw [decide_eq_false (show ¬ 8 ≤ i by omega), decide_eq_true hi]
      simp
    · rw [decide_eq_true (show 8 ≤ i by omega), decide_eq_false hi, show i - 8 + 8 = i by omega]
      simp
  rw [h1, Nat.xor_assoc, Nat.xor_comm (b * 256), ← Nat.xor_assoc, ← h2]
/-- Eight steps bit by bit are one by the table. -/
theorem crc_eight {c b : Nat} (hc : c < 65536) (hb : b < 256) : crcBits 8 (c ^^^ (b * 256)) = crcStep c b := by
  have hx : c / 256 ^^^ b < 256 := Nat.xor_lt_two_pow (n := 8) (by omega) hb
  rw [xor_256 hc, crcBits_xor 8 (by omega) (by omega)]
  have := crc_low ⟨c % 256, by omega⟩
  simp only [] at this
  rw [this, Nat.xor_comm]
  unfold crcStep crcTab
  rw [show c * 256 % 65536 = c % 256 * 256 by omega]
end Vs

set_option maxHeartbeats 3200000 in
set_option maxRecDepth 100000 in
/-- masterdiscref02.ExtendCRC16. -/
theorem rExtend_any (s : ByteArray) (w : World) (hs : s.size ≤ 9223372036854775807) : Calls Tryz.prog 444 #[.int .u16 0, .string s] w fun e w' => e = .returned (.int .u16 (Vs.crcR s.data.toList : Nat)) ∧ w = w' := by
  have hdl := Kit.len_size s
  go_enter Tryz.func444, Tryz.ntmps444
  go_wp2_with fail
  go_loop [0, 5] (fun cv iv => ∃ i : Nat, i ≤ s.size ∧ iv = .int .i64 i ∧ cv = .int .u16 (Vs.crcR (s.data.toList.take i) : Nat)) (fun _ iv => s.size - (intOf iv).toNat)
  case atStart => exact ⟨0, Nat.zero_le _, rfl, rfl⟩
  case round =>
    obtain ⟨i, hi, rfl, rfl⟩ := hrel
    by_cases hlt : i < s.size
    · have hT := Vs.crcR_lt (s.data.toList.take i)
      have hb256 := (s[i]'hlt).toNat_lt
      have HN := Lib.hid (show Vs.crcR (s.data.toList.take (i + 1)) = Vs.crcBits 8 (Vs.crcR (s.data.toList.take i) ^^^ ((s[i]'hlt).toNat * 256)) by
        rw [List.take_succ_eq_append_getElem (by rw [hdl]; exact hlt), Vs.crcR_snoc, Vs.crc_eight hT hb256]
        rfl)
      generalize Vs.crcR (s.data.toList.take i) = T at *
      have hX := Vs.xor_lt hT (show (s[i]'hlt).toNat * 256 < 65536 by omega)
      have HX := Lib.hid (show bits .xor .u16 (T : Int) (((s[i]'hlt).toNat : Int) * 256) = ((T ^^^ ((s[i]'hlt).toNat * 256) : Nat) : Int) from by
        have := u16_xor_nat T ((s[i]'hlt).toNat * 256) hT (by omega)
        rw [show (((s[i]'hlt).toNat * 256 : Nat) : Int) = ((s[i]'hlt).toNat : Int) * 256 by omega] at this
        exact this)
      generalize T ^^^ ((s[i]'hlt).toNat * 256) = X at *
      have hTz : (T : Int) < 65536 := by omega
      go_wp2_with fail
      clear hTz
      go_loop [0, 6, 7] (fun cv kv _ => ∃ k : Nat, k ≤ 8 ∧ kv = .int .i64 k ∧ cv = .int .u16 (Vs.crcBits k X : Nat)) (fun _ kv _ => 8 - (intOf kv).toNat)
      case atStart => exact ⟨0, Nat.zero_le _, rfl, congrArg (Value.int .u16) HX.out⟩
      case round =>
        obtain ⟨k, hk, rfl, rfl⟩ := hrel
        by_cases hlt2 : k < 8
        · have hR := Vs.crcBits_lt hX k
          have HN2 := Lib.hid (Vs.crcBits_snoc k X)
          generalize Vs.crcBits k X = R at *
          clear hT hb256
          by_cases h1 : R / 32768 = 1
          · have HN1 := Lib.hid (HN2.out.trans (if_pos h1))
            clear HN2
            go_wp2_with fail
            go_round
            case rel => exact ⟨k + 1, by omega, by go_num, by
              rw [HN1.out, show ((R : Int) % 32768 * 2) = ((R * 2 % 65536 : Nat) : Int) by omega]
              exact congrArg (Value.int .u16) (u16_xor_nat (R * 2 % 65536) 4129 (by omega) (by decide))⟩
            case measure => simp [intOf]; omega
          · have HN1 := Lib.hid (HN2.out.trans (if_neg h1))
            have h0 : R / 32768 = 0 := by omega
            clear HN2
            go_wp2_with fail
            go_round
            case rel => exact ⟨k + 1, by omega, by go_num, by
              rw [HN1.out]
              exact congrArg (Value.int .u16) (by omega)⟩
            case measure => simp [intOf]; omega
        · obtain rfl : k = 8 := by omega
          rw [← HN.out]
          go_wp2_with fail
          go_round
          case rel => exact ⟨i + 1, by omega, by go_num, rfl⟩
          case measure => simp [intOf]; omega
    · obtain rfl : i = s.size := by omega
      have HT := Lib.hid (show s.data.toList.take s.size = s.data.toList from List.take_of_length_le (by omega))
      rw [HT.out]
      go_wp2_with fail
      go_ret
      exact ⟨rfl, rfl⟩

set_option maxHeartbeats 1600000 in
/-- masterdiscref02.CRC16. -/
theorem rCrc16_any (s : ByteArray) (w : World) (hs : s.size ≤ 9223372036854775807) : Calls Tryz.prog 402 #[.string s] w fun e w' => e = .returned (.int .u16 (Vs.crcR s.data.toList : Nat)) ∧ w = w' := by
  have CE := Lib.hid (fun W => rExtend_any s W hs)
  generalize Vs.crcR s.data.toList = r at *
  go_enter Tryz.func402, Tryz.ntmps402
  go_wp2_with fail
  with_reducible refine (CE.out _).mono ?_
  rintro e w2 ⟨rfl, rfl⟩
  go_wp2_with fail
  go_ret
  exact ⟨rfl, rfl⟩
end Go.Proofs.YtiekfipjbmdkpaaGreatDoor
namespace Go.Proofs.YtiekfipjbmdkpaaGreatDoor
open Go.RowKit
theorem byteInfo : (Tryz.prog.info? 5).map (fun i => (i.zero, i.size, i.bytes)) = some (some (.int .u8 0), 1, 1) := by kernel_rfl
end Go.Proofs.YtiekfipjbmdkpaaGreatDoor
namespace Go.Proofs.YtiekfipjbmdkpaaGreatDoor
open Go.RowKit
set_option maxHeartbeats 1600000 in
set_option maxRecDepth 100000 in
/-- masterdiscref01.Repeat of a byte. -/
theorem vRepeat_any (b : UInt8) (z : Int) (h1 : z ≤ 65536) (h0 : -9223372036854775808 ≤ z) (w : World) : Calls Tryz.prog 207 #[.int .u8 (b.toNat : Nat), .int .i64 z] w fun e w' => e = .returned (.string ⟨(List.replicate z.toNat b).toArray⟩) ∧ Below w.heap.size w w' := by
  have hb := UInt8.toNat_lt b
  have hbo := Kit.bytes_of (b.toNat : Nat) (by omega) (by omega)
  rw [Int.toNat_natCast, UInt8.ofNat_toNat] at hbo
  have HBO := Lib.hid hbo
  clear hbo
  go_enter Tryz.func207, Tryz.ntmps207
  go_wp2_with fail
  go_loopw [6, 5] (fun iv ov wr => ∃ j : Nat, (j : Int) ≤ max z 0 ∧ iv = .int .i64 j ∧ wr.ownsRow w.heap.size 5 1 ov j (Kit.bytes (List.replicate j b)) ∧ Below w.heap.size w wr) (fun iv _ _ => (z - intOf iv).toNat)
  case atStart => exact ⟨0, by omega, rfl, Kit.own_empty w _, (Below.refl _ _).alloc (Nat.le_refl _) _⟩
  case round =>
    obtain ⟨j, hj, rfl, hown, hbw⟩ := hrel
    have HOWN := Lib.hid hown
    clear hown
    have hsz := hbw.size
    by_cases hlt : (j : Int) < z
    · go_wp2_with (at_builtin; refine Kit.app byteInfo rfl (by decide) rfl _ _ 162 rfl Tryz.underlying162 w.heap.size _ _ _ rfl HOWN.out [_] 1 1 rfl rfl (Kit.one1 rfl) ?c1 hsz ?_)
      case c1 => omega
      intro v' w4 hown' hb4
      have HOWN' := Lib.hid hown'
      clear hown'
      go_wp2_with fail
      go_roundw
      case rel => exact ⟨j + 1, by omega, by go_num, by
        have h := HOWN'.out
        rw [List.replicate_succ', Kit.bytes_append, HBO.out]
        exact h, hbw.trans hb4⟩
      case measure => simp [intOf]; omega
    · have hcv := Kit.str_own HOWN.out
      have hz : z.toNat = j := by omega
      have HZ := Lib.hid hz
      clear hz
      go_wp2_with fail
      go_ret
      rw [HZ.out]
      exact ⟨rfl, hbw⟩

end Go.Proofs.YtiekfipjbmdkpaaGreatDoor
namespace Go.Proofs.YtiekfipjbmdkpaaGreatDoor
namespace Vs
/-- A clock. -/
structure C where
  y : Int
  m : Int
  d : Int
  h : Int
  mi : Int
  s : Int
end Vs
end Go.Proofs.YtiekfipjbmdkpaaGreatDoor
namespace Go.Proofs.YtiekfipjbmdkpaaGreatDoor
namespace Cs

/-- The numbers that stand in compressed Unicode behind its first byte. -/
def units (size : Nat) : List UInt8 → List Nat
  | [] => []
  | [a] => if size = 1 then [a.toNat] else []
  | a :: b :: t => if size = 1 then a.toNat :: units size (b :: t) else (a.toNat * 256 + b.toNat) :: units size t

/-- The numbers as characters. -/
def allChars (ns : List Nat) : Bool := ns.all fun n => isChar (n : Int)

/-- The bytes of characters. -/
def text (ns : List Nat) : List UInt8 := ns.flatMap fun (n : Nat) => enc (n : Int)

end Cs
end Go.Proofs.YtiekfipjbmdkpaaGreatDoor
namespace Go.Proofs.YtiekfipjbmdkpaaGreatDoor
namespace Vs
open Pm (le num at_ le_len num_le num_lt)
structure Vol where
  name : ByteArray
  set : ByteArray
  pub : ByteArray
  prep : ByteArray
  app : ByteArray
  number : Int
  discs : Int
  time : Int
structure Part where
  number : Int
  access : Int
  start : Int
  count : Int
  bstart : Int
  bcount : Int
structure D where
  vol : Vol
  part : Part
  maps : Int
  table : ByteArray
  fk : Int
  fl : Int
  fb : Int
  fp : Int
  istart : Int
  icount : Int
abbrev by_ (s : ByteArray) : List UInt8 := s.data.toList
def word (n : Int) : Bool := decide (0 ≤ n) && decide (n < 4294967296)
/-- An extent descriptor; a long allocation descriptor; a field. -/
def n4 (n : Int) : List UInt8 := le 4 n.toNat
end Vs
end Go.Proofs.YtiekfipjbmdkpaaGreatDoor
namespace Go.Proofs.YtiekfipjbmdkpaaGreatDoor
namespace Vs
open Pm (le num at_ le_len num_le num_lt)
def bs (l : List UInt8) : ByteArray := ⟨l.toArray⟩
/-- A descriptor that prevails. -/
structure Pv where
  block : ByteArray
  index : Nat
  seq : Int
def upd (f : Int → Option Pv) (id : Int) (x : Pv) : Int → Option Pv :=
  match f id with
  | none => fun j => if j = id then some x else f j
  | some o => if o.seq < x.seq then (fun j => if j = id then some x else f j) else f
def v0 : Vol := ⟨⟨#[]⟩, ⟨#[]⟩, ⟨#[]⟩, ⟨#[]⟩, ⟨#[]⟩, 0, 0, 0⟩
def q0 : Part := ⟨0, 0, 0, 0, 0, 0⟩
def d0 : D := ⟨v0, q0, 0, ⟨#[]⟩, 0, 0, 0, 0, 0, 0⟩
end Vs
end Go.Proofs.YtiekfipjbmdkpaaGreatDoor
namespace Go.Proofs.YtiekfipjbmdkpaaGreatDoor
namespace Vs
open Pm (le num at_ le_len num_le num_lt)
theorem hd {p q : List UInt8} {n : Nat} (h : p.length = n) : sl (p ++ q) 0 n = p := by
  subst h
  exact sl_head p q
end Vs
end Go.Proofs.YtiekfipjbmdkpaaGreatDoor
namespace Go.Proofs.YtiekfipjbmdkpaaGreatDoor
open Go.RowKit
namespace Pm
/-- The sizes that occur. -/
def Sz (k : Nat) : Prop := k = 1 ∨ k = 2 ∨ k = 4 ∨ k = 6 ∨ k = 8
theorem Sz.le {k : Nat} (h : Sz k) : 1 ≤ k ∧ k ≤ 8 := by unfold Sz at h; omega
end Pm

end Go.Proofs.YtiekfipjbmdkpaaGreatDoor
namespace Go.Proofs.YtiekfipjbmdkpaaGreatDoor
open Go.RowKit
open Vs (bs by_)
namespace Vs
/-- The block under way: some bytes, and zero bytes behind them. -/
def Img (W : World) (ob : Nat) (L : List UInt8) : Prop := L.length ≤ 2048 ∧ W.heap[ob]? = some (.cells (Lib.byteCells (L ++ z (2048 - L.length))).toArray 297 (0, 0))
theorem Img.lt {W : World} {ob : Nat} {L : List UInt8} (h : Img W ob L) : ob < W.heap.size := (Array.getElem?_eq_some_iff.1 h.2).1
theorem Img.below {W W' : World} {B ob : Nat} {L : List UInt8} (h : Img W ob L) (hb : Below B W W') (hB : ob < B) : Img W' ob L := ⟨h.1, (hb.block ob hB).trans h.2⟩
/-- The closure put. -/
def putV (ob : Nat) : Value := .func (.func 165) #[] #[.pointer (some ⟨ob, 0, none⟩)]
end Vs

namespace Vs
theorem zero_cells (n : Nat) : Array.replicate n (Value.int .u8 0) = (Lib.byteCells (z n)).toArray := by
  unfold Lib.byteCells z
  rw [List.map_replicate, List.toArray_replicate]
  rfl
theorem Img.new (w : World) : Img (w.alloc (.cells (Array.replicate 2048 (.int .u8 0)) 297)) w.heap.size [] := by
  refine ⟨Nat.zero_le _, (heap_alloc_new w _).trans (congrArg (fun c => some (Obj.cells c 297 (0, 0))) ?_)⟩
  rw [List.nil_append, List.length_nil, Nat.sub_zero]
  exact zero_cells 2048
theorem Img.cell {W : World} {ob : Nat} {L : List UInt8} (h : Img W ob L) {i : Nat} (hi : i < 2048) : W.cell? ⟨ob, i, none⟩ = some (.int .u8 (Cs.byt (L ++ z (2048 - L.length)) i : Nat)) := by
  rw [cell_of_row _ _ i _ _ _ h.2]
  have hl : i < (L ++ z (2048 - L.length)).length := by
    rw [List.length_append, z_len]
    have := h.1
    omega
  unfold Lib.byteCells Cs.byt
  rw [List.getElem?_toArray, List.getElem?_map, List.getElem?_eq_getElem hl, List.getD_eq_getElem?_getD, List.getElem?_eq_getElem hl]
  rfl
/-- What a closure that puts fields does: from an empty block on, the fields L. -/
def Fills (F : FuncId) (caps : Array Value) (w0 : World) (L : List UInt8) : Prop :=
  Enters Tryz.prog F ∧ ∀ (W : World) (ob : Nat), Below w0.heap.size w0 W → w0.heap.size ≤ ob → Img W ob [] → Calls Tryz.prog F (#[putV ob] ++ caps) W fun e W' => e = .returned (.tuple #[]) ∧ Img W' ob L ∧ Below ob W W'
theorem Fills.below {F : FuncId} {caps : Array Value} {w0 w1 : World} {L : List UInt8} (h : Fills F caps w0 L) (hb : Below w0.heap.size w0 w1) : Fills F caps w1 L := ⟨h.1, fun W ob h1 h2 h3 =>
  h.2 W ob (hb.trans (h1.mono hb.size)) (Nat.le_trans hb.size h2) h3⟩
end Vs

end Go.Proofs.YtiekfipjbmdkpaaGreatDoor
namespace Go.Proofs.YtiekfipjbmdkpaaGreatDoor
open Go.RowKit
namespace Vs
/-- A clock under way: its block, the block of the result, the rest as it was. -/
structure Ck (w : World) (y m hh mi se : Int) (wr : World) : Prop where
  z : wr.heap[w.heap.size]? = some (.cells #[.int .i64 0, .int .i64 0, .int .i64 0, .int .i64 0, .int .i64 0, .int .i64 0] 413 (0, 0))
  c : wr.heap[w.heap.size + 1]? = some (.cells #[.int .i64 y, .int .i64 m, .int .i64 0, .int .i64 hh, .int .i64 mi, .int .i64 se] 413 (0, 0))
  b : Below w.heap.size w wr
theorem Ck.lt {w wr : World} {y m hh mi se : Int} (h : Ck w y m hh mi se wr) : w.heap.size + 1 < wr.heap.size := (Array.getElem?_eq_some_iff.1 h.c).1
theorem Ck.below {w wr w2 : World} {y m hh mi se : Int} (h : Ck w y m hh mi se wr) (hb : Below wr.heap.size wr w2) : Ck w y m hh mi se w2 := by
  have hl := h.lt
  exact ⟨(hb.block _ (by omega)).trans h.z, (hb.block _ hl).trans h.c, h.b.trans (hb.mono (by omega))⟩
theorem Ck.new (w : World) (y m hh mi se : Int) : Ck w y m hh mi se ((w.alloc (.cells #[.int .i64 0, .int .i64 0, .int .i64 0, .int .i64 0, .int .i64 0, .int .i64 0] 413)).alloc (.cells #[.int .i64 y, .int .i64 m, .int .i64 0, .int .i64 hh, .int .i64 mi, .int .i64 se] 413)) := by
  refine ⟨?_, ?_, ((Below.refl _ _).alloc (Nat.le_refl _) _).alloc (by simp) _⟩
  · exact heap_alloc2_old _ _ _
  · exact heap_alloc2_new _ _ _
theorem Ck.cell {w wr : World} {y m hh mi se : Int} (h : Ck w y m hh mi se wr) (j : Nat) : wr.cell? ⟨w.heap.size + 1, j, none⟩ = (#[.int .i64 y, .int .i64 m, .int .i64 0, .int .i64 hh, .int .i64 mi, .int .i64 se] : Array Value)[j]? := cell_of_row _ _ _ _ _ _ h.c
end Vs

end Go.Proofs.YtiekfipjbmdkpaaGreatDoor
namespace Go.Proofs.YtiekfipjbmdkpaaGreatDoor
open Go.RowKit

/-- What the loop of Expand has done: the numbers 'done' are read, the rest stands behind. -/
structure Done (d : List UInt8) (size : Nat) (i : Nat) (ns : List Nat) : Prop where
  le : i ≤ d.length
  ev : (d.length - i) % size = 0
  split : Cs.units size (d.drop 1) = ns ++ Cs.units size (d.drop i)
  all : Cs.allChars ns = true
  few : ns.length ≤ i

theorem units_drop (d : List UInt8) (size i : Nat) (hs : size = 1 ∨ size = 2) (hi : i < d.length) (hev : (d.length - i) % size = 0) :
    Cs.units size (d.drop i) = (if size = 1 then Cs.byt d i else Cs.byt d i * 256 + Cs.byt d (i + 1)) :: Cs.units size (d.drop (i + size)) := by
  have e0 : (d[i]'hi).toNat = Cs.byt d i := by simp [Cs.byt, List.getD, hi]
  rcases hs with rfl | rfl
  · rw [List.drop_eq_getElem_cons hi, if_pos rfl, ← e0]
    cases hd : d.drop (i + 1) with
    | nil => simp [Cs.units]
    | cons b t => simp [Cs.units]
  · have hi1 : i + 1 < d.length := by omega
    have e1 : (d[i + 1]'hi1).toNat = Cs.byt d (i + 1) := by simp [Cs.byt, List.getD, hi1]
    rw [List.drop_eq_getElem_cons hi, List.drop_eq_getElem_cons hi1, if_neg (by decide), ← e0, ← e1]
    simp [Cs.units]

theorem Done.start {d : List UInt8} {size : Nat} (h1 : 1 ≤ d.length) (hev : (d.length - 1) % size = 0) : Done d size 1 [] :=
  ⟨h1, hev, rfl, rfl, by simp⟩

theorem Done.fail {d : List UInt8} {size i u : Nat} {ns : List Nat} (h : Done d size i ns) (hs : size = 1 ∨ size = 2) (hi : i < d.length) (hu : (if size = 1 then Cs.byt d i else Cs.byt d i * 256 + Cs.byt d (i + 1)) = u) (hc : Cs.isChar (u : Int) = false) :
    Cs.allChars (Cs.units size (d.drop 1)) = false := by
  rw [h.split, units_drop d size i hs hi h.ev, hu]
  unfold Cs.allChars
  rw [List.all_append]
  simp [hc]

theorem Done.done {d : List UInt8} {size : Nat} {ns : List Nat} (h : Done d size d.length ns) : Cs.units size (d.drop 1) = ns := by
  rw [h.split]
  simp [Cs.units]

end Go.Proofs.YtiekfipjbmdkpaaGreatDoor
namespace Go.Proofs.YtiekfipjbmdkpaaGreatDoor
open Go.RowKit
namespace Kit

/-- A row whose nil slice has no capacity. -/
def RowS (w : World) (v : Value) (xs : List Value) : Prop := Row w v xs ∧ ∀ n c, v = .slice none n c → c = 0
theorem RowS.below {w w' : World} {v : Value} {xs : List Value} (h : RowS w v xs) (hb : Below w.heap.size w w') : RowS w' v xs := ⟨h.1.below hb, h.2⟩
theorem RowS.nil (w : World) : RowS w (.slice none 0 0) [] := ⟨⟨none, 0, rfl, by simp, by simp, fun h => by simp at h⟩, fun n c h => by simp at h; exact h.2.symm⟩
/-- A row that has just been laid. -/
theorem RowS.new (w : World) (xs : List Value) (e : TypeId) (hl : xs.length ≤ maxLen) : RowS (w.alloc (.cells xs.toArray e)) (.slice (some ⟨w.heap.size, 0, none⟩) xs.length xs.length) xs := by
  refine ⟨⟨some ⟨w.heap.size, 0, none⟩, xs.length, rfl, Nat.le_refl _, hl, fun _ => ⟨w.heap.size, 0, rfl, by simp, fun j u hu => ?_⟩⟩, fun n c h => by simp at h⟩
  rw [World.cell?_alloc_at _ _ _ _ (by simp)]
  simpa using hu

/-- A slice value whose elements, of some cells each, read as lists of cells. -/
def RowN (w : World) (v : Value) (size n : Nat) (C : Nat → List Value) : Prop := ∃ A c, v = .slice A n c ∧ n ≤ c ∧ n ≤ maxLen ∧
  (0 < n → ∃ b o, A = some ⟨b, o, none⟩ ∧ b < w.heap.size ∧ ∀ j, j < n → ∀ k u, (C j)[k]? = some u → w.cell? ⟨b, o + j * size + k, none⟩ = some u)
theorem RowN.below {w w' : World} {v : Value} {size n : Nat} {C : Nat → List Value} (h : RowN w v size n C) (hb : Below w.heap.size w w') : RowN w' v size n C := by
  obtain ⟨A, c, rfl, h1, h2, h3⟩ := h
  refine ⟨A, c, rfl, h1, h2, fun h0 => ?_⟩
  obtain ⟨b, o, rfl, hl, hc⟩ := h3 h0
  exact ⟨b, o, rfl, Nat.lt_of_lt_of_le hl hb.size, fun j hj k u hu => (hb.cell (p := ⟨b, o + j * size + k, none⟩) hl).trans (hc j hj k u hu)⟩
end Kit
end Go.Proofs.YtiekfipjbmdkpaaGreatDoor
namespace Go.Proofs.YtiekfipjbmdkpaaGreatDoor
namespace Vs
open Pm (le num at_ le_len num_le num_lt)
def w4 (l : List Int) : List UInt8 := l.flatMap n4
end Vs
end Go.Proofs.YtiekfipjbmdkpaaGreatDoor
namespace Go.Proofs.YtiekfipjbmdkpaaGreatDoor
namespace Pm

/-- An extent. -/
structure X where
  kind : Int
  length : Int
  block : Int
  part : Int

def cnt (n : Int) : Int := (n + 2047) / 2048
/-- A mapping (without the mirror's extents, which nothing reads). -/
structure Mp where
  maps : List M
  start : Int
  count : Int
  vat : List Int
  spares : List (Int × Int)
  mdat : List X

/-- One block more behind spans. -/
def push (out : List (Int × Int)) (lba : Int) : List (Int × Int) :=
  match out.getLast? with
  | some s => if s.1 + s.2 = lba then out.dropLast ++ [(s.1, s.2 + 1)] else out ++ [(lba, 1)]
  | .none => [(lba, 1)]
end Pm
end Go.Proofs.YtiekfipjbmdkpaaGreatDoor
namespace Go.Proofs.YtiekfipjbmdkpaaGreatDoor
open Go.RowKit
namespace Pm
def exC (x : X) : List Value := [.int .i64 x.kind, .int .i64 x.length, .int .i64 x.block, .int .i64 x.part]
def x0 : X := ⟨0, 0, 0, 0⟩
/-- A slice value that reads as extents. -/
structure ExtsAt (w : World) (v : Value) (l : List X) : Prop where
  row : Kit.RowN w v 4 l.length (fun j => exC (l.getD j x0))
theorem ExtsAt.below {w w' : World} {v : Value} {l : List X} (h : ExtsAt w v l) (hb : Below w.heap.size w w') : ExtsAt w' v l := ⟨h.row.below hb⟩
end Pm

end Go.Proofs.YtiekfipjbmdkpaaGreatDoor
namespace Go.Proofs.YtiekfipjbmdkpaaGreatDoor
open Go.RowKit
open Vs (bs by_)

namespace Vs
theorem grown_set (w : World) (b j : Nat) (u : Value) : w.grownBy (w.setCell ⟨b, j, none⟩ u) (some b) :=
  ⟨rfl, rfl, rfl, by simp, fun k _ hne => heap_setCell_other _ _ _ _ (fun e => hne (congrArg some e))⟩
/-- Faults under way: the box of the list, the tag. -/
structure FSt (w : World) (ob g : Nat) (a b c d : Int) (l : List Int) (W : World) : Prop where
  box : ∃ v, W.heap[ob]? = some (.cells #[v] 68 (0, 0)) ∧ W.ownsRow (g + 1) 3 1 v l.length (Kit.izs l)
  tag : W.heap[g]? = some (.cells #[.int .i64 a, .int .i64 b, .int .i64 c, .int .i64 d] 246 (0, 0))
  bel : Below w.heap.size w W
  lo : w.heap.size ≤ ob
  mid : ob < g
theorem FSt.lt {w W : World} {ob g : Nat} {a b c d : Int} {l : List Int} (h : FSt w ob g a b c d l W) : g < W.heap.size := (Array.getElem?_eq_some_iff.1 h.tag).1
theorem FSt.below {w W W' : World} {ob g : Nat} {a b c d : Int} {l : List Int} (h : FSt w ob g a b c d l W) (hb : Below W.heap.size W W') : FSt w ob g a b c d l W' := by
  obtain ⟨v, hv, ho⟩ := h.box
  have hg := h.lt
  have h2 := h.mid
  have h3 := h.lo
  exact ⟨⟨v, (hb.block _ (by omega)).trans hv, Kit.own_below ho hb⟩, (hb.block _ hg).trans h.tag, h.bel.trans (hb.mono (by omega)), h3, h2⟩
end Vs

end Go.Proofs.YtiekfipjbmdkpaaGreatDoor
namespace Go.Proofs.YtiekfipjbmdkpaaGreatDoor
open Go.RowKit
open Vs (bs by_)
namespace Vs
/-- The block under way, in a closure that puts fields. -/
structure Fst (w0 W0 W : World) (ob : Nat) (L : List UInt8) : Prop where
  img : Img W ob L
  bel0 : Below w0.heap.size w0 W
  bel : Below ob W0 W
theorem Fst.below {w0 W0 W W' : World} {ob : Nat} {L : List UInt8} (h : Fst w0 W0 W ob L) (hb : Below W.heap.size W W') : Fst w0 W0 W' ob L :=
  ⟨h.img.below hb h.img.lt, h.bel0.trans (hb.mono h.bel0.size), h.bel.trans (hb.mono (Nat.le_of_lt h.img.lt))⟩
theorem Fst.put {w0 W0 W W' : World} {ob : Nat} {L L' : List UInt8} (h : Fst w0 W0 W ob L) (ho : w0.heap.size ≤ ob) (hi : Img W' ob L') (hb : Below ob W W') : Fst w0 W0 W' ob L' :=
  ⟨hi, h.bel0.trans (hb.mono ho), h.bel.trans hb⟩
end Vs
end Go.Proofs.YtiekfipjbmdkpaaGreatDoor
namespace Go.Proofs.YtiekfipjbmdkpaaGreatDoor
open Go.RowKit Go.Maps
namespace Vs
/-- A map's elements, read as they are. -/
def asIs (v : Value) : Option (DataW Value × List MemPlace) := some (.held v, [])
/-- A descriptor that prevails, as a value. -/
def pvC (b : ByteArray) (i s : Int) : Array Value := #[.string b, .int .i64 i, .int .i64 s]
def pvV : Option Pv → Value
  | none => .agg (pvC ⟨#[]⟩ 0 0)
  | some x => .agg (pvC x.block x.index x.seq)
/-- Block mb is the map of f. -/
structure PMap (W : World) (mb n : Nat) (f : Int → Option Pv) : Prop where
  ex : ∃ D, W.ownsMap Tryz.prog 3 asIs mb n D ∧ (∀ k, D.atKey (.int .i64 k) (.held (pvV none)) = .held (pvV (f k))) ∧ ∀ k, has D (.int .i64 k) = (f k).isSome
theorem PMap.made (W : World) : PMap (W.alloc (.map #[] 0)) W.heap.size 0 (fun _ => none) := ⟨.map [], World.ownsMap_made _ _ _ _, fun _ => rfl, fun _ => rfl⟩
theorem PMap.lt {W : World} {mb n : Nat} {f : Int → Option Pv} (h : PMap W mb n f) : mb < W.heap.size := by
  obtain ⟨D, h1, _⟩ := h.ex
  exact h1.lt
theorem PMap.grown {W W' : World} {mb n : Nat} {f : Int → Option Pv} {row : Option Nat} (h : PMap W mb n f) (hg : W.grownBy W' row) (hne : some mb ≠ row) : PMap W' mb n f := by
  obtain ⟨D, h1, h2, h3⟩ := h.ex
  exact ⟨D, h1.kept hg hne, h2, h3⟩
theorem PMap.below {W W' : World} {mb n : Nat} {f : Int → Option Pv} (h : PMap W mb n f) (hb : Below W.heap.size W W') : PMap W' mb n f := h.grown (Kit.grown_of_below hb) (by simp)
/-- A store: what the walk asks for, and what it leaves. -/
theorem PMap.put {W : World} {mb n : Nat} {f : Int → Option Pv} (h : PMap W mb n f) (id : Int) (x : Pv) : ∃ D, W.ownsMap Tryz.prog 3 asIs mb n D ∧
    ∀ W', W'.ownsMap Tryz.prog 3 asIs mb (n + 1) (D.put (.int .i64 id) (.held (pvV (some x)))) → PMap W' mb (n + 1) (fun j => if j = id then some x else f j) := by
  obtain ⟨D, h1, h2, h3⟩ := h.ex
  have hD := World.ownsMap.isMap h1
  refine ⟨D, h1, fun W' ho => ⟨_, ho, fun k => ?_, fun k => ?_⟩⟩
  · by_cases hk : k = id
    · subst hk
      rw [if_pos rfl]
      exact atKey_put_same hD (show WideAt.IsKeyLit (.int .i64 k) from trivial) _ _
    · rw [if_neg hk, atKey_put_other (fun e => hk (by injection e)) _ _]
      exact h2 k
  · by_cases hk : k = id
    · subst hk
      rw [if_pos rfl]
      exact has_put_same hD (show WideAt.IsKeyLit (.int .i64 k) from trivial) _
    · rw [if_neg hk, has_put_other (fun e => hk (by injection e)) _]
      exact h3 k
end Vs
end Go.Proofs.YtiekfipjbmdkpaaGreatDoor
namespace Go.Proofs.YtiekfipjbmdkpaaGreatDoor
open Go.RowKit
open Vs (bs by_)
namespace Vs
def strs (l : List ByteArray) : List Value := l.map Value.string
theorem strs_snoc (l : List ByteArray) (s : ByteArray) : strs (l ++ [s]) = strs l ++ [Value.string s] := by simp [strs]
/-- Sequence under way: the box of the blocks; the other boxes stay. -/
structure Sq (w1 : World) (b0 ob : Nat) (l : List ByteArray) (W : World) : Prop where
  box : ∃ v, W.heap[ob]? = some (.cells #[v] 22 (0, 0)) ∧ W.ownsRow w1.heap.size 9 1 v l.length (strs l)
  keep : ∀ k, k < w1.heap.size → k ≠ ob → W.heap[k]? = w1.heap[k]?
  bel : Below b0 w1 W
  hob : ob < w1.heap.size
  hb0 : b0 ≤ ob
theorem Sq.size {w1 W : World} {b0 ob : Nat} {l : List ByteArray} (h : Sq w1 b0 ob l W) : w1.heap.size ≤ W.heap.size := h.bel.size
theorem Sq.below {w1 W W' : World} {b0 ob : Nat} {l : List ByteArray} (h : Sq w1 b0 ob l W) (hb : Below W.heap.size W W') : Sq w1 b0 ob l W' := by
  obtain ⟨v, hv, ho⟩ := h.box
  have hs := h.size
  have h1 := h.hob
  have h2 := h.hb0
  exact ⟨⟨v, (hb.block _ (by omega)).trans hv, Kit.own_below ho hb⟩, fun k hk hne => (hb.block _ (by omega)).trans (h.keep k hk hne), h.bel.trans (hb.mono (by omega)), h1, h2⟩
theorem Sq.start {w1 : World} {b0 ob : Nat} (h : w1.heap[ob]? = some (.cells #[.slice none 0 0] 22 (0, 0))) (hb : b0 ≤ ob) : Sq w1 b0 ob [] w1 :=
  ⟨⟨_, h, rfl, Or.inl ⟨rfl, rfl⟩⟩, fun _ _ _ => rfl, Below.refl _ _, (Array.getElem?_eq_some_iff.1 h).1, hb⟩
theorem Sq.set {w1 W w' : World} {b0 ob g c : Nat} {l : List ByteArray} {s : ByteArray} (h : Sq w1 b0 ob l W) (ho : w'.ownsRow w1.heap.size 9 1 (.slice (some ⟨g, 0, none⟩) (l.length + 1) c) (l.length + 1) (strs l ++ [.string s])) (hb : Below w1.heap.size W w') :
    Sq w1 b0 ob (l ++ [s]) (w'.setCell ⟨ob, 0, none⟩ (.slice (some ⟨g, 0, none⟩) (l.length + 1) c)) := by
  have h1 := h.hob
  have h2 := h.hb0
  obtain ⟨v, hv, _⟩ := h.box
  have hg := (ho.lt g rfl).1
  refine ⟨⟨_, heap_setCell_same _ _ 0 _ _ _ ((hb.block ob h1).trans hv), ?_⟩, fun k hk hne => (heap_setCell_other _ _ _ _ (by simpa using fun e => hne e)).trans ((hb.block k hk).trans (h.keep k hk hne)), (h.bel.trans (hb.mono (by omega))).setCell (p := ⟨ob, 0, none⟩) h2 _, h1, h2⟩
  rw [strs_snoc, List.length_append, List.length_singleton]
  refine ho.kept (grown_set _ _ _ _) (.inr fun e => ?_)
  have e' : g = ob := Option.some.inj e
  omega
end Vs

end Go.Proofs.YtiekfipjbmdkpaaGreatDoor
namespace Go.Proofs.YtiekfipjbmdkpaaGreatDoor
open Go.RowKit
open Vs (bs by_)
namespace Vs
/-- The cells of extents; a row of extents of the call's own. -/
def exL (L : List Pm.X) : List Value := L.flatMap Pm.exC
abbrev OwnX (w : World) (base : Nat) (v : Value) (L : List Pm.X) : Prop := w.ownsRow base 64 4 v L.length (exL L)
theorem OwnX.nil (w : World) (base : Nat) : OwnX w base (.slice Option.none 0 0) [] := ⟨rfl, Or.inl ⟨rfl, rfl⟩⟩
end Vs

end Go.Proofs.YtiekfipjbmdkpaaGreatDoor
namespace Go.Proofs.YtiekfipjbmdkpaaGreatDoor
open Go.RowKit
open Vs (bs by_)
namespace Vs
/-- A call that writes no block but one. -/
structure Prs (W W' : World) (db : Nat) : Prop where
  keep : ∀ k, k < W.heap.size → k ≠ db → W'.heap[k]? = W.heap[k]?
  bel : ∀ b, b ≤ db → b ≤ W.heap.size → Below b W W'
theorem Prs.size {W W' : World} {db : Nat} (h : Prs W W' db) : W.heap.size ≤ W'.heap.size := (h.bel 0 (Nat.zero_le _) (Nat.zero_le _)).size
theorem Prs.refl (W : World) (db : Nat) : Prs W W db := ⟨fun _ _ _ => rfl, fun _ _ _ => Below.refl _ _⟩
theorem Prs.below {W W' W2 : World} {db : Nat} (h : Prs W W' db) (hb : Below W'.heap.size W' W2) : Prs W W2 db :=
  ⟨fun k hk hne => (hb.block k (Nat.lt_of_lt_of_le hk h.size)).trans (h.keep k hk hne), fun b h1 h2 => (h.bel b h1 h2).trans (hb.mono (Nat.le_trans h2 h.size))⟩
theorem Prs.set {W W' : World} {db j : Nat} (h : Prs W W' db) (v : Value) : Prs W (W'.setCell ⟨db, j, none⟩ v) db :=
  ⟨fun k hk hne => (heap_setCell_other _ _ _ _ (by simpa using fun e => hne e)).trans (h.keep k hk hne), fun b h1 h2 => (h.bel b h1 h2).setCell (p := ⟨db, j, none⟩) h1 _⟩
end Vs

end Go.Proofs.YtiekfipjbmdkpaaGreatDoor
namespace Go.Proofs.YtiekfipjbmdkpaaGreatDoor
open Go.RowKit
open Vs (bs by_)
namespace Vs
theorem OwnX.one {w : World} {base : Nat} {v : Value} {x : Pm.X} (h : OwnX w base v [x]) : ∃ g cap, v = .slice (some ⟨g, 0, none⟩) 1 cap ∧ base ≤ g ∧ g < w.heap.size ∧ 1 ≤ cap ∧ w.cell? ⟨g, 0, none⟩ = some (.int .i64 x.kind) ∧ w.cell? ⟨g, 1, none⟩ = some (.int .i64 x.length) ∧ w.cell? ⟨g, 2, none⟩ = some (.int .i64 x.block) ∧ w.cell? ⟨g, 3, none⟩ = some (.int .i64 x.part) := by
  have h0 := h
  rcases h.2 with ⟨_, hz⟩ | ⟨g, cap, cur, rfl, hb, hg, hnc, hcm, _, _⟩
  · cases hz
  · have c0 := h0.cells (g := g) rfl 0 (.int .i64 x.kind) rfl
    have c1 := h0.cells (g := g) rfl 1 (.int .i64 x.length) rfl
    have c2 := h0.cells (g := g) rfl 2 (.int .i64 x.block) rfl
    have c3 := h0.cells (g := g) rfl 3 (.int .i64 x.part) rfl
    rw [Addr.add_lit] at c0 c1 c2 c3
    exact ⟨g, cap, rfl, hb, (Array.getElem?_eq_some_iff.1 hg).1, hnc, c0, c1, c2, c3⟩
end Vs

end Go.Proofs.YtiekfipjbmdkpaaGreatDoor
namespace Go.Proofs.YtiekfipjbmdkpaaGreatDoor
namespace Vs
/-- What is found is a whole block. -/
def Whole (f : Int → Option Pv) : Prop := ∀ k x, f k = some x → x.block.size = 2048
theorem Whole.nil : Whole (fun _ => none) := fun k x h => by cases h
theorem Whole.put {f : Int → Option Pv} (h : Whole f) (id : Int) {x : Pv} (hx : x.block.size = 2048) : Whole (fun j => if j = id then some x else f j) := fun k y hy => by
  simp only [] at hy
  split at hy
  · cases hy
    exact hx
  · exact h k y hy
end Vs
end Go.Proofs.YtiekfipjbmdkpaaGreatDoor
namespace Go.Proofs.YtiekfipjbmdkpaaGreatDoor
set_option linter.unusedVariables false
open Go.RowKit Go.Maps
open Vs (bs by_)
namespace Vs
theorem heap_setCells_row {g : Nat} {t : TypeId} : ∀ (vs pre post : List Value) (W : World), post.length = vs.length → W.heap[g]? = some (.cells (pre ++ post).toArray t (0, 0)) → (W.setCells g pre.length vs).heap[g]? = some (.cells (pre ++ vs).toArray t (0, 0))
  | [], pre, post, W, hl, h => by
    have e : post = [] := List.eq_nil_of_length_eq_zero hl
    subst e
    exact h
  | v :: vs, pre, [], W, hl, h => by cases hl
  | v :: vs, pre, p :: post, W, hl, h => by
    show ((W.setCell ⟨g, pre.length, none⟩ v).setCells g (pre.length + 1) vs).heap[g]? = _
    have h1 := heap_setCell_same W g pre.length _ _ v h
    have h2 : (pre ++ p :: post).toArray.setIfInBounds pre.length v = ((pre ++ [v]) ++ post).toArray := by simp
    rw [h2] at h1
    have h3 := heap_setCells_row vs (pre ++ [v]) post _ (by simpa using hl) h1
    rw [List.length_append, List.length_singleton, List.append_assoc] at h3
    exact h3
/-- A row is overwritten whole. -/
theorem row_put {W : World} {g : Nat} {t : TypeId} {old cs : Array Value} (h : W.heap[g]? = some (.cells old t (0, 0))) (hl : old.size = cs.size) : (W.setCells g 0 cs.toList).heap[g]? = some (.cells cs t (0, 0)) := by
  have := heap_setCells_row (g := g) (t := t) cs.toList [] old.toList W (by simpa using hl) (by simpa using h)
  simpa using this
theorem below_put {b : Nat} {w : World} {g : Nat} (hg : b ≤ g) : ∀ (vs : List Value) (o : Nat) (W : World), Below b w W → Below b w (W.setCells g o vs)
  | [], _, _, h => h
  | v :: vs, o, W, h => below_put hg vs (o + 1) _ (h.setCell (p := ⟨g, o, none⟩) hg v)
theorem heap_put_other {W : World} {g k : Nat} {o : Obj} (vs : List Value) (i : Nat) (hne : k ≠ g) (h : W.heap[k]? = some o) : (W.setCells g i vs).heap[k]? = some o :=
  (World.heap_setCells_other W g i vs (Array.getElem?_eq_some_iff.1 h).1 hne).trans h
/-- The boxes of ParseSequence: the result's, the empty descriptors'. -/
structure PsB (w W : World) (Z : Array Value) : Prop where
  bel : Below w.heap.size w W
  hr : W.heap[w.heap.size]? = some (.cells Z 66 (0, 0))
  hn : W.heap[w.heap.size + 1]? = some (.cells Z 66 (0, 0))
theorem PsB.size {w W : World} {Z : Array Value} (h : PsB w W Z) : w.heap.size + 2 ≤ W.heap.size := by
  have := (Array.getElem?_eq_some_iff.1 h.hn).1
  omega
theorem PsB.grown {w W W' : World} {Z : Array Value} {row : Option Nat} (h : PsB w W Z) (hg : W.grownBy W' row) (hr : ∀ r, row = some r → w.heap.size + 2 ≤ r) : PsB w W' Z := by
  have hs := h.size
  refine ⟨h.bel.grown hg h.bel.size (fun k e => by have := hr k e; omega), (hg.block _ (by omega) (fun e => ?_)).trans h.hr, (hg.block _ (by omega) (fun e => ?_)).trans h.hn⟩
  · have := hr _ e.symm
    omega
  · have := hr _ e.symm
    omega
theorem PsB.below {w W W' : World} {Z : Array Value} (h : PsB w W Z) (hb : Below W.heap.size W W') : PsB w W' Z := h.grown (Kit.grown_of_below hb) (fun r e => by cases e)
/-- The result written. -/
theorem PsB.out {w W : World} {Z X : Array Value} (h : PsB w W Z) (hl : Z.size = X.size) : (W.setCells w.heap.size 0 X.toList).heap[w.heap.size]? = some (.cells X 66 (0, 0)) ∧ Below w.heap.size w (W.setCells w.heap.size 0 X.toList) :=
  ⟨row_put h.hr hl, below_put (Nat.le_refl _) _ _ _ h.bel⟩
theorem PsB.start (w : World) (Z : Array Value) : PsB w (((w.alloc (.cells Z 66)).alloc (.cells Z 66)).setCells (w.heap.size + 1) 0 Z.toList) Z := by
  have hb := ((Below.refl w.heap.size w).alloc (Nat.le_refl _) (.cells Z 66)).alloc (by simp) (.cells Z 66)
  exact ⟨below_put (by omega) _ _ _ hb, heap_put_other _ _ (by omega) (heap_alloc2_old w _ _), row_put (heap_alloc2_new w _ _) rfl⟩
end Vs

end Go.Proofs.YtiekfipjbmdkpaaGreatDoor
namespace Go.Proofs.YtiekfipjbmdkpaaGreatDoor
open Go.RowKit Go.Maps
namespace Kit
/-- A slice's own cells, all of them integers. -/
def Cl (w : World) (b : Nat) (l : List Int) : Prop := b < w.heap.size ∧ ∀ (i : Nat) (v : Value), (izs l)[i]? = some v → w.cell? ⟨b, i, none⟩ = some v
theorem Cl.grown {w w' : World} {b : Nat} {l : List Int} {row : Option Nat} (h : Cl w b l) (hg : w.grownBy w' row) (hne : some b ≠ row) : Cl w' b l :=
  ⟨Nat.lt_of_lt_of_le h.1 hg.size, fun i v hv => hg.cell (h.2 i v hv) hne⟩
theorem Cl.below {w w' : World} {b : Nat} {l : List Int} (h : Cl w b l) (hb : Below w.heap.size w w') : Cl w' b l := h.grown (grown_of_below hb) (by simp)
theorem Cl.new (w : World) (l : List Int) (T : TypeId) : Cl (w.alloc (.cells (izs l).toArray T)) w.heap.size l :=
  ⟨by simp, fun i v hv => by
    rw [World.cell?_alloc_at _ _ _ _ (by simp)]
    simpa using hv⟩
theorem Cl.row {w : World} {b : Nat} {l : List Int} (h : Cl w b l) (hl : l.length ≤ maxLen) : Row w (.slice (some ⟨b, 0, none⟩) l.length l.length) (izs l) := by
  refine ⟨some ⟨b, 0, none⟩, l.length, by rw [izs_length], by rw [izs_length]; exact Nat.le_refl _, by rw [izs_length]; exact hl, ?_⟩
  intro hne
  exact ⟨b, 0, rfl, h.1, fun j u hu => by rw [Nat.zero_add]; exact h.2 j u hu⟩
end Kit
/-- A map's elements, read as they are. -/
def asIs (v : Value) : Option (DataW Value × List MemPlace) := some (.held v, [])
end Go.Proofs.YtiekfipjbmdkpaaGreatDoor
namespace Go.Proofs.YtiekfipjbmdkpaaGreatDoor
open Go.RowKit
namespace Pm
/-- The spares' cells. -/
def spC (x : Int × Int) : List Value := [.int .i64 x.1, .int .i64 x.2]
/-- A mapping's parts, as what they read. -/
structure MpAt (w : World) (m : Mp) (v1 v2 : Value) : Prop where
  vat : Kit.Row w v1 (Kit.izs m.vat)
  spares : Kit.RowN w v2 2 m.spares.length (fun j => spC (m.spares.getD j (0, 0)))
theorem MpAt.below {w w' : World} {m : Mp} {v1 v2 : Value} (h : MpAt w m v1 v2) (hb : Below w.heap.size w w') : MpAt w' m v1 v2 := ⟨h.vat.below hb, h.spares.below hb⟩
end Pm

end Go.Proofs.YtiekfipjbmdkpaaGreatDoor
namespace Go.Proofs.YtiekfipjbmdkpaaGreatDoor
namespace Pm
/-- The number of blocks in front of span k. -/
def off (l : List (Int × Int)) (k : Nat) : Int := ((l.take k).map Prod.snd).sum
theorem off_app {l : List (Int × Int)} {k : Nat} (y : Int × Int) (h : k ≤ l.length) : off (l ++ [y]) k = off l k := by
  unfold off
  rw [List.take_append_of_le_length h]
theorem off_all (l : List (Int × Int)) (y : Int × Int) : off (l ++ [y]) (l ++ [y]).length = off l l.length + y.2 := by
  unfold off
  rw [List.take_length, List.take_length, List.map_append, List.sum_append]
  simp
/-- Spans l that hold n blocks, whose places are t. -/
structure Sp (t : Nat → Int) (l : List (Int × Int)) (n : Nat) : Prop where
  cnt : ∀ k, k < l.length → 1 ≤ (l.getD k (0, 0)).2
  gap : ∀ k, k + 1 < l.length → (l.getD k (0, 0)).1 + (l.getD k (0, 0)).2 ≠ (l.getD (k + 1) (0, 0)).1
  at' : ∀ k, k < l.length → ∀ d : Nat, (d : Int) < (l.getD k (0, 0)).2 → ∃ j : Nat, (j : Int) = off l k + d ∧ j < n ∧ t j = (l.getD k (0, 0)).1 + d
  sum : off l l.length = n
theorem Sp.nil (t : Nat → Int) : Sp t [] 0 := ⟨fun k hk => absurd hk (by simp), fun k hk => absurd hk (by simp), fun k hk => absurd hk (by simp), rfl⟩
theorem getD_app {l : List (Int × Int)} {k : Nat} (y : Int × Int) (h : k < l.length) : (l ++ [y]).getD k (0, 0) = l.getD k (0, 0) := by
  simp [List.getD, List.getElem?_append_left h]
theorem getD_last (l : List (Int × Int)) (y : Int × Int) : (l ++ [y]).getD l.length (0, 0) = y := by
  simp [List.getD]
theorem Sp.fresh {t : Nat → Int} {l : List (Int × Int)} {n : Nat} (h : Sp t l n) (hne : ∀ i s, l = i ++ [s] → s.1 + s.2 ≠ t n) : Sp t (l ++ [(t n, 1)]) (n + 1) := by
  refine ⟨fun k hk => ?_, fun k hk => ?_, fun k hk d hd => ?_, ?_⟩
  · simp only [List.length_append, List.length_cons, List.length_nil] at hk
    by_cases h1 : k < l.length
    · rw [getD_app _ h1]; exact h.cnt k h1
    · obtain rfl : k = l.length := by omega
      rw [getD_last]
      exact Int.le_refl _
  · simp only [List.length_append, List.length_cons, List.length_nil] at hk
    by_cases h1 : k + 1 < l.length
    · rw [getD_app _ h1, getD_app _ (by omega)]; exact h.gap k h1
    · have h2 : k + 1 = l.length := by omega
      rw [h2, getD_last, getD_app _ (by omega)]
      rcases List.eq_nil_or_concat l with rfl | ⟨i, s, rfl⟩
      · simp at h2
      · have hk' : k = i.length := by simpa using h2
        subst hk'
        rw [List.concat_eq_append] at *
        rw [getD_last]
        exact hne i s rfl
  · simp only [List.length_append, List.length_cons, List.length_nil] at hk
    by_cases h1 : k < l.length
    · rw [getD_app _ h1] at hd ⊢
      rw [off_app _ (by omega)]
      obtain ⟨j, hj, hjn, ht⟩ := h.at' k h1 d hd
      exact ⟨j, hj, by omega, ht⟩
    · obtain rfl : k = l.length := by omega
      rw [getD_last] at hd ⊢
      simp only at hd ⊢
      rw [off_app _ (Nat.le_refl _), h.sum]
      obtain rfl : d = 0 := by omega
      exact ⟨n, by omega, by omega, by omega⟩
  · rw [off_all, h.sum]
    simp
theorem Sp.more {t : Nat → Int} {i : List (Int × Int)} {s : Int × Int} {n : Nat} (h : Sp t (i ++ [s]) n) (hs : s.1 + s.2 = t n) : Sp t (i ++ [(s.1, s.2 + 1)]) (n + 1) := by
  have hl := h.cnt i.length (by simp)
  rw [getD_last] at hl
  have hsum := h.sum
  rw [off_all] at hsum
  refine ⟨fun k hk => ?_, fun k hk => ?_, fun k hk d hd => ?_, ?_⟩
  · simp only [List.length_append, List.length_cons, List.length_nil] at hk
    by_cases h1 : k < i.length
    · have := h.cnt k (by simp; omega)
      rw [getD_app _ h1] at this ⊢
      exact this
    · obtain rfl : k = i.length := by omega
      rw [getD_last]
      show 1 ≤ s.2 + 1
      omega
  · simp only [List.length_append, List.length_cons, List.length_nil] at hk
    have := h.gap k (by simp; omega)
    have h0 : k < i.length := by omega
    rw [getD_app _ h0] at this ⊢
    by_cases h1 : k + 1 < i.length
    · rw [getD_app _ h1] at this ⊢
      exact this
    · have h2 : k + 1 = i.length := by omega
      rw [h2, getD_last] at this ⊢
      exact this
  · simp only [List.length_append, List.length_cons, List.length_nil] at hk
    by_cases h1 : k < i.length
    · rw [getD_app _ h1] at hd ⊢
      obtain ⟨j, hj, hjn, ht⟩ := h.at' k (by simp; omega) d (by rw [getD_app _ h1]; exact hd)
      rw [off_app _ (by omega)] at hj ⊢
      rw [getD_app _ h1] at ht
      exact ⟨j, hj, by omega, ht⟩
    · obtain rfl : k = i.length := by omega
      rw [getD_last] at hd ⊢
      simp only at hd ⊢
      rw [off_app _ (Nat.le_refl _)]
      by_cases h2 : (d : Int) < s.2
      · obtain ⟨j, hj, hjn, ht⟩ := h.at' i.length (by simp) d (by rw [getD_last]; exact h2)
        rw [off_app _ (Nat.le_refl _)] at hj
        rw [getD_last] at ht
        exact ⟨j, hj, by omega, ht⟩
      · have h3 : (d : Int) = s.2 := by omega
        exact ⟨n, by omega, by omega, by rw [← hs, h3]⟩
  · rw [off_all]
    simp only
    omega
theorem Sp.push {t : Nat → Int} {l : List (Int × Int)} {n : Nat} (h : Sp t l n) : Sp t (Pm.push l (t n)) (n + 1) := by
  unfold Pm.push
  rcases List.eq_nil_or_concat l with rfl | ⟨i, s, rfl⟩
  · exact h.fresh (fun i s hs => by simp at hs)
  · rw [List.concat_eq_append] at *
    rw [List.getLast?_append]
    simp only [List.getLast?_singleton, Option.some_or]
    by_cases hs : s.1 + s.2 = t n
    · rw [if_pos hs, List.dropLast_concat]
      exact h.more hs
    · rw [if_neg hs]
      refine h.fresh (fun i' s' hs' => ?_)
      have := List.append_inj' hs' rfl
      simp only [List.cons.injEq, and_true] at this
      rw [← this.2]
      exact hs
/-- Spans of a bounded size. -/
def SpBd (L : List (Int × Int)) (i : Nat) : Prop := L.length ≤ i ∧ ∀ s ∈ L, -4398046511104 ≤ s.1 ∧ s.1 ≤ 4398046511104 ∧ 1 ≤ s.2 ∧ s.2 ≤ i
theorem SpBd.nil (i : Nat) : SpBd [] i := ⟨Nat.zero_le _, fun s hs => by cases hs⟩
theorem SpBd.new {L : List (Int × Int)} {z : Int} {i : Nat} (h : SpBd L i) (hz : -4398046511104 ≤ z ∧ z ≤ 4398046511104) : SpBd (L ++ [(z, 1)]) (i + 1) := by
  refine ⟨?_, fun s hs => ?_⟩
  · have := h.1
    simp only [List.length_append, List.length_cons, List.length_nil]
    omega
  · rcases List.mem_append.1 hs with h1 | h1
    · have := h.2 s h1
      omega
    · rw [List.mem_singleton.1 h1]
      simp only
      omega
end Pm
end Go.Proofs.YtiekfipjbmdkpaaGreatDoor
namespace Go.Proofs.YtiekfipjbmdkpaaGreatDoor
open Go.RowKit
namespace Pm
/-- The cells of spans. -/
def spL (L : List (Int × Int)) : List Value := L.flatMap spC
theorem spL_at (L : List (Int × Int)) (j : Nat) (h : j < L.length) (k : Nat) (hk : k < 2) : (spL L)[j * 2 + k]? = (spC (L.getD j (0, 0)))[k]? := by
  induction L generalizing j with
  | nil => simp at h
  | cons p t ih =>
    have hc : spL (p :: t) = spC p ++ spL t := rfl
    have h6 : (spC p).length = 2 := rfl
    rw [hc]
    cases j with
    | zero =>
      rw [List.getElem?_append_left (by rw [h6]; omega)]
      simp
    | succ j =>
      rw [List.getElem?_append_right (by rw [h6]; omega), h6, show (j + 1) * 2 + k - 2 = j * 2 + k by omega, ih j (by simpa using h)]
      simp
theorem spL_app (L : List (Int × Int)) (p : Int × Int) : spL (L ++ [p]) = spL L ++ spC p := by simp [spL]
/-- A row of spans of the call's own. -/
abbrev OwnS (w : World) (base : Nat) (v : Value) (L : List (Int × Int)) : Prop := w.ownsRow base 43 2 v L.length (spL L)
theorem OwnS.nil (w : World) (base : Nat) : OwnS w base (.slice Option.none 0 0) [] := ⟨rfl, Or.inl ⟨rfl, rfl⟩⟩
theorem OwnS.row {w : World} {base : Nat} {v : Value} {L : List (Int × Int)} (h : OwnS w base v L) : Kit.RowN w v 2 L.length (fun j => spC (L.getD j (0, 0))) := by
  rcases h.2 with ⟨rfl, h0⟩ | ⟨g, cap, cur, rfl, _, hg, hnc, hcm, _, _⟩
  · exact ⟨Option.none, 0, by rw [h0], by omega, by unfold maxLen; omega, fun h' => by omega⟩
  · refine ⟨some ⟨g, 0, Option.none⟩, cap, rfl, hnc, Nat.le_trans hnc hcm, fun _ => ⟨g, 0, rfl, (Array.getElem?_eq_some_iff.1 hg).1, fun j hj k u hu => ?_⟩⟩
    have hk : k < 2 := (List.getElem?_eq_some_iff.1 hu).1
    have := h.cells (g := g) rfl (j * 2 + k) u (by rw [spL_at L j hj k hk]; exact hu)
    rw [Addr.add_lit] at this
    rwa [show 0 + j * 2 + k = 0 + (j * 2 + k) by omega]
end Pm

/-- 'append(v, x)': one span more behind a row of the call's own; its cells have just been laid. -/
theorem pushS {W : World} {ops : Array Oper} {rest : List Oper} {o : Oper} {a : Act} {Q : Exit → Act → World → Prop} (hgd : o.guard = none) (s x : Operand)
    (ho : o.op = .call { callee := .builtin .append, args := #[s, x], argTypes := #[45, 45] })
    (base : Nat) (v : Value) (L : List (Int × Int)) (hs : a.eval s = v) (hown : Pm.OwnS W base v L) (p q : Int)
    (c g : Nat) (hx : a.eval x = .slice (some ⟨g, 0, none⟩) 1 c) (hgs : g = W.heap.size) (h8 : L.length ≤ 100000) (hbase : base ≤ W.heap.size)
    (h : ∀ v' w', Pm.OwnS w' base v' (L ++ [(p, q)]) → Below base W w' → wpList Tryz.prog ops Q rest (a.put o.dst v') w') :
    wpList Tryz.prog ops Q (o :: rest) a (W.alloc (.cells #[.int .i64 p, .int .i64 q] 43)) := by
  subst hgs
  have hinfo : (Tryz.prog.info? 43).map (fun i => (i.zero, i.size, i.bytes)) = some (some (.agg #[.int .i64 0, .int .i64 0]), 2, 16) := by kernel_rfl
  obtain ⟨i, hi, hz0, hz1, hz2⟩ := info_parts hinfo
  have ht : Tryz.prog.underlying 45 = some (.slice 43) := by kernel_rfl
  have h1 : ∀ u ∈ Pm.spC (p, q), u.oneCell' = true := by
    intro u hu
    simp only [Pm.spC, List.mem_cons, List.not_mem_nil, or_false] at hu
    rcases hu with rfl | rfl <;> rfl
  refine wpList_append_own _ hgd s x _ ho base 43 i _ 2 16 ht hi hz0 hz1 hz2 rfl (by decide) v L.length (Pm.spL L) hs (hown.alloc _) ⟨W.heap.size, 0, none⟩ 1 c (Pm.spC (p, q)) hx rfl ?_ h1 (by unfold maxLen; omega) (by omega) (by simp; omega) ?_
  · intro j u hu
    rw [Addr.add_lit, World.cell?_alloc_at _ _ _ _ (by simp)]
    simpa [Pm.spC] using hu
  · intro v' w' ho' hg _
    have hg2 := (World.grownBy_alloc W (.cells #[.int .i64 p, .int .i64 q] 43) v.ownBlock).trans hg
    have hb : Below base W w' := (Below.refl base W).grown hg2 hbase (fun k hk => (hown.lt k hk).1)
    refine h v' w' ?_ hb
    show w'.ownsRow base 43 2 v' (L ++ [(p, q)]).length (Pm.spL (L ++ [(p, q)]))
    rw [Pm.spL_app, List.length_append]
    exact ho'
end Go.Proofs.YtiekfipjbmdkpaaGreatDoor
namespace Go.Proofs.YtiekfipjbmdkpaaGreatDoor
open Go.RowKit
namespace Lm
/-- A file's extent. -/
structure F where
  path : ByteArray
  start : Int
  len : Int
/-- A loss. -/
structure L where
  path : ByteArray
  off : Int
  len : Int
/-- The number of blocks of a length. -/
def blk (n : Int) : Int := (n + 2047) / 2048
/-- An element of a valid image. -/
def okB (b : ByteArray) : Bool := decide (b = ⟨#[]⟩) || (decide (b = ⟨#[33]⟩) || decide (b.size = 2048))
def validI (l : List ByteArray) : Bool := decide (l.length ≤ 4096) && l.all okB
/-- A piece. -/
structure P where
  path : ByteArray
  off : Int
  len : Int
  data : ByteArray
  ok : Bool
def strs (l : List ByteArray) : List Value := l.map Value.string
theorem strs_length (l : List ByteArray) : (strs l).length = l.length := by simp [strs]
/-- A slice value that reads as strings. -/
abbrev Strs (w : World) (v : Value) (l : List ByteArray) : Prop := Kit.Row w v (strs l)
theorem Strs.cell {w : World} {v : Value} {l : List ByteArray} (h : Strs w v l) {j : Nat} (hj : j < l.length) : ∃ b o c, v = .slice (some ⟨b, o, none⟩) l.length c ∧ b < w.heap.size ∧ w.cell? ⟨b, o + j, none⟩ = some (.string (l.getD j ⟨#[]⟩)) := by
  obtain ⟨A, c, rfl, h1, h2, h3⟩ := h
  obtain ⟨b, o, rfl, hb, hc⟩ := h3 (by rw [strs_length]; omega)
  refine ⟨b, o, c, by rw [strs_length], hb, ?_⟩
  exact hc j _ (by simp [strs, List.getD, hj])
theorem okB_cases (b : ByteArray) : okB b = true ↔ b = ⟨#[]⟩ ∨ b = ⟨#[33]⟩ ∨ b.size = 2048 := by simp [okB]
theorem all_snoc {α : Type} {p : α → Bool} {l : List α} {d : α} {i : Nat} (hi : i < l.length) (h : (l.take i).all p = true) (hp : p (l.getD i d) = true) : (l.take (i + 1)).all p = true := by
  rw [List.take_succ_eq_append_getElem hi, List.all_append, h]
  simp [List.getD, hi] at hp
  simp [hp]
theorem all_fail {α : Type} {p : α → Bool} {l : List α} {d : α} {i : Nat} (hi : i < l.length) (hp : p (l.getD i d) = false) : l.all p = false := by
  rw [Bool.eq_false_iff]
  intro h
  have := List.all_eq_true.1 h (l.getD i d) (by simp [List.getD, hi])
  rw [hp] at this
  cases this
theorem str_eq (s : ByteArray) (l : List UInt8) : s.toList = l ↔ s = ⟨l.toArray⟩ := by
  rw [Lib.toList_data]
  constructor
  · intro h
    cases s
    simp at h
    subst h
    simp
  · rintro rfl
    simp
end Lm
end Go.Proofs.YtiekfipjbmdkpaaGreatDoor
namespace Go.Proofs.YtiekfipjbmdkpaaGreatDoor
open Go.RowKit

set_option maxHeartbeats 6400000 in
set_option maxRecDepth 100000 in
/-- master.Valid, of a disc without sessions. -/
theorem mValid_any (v : Value) (l : List ByteArray) (w : World) (hm : Lm.Strs w v l) :
    Calls Tryz.prog 14 #[.agg #[v, .slice none 0 0]] w fun e w' => e = .returned (.bool (Lm.validI l)) ∧ Below w.heap.size w w' := by
  have HM := Lib.hid hm
  obtain ⟨A, c, rfl, hlc, hcm, _⟩ := hm
  rw [Lm.strs_length] at *
  unfold maxLen at hcm
  by_cases h4 : 4096 < l.length
  · have HR := Lib.hid (show Lm.validI l = false by unfold Lm.validI; rw [decide_eq_false (by omega)]; rfl)
    have d0 : decide (4096 < l.length) = true := decide_eq_true h4
    have d1 : decide (4096 < (l.length : Int)) = true := decide_eq_true (by omega)
    go_enter Tryz.func14, Tryz.ntmps14
    go_wp2_with fail
    go_ret
    rw [HR.out]
    exact ⟨rfl, (Below.refl _ _).alloc (Nat.le_refl _) _⟩
  have HRA := Lib.hid (show Lm.validI l = l.all Lm.okB by unfold Lm.validI; rw [decide_eq_true (by omega)]; rfl)
  have d0 : decide (4096 < l.length) = false := decide_eq_false h4
  have d1 : decide (4096 < (l.length : Int)) = false := decide_eq_false (by omega)
  clear h4
  go_enter Tryz.func14, Tryz.ntmps14
  go_wp2_with fail
  go_loop [4, 21] (fun _ iv => ∃ j : Nat, j ≤ l.length ∧ iv = .int .i64 j ∧ Hid ((l.take j).all Lm.okB = true)) (fun _ iv => l.length - (intOf iv).toNat)
  case atStart => exact ⟨0, by omega, rfl, Lib.hid rfl⟩
  case round =>
    obtain ⟨j, hj, rfl, HA⟩ := hrel
    by_cases hlt : j < l.length
    · obtain ⟨b, o, c', hv, hb, hc⟩ := HM.out.cell hlt
      obtain ⟨rfl, _, rfl⟩ : A = some ⟨b, o, none⟩ ∧ l.length = l.length ∧ c = c' := by simpa using hv
      clear hv
      have HY := Lib.hid (fun h => Lm.all_snoc (p := Lm.okB) (d := ⟨#[]⟩) hlt HA.out h)
      have HN := Lib.hid (fun h => Lm.all_fail (p := Lm.okB) (l := l) (d := ⟨#[]⟩) hlt h)
      generalize l.getD j ⟨#[]⟩ = s at *
      have hcs := Lm.okB_cases s
      by_cases h1 : s.toList = []
      · have HNX := Lib.hid (HY.out (hcs.2 (Or.inl ((Lm.str_eq s []).1 h1))))
        have e1 : (!s.toList.isEmpty) = false := by rw [h1]; rfl
        clear hcs HY HN
        go_wp2_with fail
        go_round
        case rel => exact ⟨j + 1, by omega, by go_num, HNX⟩
        case measure => simp [intOf]; omega
      have e1 : (!s.toList.isEmpty) = true := by cases hq : s.toList with | nil => exact absurd hq h1 | cons _ _ => rfl
      by_cases h2 : s.toList = [33]
      · have HNX := Lib.hid (HY.out (hcs.2 (Or.inr (Or.inl ((Lm.str_eq s [33]).1 h2)))))
        have e2 : (!s.toList == [33]) = false := by rw [h2]; rfl
        clear hcs HY HN
        go_wp2_with fail
        go_round
        case rel => exact ⟨j + 1, by omega, by go_num, HNX⟩
        case measure => simp [intOf]; omega
      have e2 : (!s.toList == [33]) = true := by
        rw [Bool.not_eq_true', beq_eq_false_iff_ne]
        exact h2
      by_cases h3 : s.size = 2048
      · have HNX := Lib.hid (HY.out (hcs.2 (Or.inr (Or.inr h3))))
        have e3 : ((s.size : Int) != 2048) = false := by rw [h3]; rfl
        clear hcs HY HN h3
        go_wp2_with fail
        go_round
        case rel => exact ⟨j + 1, by omega, by go_num, HNX⟩
        case measure => simp [intOf]; omega
      have e3 : ((s.size : Int) != 2048) = true := by rw [bne_iff_ne]; omega
      have HV := Lib.hid (show Lm.validI l = false by
        rw [HRA.out]
        refine HN.out ?_
        rw [Bool.eq_false_iff]
        intro hv
        rcases hcs.1 hv with h | h | h
        · exact h1 ((Lm.str_eq s []).2 h)
        · exact h2 ((Lm.str_eq s [33]).2 h)
        · exact h3 h)
      clear hcs HY HN h3
      go_wp2_with fail
      go_ret
      rw [HV.out]
      exact ⟨rfl, (Below.refl _ _).alloc (Nat.le_refl _) _⟩
    · obtain rfl : j = l.length := by omega
      have HV := Lib.hid (show Lm.validI l = true by rw [HRA.out]; have := HA.out; rwa [List.take_length] at this)
      go_wp2_with fail
      go_loop [5, 6, 7, 40] (fun _ _ _ iv => iv = .int .i64 0) (fun _ _ _ _ => 0)
      case atStart => rfl
      case round =>
        subst hrel
        go_wp2_with fail
        go_ret
        rw [HV.out]
        exact ⟨rfl, (Below.refl _ _).alloc (Nat.le_refl _) _⟩

end Go.Proofs.YtiekfipjbmdkpaaGreatDoor
namespace Go.Proofs.YtiekfipjbmdkpaaGreatDoor
open Go.RowKit

set_option maxHeartbeats 6400000 in
set_option maxRecDepth 100000 in
/-- masterdiscref49.ValidImage. -/
theorem rValidImage_any (v : Value) (l : List ByteArray) (w : World) (hm : Lm.Strs w v l) :
    Calls Tryz.prog 28 #[v] w fun e w' => e = .returned (.bool (Lm.validI l)) ∧ Below w.heap.size w w' := by
  have HM := Lib.hid hm
  obtain ⟨A, c, rfl, hlc, hcm, _⟩ := hm
  rw [Lm.strs_length] at *
  unfold maxLen at hcm
  go_enter Tryz.func28, Tryz.ntmps28
  go_wp2_with fail
  go_loop [3, 4] (fun iv _ => ∃ j : Nat, j ≤ l.length ∧ iv = .int .i64 j ∧ Hid ((l.take j).all Lm.okB = true)) (fun iv _ => l.length - (intOf iv).toNat)
  case atStart => exact ⟨0, by omega, rfl, Lib.hid rfl⟩
  case round =>
    obtain ⟨j, hj, rfl, HA⟩ := hrel
    by_cases hlt : j < l.length
    · obtain ⟨b, o, c', hv, hb, hc⟩ := HM.out.cell hlt
      obtain ⟨rfl, _, rfl⟩ : A = some ⟨b, o, none⟩ ∧ l.length = l.length ∧ c = c' := by simpa using hv
      clear hv
      have HY := Lib.hid (fun h => Lm.all_snoc (p := Lm.okB) (d := ⟨#[]⟩) hlt HA.out h)
      have HN := Lib.hid (fun h => Lm.all_fail (p := Lm.okB) (l := l) (d := ⟨#[]⟩) hlt h)
      generalize l.getD j ⟨#[]⟩ = s at *
      have hcs := Lm.okB_cases s
      by_cases h1 : s.toList = []
      · have HNX := Lib.hid (HY.out (hcs.2 (Or.inl ((Lm.str_eq s []).1 h1))))
        have e1 : (!s.toList.isEmpty) = false := by rw [h1]; rfl
        clear hcs HY HN
        go_wp2_with fail
        go_round
        case rel => exact ⟨j + 1, by omega, by go_num, HNX⟩
        case measure => simp [intOf]; omega
      have e1 : (!s.toList.isEmpty) = true := by cases hq : s.toList with | nil => exact absurd hq h1 | cons _ _ => rfl
      by_cases h2 : s.toList = [33]
      · have HNX := Lib.hid (HY.out (hcs.2 (Or.inr (Or.inl ((Lm.str_eq s [33]).1 h2)))))
        have e2 : (!s.toList == [33]) = false := by rw [h2]; rfl
        clear hcs HY HN
        go_wp2_with fail
        go_round
        case rel => exact ⟨j + 1, by omega, by go_num, HNX⟩
        case measure => simp [intOf]; omega
      have e2 : (!s.toList == [33]) = true := by
        rw [Bool.not_eq_true', beq_eq_false_iff_ne]
        exact h2
      by_cases h3 : s.size = 2048
      · have HNX := Lib.hid (HY.out (hcs.2 (Or.inr (Or.inr h3))))
        have e3 : ((s.size : Int) != 2048) = false := by rw [h3]; rfl
        clear hcs HY HN h3
        go_wp2_with fail
        go_round
        case rel => exact ⟨j + 1, by omega, by go_num, HNX⟩
        case measure => simp [intOf]; omega
      have e3 : ((s.size : Int) != 2048) = true := by rw [bne_iff_ne]; omega
      have HV := Lib.hid (show Lm.validI l = false by
        have : l.all Lm.okB = false := by
          refine HN.out ?_
          rw [Bool.eq_false_iff]
          intro hv
          rcases hcs.1 hv with h | h | h
          · exact h1 ((Lm.str_eq s []).2 h)
          · exact h2 ((Lm.str_eq s [33]).2 h)
          · exact h3 h
        unfold Lm.validI
        rw [this, Bool.and_false])
      clear hcs HY HN h3
      go_wp2_with fail
      go_ret
      rw [HV.out]
      exact ⟨rfl, Below.refl _ _⟩
    · obtain rfl : j = l.length := by omega
      have HV := Lib.hid (show Lm.validI l = decide ((l.length : Int) ≤ 4096) by
        have := HA.out
        rw [List.take_length] at this
        unfold Lm.validI
        rw [this, Bool.and_true]
        exact decide_eq_decide.2 ⟨fun h => by omega, fun h => by omega⟩)
      go_wp2_with fail
      go_ret
      rw [HV.out]
      exact ⟨rfl, Below.refl _ _⟩

end Go.Proofs.YtiekfipjbmdkpaaGreatDoor
namespace Go.Proofs.YtiekfipjbmdkpaaGreatDoor
open Go.RowKit
namespace Ex

/-- A loop whose rounds are taken one by one, at most n of them. -/
def LoopN (P : Program) (c : Code) (Q : Exit → Act → World → Prop) : Nat → Act → World → Prop
  | 0 => fun _ _ => False
  | n + 1 => fun a w => c.wp P (Exit.then (LoopN P c Q n) Q) a w

theorem loopN_succ {P : Program} {c : Code} {Q : Exit → Act → World → Prop} {n : Nat} {a : Act} {w : World} (h : c.wp P (Exit.then (LoopN P c Q n) Q) a w) : LoopN P c Q (n + 1) a w := h

open Classical in
theorem loopN {P : Program} {c : Code} {Q : Exit → Act → World → Prop} (n : Nat) {a : Act} {w : World} (h : LoopN P c Q n a w) : (Code.loop c).wp P Q a w := by
  have least : ∀ (a : Act) (w : World) (n : Nat), LoopN P c Q n a w → ∃ m, LoopN P c Q m a w ∧ ∀ k, LoopN P c Q k a w → m ≤ k := by
    intro a w n
    induction n using Nat.strongRecOn with
    | _ n ih =>
      intro hn
      by_cases hx : ∃ k, k < n ∧ LoopN P c Q k a w
      · obtain ⟨k, hk, h'⟩ := hx
        exact ih k hk h'
      · exact ⟨n, hn, fun k hk => Nat.le_of_not_lt fun hlt => hx ⟨k, hlt, hk⟩⟩
  let μ : Act → World → Nat := fun a w => if hh : ∃ m, LoopN P c Q m a w ∧ ∀ k, LoopN P c Q k a w → m ≤ k then Classical.choose hh else 0
  refine wp_loop (fun a w => ∃ n, LoopN P c Q n a w) μ ⟨n, h⟩ ?_
  rintro a w ⟨n, hn⟩
  have hh := least a w n hn
  have hμ : μ a w = Classical.choose hh := dif_pos hh
  obtain ⟨hm, hmin⟩ := Classical.choose_spec hh
  rw [← hμ] at hm hmin
  cases hmu : μ a w with
  | zero => rw [hmu] at hm; exact hm.elim
  | succ m =>
    rw [hmu] at hm
    refine wp_mono (c := c) hm ?_
    intro e a' w' hq
    cases e with
    | normal =>
      refine ⟨⟨m, hq⟩, ?_⟩
      have hh' := least a' w' m hq
      have hμ' : μ a' w' = Classical.choose hh' := dif_pos hh'
      have := (Classical.choose_spec hh').2 m hq
      rw [← hμ'] at this
      omega
    | exit id => exact hq
    | goto l => exact hq
    | ret => exact hq
    | panic ch => exact hq
    | outgrown => exact hq

/-- A cell that a call leaves as it was. -/
theorem keep {w w' : World} (hb : Below w.heap.size w w') {p : Addr} {v : Value} (h : w.cell? p = some v) : w'.cell? p = some v :=
  (hb.cell (World.block_lt_of_cell? _ _ h)).trans h

theorem heap_setCells {b g : Nat} (hg : g ≠ b) : ∀ (vs : List Value) (o : Nat) (w : World), (w.setCells b o vs).heap[g]? = w.heap[g]?
  | [], _, _ => rfl
  | v :: r, o, w => by
    rw [World.setCells, heap_setCells hg r (o + 1) _]
    exact Below.heap_setCell w ⟨b, o, none⟩ v g hg
/-- A block's first cells, none of them frozen. -/
def Has (w : World) (b : Nat) (a : Array Value) : Prop := ∀ j v, a[j]? = some v → w.cell? ⟨b, j, none⟩ = some v ∧ w.frozen? ⟨b, j, none⟩ = false
theorem Has.keep {w w' : World} {b : Nat} {a : Array Value} (h : Has w b a) (hb : Below w.heap.size w w') : Has w' b a := fun j v hj =>
  ⟨Ex.keep hb (h j v hj).1, (hb.frozen (World.block_lt_of_cell? _ _ (h j v hj).1)).trans (h j v hj).2⟩
theorem Has.new (w : World) (a : Array Value) (t : TypeId) : Has (w.alloc (.cells a t)) w.heap.size a := fun j _ hj =>
  ⟨(cell_of_row _ _ j _ _ _ (heap_alloc_new w _)).trans hj, World.frozen?_alloc_at a t _ j rfl⟩
theorem Has.lt {w : World} {b : Nat} {a : Array Value} (h : Has w b a) (h0 : 0 < a.size) : b < w.heap.size := World.block_lt_of_cell? _ _ (h 0 a[0] (by simp [h0])).1
theorem below_setCells {B : Nat} {a : World} {b : Nat} (hb : B ≤ b) : ∀ (vs : List Value) (o : Nat) (w : World), Below B a w → Below B a (w.setCells b o vs)
  | [], _, _, h => h
  | v :: r, o, w, h => by
    rw [World.setCells]
    exact below_setCells hb r (o + 1) _ (h.setCell (p := ⟨b, o, none⟩) hb v)
theorem Has.put {w : World} {b : Nat} {a : Array Value} (h : Has w b a) (cells : List Value) (hsz : cells.length = a.size) : Has (w.setCells b 0 cells) b cells.toArray := by
  intro j v hj
  have hj1 : cells[j]? = some v := by simpa using hj
  obtain ⟨hl, hv⟩ := List.getElem?_eq_some_iff.1 hj1
  have hin := World.cell?_setCells_in b cells 0 w (fun i hi => by
    rw [Nat.zero_add, (h i a[i] (by simp [← hsz, hi])).1]
    rfl) j hl
  rw [Nat.zero_add] at hin
  exact ⟨by rw [hin, hv], by rw [World.frozen?_setCells]; exact (h j a[j] (by simp [← hsz, hl])).2⟩
theorem Has.apart {w : World} {b b' o : Nat} {a : Array Value} (h : Has w b' a) (vs : List Value) (hne : b' ≠ b) : Has (w.setCells b o vs) b' a := fun j v hj =>
  ⟨by rw [World.cell?_setCells_out b vs o w ⟨b', j, none⟩ (fun hb _ => absurd hb hne)]; exact (h j v hj).1, by rw [World.frozen?_setCells]; exact (h j v hj).2⟩
theorem c1 {w : World} {b : Nat} {v0 : Value} (h : Has w b #[v0]) : w.cell? ⟨b, 0, none⟩ = some v0 := (h 0 _ rfl).1
theorem c2 {w : World} {b : Nat} {v0 v1 : Value} (h : Has w b #[v0, v1]) : w.cell? ⟨b, 0, none⟩ = some v0 ∧ w.cell? ⟨b, 1, none⟩ = some v1 := ⟨(h 0 _ rfl).1, (h 1 _ rfl).1⟩
theorem c3 {w : World} {b : Nat} {v0 v1 v2 : Value} (h : Has w b #[v0, v1, v2]) : w.cell? ⟨b, 0, none⟩ = some v0 ∧ w.cell? ⟨b, 1, none⟩ = some v1 ∧ w.cell? ⟨b, 2, none⟩ = some v2 := ⟨(h 0 _ rfl).1, (h 1 _ rfl).1, (h 2 _ rfl).1⟩
/-- What is known of a call's world: old memory is as it was, and what some blocks hold. -/
structure St (w0 w : World) (L : List (Nat × Array Value)) : Prop where
  bel : Below w0.heap.size w0 w
  blk : ∀ x ∈ L, Has w x.1 x.2
  lt : ∀ x ∈ L, x.1 < w.heap.size
  ne : L.Pairwise (fun x y => x.1 ≠ y.1)
theorem St.nil (w : World) : St w w [] := ⟨Below.refl _ _, fun _ h => (List.not_mem_nil h).elim, fun _ h => (List.not_mem_nil h).elim, List.Pairwise.nil⟩
/-- One block more (of an argument). -/
theorem St.add {w0 w : World} {L : List (Nat × Array Value)} (h : St w0 w L) {b : Nat} {a : Array Value} (hb : Has w b a) (h0 : 0 < a.size) (hne : ∀ x ∈ L, b ≠ x.1) : St w0 w ((b, a) :: L) :=
  ⟨h.bel, fun x hx => by rcases List.mem_cons.1 hx with rfl | hx; exact hb; exact h.blk x hx, fun x hx => by rcases List.mem_cons.1 hx with rfl | hx; exact hb.lt h0; exact h.lt x hx, List.Pairwise.cons hne h.ne⟩
theorem St.one {w : World} {b : Nat} {a : Array Value} (hb : Has w b a) (h0 : 0 < a.size) : St w w [(b, a)] := (St.nil w).add hb h0 fun _ h => (List.not_mem_nil h).elim
theorem St.call {w0 w w' : World} {L : List (Nat × Array Value)} (h : St w0 w L) (hb : Below w.heap.size w w') : St w0 w' L :=
  ⟨h.bel.trans (hb.mono h.bel.size), fun x hx => (h.blk x hx).keep hb, fun x hx => Nat.lt_of_lt_of_le (h.lt x hx) hb.size, h.ne⟩
/-- Behind a call that hands back a block of its own. -/
theorem St.ret {w0 w w' : World} {L : List (Nat × Array Value)} (h : St w0 w L) (hb : Below w.heap.size w w') {b : Nat} {a : Array Value} (hn : w.heap.size ≤ b) (hl : b < w'.heap.size) (ha : Has w' b a) : St w0 w' ((b, a) :: L) :=
  ⟨h.bel.trans (hb.mono h.bel.size), fun x hx => by rcases List.mem_cons.1 hx with rfl | hx; exact ha; exact (h.blk x hx).keep hb,
    fun x hx => by rcases List.mem_cons.1 hx with rfl | hx; exact hl; exact Nat.lt_of_lt_of_le (h.lt x hx) hb.size,
    List.Pairwise.cons (fun x hx => Nat.ne_of_gt (Nat.lt_of_lt_of_le (h.lt x hx) hn)) h.ne⟩
theorem St.alloc {w0 w : World} {L : List (Nat × Array Value)} (h : St w0 w L) (a : Array Value) (t : TypeId) : St w0 (w.alloc (.cells a t)) ((w.heap.size, a) :: L) :=
  h.ret ((Below.refl _ _).alloc (Nat.le_refl _) _) (Nat.le_refl _) (by simp) (Has.new w a t)
theorem St.has {w0 w : World} {L : List (Nat × Array Value)} (h : St w0 w L) (i : Nat) {b : Nat} {a : Array Value} (hi : L[i]? = some (b, a)) : Has w b a := h.blk _ (List.mem_of_getElem? hi)
theorem St.cell {w0 w : World} {L : List (Nat × Array Value)} (h : St w0 w L) (i j : Nat) {b : Nat} {a : Array Value} {v : Value} (hi : L[i]? = some (b, a)) (hj : a[j]? = some v) : w.cell? ⟨b, j, none⟩ = some v :=
  (h.has i hi j v hj).1
theorem St.upd {w0 w w' : World} {L : List (Nat × Array Value)} (h : St w0 w L) (i : Nat) {b : Nat} {a a' : Array Value} (hi : L[i]? = some (b, a)) (hbel : Below w0.heap.size w0 w') (hsz : w.heap.size ≤ w'.heap.size) (hself : Has w' b a') (hap : ∀ b' a'', b' ≠ b → Has w b' a'' → Has w' b' a'') : St w0 w' (L.set i (b, a')) := by
  have hil := (List.getElem?_eq_some_iff.1 hi).1
  have hgi := (List.getElem?_eq_some_iff.1 hi).2
  have hne : ∀ k (hk : k < L.length), k ≠ i → L[k].1 ≠ b := by
    intro k hk hki
    have := List.pairwise_iff_getElem.1 h.ne
    rcases Nat.lt_or_gt_of_ne hki with hlt | hgt
    · have h1 := this k i hk hil hlt
      rw [hgi] at h1
      exact h1
    · have h1 := this i k hil hk hgt
      rw [hgi] at h1
      exact fun e => h1 e.symm
  refine ⟨hbel, ?_, ?_, ?_⟩
  · intro x hx
    obtain ⟨k, hk, rfl⟩ := List.mem_iff_getElem.1 hx
    rw [List.length_set] at hk
    by_cases hki : k = i
    · subst hki
      rw [List.getElem_set_self]
      exact hself
    · rw [List.getElem_set_ne (fun e => hki e.symm)]
      exact hap _ _ (hne k hk hki) (h.blk _ (List.getElem_mem hk))
  · intro x hx
    obtain ⟨k, hk, rfl⟩ := List.mem_iff_getElem.1 hx
    rw [List.length_set] at hk
    refine Nat.lt_of_lt_of_le ?_ hsz
    by_cases hki : k = i
    · subst hki
      rw [List.getElem_set_self]
      have hm := List.getElem_mem (l := L) hil
      rw [hgi] at hm
      exact h.lt (b, a) hm
    · rw [List.getElem_set_ne (fun e => hki e.symm)]
      exact h.lt _ (List.getElem_mem hk)
  · have hm : (L.set i (b, a')).map Prod.fst = L.map Prod.fst := by
      rw [List.map_set]
      refine List.ext_getElem? fun k => ?_
      rw [List.getElem?_set]
      by_cases hki : i = k
      · subst hki
        simp [hil, hgi]
      · simp [hki]
    have hp : (L.map Prod.fst).Pairwise (· ≠ ·) := List.pairwise_map.2 h.ne
    rw [← hm] at hp
    exact List.pairwise_map.1 hp
theorem St.setCells {w0 w : World} {L : List (Nat × Array Value)} (h : St w0 w L) (i : Nat) {b : Nat} {a : Array Value} (hi : L[i]? = some (b, a)) (hb : w0.heap.size ≤ b) (cells : List Value) (hsz : cells.length = a.size) : St w0 (w.setCells b 0 cells) (L.set i (b, cells.toArray)) :=
  h.upd i hi (below_setCells hb cells 0 w h.bel) (below_setCells (Nat.zero_le b) cells 0 w (Below.refl 0 w)).size ((h.has i hi).put cells hsz) fun _ _ hne ha => ha.apart cells hne
/-- A whole struct is stored into a block. -/
theorem St.put {P : Program} {w0 w : World} {L : List (Nat × Array Value)} (h : St w0 w L) (i : Nat) {b : Nat} {ar cells : Array Value} {ops : Array Oper} {rest : List Oper} {d : Option Nat} {ty t : TypeId} {x y : Operand} {p : String} {af : Array Edge} {a : Act} {Q : Exit → Act → World → Prop}
    (hx : a.eval x = .pointer (some ⟨b, 0, none⟩)) (hy : a.eval y = .agg cells) (hi : L[i]? = some (b, ar)) (hb : w0.heap.size ≤ b) (hsz : cells.size = ar.size) (hinfo : (P.info? ty).map (·.size) = some cells.size) (h1 : cells.toList.all (fun v => v.oneCell') = true)
    (hk : ∀ w', St w0 w' (L.set i (b, cells)) → (∀ g, g ≠ b → w'.heap[g]? = w.heap[g]?) → wpList P ops Q rest (a.put d undef) w') : wpList P ops Q ({ dst := d, op := .store ty x y, type := t, pos := p, after := af, guard := none } :: rest) a w := by
  have hH := h.has i hi
  refine wpList_store_mid rfl ty x y rfl b 0 cells hx hy (fun j hj => ?_) hinfo (Array.all_eq_true_iff_forall_mem.2 fun v hv => List.all_eq_true.1 h1 v (by simpa using hv)) (hk _ ?_ fun g hg => heap_setCells hg _ _ _)
  · have hjv := hH j ar[j] (by simp [← hsz, hj])
    rw [Nat.zero_add]
    exact ⟨by rw [hjv.1]; rfl, hjv.2⟩
  · have := h.setCells i hi hb cells.toList (by simpa using hsz)
    simpa using this
end Ex
end Go.Proofs.YtiekfipjbmdkpaaGreatDoor
namespace Go.Proofs.YtiekfipjbmdkpaaGreatDoor
open Go.RowKit
namespace Ex
/-- An element of an image; those behind its end are blank. -/
def elem (l : List ByteArray) (z : Int) : ByteArray := if 0 ≤ z ∧ z < l.length then l.getD z.toNat ⟨#[]⟩ else ⟨#[]⟩
theorem row_at {w : World} {v : Value} {l : List ByteArray} (h : Kit.Row w v (l.map Value.string)) {z : Int} (h0 : 0 ≤ z) (h1 : z < l.length) : ∃ b o c, v = .slice (some ⟨b, o, none⟩) l.length c ∧ w.cell? ⟨b, o + z.toNat, none⟩ = some (.string (l.getD z.toNat ⟨#[]⟩)) := by
  obtain ⟨A, c, rfl, -, -, h3⟩ := h
  rw [List.length_map] at h3 ⊢
  obtain ⟨b, o, rfl, -, hc⟩ := h3 (by omega)
  refine ⟨b, o, c, rfl, hc z.toNat _ ?_⟩
  have hz : z.toNat < l.length := by omega
  simp [List.getD, hz]
end Ex

set_option maxHeartbeats 3200000 in
set_option maxRecDepth 100000 in
/-- finalize.at. -/
theorem fAt_any (l : List ByteArray) (v : Value) (z : Int) (w : World) (h : Kit.Row w v (l.map Value.string)) : Calls Tryz.prog 15 #[v, .int .i64 z] w fun e w' => e = .returned (.string (Ex.elem l z)) ∧ w' = w := by
  unfold Ex.elem
  by_cases h0 : 0 ≤ z
  case neg =>
    rw [if_neg (fun h => h0 h.1)]
    have d0 : decide (z < 0) = true := decide_eq_true (by omega)
    go_enter Tryz.func15, Tryz.ntmps15
    go_wp2_with (first | (with_reducible refine Ex.loopN 16 ?_) | (with_reducible refine Ex.loopN_succ ?_))
    go_ret
    exact ⟨rfl, rfl⟩
  by_cases h1 : z < l.length
  case neg =>
    rw [if_neg (fun h => h1 h.2)]
    obtain ⟨A, c, rfl, -, -, -⟩ := h
    rw [List.length_map]
    have d0 : decide (z < 0) = false := decide_eq_false (by omega)
    have d1 : decide ((l.length : Int) ≤ z) = true := decide_eq_true (by omega)
    go_enter Tryz.func15, Tryz.ntmps15
    go_wp2_with (first | (with_reducible refine Ex.loopN 16 ?_) | (with_reducible refine Ex.loopN_succ ?_))
    go_ret
    exact ⟨rfl, rfl⟩
  rw [if_pos ⟨h0, h1⟩]
  obtain ⟨b, o, c, rfl, hc⟩ := Ex.row_at h h0 h1
  generalize l.getD z.toNat ⟨#[]⟩ = r at *
  generalize l.length = n at *
  have d0 : decide (z < 0) = false := decide_eq_false (by omega)
  have d1 : decide ((n : Int) ≤ z) = false := decide_eq_false (by omega)
  go_enter Tryz.func15, Tryz.ntmps15
  go_wp2_with (first | (with_reducible refine Ex.loopN 16 ?_) | (with_reducible refine Ex.loopN_succ ?_))
  go_ret
  exact ⟨rfl, rfl⟩

set_option maxHeartbeats 3200000 in
set_option maxRecDepth 100000 in
/-- masterdiscref55.element. -/
theorem r55Element_any (l : List ByteArray) (v : Value) (z : Int) (w : World) (h : Kit.Row w v (l.map Value.string)) : Calls Tryz.prog 17 #[v, .int .i64 z] w fun e w' => e = .returned (.string (Ex.elem l z)) ∧ w' = w := by
  unfold Ex.elem
  by_cases h0 : 0 ≤ z
  case neg =>
    rw [if_neg (fun h => h0 h.1)]
    have d0 : decide (z < 0) = true := decide_eq_true (by omega)
    go_enter Tryz.func17, Tryz.ntmps17
    go_wp2_with (first | (with_reducible refine Ex.loopN 16 ?_) | (with_reducible refine Ex.loopN_succ ?_))
    go_ret
    exact ⟨rfl, rfl⟩
  by_cases h1 : z < l.length
  case neg =>
    rw [if_neg (fun h => h1 h.2)]
    obtain ⟨A, c, rfl, -, -, -⟩ := h
    rw [List.length_map]
    have d0 : decide (z < 0) = false := decide_eq_false (by omega)
    have d1 : decide ((l.length : Int) ≤ z) = true := decide_eq_true (by omega)
    go_enter Tryz.func17, Tryz.ntmps17
    go_wp2_with (first | (with_reducible refine Ex.loopN 16 ?_) | (with_reducible refine Ex.loopN_succ ?_))
    go_ret
    exact ⟨rfl, rfl⟩
  rw [if_pos ⟨h0, h1⟩]
  obtain ⟨b, o, c, rfl, hc⟩ := Ex.row_at h h0 h1
  generalize l.getD z.toNat ⟨#[]⟩ = r at *
  generalize l.length = n at *
  have d0 : decide (z < 0) = false := decide_eq_false (by omega)
  have d1 : decide ((n : Int) ≤ z) = false := decide_eq_false (by omega)
  go_enter Tryz.func17, Tryz.ntmps17
  go_wp2_with (first | (with_reducible refine Ex.loopN 16 ?_) | (with_reducible refine Ex.loopN_succ ?_))
  go_ret
  exact ⟨rfl, rfl⟩
end Go.Proofs.YtiekfipjbmdkpaaGreatDoor
namespace Go.Proofs.YtiekfipjbmdkpaaGreatDoor
open Go.RowKit
namespace Ex
/-- Whether a span lies on a disc. -/
def spanOk (s c : Int) : Bool := (decide (0 ≤ s) && decide (1 ≤ c)) && (decide (s ≤ 4096) && decide (c ≤ 4096 - s))
end Ex

set_option maxHeartbeats 1600000 in
set_option maxRecDepth 100000 in
theorem r49ValidSpan_any (s c : Int) (w : World) : Calls Tryz.prog 29 #[.agg #[.int .i64 s, .int .i64 c]] w fun e w' => e = .returned (.bool (Ex.spanOk s c)) ∧ Below w.heap.size w w' := by
  have HB := Lib.hid ((Below.refl w.heap.size w).alloc (Nat.le_refl _) (.cells #[.int .i64 s, .int .i64 c] 43))
  unfold Ex.spanOk
  by_cases h0 : 0 ≤ s
  case neg =>
    have d0 : decide (0 ≤ s) = false := decide_eq_false h0
    rw [d0]
    simp only [Bool.false_and]
    go_enter Tryz.func29, Tryz.ntmps29
    go_wp2_with fail
    go_ret
    exact ⟨rfl, HB.out⟩
  have d0 : decide (0 ≤ s) = true := decide_eq_true h0
  by_cases h1 : 1 ≤ c
  case neg =>
    have d1 : decide (1 ≤ c) = false := decide_eq_false h1
    rw [d1]
    simp only [Bool.false_and, Bool.and_false]
    go_enter Tryz.func29, Tryz.ntmps29
    go_wp2_with fail
    go_ret
    exact ⟨rfl, HB.out⟩
  have d1 : decide (1 ≤ c) = true := decide_eq_true h1
  by_cases h2 : s ≤ 4096
  case neg =>
    have d2 : decide (s ≤ 4096) = false := decide_eq_false h2
    rw [d2]
    simp only [Bool.false_and, Bool.and_false]
    go_enter Tryz.func29, Tryz.ntmps29
    go_wp2_with fail
    go_ret
    exact ⟨rfl, HB.out⟩
  have d2 : decide (s ≤ 4096) = true := decide_eq_true h2
  by_cases h3 : c ≤ 4096 - s
  case neg =>
    have d3 : decide (c ≤ 4096 - s) = false := decide_eq_false h3
    rw [d3]
    simp only [Bool.and_false]
    go_enter Tryz.func29, Tryz.ntmps29
    go_wp2_with fail
    go_ret
    exact ⟨rfl, HB.out⟩
  have d3 : decide (c ≤ 4096 - s) = true := decide_eq_true h3
  rw [d0, d1, d2, d3]
  go_enter Tryz.func29, Tryz.ntmps29
  go_wp2_with fail
  go_ret
  exact ⟨rfl, HB.out⟩

end Go.Proofs.YtiekfipjbmdkpaaGreatDoor
