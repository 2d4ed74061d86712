/-
  Plain functions of layer 56: images, files, losses, pieces.
-/
import Derived.Test.YtlhechlbmbjffaaDoorK3
import Derived.Lib.Bytealg
namespace Go.Proofs.YtlhechlbmbjffaaDoor
open Go.RowKit
namespace Lm
/-- A file's extent. -/
structure F where
  path : ByteArray
  start : Int
  len : Int
/-- A loss. -/
structure L where
  path : ByteArray
  off : Int
  len : Int
def f0 : F := ⟨⟨#[]⟩, 0, 0⟩
def l0 : L := ⟨⟨#[]⟩, 0, 0⟩
/-- The number of blocks of a length. -/
def blk (n : Int) : Int := (n + 2047) / 2048
/-- An element of a valid image. -/
def okB (b : ByteArray) : Bool := decide (b = ⟨#[]⟩) || (decide (b = ⟨#[33]⟩) || decide (b.size = 2048))
def validI (l : List ByteArray) : Bool := decide (l.length ≤ 4096) && l.all okB
/-- A valid extent. -/
def okF (f : F) : Bool := decide (0 ≤ f.start) && (decide (f.start ≤ 4096) && (decide (0 ≤ f.len) && (decide (f.len ≤ 262144) && decide (blk f.len ≤ 4096 - f.start))))
/-- check. -/
def chkR (img : List ByteArray) (fs : List F) : Int := if validI img = false then 1 else if 1024 < fs.length then 7 else if fs.all okF = true then 0 else 1
/-- Bytes. -/
def bytesR (l : List L) : Int := (l.map fun x => max x.len 0).sum
/-- Contains. -/
def hasR (l : List ByteArray) (s : ByteArray) : Bool := l.any fun y => decide (y = s)
/-- Damaged. -/
def damR : List ByteArray → List L → List ByteArray
  | out, [] => out
  | out, x :: t => if hasR out x.path = true then damR out t else damR (out ++ [x.path]) t
/-- A piece. -/
structure P where
  path : ByteArray
  off : Int
  len : Int
  data : ByteArray
  ok : Bool
def readable (img : List ByteArray) (b : Int) : Bool := decide (b < img.length) && decide ((img.getD b.toNat ⟨#[]⟩).size = 2048)
/-- One piece of a file. -/
def pieceR (img : List ByteArray) (f : F) (o : Int) (i : Nat) : P :=
  ⟨f.path, o + i * 2048, min 2048 (f.len - i * 2048), if readable img (f.start + i) = true then (img.getD (f.start + i).toNat ⟨#[]⟩).extract 0 (min 2048 (f.len - i * 2048)).toNat else ⟨#[]⟩, readable img (f.start + i)⟩
/-- The bytes of a path in extents. -/
def offR (fs : List F) (p : ByteArray) : Int := ((fs.filter fun f => decide (f.path = p)).map F.len).sum
/-- The pieces of extent j; of the extents ahead of j; of all. -/
def fileP (img : List ByteArray) (fs : List F) (j : Nat) : List P := (List.range (blk (fs.getD j f0).len).toNat).map (pieceR img (fs.getD j f0) (offR (fs.take j) (fs.getD j f0).path))
def upTo (img : List ByteArray) (fs : List F) (j : Nat) : List P := (List.range j).flatMap (fileP img fs)
def piecesR (img : List ByteArray) (fs : List F) : List P := upTo img fs fs.length
/-- One more lost piece among the losses of a path. -/
def addL (l : List L) (p : P) : List L :=
  match l.getLast? with
  | some x => if x.off + x.len = p.off then l.dropLast ++ [⟨x.path, x.off, x.len + p.len⟩] else l ++ [⟨p.path, p.off, p.len⟩]
  | none => [⟨p.path, p.off, p.len⟩]
/-- The losses by paths. -/
def lossM (s : ByteArray → List L) : List P → ByteArray → List L
  | [] => s
  | p :: t => if p.ok = true then lossM s t else lossM (fun q => if q = p.path then addL (s p.path) p else s q) t
/-- The cells of a file's extent, of a loss, of a piece. -/
def fC (f : F) : List Value := [.string f.path, .int .i64 f.start, .int .i64 f.len]
def lC (x : L) : List Value := [.string x.path, .int .i64 x.off, .int .i64 x.len]
def pC (p : P) : List Value := [.string p.path, .int .i64 p.off, .int .i64 p.len, .string p.data, .bool p.ok]
def strs (l : List ByteArray) : List Value := l.map Value.string
theorem strs_length (l : List ByteArray) : (strs l).length = l.length := by simp [strs]
/-- A slice value that reads as files. -/
abbrev Files (w : World) (v : Value) (fs : List F) : Prop := Kit.RowN w v 3 fs.length (fun j => fC (fs.getD j f0))
abbrev Losses (w : World) (v : Value) (l : List L) : Prop := Kit.RowN w v 3 l.length (fun j => lC (l.getD j l0))
/-- A slice value that reads as strings. -/
abbrev Strs (w : World) (v : Value) (l : List ByteArray) : Prop := Kit.Row w v (strs l)
theorem Strs.cell {w : World} {v : Value} {l : List ByteArray} (h : Strs w v l) {j : Nat} (hj : j < l.length) : ∃ b o c, v = .slice (some ⟨b, o, none⟩) l.length c ∧ b < w.heap.size ∧ w.cell? ⟨b, o + j, none⟩ = some (.string (l.getD j ⟨#[]⟩)) := by
  obtain ⟨A, c, rfl, h1, h2, h3⟩ := h
  obtain ⟨b, o, rfl, hb, hc⟩ := h3 (by rw [strs_length]; omega)
  refine ⟨b, o, c, by rw [strs_length], hb, ?_⟩
  exact hc j _ (by simp [strs, List.getD, hj])
theorem okB_cases (b : ByteArray) : okB b = true ↔ b = ⟨#[]⟩ ∨ b = ⟨#[33]⟩ ∨ b.size = 2048 := by simp [okB]
theorem all_snoc {α : Type} {p : α → Bool} {l : List α} {d : α} {i : Nat} (hi : i < l.length) (h : (l.take i).all p = true) (hp : p (l.getD i d) = true) : (l.take (i + 1)).all p = true := by
  rw [List.take_succ_eq_append_getElem hi, List.all_append, h]
  simp [List.getD, hi] at hp
  simp [hp]
theorem all_fail {α : Type} {p : α → Bool} {l : List α} {d : α} {i : Nat} (hi : i < l.length) (hp : p (l.getD i d) = false) : l.all p = false := by
  rw [Bool.eq_false_iff]
  intro h
  have := List.all_eq_true.1 h (l.getD i d) (by simp [List.getD, hi])
  rw [hp] at this
  cases this
theorem all_get {α : Type} {p : α → Bool} {l : List α} {d : α} {i : Nat} (h : l.all p = true) (hi : i < l.length) : p (l.getD i d) = true :=
  List.all_eq_true.1 h _ (by simp [List.getD, hi])
theorem okF_iff (f : F) : okF f = true ↔ 0 ≤ f.start ∧ f.start ≤ 4096 ∧ 0 ≤ f.len ∧ f.len ≤ 262144 ∧ blk f.len ≤ 4096 - f.start := by simp [okF]
theorem str_eq (s : ByteArray) (l : List UInt8) : s.toList = l ↔ s = ⟨l.toArray⟩ := by
  rw [Lib.toList_data]
  constructor
  · intro h
    cases s
    simp at h
    subst h
    simp
  · rintro rfl
    simp
end Lm
end Go.Proofs.YtlhechlbmbjffaaDoor
