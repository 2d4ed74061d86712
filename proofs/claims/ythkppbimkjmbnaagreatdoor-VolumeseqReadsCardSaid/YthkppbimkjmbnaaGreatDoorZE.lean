/-
  Plain: the descriptors of a volume, and their blocks; no program in sight.
-/
import Derived.Test.YthkppbimkjmbnaaGreatDoorZD
import Derived.Test.YthkppbimkjmbnaaGreatDoorZy
import Derived.Test.YthkppbimkjmbnaaGreatDoorZA
import Derived.Test.YthkppbimkjmbnaaGreatDoorShelf
import Derived.Test.YthkppbimkjmbnaaGreatDoorZB
import Derived.BigQuiet
import Derived.Deep.QuietTactic
import Derived.Lib.BufferWrite
import Derived.Laws.NewDeep
import Derived.Shelf.Abstract
namespace Go.Proofs.YthkppbimkjmbnaaGreatDoor
namespace Vs
open Pm (le num at_ le_len num_le num_lt)
/-- The character set specification. -/
def csL : List UInt8 := [0, 79, 83, 84, 65, 32, 67, 111, 109, 112, 114, 101, 115, 115, 101, 100, 32, 85, 110, 105, 99, 111, 100, 101] ++ List.replicate 40 0
/-- The identifiers. -/
def implN : List UInt8 := [42, 109, 97, 115, 116, 101, 114, 100, 105, 115, 99]
def domN : List UInt8 := [42, 79, 83, 84, 65, 32, 85, 68, 70, 32, 67, 111, 109, 112, 108, 105, 97, 110, 116]
def contN : List UInt8 := [43, 78, 83, 82, 48, 51]
def contN2 : List UInt8 := [43, 78, 83, 82, 48, 50]
def implL : List UInt8 := (Cs.entR implN []).1
def domL : List UInt8 := (Cs.entR domN [1, 2]).1
def contL : List UInt8 := (Cs.entR contN []).1
structure Vol where
  name : ByteArray
  set : ByteArray
  pub : ByteArray
  prep : ByteArray
  app : ByteArray
  number : Int
  discs : Int
  time : Int
structure Part where
  number : Int
  access : Int
  start : Int
  count : Int
  bstart : Int
  bcount : Int
structure D where
  vol : Vol
  part : Part
  maps : Int
  table : ByteArray
  fk : Int
  fl : Int
  fb : Int
  fp : Int
  istart : Int
  icount : Int
abbrev by_ (s : ByteArray) : List UInt8 := s.data.toList
def word (n : Int) : Bool := decide (0 ≤ n) && decide (n < 4294967296)
theorem word_iff (n : Int) : word n = true ↔ 0 ≤ n ∧ n < 4294967296 := by simp [word]
def spanB (s c : Int) : Bool := word s && (decide (0 ≤ c) && decide (c < 2097152))
theorem spanB_iff (s c : Int) : spanB s c = true ↔ (0 ≤ s ∧ s < 4294967296) ∧ 0 ≤ c ∧ c < 2097152 := by simp [spanB, word_iff]
def textB (l : List UInt8) : Bool := decide ((Cs.charsR l).2 = 0)
def namedB (l : List UInt8) : Bool := !l.isEmpty && decide ((Cs.dstrR l 128).2 = 0)
def okVol (v : Vol) : Bool := textB (by_ v.set) && (decide (1 ≤ v.number) && (decide (v.number ≤ 65535) && (decide (1 ≤ v.discs) && (decide (v.discs ≤ 65535) && isTime v.time))))
def okPart (p : Part) : Bool := decide (0 ≤ p.number) && (decide (p.number ≤ 65535) && (word p.access && (word p.start && (word p.count && (word p.bstart && (decide (0 ≤ p.bcount) && decide (p.bcount < 524288)))))))
def formed (k l b p : Int) : Bool := decide (0 ≤ k) && (decide (k ≤ 3) && (decide (1 ≤ l) && (decide (l < 1073741824) && (decide (0 ≤ b) && (decide (b < 4294967296) && (decide (0 ≤ p) && decide (p ≤ 65535)))))))
theorem formed_iff (k l b p : Int) : formed k l b p = true ↔ 0 ≤ k ∧ k ≤ 3 ∧ 1 ≤ l ∧ l < 1073741824 ∧ 0 ≤ b ∧ b < 4294967296 ∧ 0 ≤ p ∧ p ≤ 65535 := by simp [formed]
def okLog (d : D) : Bool := namedB (by_ d.vol.name) && (decide (0 ≤ d.maps) && (decide (d.maps ≤ 65535) && (decide (d.table.size ≤ 1608) && (formed d.fk d.fl d.fb d.fp && spanB d.istart d.icount))))
theorem okVol_iff (v : Vol) : okVol v = true ↔ textB (by_ v.set) = true ∧ 1 ≤ v.number ∧ v.number ≤ 65535 ∧ 1 ≤ v.discs ∧ v.discs ≤ 65535 ∧ isTime v.time = true := by simp [okVol]
theorem okPart_iff (p : Part) : okPart p = true ↔ 0 ≤ p.number ∧ p.number ≤ 65535 ∧ word p.access = true ∧ word p.start = true ∧ word p.count = true ∧ word p.bstart = true ∧ 0 ≤ p.bcount ∧ p.bcount < 524288 := by simp [okPart]
theorem okLog_iff (d : D) : okLog d = true ↔ namedB (by_ d.vol.name) = true ∧ 0 ≤ d.maps ∧ d.maps ≤ 65535 ∧ d.table.size ≤ 1608 ∧ formed d.fk d.fl d.fb d.fp = true ∧ spanB d.istart d.icount = true := by simp [okLog]
/-- An extent descriptor; a long allocation descriptor; a field. -/
def n4 (n : Int) : List UInt8 := le 4 n.toNat
def n2 (n : Int) : List UInt8 := le 2 n.toNat
theorem n4_len (n : Int) : (n4 n).length = 4 := le_len _ _
theorem n2_len (n : Int) : (n2 n).length = 2 := le_len _ _
def extL (s c : Int) : List UInt8 := n4 (c * 2048) ++ n4 s
theorem extL_len (s c : Int) : (extL s c).length = 8 := by simp [extL, n4_len]
def longL (k l b p : Int) : List UInt8 := n4 (l + 1073741824 * k) ++ (n4 b ++ (n2 p ++ z 6))
theorem longL_len (k l b p : Int) : (longL k l b p).length = 16 := by simp [longL, n4_len, n2_len, z_len]
def fldL (s : List UInt8) (n : Int) : List UInt8 := (Cs.dstrR (Cs.fitR s n) n).1
theorem impl_len : implL.length = 32 := by decide +kernel
theorem dom_len : domL.length = 32 := by decide +kernel
theorem cont_len : contL.length = 32 := by decide +kernel
theorem cs_len : csL.length = 64 := by decide +kernel
theorem text_zero {l : List UInt8} (h : textB l = true) : (Cs.compressR l).2 = 0 := by
  unfold textB at h
  have h := of_decide_eq_true h
  obtain ⟨h1, h2⟩ := Cs.charsR_zero h
  rw [Cs.compressR_ok h1 h2]
theorem squeeze_ge (cs : List Nat) : cs.length ≤ (Cs.squeeze cs).length := by
  unfold Cs.squeeze
  split
  · omega
  · rw [Cs.comp_len _ (Cs.wid_or cs)]
    rcases Cs.wid_or cs with e | e <;> rw [e] <;> omega
theorem squeeze_le (cs : List Nat) (k : Nat) : (Cs.squeeze (cs.take k)).length ≤ (Cs.squeeze cs).length := by
  have hl : (cs.take k).length ≤ cs.length := by rw [List.length_take]; omega
  by_cases h0 : (cs.take k).length = 0
  · unfold Cs.squeeze
    rw [if_pos h0]
    simp
  · have hw : Cs.wid (cs.take k) ≤ Cs.wid cs := by
      unfold Cs.wid
      split
      · rcases Cs.wid_or cs with e | e
        · unfold Cs.wid at e; omega
        · unfold Cs.wid at e; omega
      · rename_i h
        rw [if_neg (fun g => h (List.all_eq_true.2 fun x hx => List.all_eq_true.1 g x (List.mem_of_mem_take hx)))]
        exact Nat.le_refl _
    unfold Cs.squeeze
    rw [if_neg h0, if_neg (by omega), Cs.comp_len _ (Cs.wid_or _), Cs.comp_len _ (Cs.wid_or _)]
    have := Nat.mul_le_mul hw hl
    omega
/-- A text's compressed Unicode is expanded to the text; parsing a field gives the text. -/
theorem expand_c {l : List UInt8} (h : (Cs.compressR l).2 = 0) (hl : l.length ≤ 32767) : Cs.expandR (Cs.compressR l).1 = (l, 0) := by
  by_cases h0 : (Cs.charsR l).2 = 0
  · obtain ⟨hl', hc⟩ := Cs.charsR_zero h0
    have hcl := (Cs.chars_len hc).1
    rw [Cs.compressR_ok hl' hc]
    show Cs.expandR (Cs.squeeze (Cs.charsR l).1) = (l, 0)
    rw [Cs.expand_squeeze _ (Cs.chars_all hc) (by omega), Cs.text_chars hc]
  · rw [Cs.compressR_err h0] at h
    exact absurd h h0
theorem parse_d {l : List UInt8} {size : Int} (hs : Cs.sized size = true) (h : (Cs.compressR l).2 = 0) (hl : l.length ≤ 32767) (hf : ¬ size - 1 < (Cs.compressR l).1.length) :
    ((Cs.dstrR l size).1.length : Int) = size ∧ Cs.parseR (Cs.dstrR l size).1 = (l, 0) := by
  have he := expand_c h hl
  rw [Cs.dstr_ok hs h hf]
  obtain ⟨h2, h255⟩ := (Cs.sized_iff' size).1 hs
  generalize (Cs.compressR l).1 = d at *
  have hlen : (d ++ List.replicate (size.toNat - 1 - d.length) 0 ++ [UInt8.ofNat d.length]).length = size.toNat := by
    simp only [List.length_append, List.length_replicate, List.length_singleton]
    omega
  have hlast : Cs.byt (d ++ List.replicate (size.toNat - 1 - d.length) 0 ++ [UInt8.ofNat d.length]) (size.toNat - 1) = d.length := by
    unfold Cs.byt
    have e : (d ++ List.replicate (size.toNat - 1 - d.length) (0 : UInt8)).length = size.toNat - 1 := by
      simp only [List.length_append, List.length_replicate]; omega
    simp only [List.getD]
    rw [List.getElem?_append_right (by omega), e, Nat.sub_self]
    simp only [List.getElem?_cons_zero, Option.getD_some]
    rw [UInt8.toNat_ofNat']
    omega
  refine ⟨by show ((d ++ List.replicate (size.toNat - 1 - d.length) 0 ++ [UInt8.ofNat d.length]).length : Int) = size; rw [hlen]; omega, ?_⟩
  show Cs.parseR (d ++ List.replicate (size.toNat - 1 - d.length) 0 ++ [UInt8.ofNat d.length]) = (l, 0)
  unfold Cs.parseR
  rw [hlen, if_neg (by rw [show ((size.toNat : Nat) : Int) = size by omega, hs]; simp), hlast, if_neg (by omega), List.append_assoc, List.take_left]
  exact he
theorem fit_len {l : List UInt8} {n : Int} (h2 : n ≤ 255) : (Cs.fitR l n).length ≤ 765 := by
  unfold Cs.fitR
  split
  · rename_i h
    have hs := (Cs.sized_iff' n).1 h.2
    have h1 := Cs.text_len (((Cs.charsR l).1.take (Cs.fitN (Cs.charsR l).1 n (min (Cs.charsR l).1.length n.toNat))))
    have h3 := (Cs.fitN_spec (Cs.charsR l).1 n (by omega) (min (Cs.charsR l).1.length n.toNat)).1
    rw [List.length_take] at h1
    omega
  · simp
/-- A field has its size, and is read as what fits. -/
theorem fld_spec {l : List UInt8} {n : Int} (h : textB l = true) (h1 : 2 ≤ n) (h2 : n ≤ 255) : ((fldL l n).length : Int) = n ∧ Cs.parseR (fldL l n) = (Cs.fitR l n, 0) := by
  have hs : Cs.sized n = true := (Cs.sized_iff' n).2 ⟨h1, h2⟩
  have hl := fit_len (l := l) h2
  obtain ⟨cs, k, hc, hk, hf, hd, _⟩ := Cs.fit_spec hs (text_zero h)
  rw [hf] at hl
  unfold fldL
  rw [hf]
  have hcz : (Cs.compressR (Cs.text (cs.take k))).2 = 0 := by
    by_cases g : (Cs.compressR (Cs.text (cs.take k))).2 = 0
    · exact g
    · unfold Cs.dstrR at hd
      rw [if_neg (by rw [hs]; simp), if_pos g] at hd
      exact hd
  refine parse_d hs hcz (by omega) (fun g => ?_)
  rw [Cs.dstr_full hs hcz g] at hd
  cases hd
/-- What fits whole is kept whole. -/
theorem fit_whole {l : List UInt8} {n : Int} (h1 : 2 ≤ n) (h2 : n ≤ 255) (h : (Cs.dstrR l n).2 = 0) : Cs.fitR l n = l := by
  have hs : Cs.sized n = true := (Cs.sized_iff' n).2 ⟨h1, h2⟩
  have hcz : (Cs.compressR l).2 = 0 := by
    by_cases g : (Cs.compressR l).2 = 0
    · exact g
    · unfold Cs.dstrR at h
      rw [if_neg (by rw [hs]; simp), if_pos g] at h
      exact h
  obtain ⟨cs, k, hc, hk, hf, hd, hn⟩ := Cs.fit_spec hs hcz
  have hall := Cs.chars_all hc
  rcases Nat.lt_or_ge k cs.length with g | g
  · exfalso
    have h3 := hn g
    -- one more character would not fit, though all of them do
    have ht := Cs.text_chars hc
    have hfl : ¬ n - 1 < (Cs.compressR l).1.length := fun g2 => by
      rw [Cs.dstr_full hs hcz g2] at h
      cases h
    have hl := fit_len (l := l) h2
    have hlen : l.length ≤ 65536 := (Cs.charsR_zero (by
      by_cases g3 : (Cs.charsR l).2 = 0
      · exact g3
      · rw [Cs.compressR_err g3] at hcz; exact absurd hcz g3)).1
    rw [Cs.compressR_ok hlen hc] at hfl
    have hk1 : (Cs.squeeze (cs.take (k + 1))).length ≤ (Cs.squeeze cs).length := squeeze_le cs (k + 1)
    have hcl : (cs.take (k + 1)).length ≤ 255 := by
      have h4 := squeeze_ge (cs.take (k + 1))
      simp only [] at hfl
      omega
    have hct := Cs.compress_text (cs.take (k + 1)) (Cs.allChars_take hall (k + 1)) hcl
    rw [Cs.dstr_ok hs (by rw [hct]) (by rw [hct]; simp only [] at hfl ⊢; omega)] at h3
    have h4 := congrArg Prod.snd h3
    cases h4
  · rw [hf, List.take_of_length_le g, Cs.text_chars hc]
end Vs
end Go.Proofs.YthkppbimkjmbnaaGreatDoor

/-
  Plain: the sequence of descriptors, how it is read, and that reading gives what was written; no program in sight.
-/
namespace Go.Proofs.YthkppbimkjmbnaaGreatDoor
namespace Vs
open Pm (le num at_ le_len num_le num_lt)
/-- The bodies of the descriptors. -/
def primL (v : Vol) : List UInt8 := n4 1 ++ (z 4 ++ (fldL (by_ v.name) 32 ++ (n2 v.number ++ (n2 v.discs ++ (n2 3 ++ (n2 3 ++ (n4 1 ++ (n4 1 ++ (fldL (by_ v.set) 128 ++ (csL ++ (csL ++ (z 48 ++ (stampR v.time ++ (implL ++ z 92))))))))))))))
def partL (p : Part) : List UInt8 := n4 2 ++ (n2 1 ++ (n2 p.number ++ (contL ++ (z 8 ++ (n4 (p.bcount * 2048) ++ (n4 p.bstart ++ (z 112 ++ (n4 p.access ++ (n4 p.start ++ (n4 p.count ++ (implL ++ z 284)))))))))))
def logL (d : D) : List UInt8 := n4 3 ++ (csL ++ (fldL (by_ d.vol.name) 128 ++ (n4 2048 ++ (domL ++ (longL d.fk d.fl d.fb d.fp ++ (n4 d.table.size ++ (n4 d.maps ++ (implL ++ (z 128 ++ (extL d.istart d.icount ++ by_ d.table))))))))))
def unalL : List UInt8 := n4 4 ++ z 4
def bs (l : List UInt8) : ByteArray := ⟨l.toArray⟩
theorem by_bs (l : List UInt8) : by_ (bs l) = l := rfl
theorem bs_by (s : ByteArray) : bs (by_ s) = s := by cases s; simp [bs]
def okD (d : D) : Bool := okVol d.vol && (okPart d.part && okLog d)
/-- The blocks of a sequence; what Sequence returns. -/
def seqL (d : D) (loc : Nat) : List ByteArray :=
  [bs (blk 1 1 loc (primL d.vol)), bs (blk 5 1 (loc + 1) (partL d.part)), bs (blk 6 1 (loc + 2) (logL d)), bs (blk 7 1 (loc + 3) unalL), bs (blk 8 1 (loc + 4) (z 496))] ++ List.replicate 11 (bs (z 2048))
def seqE (d : D) (loc : Int) : Int := if (decide (0 ≤ loc) && decide (loc ≤ 4294967280)) = true then (if okD d = true then 0 else 1) else 2
def seqR (d : D) (loc : Int) : List ByteArray := if seqE d loc = 0 then seqL d loc.toNat else []
structure Pv where
  block : ByteArray
  index : Nat
  seq : Int
inductive Sc where
  | err : Nat → Int → Sc
  | ok : (Int → Option Pv) → Nat → Sc
def upd (f : Int → Option Pv) (id : Int) (x : Pv) : Int → Option Pv :=
  match f id with
  | none => fun j => if j = id then some x else f j
  | some o => if o.seq < x.seq then (fun j => if j = id then some x else f j) else f
def endB (b : ByteArray) : Bool := decide (by_ b = []) || decide (by_ b = z 2048)
def goodB (b : ByteArray) (loc : Int) : Bool := decide (b.size = 2048) && decide (faultsR (by_ b) loc = [])
def idB (b : ByteArray) : Int := (at_ (by_ b) 0 2 : Nat)
def sqB (b : ByteArray) : Int := (at_ (by_ b) 16 4 : Nat)
def scan (loc : Int) : List ByteArray → Nat → (Int → Option Pv) → Sc
  | [], i, f => .ok f i
  | b :: t, i, f =>
    if endB b = true then .ok f i else if by_ b = [33] then .err i 9 else if goodB b (loc + i) = true then
      (if idB b = 8 then .ok (upd f (idB b) ⟨b, i, sqB b⟩) (i + 1) else scan loc t (i + 1) (upd f (idB b) ⟨b, i, sqB b⟩))
    else .err i 10
def v0 : Vol := ⟨⟨#[]⟩, ⟨#[]⟩, ⟨#[]⟩, ⟨#[]⟩, ⟨#[]⟩, 0, 0, 0⟩
def q0 : Part := ⟨0, 0, 0, 0, 0, 0⟩
def d0 : D := ⟨v0, q0, 0, ⟨#[]⟩, 0, 0, 0, 0, 0, 0⟩
/-- The three parsers: what each leaves, and its error. -/
def p1V (b : List UInt8) (v : Vol) : Vol := { v with set := bs (Cs.parseR (sl b 72 128)).1, number := (at_ b 56 2 : Nat), discs := (at_ b 58 2 : Nat), time := (readSR (sl b 376 12)).1.1 }
def p1D (b : List UInt8) (d : D) : D := { d with vol := p1V b d.vol }
def p1E (b : List UInt8) (d : D) : Int := if (Cs.parseR (sl b 72 128)).2 = 0 ∧ (readSR (sl b 376 12)).2 = 0 ∧ okVol (p1V b d.vol) = true then 0 else 10
def p2P (b : List UInt8) : Part := ⟨(at_ b 22 2 : Nat), (at_ b 184 4 : Nat), (at_ b 188 4 : Nat), (at_ b 192 4 : Nat), (at_ b 68 4 : Nat), ((at_ b 64 4 % 1073741824 + 2047) / 2048 : Nat)⟩
def p2D (b : List UInt8) (d : D) : D := { d with part := p2P b }
def p2E (b : List UInt8) : Int := if (Cs.pentR (sl b 24 32)).2 ≠ 0 then 10 else if (Cs.pentR (sl b 24 32)).1.1 ≠ contN2 ∧ (Cs.pentR (sl b 24 32)).1.1 ≠ contN then 14 else if okPart (p2P b) = true then 0 else 10
def p3D (b : List UInt8) (d : D) : D :=
  { d with vol := { d.vol with name := bs (Cs.parseR (sl b 84 128)).1 }, fk := (at_ b 248 4 / 1073741824 : Nat), fl := (at_ b 248 4 % 1073741824 : Nat), fb := (at_ b 252 4 : Nat), fp := (at_ b 256 2 : Nat), maps := (at_ b 268 4 : Nat), table := bs (sl b 440 (at_ b 264 4)), istart := (at_ b 436 4 : Nat), icount := (at_ b 432 4 / 2048 : Nat) }
def p3E (b : List UInt8) (d : D) : Int :=
  if at_ b 212 4 ≠ 2048 then 14 else if (Cs.parseR (sl b 84 128)).2 ≠ 0 ∨ at_ b 248 4 % 1073741824 = 0 ∨ 1608 < at_ b 264 4 then 10 else if okLog (p3D b d) = true then 0 else 10
/-- What ParseSequence returns. -/
def par3 (a b c : Pv) : (D × Int) × Int :=
  if p1E (by_ a.block) d0 ≠ 0 then ((d0, a.index), p1E (by_ a.block) d0) else
  if p2E (by_ b.block) ≠ 0 then ((d0, b.index), p2E (by_ b.block)) else
  if p3E (by_ c.block) (p2D (by_ b.block) (p1D (by_ a.block) d0)) ≠ 0 then ((d0, c.index), p3E (by_ c.block) (p2D (by_ b.block) (p1D (by_ a.block) d0))) else
  ((p3D (by_ c.block) (p2D (by_ b.block) (p1D (by_ a.block) d0)), 0), 0)
def parS : Sc → (D × Int) × Int
  | .err i e => ((d0, i), e)
  | .ok f n => match f 1, f 5, f 6 with
    | some a, some b, some c => par3 a b c
    | _, _, _ => ((d0, n), 6)
def parR (l : List ByteArray) (loc : Int) : (D × Int) × Int :=
  if word loc = false then ((d0, 0), 2) else if 1024 < l.length then ((d0, 0), 7) else parS (scan loc l 0 fun _ => none)

/-! ### lengths -/
theorem named_text {l : List UInt8} (h : namedB l = true) : textB l = true := by
  unfold namedB at h
  rw [Bool.and_eq_true] at h
  have h2 := of_decide_eq_true h.2
  unfold textB
  rw [decide_eq_true_eq]
  by_cases g : (Cs.charsR l).2 = 0
  · exact g
  · have hc := Cs.compressR_err g
    unfold Cs.dstrR at h2
    rw [if_neg (by decide), if_pos (by rw [hc]; exact g), hc] at h2
    exact absurd h2 g
end Vs
end Go.Proofs.YthkppbimkjmbnaaGreatDoor

/-
  Plain: reading a sequence gives the descriptors that were written; no program in sight.
-/
namespace Go.Proofs.YthkppbimkjmbnaaGreatDoor
namespace Vs
open Pm (le num at_ le_len num_le num_lt)
theorem sk {p q r : List UInt8} {a b m n : Nat} (hm : p.length = m) (hb : a = b + m) (h : sl q b n = r) : sl (p ++ q) a n = r := by
  subst hm hb
  rw [sl_skip (by omega), Nat.add_sub_cancel]
  exact h
theorem hd {p q : List UInt8} {n : Nat} (h : p.length = n) : sl (p ++ q) 0 n = p := by
  subst h
  exact sl_head p q
theorem tl {p : List UInt8} {n : Nat} (h : p.length = n) : sl p 0 n = p := by
  subst h
  simp [sl]
theorem blk_sl {id ser loc : Nat} {body : List UInt8} {a b n : Nat} (hb : b = a + 16) (h : a + n ≤ body.length) : sl (blk id ser loc body) b n = sl body a n := by
  unfold blk
  exact sk (tagR_len _ _ _ _) hb (sl_left h)
theorem num_n4 {n : Int} (h0 : 0 ≤ n) (h1 : n < 4294967296) : ((num (n4 n) : Nat) : Int) = n := by
  unfold n4
  rw [num_le 4 _ (by omega)]
  omega
theorem num_n2 {n : Int} (h0 : 0 ≤ n) (h1 : n < 65536) : ((num (n2 n) : Nat) : Int) = n := by
  unfold n2
  rw [num_le 2 _ (by omega)]
  omega
theorem prim_at (v : Vol) (hf : (fldL (by_ v.name) 32).length = 32) (hg : (fldL (by_ v.set) 128).length = 128) (ht : (stampR v.time).length = 12) : (primL v).length = 496 ∧
    sl (primL v) 0 4 = n4 1 ∧
    sl (primL v) 40 2 = n2 v.number ∧
    sl (primL v) 42 2 = n2 v.discs ∧
    sl (primL v) 56 128 = fldL (by_ v.set) 128 ∧
    sl (primL v) 360 12 = stampR v.time := by
  refine ⟨?_, ?_, ?_, ?_, ?_, ?_⟩
  · unfold primL
    simp only [List.length_append, n4_len, n2_len, z_len, impl_len, cs_len, hf, hg, ht]
  · exact (hd (n4_len _))
  · exact (sk (n4_len _) rfl (sk (z_len _) rfl (sk hf rfl (hd (n2_len _)))))
  · exact (sk (n4_len _) rfl (sk (z_len _) rfl (sk hf rfl (sk (n2_len _) rfl (hd (n2_len _))))))
  · exact (sk (n4_len _) rfl (sk (z_len _) rfl (sk hf rfl (sk (n2_len _) rfl (sk (n2_len _) rfl (sk (n2_len _) rfl (sk (n2_len _) rfl (sk (n4_len _) rfl (sk (n4_len _) rfl (hd hg))))))))))
  · exact (sk (n4_len _) rfl (sk (z_len _) rfl (sk hf rfl (sk (n2_len _) rfl (sk (n2_len _) rfl (sk (n2_len _) rfl (sk (n2_len _) rfl (sk (n4_len _) rfl (sk (n4_len _) rfl (sk hg rfl (sk cs_len rfl (sk cs_len rfl (sk (z_len _) rfl (hd ht))))))))))))))
theorem part_at (p : Part) : (partL p).length = 496 ∧
    sl (partL p) 0 4 = n4 2 ∧
    sl (partL p) 6 2 = n2 p.number ∧
    sl (partL p) 8 32 = contL ∧
    sl (partL p) 48 4 = n4 (p.bcount * 2048) ∧
    sl (partL p) 52 4 = n4 p.bstart ∧
    sl (partL p) 168 4 = n4 p.access ∧
    sl (partL p) 172 4 = n4 p.start ∧
    sl (partL p) 176 4 = n4 p.count := by
  refine ⟨?_, ?_, ?_, ?_, ?_, ?_, ?_, ?_, ?_⟩
  · unfold partL
    simp only [List.length_append, n4_len, n2_len, z_len, impl_len, cont_len]
  · exact (hd (n4_len _))
  · exact (sk (n4_len _) rfl (sk (n2_len _) rfl (hd (n2_len _))))
  · exact (sk (n4_len _) rfl (sk (n2_len _) rfl (sk (n2_len _) rfl (hd cont_len))))
  · exact (sk (n4_len _) rfl (sk (n2_len _) rfl (sk (n2_len _) rfl (sk cont_len rfl (sk (z_len _) rfl (hd (n4_len _)))))))
  · exact (sk (n4_len _) rfl (sk (n2_len _) rfl (sk (n2_len _) rfl (sk cont_len rfl (sk (z_len _) rfl (sk (n4_len _) rfl (hd (n4_len _))))))))
  · exact (sk (n4_len _) rfl (sk (n2_len _) rfl (sk (n2_len _) rfl (sk cont_len rfl (sk (z_len _) rfl (sk (n4_len _) rfl (sk (n4_len _) rfl (sk (z_len _) rfl (hd (n4_len _))))))))))
  · exact (sk (n4_len _) rfl (sk (n2_len _) rfl (sk (n2_len _) rfl (sk cont_len rfl (sk (z_len _) rfl (sk (n4_len _) rfl (sk (n4_len _) rfl (sk (z_len _) rfl (sk (n4_len _) rfl (hd (n4_len _)))))))))))
  · exact (sk (n4_len _) rfl (sk (n2_len _) rfl (sk (n2_len _) rfl (sk cont_len rfl (sk (z_len _) rfl (sk (n4_len _) rfl (sk (n4_len _) rfl (sk (z_len _) rfl (sk (n4_len _) rfl (sk (n4_len _) rfl (hd (n4_len _))))))))))))
theorem log_at (d : D) (hf : (fldL (by_ d.vol.name) 128).length = 128) : (logL d).length = 424 + d.table.size ∧
    sl (logL d) 0 4 = n4 3 ∧
    sl (logL d) 68 128 = fldL (by_ d.vol.name) 128 ∧
    sl (logL d) 196 4 = n4 2048 ∧
    sl (logL d) 232 4 = n4 (d.fl + 1073741824 * d.fk) ∧
    sl (logL d) 236 4 = n4 d.fb ∧
    sl (logL d) 240 2 = n2 d.fp ∧
    sl (logL d) 248 4 = n4 d.table.size ∧
    sl (logL d) 252 4 = n4 d.maps ∧
    sl (logL d) 416 4 = n4 (d.icount * 2048) ∧
    sl (logL d) 420 4 = n4 d.istart ∧
    sl (logL d) 424 d.table.size = by_ d.table := by
  have hF : logL d = n4 3 ++ (csL ++ (fldL (by_ d.vol.name) 128 ++ (n4 2048 ++ (domL ++ (n4 (d.fl + 1073741824 * d.fk) ++ (n4 d.fb ++ (n2 d.fp ++ (z 6 ++ (n4 d.table.size ++ (n4 d.maps ++ (implL ++ (z 128 ++ (n4 (d.icount * 2048) ++ (n4 d.istart ++ (by_ d.table))))))))))))))) := by
    simp only [logL, longL, extL, List.append_assoc]
  refine ⟨?_, ?_, ?_, ?_, ?_, ?_, ?_, ?_, ?_, ?_, ?_, ?_⟩
  · rw [hF]
    simp only [List.length_append, n4_len, n2_len, z_len, cs_len, impl_len, dom_len, hf]
    have : (by_ d.table).length = d.table.size := by simp [by_]
    omega
  · rw [hF]; exact (hd (n4_len _))
  · rw [hF]; exact (sk (n4_len _) rfl (sk cs_len rfl (hd hf)))
  · rw [hF]; exact (sk (n4_len _) rfl (sk cs_len rfl (sk hf rfl (hd (n4_len _)))))
  · rw [hF]; exact (sk (n4_len _) rfl (sk cs_len rfl (sk hf rfl (sk (n4_len _) rfl (sk dom_len rfl (hd (n4_len _)))))))
  · rw [hF]; exact (sk (n4_len _) rfl (sk cs_len rfl (sk hf rfl (sk (n4_len _) rfl (sk dom_len rfl (sk (n4_len _) rfl (hd (n4_len _))))))))
  · rw [hF]; exact (sk (n4_len _) rfl (sk cs_len rfl (sk hf rfl (sk (n4_len _) rfl (sk dom_len rfl (sk (n4_len _) rfl (sk (n4_len _) rfl (hd (n2_len _)))))))))
  · rw [hF]; exact (sk (n4_len _) rfl (sk cs_len rfl (sk hf rfl (sk (n4_len _) rfl (sk dom_len rfl (sk (n4_len _) rfl (sk (n4_len _) rfl (sk (n2_len _) rfl (sk (z_len _) rfl (hd (n4_len _)))))))))))
  · rw [hF]; exact (sk (n4_len _) rfl (sk cs_len rfl (sk hf rfl (sk (n4_len _) rfl (sk dom_len rfl (sk (n4_len _) rfl (sk (n4_len _) rfl (sk (n2_len _) rfl (sk (z_len _) rfl (sk (n4_len _) rfl (hd (n4_len _))))))))))))
  · rw [hF]; exact (sk (n4_len _) rfl (sk cs_len rfl (sk hf rfl (sk (n4_len _) rfl (sk dom_len rfl (sk (n4_len _) rfl (sk (n4_len _) rfl (sk (n2_len _) rfl (sk (z_len _) rfl (sk (n4_len _) rfl (sk (n4_len _) rfl (sk impl_len rfl (sk (z_len _) rfl (hd (n4_len _)))))))))))))))
  · rw [hF]; exact (sk (n4_len _) rfl (sk cs_len rfl (sk hf rfl (sk (n4_len _) rfl (sk dom_len rfl (sk (n4_len _) rfl (sk (n4_len _) rfl (sk (n2_len _) rfl (sk (z_len _) rfl (sk (n4_len _) rfl (sk (n4_len _) rfl (sk impl_len rfl (sk (z_len _) rfl (sk (n4_len _) rfl (hd (n4_len _))))))))))))))))
  · rw [hF]; exact (sk (n4_len _) rfl (sk cs_len rfl (sk hf rfl (sk (n4_len _) rfl (sk dom_len rfl (sk (n4_len _) rfl (sk (n4_len _) rfl (sk (n2_len _) rfl (sk (z_len _) rfl (sk (n4_len _) rfl (sk (n4_len _) rfl (sk impl_len rfl (sk (z_len _) rfl (sk (n4_len _) rfl (sk (n4_len _) rfl (tl (by simp [by_])))))))))))))))))
/-- What a sequence keeps of descriptors. -/
def keptD (d : D) : D := { d with vol := { d.vol with set := bs (Cs.fitR (by_ d.vol.set) 128), pub := ⟨#[]⟩, prep := ⟨#[]⟩, app := ⟨#[]⟩ } }
theorem fld32 {l : List UInt8} (h : textB l = true) : (fldL l 32).length = 32 := by
  have := (fld_spec (n := 32) h (by decide) (by decide)).1
  omega
theorem fld128 {l : List UInt8} (h : textB l = true) : (fldL l 128).length = 128 := by
  have := (fld_spec (n := 128) h (by decide) (by decide)).1
  omega
/-- A block of a descriptor in a scan. -/
theorem blk_scan (id loc : Nat) (body : List UInt8) (sq : Nat) (hid : id < 65536) (hl : loc < 4294967296) (hb : body.length ≤ 2032) (hs : sl (blk id 1 loc body) 16 4 = le 4 sq) (hq : sq < 4294967296) :
    endB (bs (blk id 1 loc body)) = false ∧ ¬ by_ (bs (blk id 1 loc body)) = [33] ∧ goodB (bs (blk id 1 loc body)) loc = true ∧ idB (bs (blk id 1 loc body)) = id ∧ sqB (bs (blk id 1 loc body)) = sq := by
  have hlen := blk_len (id := id) (ser := 1) (loc := loc) hb
  obtain ⟨a1, a2, _⟩ := blk_at id 1 loc body hid (by decide) hl hb
  refine ⟨?_, ?_, ?_, ?_, ?_⟩
  · unfold endB
    rw [by_bs, Bool.or_eq_false_iff, decide_eq_false_iff_not, decide_eq_false_iff_not]
    refine ⟨fun e => ?_, fun e => ?_⟩
    · rw [e] at hlen; cases hlen
    · rw [e] at a2
      revert a2
      have : at_ (z 2048) 2 2 = 0 := by decide +kernel
      rw [this]
      decide
  · rw [by_bs]
    intro e
    rw [e] at hlen
    cases hlen
  · unfold goodB
    rw [by_bs, Bool.and_eq_true, decide_eq_true_eq, decide_eq_true_eq]
    exact ⟨hlen, by rw [blk_faults id 1 loc body hid (by decide) hl hb]; exact if_pos rfl⟩
  · unfold idB
    rw [by_bs, a1]
  · unfold sqB
    rw [by_bs, Pm.at_, show (List.drop 16 (blk id 1 loc body)).take 4 = sl (blk id 1 loc body) 16 4 from rfl, hs, num_le 4 sq (by omega)]
/-- What the scan of a sequence finds. -/
def foundL (d : D) (loc : Nat) : Int → Option Pv :=
  upd (upd (upd (upd (upd (fun _ => none) 1 ⟨bs (blk 1 1 loc (primL d.vol)), 0, 1⟩) 5 ⟨bs (blk 5 1 (loc + 1) (partL d.part)), 1, 2⟩) 6 ⟨bs (blk 6 1 (loc + 2) (logL d)), 2, 3⟩) 7 ⟨bs (blk 7 1 (loc + 3) unalL), 3, 4⟩) 8 ⟨bs (blk 8 1 (loc + 4) (z 496)), 4, 0⟩
theorem scan_step {loc : Int} {b : ByteArray} {t : List ByteArray} {i : Nat} {f : Int → Option Pv} {id sq : Int} (h1 : endB b = false) (h2 : ¬ by_ b = [33]) (h3 : goodB b (loc + i) = true) (h4 : idB b = id) (h5 : sqB b = sq) : scan loc (b :: t) i f = if id = 8 then .ok (upd f id ⟨b, i, sq⟩) (i + 1) else scan loc t (i + 1) (upd f id ⟨b, i, sq⟩) := by
  show (if endB b = true then _ else if by_ b = [33] then _ else if goodB b (loc + i) = true then _ else _) = _
  rw [h1, if_neg (by decide), if_neg h2, h3, if_pos rfl, h4, h5]
structure OkL (d : D) : Prop where
  prim : (primL d.vol).length = 496
  part : (partL d.part).length = 496
  log : (logL d).length = 424 + d.table.size
  table : d.table.size ≤ 1608
theorem okD_iff (d : D) : okD d = true ↔ okVol d.vol = true ∧ okPart d.part = true ∧ okLog d = true := by simp [okD]
theorem okL_of {d : D} (h : okD d = true) : OkL d := by
  obtain ⟨h1, h2, h3⟩ := (okD_iff d).1 h
  have h1' := (okVol_iff _).1 h1
  have h3' := (okLog_iff _).1 h3
  have hn := named_text h3'.1
  exact ⟨(prim_at d.vol (fld32 hn) (fld128 h1'.1) (stampR_len h1'.2.2.2.2.2)).1, (part_at d.part).1, (log_at d (fld128 hn)).1, h3'.2.2.2.1⟩
theorem scan_seq {d : D} (h : okD d = true) {loc : Nat} (hl : loc ≤ 4294967280) (t : List ByteArray) :
    scan loc ([bs (blk 1 1 loc (primL d.vol)), bs (blk 5 1 (loc + 1) (partL d.part)), bs (blk 6 1 (loc + 2) (logL d)), bs (blk 7 1 (loc + 3) unalL), bs (blk 8 1 (loc + 4) (z 496))] ++ t) 0 (fun _ => none) = .ok (foundL d loc) 5 := by
  obtain ⟨k1, k2, k3, k4⟩ := okL_of h
  obtain ⟨h1, h2, h3⟩ := (okD_iff d).1 h
  have h1' := (okVol_iff _).1 h1
  have h3' := (okLog_iff _).1 h3
  have hn := named_text h3'.1
  have s1 : sl (blk 1 1 loc (primL d.vol)) 16 4 = le 4 1 := (blk_sl (a := 0) rfl (by omega)).trans (prim_at d.vol (fld32 hn) (fld128 h1'.1) (stampR_len h1'.2.2.2.2.2)).2.1
  have s2 : sl (blk 5 1 (loc + 1) (partL d.part)) 16 4 = le 4 2 := (blk_sl (a := 0) rfl (by omega)).trans (part_at d.part).2.1
  have s3 : sl (blk 6 1 (loc + 2) (logL d)) 16 4 = le 4 3 := (blk_sl (a := 0) rfl (by omega)).trans (log_at d (fld128 hn)).2.1
  have s4 : sl (blk 7 1 (loc + 3) unalL) 16 4 = le 4 4 := (blk_sl (a := 0) rfl (by decide)).trans (by decide +kernel)
  have s5 : sl (blk 8 1 (loc + 4) (z 496)) 16 4 = le 4 0 := (blk_sl (a := 0) rfl (by decide +kernel)).trans (by decide +kernel)
  have b1 := blk_scan 1 loc (primL d.vol) 1 (by decide) (by omega) (by omega) s1 (by decide)
  have b2 := blk_scan 5 (loc + 1) (partL d.part) 2 (by decide) (by omega) (by omega) s2 (by decide)
  have b3 := blk_scan 6 (loc + 2) (logL d) 3 (by decide) (by omega) (by omega) s3 (by decide)
  have b4 := blk_scan 7 (loc + 3) unalL 4 (by decide) (by omega) (by decide) s4 (by decide)
  have b5 := blk_scan 8 (loc + 4) (z 496) 0 (by decide) (by omega) (by rw [z_len]; decide) s5 (by decide)
  simp only [List.cons_append, List.nil_append]
  rw [scan_step b1.1 b1.2.1 (by simpa using b1.2.2.1) b1.2.2.2.1 b1.2.2.2.2, if_neg (by decide),
    scan_step b2.1 b2.2.1 (by simpa using b2.2.2.1) b2.2.2.2.1 b2.2.2.2.2, if_neg (by decide),
    scan_step b3.1 b3.2.1 (by simpa using b3.2.2.1) b3.2.2.2.1 b3.2.2.2.2, if_neg (by decide),
    scan_step b4.1 b4.2.1 (by simpa using b4.2.2.1) b4.2.2.2.1 b4.2.2.2.2, if_neg (by decide),
    scan_step b5.1 b5.2.1 (by simpa using b5.2.2.1) b5.2.2.2.1 b5.2.2.2.2, if_pos (by decide)]
  rfl
theorem found_at (d : D) (loc : Nat) : foundL d loc 1 = some ⟨bs (blk 1 1 loc (primL d.vol)), 0, 1⟩ ∧ foundL d loc 5 = some ⟨bs (blk 5 1 (loc + 1) (partL d.part)), 1, 2⟩ ∧ foundL d loc 6 = some ⟨bs (blk 6 1 (loc + 2) (logL d)), 2, 3⟩ := by
  refine ⟨?_, ?_, ?_⟩ <;> simp [foundL, upd]
theorem at4 {id ser loc : Nat} {body : List UInt8} {a b : Nat} {n : Int} (hb : b = a + 16) (h : a + 4 ≤ body.length) (e : sl body a 4 = n4 n) (h0 : 0 ≤ n) (h1 : n < 4294967296) : ((at_ (blk id ser loc body) b 4 : Nat) : Int) = n := by
  rw [at_sl, blk_sl hb h, e]
  exact num_n4 h0 h1
theorem at2 {id ser loc : Nat} {body : List UInt8} {a b : Nat} {n : Int} (hb : b = a + 16) (h : a + 2 ≤ body.length) (e : sl body a 2 = n2 n) (h0 : 0 ≤ n) (h1 : n < 65536) : ((at_ (blk id ser loc body) b 2 : Nat) : Int) = n := by
  rw [at_sl, blk_sl hb h, e]
  exact num_n2 h0 h1
theorem prim_read {d : D} (h : okD d = true) (loc : Nat) (d1 : D) : p1V (blk 1 1 loc (primL d.vol)) d1.vol = { d1.vol with set := bs (Cs.fitR (by_ d.vol.set) 128), number := d.vol.number, discs := d.vol.discs, time := d.vol.time } ∧ (Cs.parseR (sl (blk 1 1 loc (primL d.vol)) 72 128)).2 = 0 ∧ (readSR (sl (blk 1 1 loc (primL d.vol)) 376 12)).2 = 0 := by
  obtain ⟨k1, _, _, _⟩ := okL_of h
  obtain ⟨h1, h2, h3⟩ := (okD_iff d).1 h
  obtain ⟨g1, g2, g3, g4, g5, g6⟩ := (okVol_iff _).1 h1
  have hn := named_text ((okLog_iff _).1 h3).1
  obtain ⟨_, _, e3, e4, e5, e6⟩ := prim_at d.vol (fld32 hn) (fld128 g1) (stampR_len g6)
  have x5 := (blk_sl (id := 1) (ser := 1) (loc := loc) (body := primL d.vol) (a := 56) (b := 72) (n := 128) rfl (by omega)).trans e5
  have x6 := (blk_sl (id := 1) (ser := 1) (loc := loc) (body := primL d.vol) (a := 360) (b := 376) (n := 12) rfl (by omega)).trans e6
  have x3 := at2 (id := 1) (ser := 1) (loc := loc) (b := 56) rfl (by omega) e3 (by omega) (by omega)
  have x4 := at2 (id := 1) (ser := 1) (loc := loc) (b := 58) rfl (by omega) e4 (by omega) (by omega)
  have y5 := (fld_spec (n := 128) g1 (by decide) (by decide)).2
  unfold p1V
  rw [x5, x6, x3, x4, y5, read_stamp g6]
  exact ⟨rfl, rfl, rfl⟩
theorem fitR_text {l : List UInt8} (h : textB l = true) : textB (Cs.fitR l 128) = true := by
  obtain ⟨cs, k, hc, hk, hf, hd, _⟩ := Cs.fit_spec (size := 128) (by decide) (text_zero h)
  rw [hf]
  have hct := Cs.chars_text (cs.take k) (Cs.allChars_take (Cs.chars_all hc) k)
  have hl := fit_len (l := l) (n := 128) (by decide)
  rw [hf] at hl
  unfold textB Cs.charsR
  rw [hct, if_neg (by omega)]
  rfl
theorem part_read {d : D} (h : okD d = true) (loc : Nat) : p2P (blk 5 1 loc (partL d.part)) = d.part ∧ Cs.pentR (sl (blk 5 1 loc (partL d.part)) 24 32) = ((contN, z 8), 0) := by
  obtain ⟨_, k2, _, _⟩ := okL_of h
  obtain ⟨h1, h2, h3⟩ := (okD_iff d).1 h
  obtain ⟨g1, g2, g3, g4, g5, g6, g7, g8⟩ := (okPart_iff _).1 h2
  rw [word_iff] at g3 g4 g5 g6
  obtain ⟨_, _, e3, e4, e5, e6, e7, e8, e9⟩ := part_at d.part
  have x4 := (blk_sl (id := 5) (ser := 1) (loc := loc) (body := partL d.part) (a := 8) (b := 24) (n := 32) rfl (by omega)).trans e4
  have x3 := at2 (id := 5) (ser := 1) (loc := loc) (b := 22) rfl (by omega) e3 (by omega) (by omega)
  have x5 := at4 (id := 5) (ser := 1) (loc := loc) (b := 64) rfl (by omega) e5 (by omega) (by omega)
  have x6 := at4 (id := 5) (ser := 1) (loc := loc) (b := 68) rfl (by omega) e6 (by omega) (by omega)
  have x7 := at4 (id := 5) (ser := 1) (loc := loc) (b := 184) rfl (by omega) e7 (by omega) (by omega)
  have x8 := at4 (id := 5) (ser := 1) (loc := loc) (b := 188) rfl (by omega) e8 (by omega) (by omega)
  have x9 := at4 (id := 5) (ser := 1) (loc := loc) (b := 192) rfl (by omega) e9 (by omega) (by omega)
  refine ⟨?_, ?_⟩
  · unfold p2P
    rw [x3, x6, x7, x8, x9, show (((at_ (blk 5 1 loc (partL d.part)) 64 4 % 1073741824 + 2047) / 2048 : Nat) : Int) = d.part.bcount by omega]
  · rw [x4]
    decide +kernel
theorem log_read {d : D} (h : okD d = true) (loc : Nat) (d1 : D) : p3D (blk 6 1 loc (logL d)) d1 = { d1 with vol := { d1.vol with name := d.vol.name }, fk := d.fk, fl := d.fl, fb := d.fb, fp := d.fp, maps := d.maps, table := d.table, istart := d.istart, icount := d.icount } ∧ at_ (blk 6 1 loc (logL d)) 212 4 = 2048 ∧ (Cs.parseR (sl (blk 6 1 loc (logL d)) 84 128)).2 = 0 ∧ at_ (blk 6 1 loc (logL d)) 248 4 % 1073741824 ≠ 0 ∧ at_ (blk 6 1 loc (logL d)) 264 4 ≤ 1608 := by
  obtain ⟨_, _, k3, k4⟩ := okL_of h
  obtain ⟨h1, h2, h3⟩ := (okD_iff d).1 h
  obtain ⟨g1, g2, g3, g4, g5, g6⟩ := (okLog_iff _).1 h3
  obtain ⟨i1, i2, i3, i4, i5, i6, i7, i8⟩ := (formed_iff _ _ _ _).1 g5
  obtain ⟨j1, j2⟩ := (spanB_iff _ _).1 g6
  have hn := named_text g1
  obtain ⟨_, _, e2, e3, e5, e6, e7, e9, e10, e13, e14, e15⟩ := log_at d (fld128 hn)
  have x2 := (blk_sl (id := 6) (ser := 1) (loc := loc) (body := logL d) (a := 68) (b := 84) (n := 128) rfl (by omega)).trans e2
  have x3 := at4 (id := 6) (ser := 1) (loc := loc) (b := 212) rfl (by omega) e3 (by omega) (by omega)
  have x5 := at4 (id := 6) (ser := 1) (loc := loc) (b := 248) rfl (by omega) e5 (by omega) (by omega)
  have x6 := at4 (id := 6) (ser := 1) (loc := loc) (b := 252) rfl (by omega) e6 (by omega) (by omega)
  have x7 := at2 (id := 6) (ser := 1) (loc := loc) (b := 256) rfl (by omega) e7 (by omega) (by omega)
  have x9 := at4 (id := 6) (ser := 1) (loc := loc) (b := 264) rfl (by omega) e9 (by omega) (by omega)
  have x10 := at4 (id := 6) (ser := 1) (loc := loc) (b := 268) rfl (by omega) e10 (by omega) (by omega)
  have x13 := at4 (id := 6) (ser := 1) (loc := loc) (b := 432) rfl (by omega) e13 (by omega) (by omega)
  have x14 := at4 (id := 6) (ser := 1) (loc := loc) (b := 436) rfl (by omega) e14 (by omega) (by omega)
  have x9' : at_ (blk 6 1 loc (logL d)) 264 4 = d.table.size := by omega
  have x15 := (blk_sl (id := 6) (ser := 1) (loc := loc) (body := logL d) (a := 424) (b := 440) (n := d.table.size) rfl (by omega)).trans e15
  have y2 := (fld_spec (n := 128) hn (by decide) (by decide)).2
  have y3 : Cs.fitR (by_ d.vol.name) 128 = by_ d.vol.name := fit_whole (by decide) (by decide) (by
    unfold namedB at g1
    rw [Bool.and_eq_true] at g1
    exact of_decide_eq_true g1.2)
  refine ⟨?_, by omega, by rw [x2, y2], by omega, by omega⟩
  unfold p3D
  rw [x2, y2, x9', x15, x6, x7, x10, x14, show ((at_ (blk 6 1 loc (logL d)) 248 4 / 1073741824 : Nat) : Int) = d.fk by omega, show ((at_ (blk 6 1 loc (logL d)) 248 4 % 1073741824 : Nat) : Int) = d.fl by omega, show ((at_ (blk 6 1 loc (logL d)) 432 4 / 2048 : Nat) : Int) = d.icount by omega]
  simp only [y3, bs_by]
/-- Reading gives what was written. -/
theorem par_seq {d : D} (h : okD d = true) {loc : Nat} (hl : loc ≤ 4294967280) (t : List ByteArray) (ht : t.length ≤ 1000) :
    parR ([bs (blk 1 1 loc (primL d.vol)), bs (blk 5 1 (loc + 1) (partL d.part)), bs (blk 6 1 (loc + 2) (logL d)), bs (blk 7 1 (loc + 3) unalL), bs (blk 8 1 (loc + 4) (z 496))] ++ t) loc = ((keptD d, 0), 0) := by
  obtain ⟨h1, h2, h3⟩ := (okD_iff d).1 h
  obtain ⟨g1, g2, g3, g4, g5, g6⟩ := (okVol_iff _).1 h1
  obtain ⟨f1, f5, f6⟩ := found_at d loc
  obtain ⟨r1, r2, r3⟩ := prim_read h loc d0
  obtain ⟨q1, q2⟩ := part_read h (loc + 1)
  have hw : word loc = true := by rw [word_iff]; omega
  unfold parR
  rw [hw, if_neg (by decide), if_neg (by simp only [List.length_append, List.length_cons, List.length_nil]; omega), scan_seq h hl]
  show (match foundL d loc 1, foundL d loc 5, foundL d loc 6 with
    | some a, some b, some c => par3 a b c
    | _, _, _ => ((d0, ((5 : Nat) : Int)), 6)) = _
  rw [f1, f5, f6]
  show par3 _ _ _ = _
  have E1 : p1E (blk 1 1 loc (primL d.vol)) d0 = 0 := by
    unfold p1E
    rw [r1]
    exact if_pos ⟨r2, r3, (okVol_iff _).2 ⟨fitR_text g1, g2, g3, g4, g5, g6⟩⟩
  have E2 : p2E (blk 5 1 (loc + 1) (partL d.part)) = 0 := by
    unfold p2E
    rw [q2, q1, if_neg (fun e => e rfl), if_neg (fun e => e.2 rfl), if_pos h2]
  obtain ⟨w1, w2, w3, w4, w5⟩ := log_read h (loc + 2) (p2D (blk 5 1 (loc + 1) (partL d.part)) (p1D (blk 1 1 loc (primL d.vol)) d0))
  have hK : p3D (blk 6 1 (loc + 2) (logL d)) (p2D (blk 5 1 (loc + 1) (partL d.part)) (p1D (blk 1 1 loc (primL d.vol)) d0)) = keptD d := by
    rw [w1]
    unfold p2D p1D keptD
    rw [q1, r1]
    rfl
  have E3 : p3E (blk 6 1 (loc + 2) (logL d)) (p2D (blk 5 1 (loc + 1) (partL d.part)) (p1D (blk 1 1 loc (primL d.vol)) d0)) = 0 := by
    unfold p3E
    rw [if_neg (fun e => e w2), if_neg (fun e => by rcases e with e | e | e; exact e w3; exact w4 e; omega), hK, if_pos]
    rw [okLog_iff] at h3 ⊢
    exact h3
  unfold par3
  refine (if_neg (fun h => h E1)).trans ((if_neg (fun h => h E2)).trans ((if_neg (fun h => h E3)).trans ?_))
  exact congrArg (fun x => ((x, (0 : Int)), (0 : Int))) hK
end Vs
end Go.Proofs.YthkppbimkjmbnaaGreatDoor

/-
  The walks through printable of udfstring, slices.ContainsFunc and IndexFunc.
-/
namespace Go.Proofs.YthkppbimkjmbnaaGreatDoor
open Go.RowKit
set_option maxHeartbeats 1600000 in
/-- udfstring.printable$1. -/
theorem prt_any (b : UInt8) (w : World) : Calls Tryz.prog 243 #[.int .u8 (b.toNat : Int)] w fun e w' => e = .returned (.bool (!Cs.prt b)) ∧ w = w' := by
  have hcs : (32 ≤ b.toNat ∧ b.toNat ≤ 126) ∨ b.toNat < 32 ∨ (126 < b.toNat ∧ 32 ≤ b.toNat) := by omega
  rcases hcs with ⟨h1, h2⟩ | h1 | ⟨h1, h2⟩
  · have hp : Cs.prt b = true := (Cs.prt_iff b).2 ⟨h1, h2⟩
    rw [hp]
    have k1 : ¬ (b.toNat : Int) < 32 := by omega
    have k2 : ¬ (126 : Int) < (b.toNat : Int) := by omega
    go_enter Tryz.func243, Tryz.ntmps243
    go_wp2
    go_ret
    first | exact ⟨rfl, rfl⟩ | (refine ⟨congrArg (fun b => Ending.returned (.bool b)) ?_, rfl⟩; simp <;> omega)
  all_goals
    have hp : Cs.prt b = false := by
      rw [Bool.eq_false_iff]; intro h; have := (Cs.prt_iff b).1 h; omega
    rw [hp]
    go_enter Tryz.func243, Tryz.ntmps243
    go_wp2
    go_ret
    first | exact ⟨rfl, rfl⟩ | (refine ⟨congrArg (fun b => Ending.returned (.bool b)) ?_, rfl⟩; simp <;> omega)

set_option maxHeartbeats 1600000 in
set_option maxRecDepth 100000 in
/-- slices.IndexFunc, asked for what is not printable. -/
theorem indexFunc_any (l : List UInt8) (g c : Nat) (w : World) (_hl : l.length ≤ c) (hl9 : l.length ≤ 9223372036854775807) (hlw : g < w.heap.size) (hcell : ∀ j, j < l.length → w.cell? ⟨g, j, none⟩ = some (.int .u8 ((l.getD j 0).toNat : Nat))) :
    Calls Tryz.prog 274 #[.slice (some ⟨g, 0, none⟩) l.length c, .func (.func 243) #[] #[]] w fun e w' => ∃ r : Int, e = .returned (.int .i64 r) ∧ -1 ≤ r ∧ (0 ≤ r ↔ l.all Cs.prt = false) ∧ Below w.heap.size w w' := by
  have HC := Lib.hid hcell
  clear hcell
  go_enter Tryz.func274, Tryz.ntmps274
  go_wp2_with fail
  go_loopw [8] (fun iv wr => ∃ j : Nat, j ≤ l.length ∧ iv = .int .i64 j ∧ Hid ((l.take j).all Cs.prt = true) ∧ Below w.heap.size w wr) (fun iv _ => l.length - (intOf iv).toNat)
  case atStart => exact ⟨0, by omega, rfl, Lib.hid rfl, Below.refl _ _⟩
  case round =>
    obtain ⟨j, hj, rfl, HA, hbw⟩ := hrel
    by_cases hlt : j < l.length
    · have hcj : wr.cell? ⟨g, j, none⟩ = some (.int .u8 ((l.getD j 0).toNat : Nat)) := by
        rw [hbw.cell (p := ⟨g, j, none⟩) hlw]
        exact HC.out j hlt
      have CP := Lib.hid (fun W => prt_any (l.getD j 0) W)
      by_cases hp : Cs.prt (l.getD j 0) = true
      · have HN := Lib.hid (all_snocP hlt HA.out hp)
        rw [hp] at CP
        generalize l.getD j 0 = x at *
        clear hp
        go_wp2_with fail
        with_reducible refine (CP.out _).mono ?_
        rintro e w2 ⟨rfl, rfl⟩
        go_wp2_with fail
        go_roundw
        case rel => exact ⟨j + 1, by omega, by go_num, HN, hbw⟩
        case measure => simp [intOf]; omega
      · have hp' : Cs.prt (l.getD j 0) = false := by simpa using hp
        have HN := Lib.hid (all_failP hlt hp')
        rw [hp'] at CP
        generalize l.getD j 0 = x at *
        clear hp hp'
        go_wp2_with fail
        with_reducible refine (CP.out _).mono ?_
        rintro e w2 ⟨rfl, rfl⟩
        go_wp2_with fail
        go_ret
        exact ⟨_, rfl, by omega, ⟨fun _ => HN.out, fun _ => by omega⟩, hbw⟩
    · obtain rfl : j = l.length := by omega
      have ha := HA.out
      rw [List.take_length] at ha
      have HH := Lib.hid ha
      clear ha
      go_wp2_with fail
      go_ret
      exact ⟨_, rfl, by decide, ⟨fun h => absurd h (by decide), fun h => by rw [HH.out] at h; cases h⟩, hbw⟩

set_option maxHeartbeats 1600000 in
set_option maxRecDepth 100000 in
/-- slices.ContainsFunc, asked for what is not printable. -/
theorem containsFunc_any (l : List UInt8) (g c : Nat) (w : World) (hl : l.length ≤ c) (hl9 : l.length ≤ 9223372036854775807) (hlw : g < w.heap.size) (hcell : ∀ j, j < l.length → w.cell? ⟨g, j, none⟩ = some (.int .u8 ((l.getD j 0).toNat : Nat))) :
    Calls Tryz.prog 242 #[.slice (some ⟨g, 0, none⟩) l.length c, .func (.func 243) #[] #[]] w fun e w' => e = .returned (.bool (!l.all Cs.prt)) ∧ Below w.heap.size w w' := by
  have CI := Lib.hid (indexFunc_any l g c w hl hl9 hlw hcell)
  clear hcell
  cases hp : l.all Cs.prt with
  | true =>
    rw [hp] at CI
    go_enter Tryz.func242, Tryz.ntmps242
    go_wp2_with fail
    with_reducible refine CI.out.mono ?_
    rintro e w2 ⟨r, rfl, hr, hi, hb2⟩
    have hr0 : r < 0 := by
      rcases Int.lt_or_le r 0 with h | h
      · exact h
      · have := hi.1 h; cases this
    clear hi
    go_wp2_with fail
    go_ret
    first | exact ⟨rfl, hb2⟩ | (refine ⟨congrArg (fun b => Ending.returned (.bool b)) ?_, hb2⟩; simp <;> omega)
  | false =>
    rw [hp] at CI
    go_enter Tryz.func242, Tryz.ntmps242
    go_wp2_with fail
    with_reducible refine CI.out.mono ?_
    rintro e w2 ⟨r, rfl, hr, hi, hb2⟩
    have hr0 : 0 ≤ r := hi.2 (by first | rfl | trivial)
    clear hi
    go_wp2_with fail
    go_ret
    first | exact ⟨rfl, hb2⟩ | (refine ⟨congrArg (fun b => Ending.returned (.bool b)) ?_, hb2⟩; simp <;> omega)

set_option maxHeartbeats 1600000 in
set_option maxRecDepth 100000 in
/-- udfstring.printable. -/
theorem printable_any (s : ByteArray) (w : World) (hs : s.size ≤ 9223372036854775807) :
    Calls Tryz.prog 194 #[.string s] w fun e w' => e = .returned (.bool (Cs.idR s.data.toList)) ∧ Below w.heap.size w w' := by
  have hdl := Kit.len_size s
  by_cases h1 : 1 ≤ s.size
  case neg =>
    have HR := Lib.hid (show Cs.idR s.data.toList = false by unfold Cs.idR; rw [hdl, decide_eq_false h1]; rfl)
    have h1' : ¬ (1 : Int) ≤ (s.size : Int) := by omega
    clear hdl h1
    go_enter Tryz.func194, Tryz.ntmps194
    go_wp2_with fail
    go_ret
    rw [HR.out]
    first | exact ⟨rfl, Below.refl _ _⟩ | (refine ⟨congrArg (fun b => Ending.returned (.bool b)) ?_, Below.refl _ _⟩; simp <;> omega)
  case pos =>
  have h1' : (1 : Int) ≤ (s.size : Int) := by omega
  by_cases h2 : s.size ≤ 23
  case neg =>
    have HR := Lib.hid (show Cs.idR s.data.toList = false by unfold Cs.idR; rw [hdl, decide_eq_false h2]; simp)
    have h2' : ¬ (s.size : Int) ≤ 23 := by omega
    clear hdl h1 h2
    go_enter Tryz.func194, Tryz.ntmps194
    go_wp2_with fail
    go_ret
    rw [HR.out]
    first | exact ⟨rfl, Below.refl _ _⟩ | (refine ⟨congrArg (fun b => Ending.returned (.bool b)) ?_, Below.refl _ _⟩; simp <;> omega)
  case pos =>
  have h2' : (s.size : Int) ≤ 23 := by omega
  have HR := Lib.hid (show Cs.idR s.data.toList = s.data.toList.all Cs.prt by unfold Cs.idR; rw [hdl, decide_eq_true h1, decide_eq_true h2]; rfl)
  obtain ⟨cap, W1, hcv, hbW, hsW, hcap, hcells⟩ := Kit.str_bytes w s
  have hcm : cap ≤ 9223372036854775807 ∨ True := .inr trivial
  clear hcm
  have CF := Lib.hid (containsFunc_any s.data.toList w.heap.size cap W1 (by omega) (by omega) (by omega) (fun j hj => hcells j (by omega)))
  rw [hdl] at CF
  generalize s.data.toList.all Cs.prt = b at *
  clear hcells hdl h1 h2
  go_enter Tryz.func194, Tryz.ntmps194
  go_wp2_with fail
  with_reducible refine CF.out.mono ?_
  rintro e w2 ⟨rfl, hb2⟩
  go_wp2_with fail
  go_ret
  rw [HR.out]
  have hb3 := hbW.trans (hb2.mono (by omega))
  cases b <;> exact ⟨rfl, hb3⟩
end Go.Proofs.YthkppbimkjmbnaaGreatDoor

/-
  The walks through Repeat and Entity of the program.
-/
namespace Go.Proofs.YthkppbimkjmbnaaGreatDoor
open Go.RowKit
theorem repeatL_zero (n : Nat) : Lib.repeatL [0] n = List.replicate n 0 := by
  induction n with
  | zero => rfl
  | succ n ih => rw [Lib.repeatL, ih, List.replicate_succ]; rfl

/-- strings.Repeat of a zero byte. -/
theorem zeros_any (z : Int) (h0 : 0 ≤ z) (h1 : z ≤ 65536) (w : World) : Calls Tryz.prog 110 #[.string ⟨#[0]⟩, .int .i64 z] w fun e w' => e = .returned (.string ⟨(List.replicate z.toNat 0).toArray⟩) ∧ Below w.heap.size w w' := by
  obtain ⟨n, rfl⟩ := Int.eq_ofNat_of_zero_le h0
  have := Tryz.strings_Repeat ⟨#[0]⟩ n w (by omega) (by simp [ByteArray.size]; omega)
  rw [show (⟨#[0]⟩ : ByteArray).data.toList = [0] from rfl, repeatL_zero] at this
  simpa using this

set_option maxHeartbeats 1600000 in
/-- udfstring.Entity$1. -/
theorem clo_any (z : Int) (h0 : 0 ≤ z) (h1 : z ≤ 65536) (w : World) : Calls Tryz.prog 195 #[.int .i64 z] w fun e w' => e = .returned (.string ⟨(List.replicate z.toNat 0).toArray⟩) ∧ Below w.heap.size w w' := by
  have CZ := Lib.hid (fun W => zeros_any z h0 h1 W)
  generalize List.replicate z.toNat (0 : UInt8) = r at *
  go_enter Tryz.func195, Tryz.ntmps195
  go_wp2_with fail
  with_reducible refine (CZ.out _).mono ?_
  rintro e w2 ⟨rfl, hb2⟩
  go_wp2_with fail
  go_ret
  exact ⟨rfl, hb2⟩

set_option maxHeartbeats 1600000 in
set_option maxRecDepth 100000 in
/-- udfstring.Entity. -/
theorem entity_any (i s : ByteArray) (w : World) (hi : i.size ≤ 9223372036854775807) (hs : s.size ≤ 9223372036854775807) :
    Calls Tryz.prog 128 #[.string i, .string s] w fun e w' => e = .returned (.tuple #[.string ⟨(Cs.entR i.data.toList s.data.toList).1.toArray⟩, .int .i64 (Cs.entR i.data.toList s.data.toList).2]) ∧ Below w.heap.size w w' := by
  have hdi := Kit.len_size i
  have hds := Kit.len_size s
  have cP := fun W => printable_any i W hi
  by_cases hid : Cs.idR i.data.toList = true
  case neg =>
    have HR := Lib.hid (show Cs.entR i.data.toList s.data.toList = ([], 1) from if_neg (fun h => hid h.1))
    have hid' : Cs.idR i.data.toList = false := by simpa using hid
    rw [hid'] at cP
    have CP := Lib.hid cP
    clear cP hid hid' hdi hds
    go_enter Tryz.func128, Tryz.ntmps128
    go_wp2_with fail
    with_reducible refine (CP.out _).mono ?_
    rintro e w2 ⟨rfl, hb2⟩
    go_wp2_with fail
    go_ret2
    rw [HR.out]
    exact ⟨rfl, hb2⟩
  case pos =>
  rw [hid] at cP
  have CP := Lib.hid cP
  by_cases h8 : s.size ≤ 8
  case neg =>
    have HR := Lib.hid (show Cs.entR i.data.toList s.data.toList = ([], 1) from if_neg (fun h => by rw [hds] at h; exact h8 h.2))
    have h8' : (8 : Int) < (s.size : Int) := by omega
    clear cP hid hdi hds h8
    go_enter Tryz.func128, Tryz.ntmps128
    go_wp2_with fail
    with_reducible refine (CP.out _).mono ?_
    rintro e w2 ⟨rfl, hb2⟩
    go_wp2_with fail
    go_ret2
    rw [HR.out]
    exact ⟨rfl, hb2⟩
  case pos =>
  obtain ⟨hl1, hl2⟩ := Cs.idR_len hid
  rw [hdi] at hl1 hl2
  have hR := (show Cs.entR i.data.toList s.data.toList = (0 :: i.data.toList ++ List.replicate (23 - i.size) 0 ++ s.data.toList ++ List.replicate (8 - s.size) 0, 0) by
    unfold Cs.entR
    rw [if_pos ⟨hid, by rw [hds]; exact h8⟩, hdi, hds])
  have hz1 : (List.replicate (23 - i.size) (0 : UInt8)).length ≤ 23 := by simp
  have hz2 : (List.replicate (8 - s.size) (0 : UInt8)).length ≤ 8 := by simp
  have cZ1 := fun W => clo_any (23 - (i.size : Int)) (by omega) (by omega) W
  have cZ2 := fun W => clo_any (8 - (s.size : Int)) (by omega) (by omega) W
  rw [show (23 - (i.size : Int)).toNat = 23 - i.size by omega] at cZ1
  rw [show (8 - (s.size : Int)).toNat = 8 - s.size by omega] at cZ2
  generalize List.replicate (23 - i.size) (0 : UInt8) = r1 at *
  generalize List.replicate (8 - s.size) (0 : UInt8) = r2 at *
  have HR := Lib.hid hR
  clear hR
  have CZ1 := Lib.hid cZ1; have CZ2 := Lib.hid cZ2
  clear cZ1 cZ2
  have h8' : ¬ (8 : Int) < (s.size : Int) := by omega
  clear cP hid hdi hds
  go_enter Tryz.func128, Tryz.ntmps128
  go_wp2_with fail
  with_reducible refine (CP.out _).mono ?_
  rintro e w2 ⟨rfl, hb2⟩
  go_wp2_with fail
  with_reducible refine (CZ1.out _).mono ?_
  rintro e w3 ⟨rfl, hb3⟩
  have hc3 := hb2.trans (hb3.mono hb2.size)
  go_wp2_with fail
  with_reducible refine (CZ2.out _).mono ?_
  rintro e w4 ⟨rfl, hb4⟩
  have hc4 := hc3.trans (hb4.mono hc3.size)
  go_wp2_with fail
  go_ret2
  rw [HR.out]
  refine ⟨?_, hc4⟩
  with_reducible refine congrArg Ending.returned ?_
  simp
  apply ByteArray.ext
  simp [ByteArray.data_append]
end Go.Proofs.YthkppbimkjmbnaaGreatDoor

/-
  The walks through udftag: most, fits, little, read, sum, summed, seal, Block.
-/
namespace Go.Proofs.YthkppbimkjmbnaaGreatDoor
open Go.RowKit
namespace Vs
theorem readR_in {l : List UInt8} {a k : Nat} (h : a + k ≤ l.length) (hk : k ≤ 4) : Pm.readR l a k = (((Pm.at_ l a k : Nat) : Int), 0) := by
  have h1 := Pm.at_lt l a k
  have h2 : 256 ^ k ≤ 256 ^ 4 := Nat.pow_le_pow_right (by decide) hk
  unfold Pm.readR
  rw [if_neg (by omega), Int.toNat_natCast, if_neg (by omega)]
theorem by_len (s : ByteArray) : (by_ s).length = s.size := by simp [by_]
theorem bs_size (l : List UInt8) : (bs l).size = l.length := by simp [bs, ByteArray.size]
theorem bs_app (a b : List UInt8) : bs a ++ bs b = bs (a ++ b) := Kit.append_mk a b
theorem bs_ext (s : ByteArray) (a b : Nat) : s.extract a b = bs (sl (by_ s) a (b - a)) := by
  apply ByteArray.ext
  rw [ByteArray.data_extract]
  apply Array.ext'
  rw [Array.toList_extract, List.extract_eq_take_drop]
  rfl
theorem leR_fit {n : Int} {k : Nat} (h : fit n k = true) : Pm.leR n k = Pm.le k n.toNat := by
  rw [fit_iff] at h
  unfold Pm.leR Pm.fitsB
  rw [if_pos]
  rw [Bool.and_eq_true, Bool.or_eq_true, decide_eq_true_eq, decide_eq_true_eq, decide_eq_true_eq]
  exact ⟨h.1, .inr h.2⟩
end Vs
open Vs (bs by_)

set_option maxHeartbeats 1600000 in
set_option maxRecDepth 100000 in
/-- udftag.most. -/
theorem most_any (k : Nat) (K : Int) (hK : K = (k : Int)) (hk : k = 2 ∨ k = 4) (w : World) : Calls Tryz.prog 231 #[.int .i64 K] w fun e w' => e = .returned (.int .i64 (256 ^ k - 1)) ∧ w = w' := by
  subst hK
  rcases hk with rfl | rfl
  all_goals
    go_enter Tryz.func231, Tryz.ntmps231
    go_wp2
    go_ret
    exact ⟨rfl, rfl⟩

set_option maxHeartbeats 1600000 in
set_option maxRecDepth 100000 in
/-- udftag.fits. -/
theorem tFits_any (n : Int) (k : Nat) (K : Int) (hK : K = (k : Int)) (hk : k = 2 ∨ k = 4) (w : World) : Calls Tryz.prog 174 #[.int .i64 n, .int .i64 K] w fun e w' => e = .returned (.bool (Vs.fit n k)) ∧ w = w' := by
  have CM := Lib.hid (fun W => most_any k K hK hk W)
  have hp : (256 : Int) ^ k - 1 ≤ 4294967295 := by rcases hk with rfl | rfl <;> decide
  have hp0 : 0 ≤ (256 : Int) ^ k - 1 := by rcases hk with rfl | rfl <;> decide
  unfold Vs.fit
  obtain ⟨m, hm⟩ : ∃ m : Int, (256 : Int) ^ k - 1 = m := ⟨_, rfl⟩
  rw [hm] at CM hp hp0
  rw [show decide (n < (256 : Int) ^ k) = decide (n ≤ m) from decide_eq_decide.2 ⟨fun h => by omega, fun h => by omega⟩]
  clear hm hk hK
  by_cases h0 : 0 ≤ n
  · have d0 : decide (0 ≤ n) = true := decide_eq_true h0
    by_cases h1 : n ≤ m
    · have d1 : decide (n ≤ m) = true := decide_eq_true h1
      rw [d0, d1]
      go_enter Tryz.func174, Tryz.ntmps174
      go_wp2_with fail
      with_reducible refine (CM.out _).mono ?_
      rintro e w2 ⟨rfl, rfl⟩
      go_wp2_with fail
      go_ret
      exact ⟨rfl, rfl⟩
    · have d1 : decide (n ≤ m) = false := decide_eq_false h1
      rw [d0, d1]
      go_enter Tryz.func174, Tryz.ntmps174
      go_wp2_with fail
      with_reducible refine (CM.out _).mono ?_
      rintro e w2 ⟨rfl, rfl⟩
      go_wp2_with fail
      go_ret
      exact ⟨rfl, rfl⟩
  · have d0 : decide (0 ≤ n) = false := decide_eq_false h0
    rw [d0]
    go_enter Tryz.func174, Tryz.ntmps174
    go_wp2_with fail
    go_ret
    exact ⟨rfl, rfl⟩

set_option maxHeartbeats 1600000 in
set_option maxRecDepth 100000 in
/-- udftag.little. -/
theorem tLittle_any (n : Int) (k : Nat) (K : Int) (hK : K = (k : Int)) (hk : Pm.Sz k) (w : World) : Calls Tryz.prog 175 #[.int .i64 n, .int .i64 K] w fun e w' => e = .returned (.string (bs (Pm.leR n k))) ∧ Below w.heap.size w w' := by
  subst hK
  have CL := Lib.hid (fun W => little_any n k hk W)
  unfold bs
  generalize Pm.leR n k = r at *
  generalize (if Pm.fitsB n k = true then (0 : Int) else 2) = er at *
  go_enter Tryz.func175, Tryz.ntmps175
  go_wp2_with fail
  with_reducible refine (CL.out _).mono ?_
  rintro e w2 ⟨rfl, hb2⟩
  go_wp2_with fail
  go_ret
  exact ⟨rfl, hb2⟩

set_option maxHeartbeats 1600000 in
set_option maxRecDepth 100000 in
/-- udftag.read. -/
theorem tRead_any (s : ByteArray) (a k : Nat) (A K : Int) (hA : A = (a : Int)) (hK : K = (k : Int)) (hk : k = 2 ∨ k = 4) (ha : a + k ≤ s.size) (hs : s.size ≤ 9223372036854775807) (w : World) : Calls Tryz.prog 151 #[.string s, .int .i64 A, .int .i64 K] w fun e w' => e = .returned (.int .i64 (Pm.at_ (by_ s) a k : Nat)) ∧ w = w' := by
  subst hA hK
  have CR := Lib.hid (fun W => readLittle_any s a k (by unfold Pm.Sz; omega) hs W)
  rw [Vs.readR_in (by rw [Vs.by_len]; exact ha) (by omega)] at CR
  simp only [] at CR
  generalize Pm.at_ (by_ s) a k = r at *
  clear ha hk
  go_enter Tryz.func151, Tryz.ntmps151
  go_wp2_with fail
  with_reducible refine (CR.out _).mono ?_
  rintro e w2 ⟨rfl, rfl⟩
  go_wp2_with fail
  go_ret
  exact ⟨rfl, rfl⟩

set_option maxHeartbeats 1600000 in
set_option maxRecDepth 100000 in
/-- udftag.sum. -/
theorem sum_any (s : ByteArray) (h : 16 ≤ s.size) (hs : s.size ≤ 9223372036854775807) (w : World) : Calls Tryz.prog 152 #[.string s] w fun e w' => e = .returned (.int .u8 (Vs.sumT (by_ s) : Nat)) ∧ ∃ n, w' = w.drewN n := by
  have e1 : s.extract 0 4 ++ s.extract 5 16 = bs (Vs.sl (by_ s) 0 4 ++ Vs.sl (by_ s) 5 11) := by
    rw [Vs.bs_ext s 0 4, Vs.bs_ext s 5 16, Vs.bs_app]
  have CS := Lib.hid (fun W => sum8_any (s.extract 0 4 ++ s.extract 5 16) W (by rw [e1, Vs.bs_size, List.length_append, Vs.sl_len (by rw [Vs.by_len]; omega), Vs.sl_len (by rw [Vs.by_len]; omega)]; decide))
  have HS := Lib.hid (show Vs.sumR (s.extract 0 4 ++ s.extract 5 16).data.toList = Vs.sumT (by_ s) by rw [e1]; rfl)
  rw [HS.out] at CS
  clear e1 HS
  generalize Vs.sumT (by_ s) = T at *
  go_enter Tryz.func152, Tryz.ntmps152
  go_wp2_with fail
  go_quiet ((go_at_call 214; exact Calls.quiet_of_same ((CS.out _).mono fun _ _ h => ⟨h.1, h.2.symm⟩)))
  go_wp2_with fail
  go_ret
  exact ⟨rfl, _, rfl⟩
end Go.Proofs.YthkppbimkjmbnaaGreatDoor

/-
  Regions that draw their order: a head of operations that are quiet in a class of worlds (calls that make memory among them), and one operation behind it that waits for all.
-/
namespace Go.Proofs.YthkppbimkjmbnaaGreatDoor
namespace Rt
variable {P : Program} {C : World → Prop}
/-- Operations with guards or edges ahead are none. -/
def forth (l : List Oper) : Bool := (List.range l.length).all fun j => match l[j]? with
  | some o => o.guard.isNone && o.after.all fun e => decide (e.on < j)
  | none => false
theorem forth_at {l : List Oper} (h : forth l = true) {j : Nat} {o : Oper} (ho : l[j]? = some o) : o.guard = none ∧ ∀ e ∈ o.after, e.on < j := by
  have hj : j < l.length := (List.getElem?_eq_some_iff.1 ho).1
  have := List.all_eq_true.1 h j (List.mem_range.2 hj)
  rw [ho] at this
  simp only [Bool.and_eq_true] at this
  refine ⟨by simpa using this.1, fun e he => ?_⟩
  have h2 := this.2
  rw [Array.all_eq_true_iff_forall_mem] at h2
  simpa using h2 e he
def waits (o : Oper) (j : Nat) : Bool := o.after.any fun e => Region.binds .any e && e.on == j
theorem waits_at {o : Oper} {j : Nat} (h : waits o j = true) : ∃ e ∈ o.after, Region.binds .any e = true ∧ e.on = j := by
  obtain ⟨e, he, hb⟩ := Array.any_eq_true'.1 h
  simp only [Bool.and_eq_true, beq_iff_eq] at hb
  exact ⟨e, he, hb.1, hb.2⟩
/-- The last operation waits, in the end, for each one ahead of it. -/
def awaits (l : List Oper) (o : Oper) : Bool := (o.after.all fun e => decide (e.on < l.length)) && (List.range l.length).all fun j => waits o j || (List.range l.length).any fun i => decide (j < i) && (match l[i]? with | some oi => waits oi j | none => false)
/-- What is listed has what it waits for. -/
def Shut (l : List Oper) (L : List Bool) : Prop := ∀ (j : Nat) (oj : Oper), l[j]? = some oj → L[j]? = some true → ∀ e ∈ oj.after, Region.binds .any e = true → L[e.on]? = some true
theorem awaits_lt {l : List Oper} {o : Oper} (h : awaits l o = true) : ∀ e ∈ o.after, e.on < l.length := fun e he => by
  rw [awaits, Bool.and_eq_true] at h
  have h2 := h.1
  rw [Array.all_eq_true_iff_forall_mem] at h2
  simpa using h2 e he
theorem awaits_all {l : List Oper} {o : Oper} {L : List Bool} (h : awaits l o = true) (hs : Shut l L) (ho : ∀ e ∈ o.after, Region.binds .any e = true → L[e.on]? = some true) : ∀ d j, l.length - j = d → j < l.length → L[j]? = some true := by
  intro d
  induction d using Nat.strongRecOn with
  | _ d ih =>
    intro j hd hj
    rw [awaits, Bool.and_eq_true] at h
    have := List.all_eq_true.1 h.2 j (List.mem_range.2 hj)
    rw [Bool.or_eq_true] at this
    rcases this with h1 | h1
    · obtain ⟨e, he, hb, rfl⟩ := waits_at h1
      exact ho e he hb
    · obtain ⟨i, hi, h2⟩ := List.any_eq_true.1 h1
      rw [List.mem_range] at hi
      rw [Bool.and_eq_true, decide_eq_true_eq] at h2
      obtain ⟨hji, h3⟩ := h2
      have hli : l[i]? = some l[i] := List.getElem?_eq_getElem hi
      rw [hli] at h3
      obtain ⟨e, he, hb, rfl⟩ := waits_at h3
      exact hs i _ hli (ih (l.length - i) (by omega) i rfl hi) e he hb
theorem ready_some {l : List Oper} (hf : forth l = true) (L : List Bool) (hL : L.length = l.length) : ∀ j : Nat, L[j]? = some false → ∃ i, i ∈ Region.ready .any l.toArray L.toArray := by
  intro j
  induction j using Nat.strongRecOn with
  | _ j ih =>
    intro hj
    have hjl : j < l.length := by rw [← hL]; exact (List.getElem?_eq_some_iff.1 hj).1
    by_cases hall : ∀ e ∈ (l[j]).after, Region.binds .any e = true → L.toArray.getD e.on false = true
    · exact ⟨j, mem_ready.2 ⟨by simp [Array.getD_eq_getD_getElem?, hj], l[j], by simp [hjl], hall⟩⟩
    · simp only [Classical.not_forall] at hall
      obtain ⟨e, he, hb, hx⟩ := hall
      have hlt := (forth_at hf (o := l[j]) (j := j) (by simp [hjl])).2 e he
      have hel : e.on < L.length := by omega
      refine ih e.on hlt ?_
      have : L[e.on] = false := by
        simp [Array.getD_eq_getD_getElem?, hel] at hx
        exact hx
      rw [List.getElem?_eq_getElem hel, this]
theorem count_pos {L : List Bool} {f : Nat} (h : L.count false = f + 1) : ∃ j : Nat, L[j]? = some false := by
  have : false ∈ L := List.count_pos_iff.1 (by omega)
  exact List.getElem?_of_mem this
theorem tailAny {l : List Oper} {o : Oper} {Q : Exit → Act → World → Prop} (hf : forth l = true) (hg : o.guard = none) (haw : awaits l o = true) :
    ∀ (f : Nat) (L : List Bool) (a : Act) (w : World), L.length = l.length → L.count false = f → Shut l L → C w → wpAnyQ P .any l.toArray C (fun a' => ∀ w', C w' → (o.wp P a' w' (fun a w => Q .normal a w) Q ∨ (o.asks P a' w' ∧ LetsOut Q))) f L.toArray a →
      wpAny P .any (l ++ [o]).toArray Q (f + 1) (L ++ [false]).toArray a w := by
  intro f
  induction f with
  | zero =>
    intro L a w hL hc hsh hw h
    have hall : ∀ j, j < L.length → L[j]? = some true := fun j hj => by
      have h1 : L[j] ≠ false := fun e => by
        have : 0 < L.count false := List.count_pos_iff.2 (e ▸ List.getElem_mem hj)
        omega
      rw [List.getElem?_eq_getElem hj]
      cases hb : L[j] with
      | true => rfl
      | false => exact absurd hb h1
    have hm : l.length ∈ Region.ready .any (l ++ [o]).toArray (L ++ [false]).toArray := mem_ready.2 ⟨by simp [Array.getD_eq_getD_getElem?, ← hL], o, by simp, fun e he hb => by
      have h1 := awaits_lt haw e he
      have := hall e.on (by omega)
      simp [Array.getD_eq_getD_getElem?, List.getElem?_append_left (show e.on < L.length by omega), this]⟩
    refine ⟨fun e => by (rw [e] at hm; cases hm), fun i hi => ?_⟩
    obtain ⟨hu, oi, hoi, _⟩ := mem_ready.1 hi
    have hil : i < (l ++ [o]).length := by
      have := (Array.getElem?_eq_some_iff.1 hoi).1
      simpa using this
    have him : i = l.length := by
      rcases Nat.lt_or_ge i l.length with h1 | h1
      · have := hall i (by omega)
        simp [Array.getD_eq_getD_getElem?, List.getElem?_append_left (show i < L.length by omega), this] at hu
      · simp at hil
        omega
    subst him
    unfold wpOp
    have e1 : (l ++ [o]).toArray[l.length]? = some o := by simp
    rw [e1]
    simp only []
    rw [if_pos (by simp [Region.wanted, hg])]
    refine (h.2 w hw).imp (fun g => Oper.wp_mono (fun a w hq => ⟨?_, hq⟩) g) id
    rw [List.eq_nil_iff_forall_not_mem]
    intro j hj
    obtain ⟨hu, oj, hoj, _⟩ := mem_ready.1 hj
    have hjl : j < (l ++ [o]).length := by
      have := (Array.getElem?_eq_some_iff.1 hoj).1
      simpa using this
    rw [List.length_append, List.length_singleton] at hjl
    rcases Nat.lt_or_ge j l.length with h1 | h1
    · have := hall j (by omega)
      simp [Array.getD_eq_getD_getElem?, List.getElem?_set_ne (show l.length ≠ j by omega), List.getElem?_append_left (show j < L.length by omega), this] at hu
    · obtain rfl : j = l.length := by omega
      simp [Array.getD_eq_getD_getElem?, hL] at hu
  | succ f ih =>
    intro L a w hL hc hsh hw h
    obtain ⟨j0, hj0⟩ := count_pos hc
    have sub : ∀ i, i < l.length → (i ∈ Region.ready .any (l ++ [o]).toArray (L ++ [false]).toArray ↔ i ∈ Region.ready .any l.toArray L.toArray) := fun i hi => by
      rw [mem_ready, mem_ready]
      have e1 : (l ++ [o]).toArray[i]? = l.toArray[i]? := by simp [List.getElem?_append_left hi]
      have e2 : ((L ++ [false]).toArray.getD i true = false) = (L.toArray.getD i true = false) := by
        simp [Array.getD_eq_getD_getElem?, List.getElem?_append_left (show i < L.length by omega)]
      rw [e1, e2]
      constructor
      · rintro ⟨hu, oi, hoi, ha⟩
        refine ⟨hu, oi, hoi, fun e he hb => ?_⟩
        have hlt := (forth_at hf (o := oi) (j := i) (by simpa using hoi)).2 e he
        have := ha e he hb
        simp only [Array.getD_eq_getD_getElem?, List.getElem?_toArray, List.getElem?_append_left (show e.on < L.length by omega)] at this ⊢
        exact this
      · rintro ⟨hu, oi, hoi, ha⟩
        refine ⟨hu, oi, hoi, fun e he hb => ?_⟩
        have hlt := (forth_at hf (o := oi) (j := i) (by simpa using hoi)).2 e he
        have := ha e he hb
        simp only [Array.getD_eq_getD_getElem?, List.getElem?_toArray, List.getElem?_append_left (show e.on < L.length by omega)] at this ⊢
        exact this
    have hlt : ∀ i, i ∈ Region.ready .any (l ++ [o]).toArray (L ++ [false]).toArray → i < l.length := fun i hi => by
      obtain ⟨hu, oi, hoi, ha⟩ := mem_ready.1 hi
      have hil : i < (l ++ [o]).length := by
        have := (Array.getElem?_eq_some_iff.1 hoi).1
        simpa using this
      rw [List.length_append, List.length_singleton] at hil
      rcases Nat.lt_or_ge i l.length with h1 | h1
      · exact h1
      · obtain rfl : i = l.length := by omega
        have : oi = o := by simpa using hoi.symm
        subst this
        have hj0l : j0 < L.length := (List.getElem?_eq_some_iff.1 hj0).1
        have hall := awaits_all haw hsh (fun e he hb => by
          have h1 := awaits_lt haw e he
          have := ha e he hb
          simp only [Array.getD_eq_getD_getElem?, List.getElem?_toArray, List.getElem?_append_left (show e.on < L.length by omega)] at this
          rw [List.getElem?_eq_getElem (show e.on < L.length by omega)] at this ⊢
          simpa using this) _ j0 rfl (by omega)
        rw [hj0] at hall
        cases hall
    obtain ⟨i0, hi0⟩ := ready_some hf L hL j0 hj0
    have hi0' : i0 < l.length := by
      obtain ⟨_, oi, hoi, _⟩ := mem_ready.1 hi0
      have := (Array.getElem?_eq_some_iff.1 hoi).1
      simpa using this
    refine ⟨fun e => by (have := (sub i0 hi0').2 hi0; rw [e] at this; cases this), fun i hi => ?_⟩
    have hil := hlt i hi
    have hir := (sub i hil).1 hi
    have hq := h.2 i hir
    have hset : ((L ++ [false]).toArray.setIfInBounds i true) = (L.set i true ++ [false]).toArray := by
      rw [List.setIfInBounds_toArray, List.set_append_left _ _ (by omega)]
    have hfalse : L[i]? = some false := by
      obtain ⟨hu, _⟩ := mem_ready.1 hir
      have hiL : i < L.length := by omega
      simp [Array.getD_eq_getD_getElem?, hiL] at hu
      rw [List.getElem?_eq_getElem hiL, hu]
    have hcount : (L.set i true).count false = f := by
      have hiL : i < L.length := by omega
      have h0 : L[i] = false := by
        rw [List.getElem?_eq_getElem hiL] at hfalse
        exact Option.some.inj hfalse
      rw [List.count_set hiL, hc]
      simp [h0]
    have hshut : Shut l (L.set i true) := by
      have hold : ∀ k : Nat, L[k]? = some true → (L.set i true)[k]? = some true := fun k hk => by
        by_cases hik : i = k
        · subst hik
          rw [List.getElem?_set_self (by omega)]
        · rw [List.getElem?_set_ne hik, hk]
      intro j oj hoj hj e he hb
      by_cases hij : i = j
      · subst hij
        obtain ⟨_, oi, hoi, ha⟩ := mem_ready.1 hir
        have : oi = oj := by
          have h1 : l[i]? = some oi := by simpa using hoi
          rw [h1] at hoj
          exact Option.some.inj hoj
        subst this
        have hlt := (forth_at hf hoj).2 e he
        have := ha e he hb
        simp only [Array.getD_eq_getD_getElem?, List.getElem?_toArray] at this
        rw [List.getElem?_eq_getElem (show e.on < L.length by omega)] at this
        refine hold _ ?_
        rw [List.getElem?_eq_getElem (show e.on < L.length by omega)]
        simpa using this
      · rw [List.getElem?_set_ne hij] at hj
        exact hold _ (hsh j oj hoj hj e he hb)
    have hw2 := wpOp_of_qOp (Q' := Q) (K' := wpAny P .any (l ++ [o]).toArray Q (f + 1) (L.set i true ++ [false]).toArray) hw (fun a' w' hw' hh => ih (L.set i true) a' w' (by simpa using hL) hcount hshut hw' hh) (by
      have := hq
      rwa [List.setIfInBounds_toArray] at this)
    rw [hset]
    unfold wpOp at hw2 ⊢
    have e1 : (l ++ [o]).toArray[i]? = some l[i] := by simp [List.getElem?_append_left hil, hil]
    have e2 : l.toArray[i]? = some l[i] := by simp [hil]
    have hgi := (forth_at hf (o := l[i]) (j := i) (by simp [hil])).1
    rw [e2] at hw2
    rw [e1]
    simp only [] at hw2 ⊢
    rw [if_pos (by simp [Region.wanted, hgi])] at hw2 ⊢
    exact hw2
/-- A head of operations that are quiet in a class of worlds, and one operation behind it that waits for all. -/
theorem tail {id : Nat} {L : List Oper} {Q : Exit → Act → World → Prop} {a : Act} {w : World} (m : Nat) (o : Oper) (hL : L = L.take m ++ [o]) (hm : P.follows .mixedOrders = true) (hB : Region.lexB .any (L.take m).toArray = true)
    (hf : forth (L.take m) = true) (hg : o.guard = none) (haw : awaits (L.take m) o = true) (hC : C w.drew)
    (h : wpQuiet P (L.take m).toArray C (fun a' => ∀ w', C w' → wpList P L.toArray Q [o] a' w') (L.take m) a) : (Code.region id L.toArray true).wp P Q a w := by
  simp only [Region.lexB, Bool.and_eq_true] at hB
  generalize hl : L.take m = l at *
  subst hL
  have h1 := wpAnyQ_lex (C := C) (md := .any) hB.1 l 0 (List.replicate l.length false).toArray a (by simp) (by simpa using hB.2) h
  have h2 := tailAny (P := P) (C := C) (Q := Q) hf hg haw l.length (List.replicate l.length false) a w.drew (by simp) (by simp) (fun j oj _ hj => by (rw [List.getElem?_replicate] at hj; split at hj <;> cases hj)) hC (by
    refine Eq.mp ?_ h1
    congr 1
    funext a'
    refine propext (forall_congr' fun w' => imp_congr_right fun _ => ?_)
    show (if Region.wanted o (yielded (l ++ [o]).toArray a'.tmps) = true then o.wp P a' w' (wpList P (l ++ [o]).toArray Q []) Q ∨ (o.asks P a' w' ∧ LetsOut Q) else _) ↔ _
    rw [if_pos (by simp [Region.wanted, hg])]
    exact Iff.rfl)
  refine wp_region_any hm ?_
  have e : (List.replicate l.length false ++ [false]).toArray = Array.replicate (l ++ [o]).toArray.size false := by
    simp [← List.replicate_succ']
  rw [e] at h2
  simpa using h2
end Rt
end Go.Proofs.YthkppbimkjmbnaaGreatDoor

/-
  The walks through volumeseq.body and its closure put.
-/
namespace Go.Proofs.YthkppbimkjmbnaaGreatDoor
open Go.RowKit
open Vs (bs by_)
namespace Vs
/-- The block under way: some bytes, and zero bytes behind them. -/
def Img (W : World) (ob : Nat) (L : List UInt8) : Prop := L.length ≤ 2048 ∧ W.heap[ob]? = some (.cells (Lib.byteCells (L ++ z (2048 - L.length))).toArray 141 (0, 0))
theorem Img.lt {W : World} {ob : Nat} {L : List UInt8} (h : Img W ob L) : ob < W.heap.size := (Array.getElem?_eq_some_iff.1 h.2).1
theorem Img.below {W W' : World} {B ob : Nat} {L : List UInt8} (h : Img W ob L) (hb : Below B W W') (hB : ob < B) : Img W' ob L := ⟨h.1, (hb.block ob hB).trans h.2⟩
theorem lay_put {L s : List UInt8} {a : Nat} (h1 : L.length ≤ a) (h2 : a + s.length ≤ 2048) :
    (L ++ z (2048 - L.length)).take a ++ s ++ (L ++ z (2048 - L.length)).drop (a + s.length) = (L ++ z (a - L.length) ++ s) ++ z (2048 - (L ++ z (a - L.length) ++ s).length) := by
  have e1 : (L ++ z (2048 - L.length)).take a = L ++ z (a - L.length) := by
    rw [List.take_append, List.take_of_length_le h1]
    unfold z
    rw [List.take_replicate, Nat.min_eq_left (by omega)]
  have e2 : (L ++ z (2048 - L.length)).drop (a + s.length) = z (2048 - (L ++ z (a - L.length) ++ s).length) := by
    rw [List.drop_append, List.drop_eq_nil_of_le (by omega), List.nil_append]
    unfold z
    rw [List.drop_replicate]
    congr 1
    simp only [List.length_append, List.length_replicate]
    omega
  rw [e1, e2]
/-- The closure put. -/
def putV (ob : Nat) : Value := .func (.func 118) #[] #[.pointer (some ⟨ob, 0, none⟩)]
end Vs

theorem byteSize : (Tryz.prog.info? 5).map (·.size) = some 1 := by kernel_rfl

set_option maxHeartbeats 1600000 in
set_option maxRecDepth 100000 in
/-- put. -/
theorem put_any (ob a : Nat) (A : Int) (hA : A = (a : Int)) (s : ByteArray) (L : List UInt8) (w : World) (hI : Vs.Img w ob L) (h0 : a < 2048) (h1 : L.length ≤ a) (h2 : a + s.size ≤ 2048) :
    Calls Tryz.prog 118 #[.int .i64 A, .string s, .pointer (some ⟨ob, 0, none⟩)] w fun e w' => e = .returned (.tuple #[]) ∧ Vs.Img w' ob (L ++ Vs.z (a - L.length) ++ by_ s) ∧ Below ob w w' := by
  subst hA
  have HI := Lib.hid hI
  have HP := Lib.hid (Vs.lay_put (L := L) (s := by_ s) (a := a) h1 (by rw [Vs.by_len]; exact h2))
  have HSZ := Lib.hid (show ((Lib.byteCells (L ++ Vs.z (2048 - L.length))).toArray : Array Value).size = 2048 by
    rw [List.size_toArray, Lib.byteCells_length, List.length_append, Vs.z_len]
    omega)
  have HIMG := Lib.hid (show Vs.Img (w.setRow ob (((Lib.byteCells (L ++ Vs.z (2048 - L.length))).toArray : Array Value).toList.take a ++ Lib.byteCells s.data.toList ++ ((Lib.byteCells (L ++ Vs.z (2048 - L.length))).toArray : Array Value).toList.drop (a + s.size)).toArray) ob (L ++ Vs.z (a - L.length) ++ by_ s) from by
    refine ⟨?_, ?_⟩
    · rw [List.length_append, List.length_append, Vs.z_len, Vs.by_len]
      omega
    · refine (setRow_heap w ob _ _ _ _ hI.2).trans ?_
      rw [← HP.out]
      congr 2
      unfold Lib.byteCells
      simp only [List.map_append, List.map_take, List.map_drop, Vs.by_len])
  have ha : (a : Int) ≤ 2048 := by omega
  have ha2 : ¬ (2048 = a) := by omega
  have hcp := Lib.run_copy_row_string (P := Tryz.prog) w 126 9 3 5 ob a (2048 - a) (2048 - a) s _ _ Tryz.underlying126 byteSize HI.out.2 (by omega) (by rw [HSZ.out]; exact h2)
  clear hI h1
  go_enter Tryz.func118, Tryz.ntmps118
  go_wp2_with fail
  go_end0
  refine ⟨rfl, ?_, below_setRow (Below.refl _ _) (Nat.le_refl _) _⟩
  have h := HIMG.out
  simp only [List.append_assoc] at h ⊢
  exact h

theorem arrInfo : (Tryz.prog.info? 141).map (fun i => (i.zero, i.size)) = some (some (.agg (Array.replicate 2048 (.int .u8 0))), 2048) := by kernel_rfl
namespace Vs
theorem zero_cells (n : Nat) : Array.replicate n (Value.int .u8 0) = (Lib.byteCells (z n)).toArray := by
  unfold Lib.byteCells z
  rw [List.map_replicate, List.toArray_replicate]
  rfl
theorem Img.new (w : World) : Img (w.alloc (.cells (Array.replicate 2048 (.int .u8 0)) 141)) w.heap.size [] := by
  refine ⟨Nat.zero_le _, (heap_alloc_new w _).trans (congrArg (fun c => some (Obj.cells c 141 (0, 0))) ?_)⟩
  rw [List.nil_append, List.length_nil, Nat.sub_zero]
  exact zero_cells 2048
theorem Img.cell {W : World} {ob : Nat} {L : List UInt8} (h : Img W ob L) {i : Nat} (hi : i < 2048) : W.cell? ⟨ob, i, none⟩ = some (.int .u8 (Cs.byt (L ++ z (2048 - L.length)) i : Nat)) := by
  rw [cell_of_row _ _ i _ _ _ h.2]
  have hl : i < (L ++ z (2048 - L.length)).length := by
    rw [List.length_append, z_len]
    have := h.1
    omega
  unfold Lib.byteCells Cs.byt
  rw [List.getElem?_toArray, List.getElem?_map, List.getElem?_eq_getElem hl, List.getD_eq_getElem?_getD, List.getElem?_eq_getElem hl]
  rfl
/-- What a closure that puts fields does: from an empty block on, the fields L. -/
def Fills (F : FuncId) (caps : Array Value) (w0 : World) (L : List UInt8) : Prop :=
  Enters Tryz.prog F ∧ ∀ (W : World) (ob : Nat), Below w0.heap.size w0 W → w0.heap.size ≤ ob → Img W ob [] → Calls Tryz.prog F (#[putV ob] ++ caps) W fun e W' => e = .returned (.tuple #[]) ∧ Img W' ob L ∧ Below ob W W'
theorem Fills.below {F : FuncId} {caps : Array Value} {w0 w1 : World} {L : List UInt8} (h : Fills F caps w0 L) (hb : Below w0.heap.size w0 w1) : Fills F caps w1 L := ⟨h.1, fun W ob h1 h2 h3 =>
  h.2 W ob (hb.trans (h1.mono hb.size)) (Nat.le_trans hb.size h2) h3⟩
/-- The body of some bytes. -/
def bodyL (L : List UInt8) (n : Nat) : List UInt8 := sl (L ++ z (2048 - L.length)) 16 n
end Vs

set_option maxHeartbeats 1600000 in
set_option maxRecDepth 100000 in
/-- body. -/
theorem body_any (n : Nat) (N : Int) (hN : N = (n : Int)) (F : FuncId) (caps : Array Value) (L : List UInt8) (w : World) (hF : Vs.Fills F caps w L) (hn : 1 ≤ n ∧ n ≤ 2032) :
    Calls Tryz.prog 45 #[.int .i64 N, .func (.func F) #[] caps] w fun e w' => e = .returned (.string (bs (Vs.bodyL L n))) ∧ Below w.heap.size w w' := by
  subst hN
  have hz := (zero_of_info (P := Tryz.prog) arrInfo).1
  have hen : ∀ (args : Array Value) (W : World), (callFunc F args).run Tryz.prog W = .ok (.enter F args) W := hF.1
  have HF := Lib.hid (hF.2 (w.alloc (.cells (Array.replicate 2048 (.int .u8 0)) 141)) w.heap.size ((Below.refl _ _).alloc (Nat.le_refl _) _) (Nat.le_refl _) (Vs.Img.new w))
  have hn1 : (n : Int) ≤ 2032 := by omega
  unfold Vs.putV at HF
  clear hF
  go_enter Tryz.func45, Tryz.ntmps45
  go_wp2_with fail
  refine HF.out.mono ?_
  rintro e w2 ⟨rfl, hI2, hb2⟩
  have HB := Lib.hid (((Below.refl _ w).alloc (Nat.le_refl _) (.cells (Array.replicate 2048 (.int .u8 0)) 141)).trans (hb2.mono (Nat.le_refl _)))
  have HL := Lib.hid (show (Vs.bodyL L n).length = n by
    unfold Vs.bodyL
    rw [Vs.sl_len]
    rw [List.length_append, Vs.z_len]
    have := hI2.1
    omega)
  have hcv : (convert 126 9 (.slice (some ⟨w.heap.size, 16, none⟩) n 2032)).run Tryz.prog w2 = .ok (.string (bs (Vs.bodyL L n))) w2 := by
    have h := run_convert_bytes_back (P := Tryz.prog) w2 126 9 5 ⟨w.heap.size, 16, none⟩ 2032 (Vs.bodyL L n) Tryz.underlying126 Tryz.underlying5 Tryz.underlying9 (fun i hi => by
      rw [HL.out] at hi
      rw [Addr.add_lit, hI2.cell (by omega)]
      have hi' : i < (Vs.bodyL L n).length := by rw [HL.out]; exact hi
      have e : (Vs.bodyL L n)[i]'hi' = (L ++ Vs.z (2048 - L.length)).getD (16 + i) 0 := by
        have h1 : (Vs.bodyL L n)[i]? = (L ++ Vs.z (2048 - L.length))[16 + i]? := by
          unfold Vs.bodyL Vs.sl
          rw [List.getElem?_take_of_lt hi, List.getElem?_drop]
        rw [List.getElem?_eq_getElem hi'] at h1
        rw [List.getD_eq_getElem?_getD, ← h1]
        rfl
      rw [e]
      rfl)
    rw [HL.out] at h
    exact h
  obtain ⟨m, hm⟩ : ∃ m : Nat, m = 16 + n := ⟨_, rfl⟩
  have hmI : (16 : Int) + (n : Int) = (m : Int) := by omega
  have hmn : m - 16 = n := by omega
  have hm1 : (16 : Int) ≤ (m : Int) := by omega
  have hm2 : (m : Int) ≤ 2048 := by omega
  clear HF hen hm hn hn1
  go_wp2_with fail
  go_ret
  exact ⟨rfl, HB.out⟩
end Go.Proofs.YthkppbimkjmbnaaGreatDoor
