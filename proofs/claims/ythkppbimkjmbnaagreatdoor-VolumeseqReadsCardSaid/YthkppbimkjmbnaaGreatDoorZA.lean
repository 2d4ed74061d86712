/-
  Small lemmas over the model for this seat's walks: what stays behind 'Below', owned rows of cells, and rows that a slice value shows.
-/
import Derived.Test.YthkppbimkjmbnaaGreatDoorProg
import Derived.WalkKit
import Derived.Lib.Hide
import Derived.Shelf.Unicode.DecodeSlow
import Derived.BigQuiet
import Derived.Deep.QuietTactic
import Derived.WalkSpells
import Derived.WalkLawsBesides
import Derived.Handy
import Derived.Lib.AppendStr
import Derived.Lib.DecodeN
import Derived.Lib.RuneBytes
import Derived.Lib.FrozenHead
namespace Go.Proofs.YthkppbimkjmbnaaGreatDoor
open Go.RowKit
namespace Kit

/-- Numbers as cells of type int. -/
def ints (l : List Nat) : List Value := l.map fun (c : Nat) => Value.int .i64 (c : Int)
theorem ints_length (l : List Nat) : (ints l).length = l.length := by simp [ints]
theorem ints_append (l m : List Nat) : ints (l ++ m) = ints l ++ ints m := by simp [ints]
/-- Bytes as cells. -/
def bytes (l : List UInt8) : List Value := l.map fun (b : UInt8) => Value.int .u8 (b.toNat : Int)
theorem bytes_append (l m : List UInt8) : bytes (l ++ m) = bytes l ++ bytes m := by simp [bytes]

/-- The length of a string in a slot: for a loop's measure. -/
def strLen : Value → Nat | .string s => s.size | _ => 0

theorem tabs_below {a b : Nat} {w w' : World} (h : Lib.Utf8Tabs a b w) (hb : Below w.heap.size w w') : Lib.Utf8Tabs a b w' := by
  refine ⟨fun c hc => ?_, fun i hi => ⟨?_, ?_⟩⟩
  · rw [hb.cell (World.block_lt_of_cell? _ _ (h.1 c hc))]; exact h.1 c hc
  · rw [hb.cell (World.block_lt_of_cell? _ _ (h.2 i hi).1)]; exact (h.2 i hi).1
  · rw [hb.cell (World.block_lt_of_cell? _ _ (h.2 i hi).2)]; exact (h.2 i hi).2

/-- Old cells and old marks read as before. -/
theorem bcell {W w1 : World} (hb : Below W.heap.size W w1) : (∀ b o, b < W.heap.size → w1.cell? ⟨b, o, none⟩ = W.cell? ⟨b, o, none⟩) ∧ (∀ b o, b < W.heap.size → w1.frozen? ⟨b, o, none⟩ = W.frozen? ⟨b, o, none⟩) :=
  ⟨fun b o h => hb.cell (p := ⟨b, o, none⟩) h, fun b o h => hb.frozen (p := ⟨b, o, none⟩) h⟩

theorem grown_of_below {w w' : World} (h : Below w.heap.size w w') : w.grownBy w' none :=
  ⟨h.os, h.tape, h.output, h.size, fun k hk _ => h.block k hk⟩

/-- A row that a call has made is not touched by what leaves old memory alone. -/
theorem own_below {w w' : World} {base e size n : Nat} {v : Value} {xs : List Value} (h : w.ownsRow base e size v n xs) (hb : Below w.heap.size w w') : w'.ownsRow base e size v n xs :=
  h.kept (grown_of_below hb) (by cases hv : v.ownBlock <;> simp)

theorem own_base {w : World} {B B' e size n : Nat} {v : Value} {xs : List Value} (h : w.ownsRow B' e size v n xs) (hB : B ≤ B') : w.ownsRow B e size v n xs :=
  ⟨h.1, h.2.imp id (fun ⟨g, cap, cur, a, b, c⟩ => ⟨g, cap, cur, a, Nat.le_trans hB b, c⟩)⟩

theorem below_drewN {B : Nat} {w : World} (n : Nat) : Below B w (w.drewN n) := ⟨rfl, rfl, rfl, Nat.le_refl _, fun _ _ => rfl⟩
theorem Below.drewN {B : Nat} {a w : World} (h : Below B a w) (n : Nat) : Below B a (w.drewN n) := h.trans (below_drewN n)

theorem one_i64 (l : List Nat) : ∀ u ∈ ints l, u.oneCell' = true := by
  intro u hu
  obtain ⟨_, _, rfl⟩ := List.mem_map.1 hu
  rfl
/-- A slice value that reads as the cells xs. -/
def Row (w : World) (v : Value) (xs : List Value) : Prop := ∃ A c, v = .slice A xs.length c ∧ xs.length ≤ c ∧ c ≤ maxLen ∧
  (0 < xs.length → ∃ b o, A = some ⟨b, o, none⟩ ∧ b < w.heap.size ∧ ∀ j u, xs[j]? = some u → w.cell? ⟨b, o + j, none⟩ = some u)

theorem Row.below {w w' : World} {v : Value} {xs : List Value} (h : Row w v xs) (hb : Below w.heap.size w w') : Row w' v xs := by
  obtain ⟨A, c, rfl, h1, h2, h3⟩ := h
  refine ⟨A, c, rfl, h1, h2, fun h0 => ?_⟩
  obtain ⟨b, o, rfl, hl, hc⟩ := h3 h0
  exact ⟨b, o, rfl, Nat.lt_of_lt_of_le hl hb.size, fun j u hu => (hb.cell (p := ⟨b, o + j, none⟩) hl).trans (hc j u hu)⟩

theorem Row.of_own {w : World} {base e n : Nat} {v : Value} {xs : List Value} (h : w.ownsRow base e 1 v n xs) : Row w v xs := by
  have hl : xs.length = n := by simpa using h.1
  rcases h.2 with ⟨rfl, h0⟩ | ⟨g, cap, cur, rfl, _, hg, hnc, hcm, _, _⟩
  · exact ⟨none, 0, by rw [hl, h0], by omega, by unfold maxLen; omega, fun h' => by omega⟩
  · refine ⟨some ⟨g, 0, none⟩, cap, by rw [hl], by omega, hcm, fun _ => ⟨g, 0, rfl, (Array.getElem?_eq_some_iff.1 hg).1, fun j u hu => ?_⟩⟩
    have := h.cells (g := g) rfl j u hu
    rwa [Addr.add_lit] at this

/-- Numbers as cells of type int. -/
def izs (l : List Int) : List Value := l.map (Value.int .i64)
theorem izs_length (l : List Int) : (izs l).length = l.length := by simp [izs]
/-- 'append(v, x, ..)' onto a row of the call's own: what is appended has just been laid. -/
theorem push {P : Program} {W : World} {ops : Array Oper} {rest : List Oper} {o : Oper} {a : Act} {Q : Exit → Act → World → Prop} (hgd : o.guard = none) (s x : Operand) (t : TypeId)
    (ho : o.op = .call { callee := .builtin .append, args := #[s, x], argTypes := #[t, t] })
    (base : Nat) (e : TypeId) (i : TypeInfo) (z : Value) (bytes : Nat) (ht : P.underlying t = some (.slice e)) (hi : P.info? e = some i) (hz : i.zero = some z)
    (hsize : i.size = 1) (hby : i.bytes = bytes) (hzs : z.cells.size = 1)
    (v : Value) (n : Nat) (xs : List Value) (hs : a.eval s = v) (hown : W.ownsRow base e 1 v n xs)
    (news : List Value) (m c : Nat) (hx : a.eval x = .slice (some ⟨W.heap.size, 0, none⟩) m c) (hm : news.length = m) (h1 : ∀ u ∈ news, u.oneCell' = true)
    (h63 : n + m ≤ maxLen) (hbytes : (n + m) * bytes ≤ 140737488355328) (hbase : base ≤ W.heap.size)
    (h : ∀ v' w', w'.ownsRow base e 1 v' (n + m) (xs ++ news) → Below base W w' → wpList P ops Q rest (a.put o.dst v') w') :
    wpList P ops Q (o :: rest) a (W.alloc (.cells news.toArray e)) := by
  refine wpList_append_own _ hgd s x t ho base e i z 1 bytes ht hi hz hsize hby hzs (by decide) v n xs hs (hown.alloc _) ⟨W.heap.size, 0, none⟩ m c news hx (by omega) ?_ h1 h63 hbytes (by simp; omega) ?_
  · intro j u hu
    rw [Addr.add_lit, World.cell?_alloc_at _ _ _ _ (by simp)]
    simpa using hu
  · intro v' w' ho' hg _
    refine h v' w' ho' ?_
    exact ((Below.refl base W).alloc hbase _).grown hg (by simp; omega) (fun k hk => (hown.lt k hk).1)
/-- The string of a row of bytes that the call owns. -/
theorem str_of_own {P : Program} {w : World} {src dst e base : Nat} {v : Value} {l : List UInt8} (hs : P.underlying src = some (.slice e)) (he : P.underlying e = some (.int .u8)) (hd : P.underlying dst = some .string)
    (h : w.ownsRow base e 1 v l.length (bytes l)) : (convert src dst v).run P w = .ok (.string ⟨l.toArray⟩) w := by
  rcases h.2 with ⟨rfl, h0⟩ | ⟨g, cap, cur, rfl, _, hg, _, _, _, htake⟩
  · have : l = [] := List.eq_nil_of_length_eq_zero h0
    subst this
    rw [run_convert_bytes_nil w src e hs he 0 0 dst hd]
    rfl
  · refine run_convert_bytes_back w src dst e _ cap l hs he hd fun j hj => ?_
    exact h.cells (g := g) rfl j _ (by simp [bytes, hj])

/-- A row that has just been laid is owned. -/
theorem own_new (w : World) (e : TypeId) (xs : List Value) (h : xs.length ≤ maxLen) : (w.alloc (.cells xs.toArray e)).ownsRow w.heap.size e 1 (.slice (some ⟨w.heap.size, 0, none⟩) xs.length xs.length) xs.length xs :=
  ⟨by simp, .inr ⟨w.heap.size, xs.length, xs.toArray, rfl, Nat.le_refl _, heap_alloc_new w _, Nat.le_refl _, h, by simp, by simp⟩⟩

theorem bytes_of (x : Int) (h0 : 0 ≤ x) (h1 : x < 256) : bytes [UInt8.ofNat x.toNat] = [Value.int .u8 x] := by
  have : (UInt8.ofNat x.toNat).toNat = x.toNat := by
    rw [UInt8.toNat_ofNat']; omega
  simp [bytes, this]; omega

/-- The string of one, two, three bytes that have just been laid. -/
theorem str_new {P : Program} (W : World) (src dst e : Nat) (l : List Int) (n : Nat) (hs : P.underlying src = some (.slice e)) (he : P.underlying e = some (.int .u8)) (hd : P.underlying dst = some .string)
    (hl : ∀ x ∈ l, 0 ≤ x ∧ x < 256) (hn : l.length = n) : (convert src dst (.slice (some ⟨W.heap.size, 0, none⟩) n n)).run P (W.alloc (.cells (l.map (Value.int .u8)).toArray e)) = .ok (.string ⟨(l.map fun x => UInt8.ofNat x.toNat).toArray⟩) (W.alloc (.cells (l.map (Value.int .u8)).toArray e)) := by
  subst hn
  have := run_convert_bytes_back (P := P) (W.alloc (.cells (l.map (Value.int .u8)).toArray e)) src dst e ⟨W.heap.size, 0, none⟩ l.length (l.map fun x => UInt8.ofNat x.toNat) hs he hd (fun j hj => by
    have hj' : j < l.length := by simpa using hj
    obtain ⟨a, b⟩ := hl l[j] (List.getElem_mem _)
    rw [Addr.add_lit, World.cell?_alloc_at _ _ _ _ (by simp)]
    simp only [Nat.zero_add, List.getElem?_toArray, List.getElem?_map, List.getElem?_eq_getElem hj', Option.map_some, List.getElem_map]
    congr 2
    rw [UInt8.toNat_ofNat']
    omega)
  simpa using this
/-- As 'push', the element type's row of the table as one fact. -/
theorem app {P : Program} {W : World} {ops : Array Oper} {rest : List Oper} {o : Oper} {a : Act} {Q : Exit → Act → World → Prop} {e : TypeId} {z : Value} {by8 : Nat}
    (hinfo : (P.info? e).map (fun i => (i.zero, i.size, i.bytes)) = some (some z, 1, by8)) (hzs : z.cells.size = 1) (hb1 : 1 ≤ by8) (hgd : o.guard = none) (s x : Operand) (t : TypeId)
    (ho : o.op = .call { callee := .builtin .append, args := #[s, x], argTypes := #[t, t] }) (ht : P.underlying t = some (.slice e)) (base : Nat)
    (v : Value) (n : Nat) (xs : List Value) (hs : a.eval s = v) (hown : W.ownsRow base e 1 v n xs)
    (news : List Value) (m c : Nat) (hx : a.eval x = .slice (some ⟨W.heap.size, 0, none⟩) m c) (hm : news.length = m) (h1 : ∀ u ∈ news, u.oneCell' = true)
    (hbytes : (n + m) * by8 ≤ 140737488355328) (hbase : base ≤ W.heap.size)
    (h : ∀ v' w', w'.ownsRow base e 1 v' (n + m) (xs ++ news) → Below base W w' → wpList P ops Q rest (a.put o.dst v') w') :
    wpList P ops Q (o :: rest) a (W.alloc (.cells news.toArray e)) := by
  obtain ⟨i, hi, hz0, hz1, hz2⟩ := info_parts hinfo
  have hnm : n + m ≤ 140737488355328 := Nat.le_trans (Nat.le_mul_of_pos_right _ hb1) hbytes
  exact push hgd s x t ho base e i z by8 ht hi hz0 hz1 hz2 hzs v n xs hs hown news m c hx hm h1 (by unfold maxLen; omega) hbytes hbase h

theorem one1 {a : Value} (ha : a.oneCell' = true) : ∀ u ∈ [a], u.oneCell' = true := by
  intro u hu; simp at hu; rw [hu]; exact ha
theorem one_u8s : ∀ (l : List Int), ∀ u ∈ l.map (Value.int .u8), u.oneCell' = true := by
  intro l u hu
  obtain ⟨_, _, rfl⟩ := List.mem_map.1 hu
  rfl

/-- One byte more. -/
theorem snoc_byte {w : World} {base e : Nat} {v : Value} {l : List UInt8} {n : Nat} {x : Int} (h : w.ownsRow base e 1 v n (bytes l ++ [.int .u8 x])) (h0 : 0 ≤ x) (h1 : x < 256) : w.ownsRow base e 1 v n (bytes (l ++ [UInt8.ofNat x.toNat])) := by
  rw [bytes_append, bytes_of x h0 h1]
  exact h
end Kit
end Go.Proofs.YthkppbimkjmbnaaGreatDoor

/-
  Plain facts about texts: what a character is, how the first character of a list of bytes is read, the list of the characters of a text, and its bytes. No program in it.
-/
namespace Go.Proofs.YthkppbimkjmbnaaGreatDoor
namespace Cs

/-- A character's number. -/
def isChar (n : Int) : Bool := decide (32 ≤ n) && decide (n ≤ 65533) && (decide (n < 55296) || decide (57343 < n))

theorem isChar_iff (n : Int) : isChar n = true ↔ 32 ≤ n ∧ n ≤ 65533 ∧ (n < 55296 ∨ 57343 < n) := by
  simp [isChar, and_assoc]

/-- Byte number i of a list, 0 beyond its end. -/
def byt (l : List UInt8) (i : Nat) : Nat := (l.getD i 0).toNat
theorem byt_lt (l : List UInt8) (i : Nat) : byt l i < 256 := UInt8.toNat_lt _

/-- What Go's decoder says of the first bytes. -/
def raw (l : List UInt8) : Nat × Nat := Lib.decodeN l.length (byt l 0) (byt l 1) (byt l 2) (byt l 3)

/-- Whether a text can begin so. -/
def good (r : Nat × Nat) : Bool := isChar r.1 && !(r.1 == 65533 && r.2 == 1)

/-- The first character and its width; none if no character begins here. -/
def dec (l : List UInt8) : Option (Nat × Nat) := if good (raw l) then some (raw l) else none

theorem raw_width (l : List UInt8) (h : 0 < l.length) : 1 ≤ (raw l).2 ∧ (raw l).2 ≤ l.length ∧ (raw l).2 ≤ 4 ∧ (raw l).1 ≤ 1114111 := by
  have h0 := byt_lt l 0; have h1 := byt_lt l 1; have h2 := byt_lt l 2; have h3 := byt_lt l 3
  unfold raw Lib.decodeN
  repeat' split
  all_goals (refine ⟨?_, ?_, ?_, ?_⟩ <;> simp only <;> omega)

theorem dec_width {l : List UInt8} (h : 0 < l.length) {n k : Nat} (hd : dec l = some (n, k)) : 1 ≤ k ∧ k ≤ l.length ∧ isChar n = true := by
  have hw := raw_width l h
  unfold dec at hd
  split at hd
  · rename_i hg
    obtain ⟨rfl, rfl⟩ : (raw l).1 = n ∧ (raw l).2 = k := by
      have := Option.some.inj hd
      rw [this]; exact ⟨rfl, rfl⟩
    refine ⟨hw.1, hw.2.1, ?_⟩
    unfold good at hg
    simp only [Bool.and_eq_true] at hg
    exact hg.1
  · cases hd

theorem dec_char {l : List UInt8} {n k : Nat} (hd : dec l = some (n, k)) : n ≤ 65533 ∧ ¬ (n = 65533 ∧ k = 1) := by
  unfold dec at hd
  split at hd
  · rename_i hg
    obtain ⟨e1, e2⟩ : (raw l).1 = n ∧ (raw l).2 = k := by
      have := Option.some.inj hd
      rw [this]; exact ⟨rfl, rfl⟩
    unfold good at hg
    rw [e1, e2, Bool.and_eq_true, isChar_iff] at hg
    simp only [Bool.not_eq_true', Bool.and_eq_false_iff, beq_eq_false_iff_ne, ne_eq] at hg
    omega
  · cases hd

/-- The characters, with fuel. -/
def charsF : Nat → List UInt8 → Option (List Nat)
  | 0, l => if l.length = 0 then some [] else none
  | f + 1, l => if l.length = 0 then some [] else match dec l with
    | none => none
    | some (n, k) => match charsF f (l.drop k) with
      | none => none
      | some t => some (n :: t)

/-- The characters of a text; none if the bytes are no text. -/
def chars (l : List UInt8) : Option (List Nat) := charsF l.length l

theorem charsF_more (f : Nat) : ∀ (l : List UInt8) (g : Nat), l.length ≤ f → l.length ≤ g → charsF f l = charsF g l := by
  induction f with
  | zero =>
    intro l g h _
    have : l.length = 0 := by omega
    cases g <;> simp [charsF, this]
  | succ f ih =>
    intro l g h hg
    by_cases h0 : l.length = 0
    · cases g <;> simp [charsF, h0]
    · cases g with
      | zero => omega
      | succ g =>
        simp only [charsF, if_neg h0]
        cases hd : dec l with
        | none => rfl
        | some p =>
          obtain ⟨n, k⟩ := p
          have hw := dec_width (by omega) hd
          have e := ih (l.drop k) g (by simp; omega) (by simp; omega)
          simp only [e]

theorem chars_nil : chars [] = some [] := rfl

theorem chars_step {l : List UInt8} (h : 0 < l.length) {n k : Nat} (hd : dec l = some (n, k)) :
    chars l = match chars (l.drop k) with | none => none | some t => some (n :: t) := by
  have hw := dec_width h hd
  unfold chars
  obtain ⟨m, hm⟩ : ∃ m, l.length = m + 1 := ⟨l.length - 1, by omega⟩
  rw [hm]
  simp only [charsF, hd]
  rw [if_neg (by omega), charsF_more m (l.drop k) (l.drop k).length (by simp; omega) (Nat.le_refl _)]

theorem chars_none {l : List UInt8} (h : 0 < l.length) (hd : dec l = none) : chars l = none := by
  unfold chars
  obtain ⟨m, hm⟩ : ∃ m, l.length = m + 1 := ⟨l.length - 1, by omega⟩
  rw [hm]
  simp only [charsF, hd]
  rw [if_neg (by omega)]

theorem chars_some_step {l : List UInt8} (h : 0 < l.length) {cs : List Nat} (hc : chars l = some cs) :
    ∃ n k t, dec l = some (n, k) ∧ cs = n :: t ∧ chars (l.drop k) = some t := by
  cases hd : dec l with
  | none => rw [chars_none h hd] at hc; cases hc
  | some p =>
    obtain ⟨n, k⟩ := p
    rw [chars_step h hd] at hc
    cases ht : chars (l.drop k) with
    | none => rw [ht] at hc; cases hc
    | some t =>
      rw [ht] at hc
      exact ⟨n, k, t, rfl, (Option.some.inj hc).symm, ht⟩

theorem chars_len {l : List UInt8} : ∀ {cs : List Nat}, chars l = some cs → cs.length ≤ l.length ∧ ∀ c ∈ cs, isChar c = true := by
  generalize hm : l.length = m
  induction m using Nat.strongRecOn generalizing l with
  | ind m ih =>
    intro cs hc
    by_cases h : 0 < l.length
    · obtain ⟨n, k, t, hd, rfl, ht⟩ := chars_some_step h hc
      have hw := dec_width h hd
      have r := ih (l.length - k) (by omega) (l := l.drop k) (by simp) ht
      refine ⟨by simp; omega, ?_⟩
      intro c hcm
      rcases List.mem_cons.1 hcm with rfl | hcm
      · exact hw.2.2
      · exact r.2 c hcm
    · have : l = [] := List.eq_nil_of_length_eq_zero (by omega)
      subst this
      rw [chars_nil] at hc
      obtain rfl := Option.some.inj hc
      simp

/-- What Characters returns: the characters, and the error's number. -/
def charsR (l : List UInt8) : List Nat × Int := if 65536 < l.length then ([], 7) else match chars l with
  | none => ([], 3)
  | some cs => (cs, 0)

theorem charsR_long {l : List UInt8} (h : 65536 < l.length) : charsR l = ([], 7) := if_pos h
theorem charsR_none {l : List UInt8} (h : l.length ≤ 65536) (hc : chars l = none) : charsR l = ([], 3) := by
  unfold charsR
  rw [if_neg (by omega), hc]
theorem charsR_some {l : List UInt8} {cs : List Nat} (h : l.length ≤ 65536) (hc : chars l = some cs) : charsR l = (cs, 0) := by
  unfold charsR
  rw [if_neg (by omega), hc]

/-- Some characters have been read, the rest is still to be read. -/
def Read (l : List UInt8) (acc : List Nat) (rest : List UInt8) : Prop := chars l = match chars rest with
  | none => none
  | some t => some (acc ++ t)

theorem Read.start (l : List UInt8) : Read l [] l := by
  unfold Read
  cases chars l <;> rfl
theorem Read.step {l rest : List UInt8} {acc : List Nat} {n k : Nat} (h : Read l acc rest) (h0 : 0 < rest.length) (hd : dec rest = some (n, k)) : Read l (acc ++ [n]) (rest.drop k) := by
  unfold Read at h ⊢
  rw [h, chars_step h0 hd]
  cases chars (rest.drop k) with
  | none => rfl
  | some t => simp
theorem Read.fail {l rest : List UInt8} {acc : List Nat} (h : Read l acc rest) (h0 : 0 < rest.length) (hd : dec rest = none) : chars l = none := by
  unfold Read at h
  rw [h, chars_none h0 hd]
theorem Read.done {l rest : List UInt8} {acc : List Nat} (h : Read l acc rest) (h0 : rest.length = 0) : chars l = some acc := by
  unfold Read at h
  rw [h, List.eq_nil_of_length_eq_zero h0, chars_nil]
  simp

theorem fr_some {l : List UInt8} {n k : Nat} (h : dec l = some (n, k)) : (dec l).getD (0, 0) = (n, k) := by rw [h]; rfl

/-! ### the reference's way: sizes 1, 2, 3 in turn -/

/-- The number that the first k bytes would encode. -/
def num (l : List UInt8) (k : Nat) : Int :=
  if k = 1 then byt l 0
  else if k = 2 then ((byt l 0 : Int) - 192) * 64 + byt l 1 - 128
  else ((byt l 0 : Int) - 224) * 4096 + ((byt l 1 : Int) - 128) * 64 + byt l 2 - 128

/-- The bytes of a character, as numbers. -/
def encZ (n : Int) : List Int :=
  if n < 128 then [n] else if n < 2048 then [192 + n / 64, 128 + n % 64] else [224 + n / 4096, 128 + n / 64 % 64, 128 + n % 64]

/-- The first k bytes are those of a character. -/
def fits (l : List UInt8) (k : Nat) : Bool := decide (k ≤ l.length) && (isChar (num l k) && decide (encZ (num l k) = (l.take k).map fun b => (b.toNat : Int)))

theorem take_one (l : List UInt8) (h : 1 ≤ l.length) : (l.take 1).map (fun b => (b.toNat : Int)) = [(byt l 0 : Int)] := by
  match l, h with
  | a :: t, _ => simp [byt]
theorem take_two (l : List UInt8) (h : 2 ≤ l.length) : (l.take 2).map (fun b => (b.toNat : Int)) = [(byt l 0 : Int), byt l 1] := by
  match l, h with
  | a :: b :: t, _ => simp [byt]
theorem take_three (l : List UInt8) (h : 3 ≤ l.length) : (l.take 3).map (fun b => (b.toNat : Int)) = [(byt l 0 : Int), byt l 1, byt l 2] := by
  match l, h with
  | a :: b :: c :: t, _ => simp [byt]

theorem fits_one (l : List UInt8) : fits l 1 = true ↔ 1 ≤ l.length ∧ 32 ≤ byt l 0 ∧ byt l 0 < 128 := by
  by_cases hl : 1 ≤ l.length
  · unfold fits
    rw [take_one l hl]
    have e : num l 1 = byt l 0 := rfl
    rw [e]
    simp only [Bool.and_eq_true, decide_eq_true_eq, isChar_iff]
    have h0 := byt_lt l 0
    constructor
    · rintro ⟨_, h, h'⟩
      unfold encZ at h'
      split at h'
      · omega
      · split at h' <;> simp at h'
    · rintro ⟨_, a, b⟩
      refine ⟨hl, by omega, ?_⟩
      unfold encZ
      rw [if_pos (by omega)]
  · simp [fits, hl]

theorem fits_two (l : List UInt8) : fits l 2 = true ↔ 2 ≤ l.length ∧ 194 ≤ byt l 0 ∧ byt l 0 < 224 ∧ 128 ≤ byt l 1 ∧ byt l 1 < 192 := by
  by_cases hl : 2 ≤ l.length
  · unfold fits
    rw [take_two l hl]
    have e : num l 2 = ((byt l 0 : Int) - 192) * 64 + byt l 1 - 128 := rfl
    rw [e]
    simp only [Bool.and_eq_true, decide_eq_true_eq, isChar_iff]
    have h0 := byt_lt l 0; have h1 := byt_lt l 1
    constructor
    · rintro ⟨_, h, h'⟩
      unfold encZ at h'
      split at h'
      · simp at h'
      · split at h'
        · simp only [List.cons.injEq, and_true] at h'; omega
        · simp at h'
    · rintro ⟨_, a, b, c, d⟩
      refine ⟨hl, by omega, ?_⟩
      unfold encZ
      rw [if_neg (by omega), if_pos (by omega)]
      simp only [List.cons.injEq, and_true]
      omega
  · simp [fits, hl]

theorem fits_three (l : List UInt8) : fits l 3 = true ↔ 3 ≤ l.length ∧ 224 ≤ byt l 0 ∧ byt l 0 < 240 ∧ 128 ≤ byt l 1 ∧ byt l 1 < 192 ∧ 128 ≤ byt l 2 ∧ byt l 2 < 192 ∧ 2048 ≤ num l 3 ∧ isChar (num l 3) = true := by
  by_cases hl : 3 ≤ l.length
  · unfold fits
    rw [take_three l hl]
    have e : num l 3 = ((byt l 0 : Int) - 224) * 4096 + ((byt l 1 : Int) - 128) * 64 + byt l 2 - 128 := rfl
    rw [e]
    simp only [Bool.and_eq_true, decide_eq_true_eq, isChar_iff]
    have h0 := byt_lt l 0; have h1 := byt_lt l 1; have h2 := byt_lt l 2
    constructor
    · rintro ⟨_, h, h'⟩
      unfold encZ at h'
      split at h'
      · simp at h'
      · split at h'
        · simp at h'
        · simp only [List.cons.injEq, and_true] at h'; omega
    · rintro ⟨_, a, b, c, d, x, y, z, i⟩
      refine ⟨hl, by omega, ?_⟩
      unfold encZ
      rw [if_neg (by omega), if_neg (by omega)]
      simp only [List.cons.injEq, and_true]
      omega
  · simp [fits, hl]

/-- The reference's way gives what the decoder gives. -/
theorem dec_fits (l : List UInt8) (h : 0 < l.length) :
    dec l = if fits l 1 then some ((num l 1).toNat, 1) else if fits l 2 then some ((num l 2).toNat, 2) else if fits l 3 then some ((num l 3).toNat, 3) else none := by
  have h0 := byt_lt l 0; have h1 := byt_lt l 1; have h2 := byt_lt l 2; have h3 := byt_lt l 3
  have f1 := fits_one l; have f2 := fits_two l; have f3 := fits_three l
  have e1 : num l 1 = byt l 0 := rfl
  have e2 : num l 2 = ((byt l 0 : Int) - 192) * 64 + byt l 1 - 128 := rfl
  have e3 : num l 3 = ((byt l 0 : Int) - 224) * 4096 + ((byt l 1 : Int) - 128) * 64 + byt l 2 - 128 := rfl
  have key : ∀ (r : Nat × Nat), raw l = r → (if good r then some r else none) = if fits l 1 then some ((num l 1).toNat, 1) else if fits l 2 then some ((num l 2).toNat, 2) else if fits l 3 then some ((num l 3).toNat, 3) else none := by
    intro r hr
    have g1 : good r = true ↔ (32 ≤ r.1 ∧ r.1 ≤ 65533 ∧ (r.1 < 55296 ∨ 57343 < r.1)) ∧ ¬ (r.1 = 65533 ∧ r.2 = 1) := by
      unfold good
      rw [Bool.and_eq_true, isChar_iff]
      simp only [Bool.not_eq_true', Bool.and_eq_false_iff, beq_eq_false_iff_ne, ne_eq]
      omega
    rw [isChar_iff] at f3
    unfold raw Lib.decodeN at hr
    by_cases c1 : fits l 1 = true
    · have := f1.1 c1
      rw [if_pos c1]
      rw [if_pos (by omega)] at hr
      subst hr
      rw [if_pos (g1.2 (by simp only; omega)), e1]
      simp
    · rw [if_neg c1]
      by_cases c2 : fits l 2 = true
      · have := f2.1 c2
        rw [if_pos c2]
        rw [if_neg (by omega), if_pos (by omega), if_pos (by omega)] at hr
        subst hr
        rw [if_pos (g1.2 (by simp only; omega)), e2]
        congr 2
        omega
      · rw [if_neg c2]
        by_cases c3 : fits l 3 = true
        · have := f3.1 c3
          rw [if_pos c3]
          rw [if_neg (by omega), if_neg (by omega), if_pos (by omega), if_pos (by omega)] at hr
          subst hr
          rw [if_pos (g1.2 (by simp only; omega)), e3]
          congr 2
          omega
        · rw [if_neg c3, if_neg]
          intro hg
          have hg := g1.1 hg
          revert hr
          repeat' split
          all_goals (rintro rfl; simp only at hg)
          all_goals first
            | (apply c1; apply f1.2; omega)
            | (apply c2; apply f2.2; omega)
            | (apply c3; apply f3.2; omega)
            | exact hg.2 (by simp)
            | (simp at hg; done)
            | omega
  exact key _ rfl
/-- What the reference's 'first' returns. -/
def fr (l : List UInt8) : Nat × Nat := (dec l).getD (0, 0)

/-- The bytes of a number that is a character. -/
def enc (n : Int) : List UInt8 := (encZ n).map fun x => UInt8.ofNat x.toNat

theorem encZ_byte (n : Int) (h0 : 0 ≤ n) (h1 : n ≤ 65535) : ∀ x ∈ encZ n, 0 ≤ x ∧ x < 256 := by
  intro x hx
  unfold encZ at hx
  split at hx
  · simp at hx; omega
  · split at hx
    · simp at hx; omega
    · simp at hx; omega

theorem enc_toNat (n : Int) (h0 : 0 ≤ n) (h1 : n ≤ 65535) : (enc n).map (fun b => (b.toNat : Int)) = encZ n := by
  unfold enc
  rw [List.map_map]
  have e : ∀ x ∈ encZ n, ((fun (b : UInt8) => (b.toNat : Int)) ∘ fun x => UInt8.ofNat x.toNat) x = id x := by
    intro x hx
    obtain ⟨a, b⟩ := encZ_byte n h0 h1 x hx
    show ((UInt8.ofNat x.toNat).toNat : Int) = x
    rw [UInt8.toNat_ofNat']
    omega
  rw [List.map_congr_left e, List.map_id]

theorem bytes_inj {a b : List UInt8} : a.map (fun b => (b.toNat : Int)) = b.map (fun b => (b.toNat : Int)) ↔ a = b := by
  constructor
  · intro h
    induction a generalizing b with
    | nil => cases b with
      | nil => rfl
      | cons y b => simp at h
    | cons x a ih => cases b with
      | nil => simp at h
      | cons y b =>
        simp only [List.map_cons, List.cons.injEq] at h
        rw [UInt8.toNat_inj.1 (show x.toNat = y.toNat by omega), ih h.2]
  · rintro rfl; rfl

/-- What the reference tests of the first k bytes. -/
theorem fits_eq (l : List UInt8) (k : Nat) (hk : k ≤ l.length) (hc : isChar (num l k) = true) : fits l k = decide (enc (num l k) = l.take k) := by
  have h := (isChar_iff _).1 hc
  unfold fits
  rw [hc]
  simp only [hk, decide_true, Bool.true_and]
  rw [← enc_toNat (num l k) (by omega) (by omega)]
  exact decide_eq_decide.2 bytes_inj

theorem fits_no (l : List UInt8) (k : Nat) (hc : isChar (num l k) = false) : fits l k = false := by
  unfold fits
  rw [hc]
  simp
theorem fr_of (l : List UInt8) (h : 0 < l.length) (k : Nat) (h1 : 1 ≤ k) (h3 : k ≤ 3) (hno : ∀ j, 1 ≤ j → j < k → fits l j = false) (hf : fits l k = true) : fr l = ((num l k).toNat, k) := by
  have hd := dec_fits l h
  unfold fr
  rw [hd]
  have hk : k = 1 ∨ k = 2 ∨ k = 3 := by omega
  rcases hk with rfl | rfl | rfl
  · rw [if_pos hf]; rfl
  · rw [if_neg (by rw [hno 1 (by omega) (by omega)]; simp), if_pos hf]; rfl
  · rw [if_neg (by rw [hno 1 (by omega) (by omega)]; simp), if_neg (by rw [hno 2 (by omega) (by omega)]; simp), if_pos hf]; rfl

theorem fr_none (l : List UInt8) (h : 0 < l.length) (hno : ∀ j, 1 ≤ j → j ≤ 3 → fits l j = false) : fr l = (0, 0) := by
  have hd := dec_fits l h
  unfold fr
  rw [hd, if_neg (by rw [hno 1 (by omega) (by omega)]; simp), if_neg (by rw [hno 2 (by omega) (by omega)]; simp), if_neg (by rw [hno 3 (by omega) (by omega)]; simp)]
  rfl

/-- The text with some characters, and the error's number. -/
def textR (zs : List Int) : List UInt8 × Int := if 21845 < zs.length then ([], 7) else if zs.all isChar then (zs.flatMap enc, 0) else ([], 2)
theorem textR_long {zs : List Int} (h : 21845 < zs.length) : textR zs = ([], 7) := if_pos h
theorem textR_ok {zs : List Int} (h : zs.length ≤ 21845) (ha : zs.all isChar = true) : textR zs = (zs.flatMap enc, 0) := by
  unfold textR
  rw [if_neg (by omega), if_pos ha]
theorem textR_no {zs : List Int} (h : zs.length ≤ 21845) {j : Nat} (hj : j < zs.length) (hc : isChar (zs.getD j 0) = false) : textR zs = ([], 2) := by
  unfold textR
  rw [if_neg (by omega), if_neg]
  intro ha
  have := List.all_eq_true.1 ha (zs.getD j 0) (by simp [List.getD, hj])
  rw [hc] at this
  cases this
theorem all_take {zs : List Int} {j : Nat} (hj : j < zs.length) (h : (zs.take j).all isChar = true) (hc : isChar (zs.getD j 0) = true) : (zs.take (j + 1)).all isChar = true := by
  rw [List.take_succ_eq_append_getElem hj, List.all_append, h]
  simpa [List.getD, hj] using hc
theorem flat_take {zs : List Int} {j : Nat} (hj : j < zs.length) : (zs.take (j + 1)).flatMap enc = (zs.take j).flatMap enc ++ enc (zs.getD j 0) := by
  rw [List.take_succ_eq_append_getElem hj, List.flatMap_append]
  simp [List.getD, hj]
theorem enc_len (n : Int) : (enc n).length ≤ 3 := by
  unfold enc encZ
  repeat' split
  all_goals simp
theorem flat_len (zs : List Int) : (zs.flatMap enc).length ≤ 3 * zs.length := by
  induction zs with
  | nil => simp
  | cons a t ih =>
    have := enc_len a
    simp only [List.flatMap_cons, List.length_append, List.length_cons]
    omega

theorem fits_long (l : List UInt8) (k : Nat) (h : l.length < k) : fits l k = false := by
  unfold fits
  simp; omega
end Cs
end Go.Proofs.YthkppbimkjmbnaaGreatDoor

/-
  More small lemmas over the model: strings out of owned rows of bytes.
-/
namespace Go.Proofs.YthkppbimkjmbnaaGreatDoor
open Go.RowKit
namespace Kit

theorem str_own {w : World} {base n : Nat} {v : Value} {l : List UInt8} (h : w.ownsRow base 5 1 v n (bytes l)) : (convert 126 9 v).run Tryz.prog w = .ok (.string ⟨l.toArray⟩) w := by
  have hn : n = l.length := by simpa [bytes] using h.1.symm
  subst hn
  exact str_of_own Tryz.underlying126 Tryz.underlying5 Tryz.underlying9 h

/-- The string of one byte that has just been laid. -/
theorem str_one (W : World) (x : Int) (h0 : 0 ≤ x) (h1 : x < 256) : (convert 126 9 (.slice (some ⟨W.heap.size, 0, none⟩) 1 1)).run Tryz.prog (W.alloc (.cells #[.int .u8 x] 5)) = .ok (.string ⟨#[UInt8.ofNat x.toNat]⟩) (W.alloc (.cells #[.int .u8 x] 5)) :=
  str_new (P := Tryz.prog) W 126 9 5 [x] 1 Tryz.underlying126 Tryz.underlying5 Tryz.underlying9 (by simp; omega) rfl

theorem own_nil (w : World) (e : Nat) : (w.alloc (.cells #[] e)).ownsRow w.heap.size e 1 (.slice (some ⟨w.heap.size, 0, none⟩) 0 0) 0 [] := by
  have := own_new w e [] (by simp [maxLen])
  simpa using this
theorem own_empty (w : World) (e : Nat) : (w.alloc (.cells #[] e)).ownsRow w.heap.size e 1 (.slice (some ⟨w.heap.size, 0, none⟩) 0 0) 0 (bytes []) := own_nil w e
theorem byt_get (s : ByteArray) (i : Nat) (h : i < s.size) : (s[i]'h).toNat = Cs.byt s.data.toList i := by
  unfold Cs.byt
  have h' : i < s.data.size := h
  simp only [List.getD, Array.getElem?_toList, Array.getElem?_eq_getElem h']
  rfl
theorem len_size (s : ByteArray) : s.data.toList.length = s.size := by simp
theorem not_empty (s : ByteArray) (h : 0 < s.size) : s.toList.isEmpty = false := by
  rw [Lib.toList_data]
  cases hs : s.data.toList with
  | nil => have := len_size s; rw [hs] at this; simp at this; omega
  | cons _ _ => rfl
theorem is_empty (s : ByteArray) (h : s.size = 0) : s.toList.isEmpty = true := by
  have hs : s.data.toList = [] := List.eq_nil_of_length_eq_zero (by rw [len_size]; exact h)
  rw [Lib.toList_data, hs]
  rfl
theorem append_mk (a b : List UInt8) : (⟨a.toArray⟩ : ByteArray) ++ ⟨b.toArray⟩ = ⟨(a ++ b).toArray⟩ := by
  apply ByteArray.ext
  simp [ByteArray.data_append]
set_option maxRecDepth 100000 in
/-- '[]byte(s)': a new row with the bytes of s. -/
theorem str_bytes (w : World) (s : ByteArray) : ∃ cap W', (convert 9 126 (.string s)).run Tryz.prog w = .ok (.slice (some ⟨w.heap.size, 0, none⟩) s.size cap) W' ∧ Below w.heap.size w W' ∧ W'.heap.size = w.heap.size + 1 ∧
    s.size ≤ cap ∧ ∀ j, j < s.size → W'.cell? ⟨w.heap.size, j, none⟩ = some (.int .u8 (Cs.byt s.data.toList j : Nat)) := by
  have h := run_bytes_of_string (P := Tryz.prog) w 9 126 5 s Tryz.underlying9 Tryz.underlying126 Tryz.underlying5
  refine ⟨_, _, h, ?_, ?_, grownCap_ge w _ _ _, ?_⟩
  · exact ((Below.refl _ w).drew).alloc (Nat.le_refl _) _
  · simp
  · intro j hj
    have hj' : j < s.data.size := hj
    rw [show w.heap.size = w.drew.heap.size from rfl, World.cell?_alloc_mark, bytesRow_at _ _ _ hj']
    congr 3
    unfold Cs.byt
    simp only [List.getD, Array.getElem?_toList, Array.getElem?_eq_getElem hj', Option.getD_some]

theorem builder_below {T e B b : Nat} {bs : List Value} {w w' : World} (h : Lib.IsBuilderF T e B b bs w) (hb : Below w.heap.size w w') : Lib.IsBuilderF T e B b bs w' := by
  have one : ∀ p, Lib.BuilderAtF T e B b p bs w → Lib.BuilderAtF T e B b p bs w' := by
    intro p h
    have hlt := h.lt
    obtain ⟨hB, v, hbk, hown, hne⟩ := h
    refine ⟨hB, v, (hb.block b hlt).trans hbk, hown.kept (grown_of_below hb) ?_, hne⟩
    cases hv : v.ownBlock <;> simp
  exact h.imp (one _) (one _)
theorem or8 (x y : Int) (hx0 : 0 ≤ x) (hx : x % 256 = 0) (hx1 : x < 2147483648) (h0 : 0 ≤ y) (h1 : y < 256) : bits .or .i32 x y = x + y :=
  bits_join .i32 31 (by decide) wraps_i32 8 x y hx0 hx hx1 h0 h1 (by omega)
/-- The string of one byte that stands in a cell. -/
theorem str_cell {W : World} {g : Nat} {x : Int} (h0 : 0 ≤ x) (h1 : x < 256) (hc : W.cell? ⟨g, 0, none⟩ = some (.int .u8 x)) : (convert 126 9 (.slice (some ⟨g, 0, none⟩) 1 1)).run Tryz.prog W = .ok (.string ⟨#[UInt8.ofNat x.toNat]⟩) W := by
  have h := run_convert_bytes_back (P := Tryz.prog) W 126 9 5 ⟨g, 0, none⟩ 1 [UInt8.ofNat x.toNat] Tryz.underlying126 Tryz.underlying5 Tryz.underlying9 (fun j hj => by
    have hj0 : j = 0 := by simpa using hj
    subst hj0
    rw [Addr.add_lit, Nat.add_zero, hc]
    simp only [List.getElem_cons_zero]
    congr 2
    rw [UInt8.toNat_ofNat']
    omega)
  exact h
end Kit
end Go.Proofs.YthkppbimkjmbnaaGreatDoor

/-
  The rows of the table for int and byte.
-/
namespace Go.Proofs.YthkppbimkjmbnaaGreatDoor
open Go.RowKit
theorem intInfo : (Tryz.prog.info? 3).map (fun i => (i.zero, i.size, i.bytes)) = some (some (.int .i64 0), 1, 8) := by kernel_rfl
theorem byteInfo : (Tryz.prog.info? 5).map (fun i => (i.zero, i.size, i.bytes)) = some (some (.int .u8 0), 1, 1) := by kernel_rfl
end Go.Proofs.YthkppbimkjmbnaaGreatDoor
