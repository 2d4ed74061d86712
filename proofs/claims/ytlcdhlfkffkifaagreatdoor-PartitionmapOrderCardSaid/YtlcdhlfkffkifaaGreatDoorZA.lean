/-
  Small lemmas over the model for this seat's walks: what stays behind 'Below', owned rows of cells, and rows that a slice value shows.
-/
import Derived.Test.YtlcdhlfkffkifaaGreatDoorProg
import Derived.WalkKit
import Derived.Lib.Hide
import Derived.Shelf.Unicode.DecodeSlow
import Derived.BigQuiet
import Derived.Deep.QuietTactic
import Derived.WalkSpells
import Derived.WalkLawsBesides
import Derived.Handy
import Derived.Lib.AppendStr
import Derived.Lib.DecodeN
import Derived.Lib.RuneBytes
import Derived.Lib.FrozenHead
import Derived.Laws.AppendOwnNone
import Derived.Lib.IndexMore
import Derived.Lib.TrimByte
import Derived.Deep.RegionLaw
namespace Go.Proofs.YtlcdhlfkffkifaaGreatDoor
open Go.RowKit
namespace Kit

/-- Numbers as cells of type int. -/
def ints (l : List Nat) : List Value := l.map fun (c : Nat) => Value.int .i64 (c : Int)
theorem ints_length (l : List Nat) : (ints l).length = l.length := by simp [ints]
theorem ints_append (l m : List Nat) : ints (l ++ m) = ints l ++ ints m := by simp [ints]
/-- Bytes as cells. -/
def bytes (l : List UInt8) : List Value := l.map fun (b : UInt8) => Value.int .u8 (b.toNat : Int)
theorem bytes_length (l : List UInt8) : (bytes l).length = l.length := by simp [bytes]
theorem bytes_append (l m : List UInt8) : bytes (l ++ m) = bytes l ++ bytes m := by simp [bytes]

/-- The length of a string in a slot: for a loop's measure. -/
def strLen : Value → Nat | .string s => s.size | _ => 0

theorem ret_tuple2 {a a' b b' : Value} (h : a = a') (h' : b = b') : Ending.returned (.tuple #[a, b]) = .returned (.tuple #[a', b']) := by rw [h, h']

theorem tabs_below {a b : Nat} {w w' : World} (h : Lib.Utf8Tabs a b w) (hb : Below w.heap.size w w') : Lib.Utf8Tabs a b w' := by
  refine ⟨fun c hc => ?_, fun i hi => ⟨?_, ?_⟩⟩
  · rw [hb.cell (World.block_lt_of_cell? _ _ (h.1 c hc))]; exact h.1 c hc
  · rw [hb.cell (World.block_lt_of_cell? _ _ (h.2 i hi).1)]; exact (h.2 i hi).1
  · rw [hb.cell (World.block_lt_of_cell? _ _ (h.2 i hi).2)]; exact (h.2 i hi).2

theorem tabs_drewN {a b n : Nat} {w : World} (h : Lib.Utf8Tabs a b w) : Lib.Utf8Tabs a b (w.drewN n) := h

/-- Old cells and old marks read as before. -/
theorem bcell {W w1 : World} (hb : Below W.heap.size W w1) : (∀ b o, b < W.heap.size → w1.cell? ⟨b, o, none⟩ = W.cell? ⟨b, o, none⟩) ∧ (∀ b o, b < W.heap.size → w1.frozen? ⟨b, o, none⟩ = W.frozen? ⟨b, o, none⟩) :=
  ⟨fun b o h => hb.cell (p := ⟨b, o, none⟩) h, fun b o h => hb.frozen (p := ⟨b, o, none⟩) h⟩

theorem grown_of_below {w w' : World} (h : Below w.heap.size w w') : w.grownBy w' none :=
  ⟨h.os, h.tape, h.output, h.size, fun k hk _ => h.block k hk⟩

/-- A row that a call has made is not touched by what leaves old memory alone. -/
theorem own_below {w w' : World} {base e size n : Nat} {v : Value} {xs : List Value} (h : w.ownsRow base e size v n xs) (hb : Below w.heap.size w w') : w'.ownsRow base e size v n xs :=
  h.kept (grown_of_below hb) (by cases hv : v.ownBlock <;> simp)

theorem own_base {w : World} {B B' e size n : Nat} {v : Value} {xs : List Value} (h : w.ownsRow B' e size v n xs) (hB : B ≤ B') : w.ownsRow B e size v n xs :=
  ⟨h.1, h.2.imp id (fun ⟨g, cap, cur, a, b, c⟩ => ⟨g, cap, cur, a, Nat.le_trans hB b, c⟩)⟩

theorem below_drewN {B : Nat} {w : World} (n : Nat) : Below B w (w.drewN n) := ⟨rfl, rfl, rfl, Nat.le_refl _, fun _ _ => rfl⟩
theorem Below.drewN {B : Nat} {a w : World} (h : Below B a w) (n : Nat) : Below B a (w.drewN n) := h.trans (below_drewN n)

theorem cell_one_new (w : World) (x : Value) (t : TypeId) : ∀ j u, [x][j]? = some u → (w.alloc (.cells #[x] t)).cell? ((⟨w.heap.size, 0, none⟩ : Addr).add j) = some u := by
  intro j u hj
  match j, hj with
  | 0, hj => simp at hj; subst hj; simp [Addr.add]
  | (j + 1), hj => simp at hj
theorem cell_two_new (w : World) (x y : Value) (t : TypeId) : ∀ j u, [x, y][j]? = some u → (w.alloc (.cells #[x, y] t)).cell? ((⟨w.heap.size, 0, none⟩ : Addr).add j) = some u := by
  intro j u hj
  match j, hj with
  | 0, hj => simp at hj; subst hj; simp [Addr.add]
  | 1, hj => simp at hj; subst hj; simp [Addr.add]
  | (j + 2), hj => simp at hj
theorem one_i64 (l : List Nat) : ∀ u ∈ ints l, u.oneCell' = true := by
  intro u hu
  obtain ⟨_, _, rfl⟩ := List.mem_map.1 hu
  rfl
theorem one_u8 (l : List UInt8) : ∀ u ∈ bytes l, u.oneCell' = true := by
  intro u hu
  obtain ⟨_, _, rfl⟩ := List.mem_map.1 hu
  rfl

/-- A slice value that reads as the cells xs. -/
def Row (w : World) (v : Value) (xs : List Value) : Prop := ∃ A c, v = .slice A xs.length c ∧ xs.length ≤ c ∧ c ≤ maxLen ∧
  (0 < xs.length → ∃ b o, A = some ⟨b, o, none⟩ ∧ b < w.heap.size ∧ ∀ j u, xs[j]? = some u → w.cell? ⟨b, o + j, none⟩ = some u)

theorem Row.below {w w' : World} {v : Value} {xs : List Value} (h : Row w v xs) (hb : Below w.heap.size w w') : Row w' v xs := by
  obtain ⟨A, c, rfl, h1, h2, h3⟩ := h
  refine ⟨A, c, rfl, h1, h2, fun h0 => ?_⟩
  obtain ⟨b, o, rfl, hl, hc⟩ := h3 h0
  exact ⟨b, o, rfl, Nat.lt_of_lt_of_le hl hb.size, fun j u hu => (hb.cell (p := ⟨b, o + j, none⟩) hl).trans (hc j u hu)⟩

theorem Row.of_own {w : World} {base e n : Nat} {v : Value} {xs : List Value} (h : w.ownsRow base e 1 v n xs) : Row w v xs := by
  have hl : xs.length = n := by simpa using h.1
  rcases h.2 with ⟨rfl, h0⟩ | ⟨g, cap, cur, rfl, _, hg, hnc, hcm, _, _⟩
  · exact ⟨none, 0, by rw [hl, h0], by omega, by unfold maxLen; omega, fun h' => by omega⟩
  · refine ⟨some ⟨g, 0, none⟩, cap, by rw [hl], by omega, hcm, fun _ => ⟨g, 0, rfl, (Array.getElem?_eq_some_iff.1 hg).1, fun j u hu => ?_⟩⟩
    have := h.cells (g := g) rfl j u hu
    rwa [Addr.add_lit] at this

/-- Numbers as cells of type int. -/
def izs (l : List Int) : List Value := l.map (Value.int .i64)
theorem izs_length (l : List Int) : (izs l).length = l.length := by simp [izs]
theorem ints_izs (l : List Nat) : ints l = izs (l.map fun (n : Nat) => (n : Int)) := by simp [ints, izs]
theorem Row.at_izs {w : World} {v : Value} {zs : List Int} (h : Row w v (izs zs)) {j : Nat} (hj : j < zs.length) : ∃ b o c, v = .slice (some ⟨b, o, none⟩) zs.length c ∧ b < w.heap.size ∧ w.cell? ⟨b, o + j, none⟩ = some (.int .i64 (zs.getD j 0)) := by
  obtain ⟨A, c, rfl, h1, h2, h3⟩ := h
  rw [izs_length] at h1 h3 ⊢
  obtain ⟨b, o, rfl, hl, hc⟩ := h3 (by omega)
  exact ⟨b, o, c, rfl, hl, hc j _ (by simp [izs, List.getD, hj])⟩

/-- 'append(v, x, ..)' onto a row of the call's own: what is appended has just been laid. -/
theorem push {P : Program} {W : World} {ops : Array Oper} {rest : List Oper} {o : Oper} {a : Act} {Q : Exit → Act → World → Prop} (hgd : o.guard = none) (s x : Operand) (t : TypeId)
    (ho : o.op = .call { callee := .builtin .append, args := #[s, x], argTypes := #[t, t] })
    (base : Nat) (e : TypeId) (i : TypeInfo) (z : Value) (bytes : Nat) (ht : P.underlying t = some (.slice e)) (hi : P.info? e = some i) (hz : i.zero = some z)
    (hsize : i.size = 1) (hby : i.bytes = bytes) (hzs : z.cells.size = 1)
    (v : Value) (n : Nat) (xs : List Value) (hs : a.eval s = v) (hown : W.ownsRow base e 1 v n xs)
    (news : List Value) (m c : Nat) (hx : a.eval x = .slice (some ⟨W.heap.size, 0, none⟩) m c) (hm : news.length = m) (h1 : ∀ u ∈ news, u.oneCell' = true)
    (h63 : n + m ≤ maxLen) (hbytes : (n + m) * bytes ≤ 140737488355328) (hbase : base ≤ W.heap.size)
    (h : ∀ v' w', w'.ownsRow base e 1 v' (n + m) (xs ++ news) → Below base W w' → wpList P ops Q rest (a.put o.dst v') w') :
    wpList P ops Q (o :: rest) a (W.alloc (.cells news.toArray e)) := by
  refine wpList_append_own _ hgd s x t ho base e i z 1 bytes ht hi hz hsize hby hzs (by decide) v n xs hs (hown.alloc _) ⟨W.heap.size, 0, none⟩ m c news hx (by omega) ?_ h1 h63 hbytes (by simp; omega) ?_
  · intro j u hu
    rw [Addr.add_lit, World.cell?_alloc_at _ _ _ _ (by simp)]
    simpa using hu
  · intro v' w' ho' hg _
    refine h v' w' ho' ?_
    exact ((Below.refl base W).alloc hbase _).grown hg (by simp; omega) (fun k hk => (hown.lt k hk).1)
/-- The string of a row of bytes that the call owns. -/
theorem str_of_own {P : Program} {w : World} {src dst e base : Nat} {v : Value} {l : List UInt8} (hs : P.underlying src = some (.slice e)) (he : P.underlying e = some (.int .u8)) (hd : P.underlying dst = some .string)
    (h : w.ownsRow base e 1 v l.length (bytes l)) : (convert src dst v).run P w = .ok (.string ⟨l.toArray⟩) w := by
  rcases h.2 with ⟨rfl, h0⟩ | ⟨g, cap, cur, rfl, _, hg, _, _, _, htake⟩
  · have : l = [] := List.eq_nil_of_length_eq_zero h0
    subst this
    rw [run_convert_bytes_nil w src e hs he 0 0 dst hd]
    rfl
  · refine run_convert_bytes_back w src dst e _ cap l hs he hd fun j hj => ?_
    exact h.cells (g := g) rfl j _ (by simp [bytes, hj])

theorem strCells_eq (s : ByteArray) : Lib.strCells s = bytes s.data.toList := rfl

/-- A row that has just been laid is owned. -/
theorem own_new (w : World) (e : TypeId) (xs : List Value) (h : xs.length ≤ maxLen) : (w.alloc (.cells xs.toArray e)).ownsRow w.heap.size e 1 (.slice (some ⟨w.heap.size, 0, none⟩) xs.length xs.length) xs.length xs :=
  ⟨by simp, .inr ⟨w.heap.size, xs.length, xs.toArray, rfl, Nat.le_refl _, heap_alloc_new w _, Nat.le_refl _, h, by simp, by simp⟩⟩

theorem bytes_of (x : Int) (h0 : 0 ≤ x) (h1 : x < 256) : bytes [UInt8.ofNat x.toNat] = [Value.int .u8 x] := by
  have : (UInt8.ofNat x.toNat).toNat = x.toNat := by
    rw [UInt8.toNat_ofNat']; omega
  simp [bytes, this]; omega

/-- The string of one, two, three bytes that have just been laid. -/
theorem str_new {P : Program} (W : World) (src dst e : Nat) (l : List Int) (n : Nat) (hs : P.underlying src = some (.slice e)) (he : P.underlying e = some (.int .u8)) (hd : P.underlying dst = some .string)
    (hl : ∀ x ∈ l, 0 ≤ x ∧ x < 256) (hn : l.length = n) : (convert src dst (.slice (some ⟨W.heap.size, 0, none⟩) n n)).run P (W.alloc (.cells (l.map (Value.int .u8)).toArray e)) = .ok (.string ⟨(l.map fun x => UInt8.ofNat x.toNat).toArray⟩) (W.alloc (.cells (l.map (Value.int .u8)).toArray e)) := by
  subst hn
  have := run_convert_bytes_back (P := P) (W.alloc (.cells (l.map (Value.int .u8)).toArray e)) src dst e ⟨W.heap.size, 0, none⟩ l.length (l.map fun x => UInt8.ofNat x.toNat) hs he hd (fun j hj => by
    have hj' : j < l.length := by simpa using hj
    obtain ⟨a, b⟩ := hl l[j] (List.getElem_mem _)
    rw [Addr.add_lit, World.cell?_alloc_at _ _ _ _ (by simp)]
    simp only [Nat.zero_add, List.getElem?_toArray, List.getElem?_map, List.getElem?_eq_getElem hj', Option.map_some, List.getElem_map]
    congr 2
    rw [UInt8.toNat_ofNat']
    omega)
  simpa using this
/-- As 'push', the element type's row of the table as one fact. -/
theorem app {P : Program} {W : World} {ops : Array Oper} {rest : List Oper} {o : Oper} {a : Act} {Q : Exit → Act → World → Prop} {e : TypeId} {z : Value} {by8 : Nat}
    (hinfo : (P.info? e).map (fun i => (i.zero, i.size, i.bytes)) = some (some z, 1, by8)) (hzs : z.cells.size = 1) (hb1 : 1 ≤ by8) (hgd : o.guard = none) (s x : Operand) (t : TypeId)
    (ho : o.op = .call { callee := .builtin .append, args := #[s, x], argTypes := #[t, t] }) (ht : P.underlying t = some (.slice e)) (base : Nat)
    (v : Value) (n : Nat) (xs : List Value) (hs : a.eval s = v) (hown : W.ownsRow base e 1 v n xs)
    (news : List Value) (m c : Nat) (hx : a.eval x = .slice (some ⟨W.heap.size, 0, none⟩) m c) (hm : news.length = m) (h1 : ∀ u ∈ news, u.oneCell' = true)
    (hbytes : (n + m) * by8 ≤ 140737488355328) (hbase : base ≤ W.heap.size)
    (h : ∀ v' w', w'.ownsRow base e 1 v' (n + m) (xs ++ news) → Below base W w' → wpList P ops Q rest (a.put o.dst v') w') :
    wpList P ops Q (o :: rest) a (W.alloc (.cells news.toArray e)) := by
  obtain ⟨i, hi, hz0, hz1, hz2⟩ := info_parts hinfo
  have hnm : n + m ≤ 140737488355328 := Nat.le_trans (Nat.le_mul_of_pos_right _ hb1) hbytes
  exact push hgd s x t ho base e i z by8 ht hi hz0 hz1 hz2 hzs v n xs hs hown news m c hx hm h1 (by unfold maxLen; omega) hbytes hbase h

theorem one1 {a : Value} (ha : a.oneCell' = true) : ∀ u ∈ [a], u.oneCell' = true := by
  intro u hu; simp at hu; rw [hu]; exact ha
theorem one_u8s : ∀ (l : List Int), ∀ u ∈ l.map (Value.int .u8), u.oneCell' = true := by
  intro l u hu
  obtain ⟨_, _, rfl⟩ := List.mem_map.1 hu
  rfl

/-- One byte more. -/
theorem snoc_byte {w : World} {base e : Nat} {v : Value} {l : List UInt8} {n : Nat} {x : Int} (h : w.ownsRow base e 1 v n (bytes l ++ [.int .u8 x])) (h0 : 0 ≤ x) (h1 : x < 256) : w.ownsRow base e 1 v n (bytes (l ++ [UInt8.ofNat x.toNat])) := by
  rw [bytes_append, bytes_of x h0 h1]
  exact h
end Kit
end Go.Proofs.YtlcdhlfkffkifaaGreatDoor

/-
  Plain facts about texts: what a character is, how the first character of a list of bytes is read, the list of the characters of a text, and its bytes. No program in it.
-/
namespace Go.Proofs.YtlcdhlfkffkifaaGreatDoor
namespace Cs

/-- A character's number. -/
def isChar (n : Int) : Bool := decide (32 ≤ n) && decide (n ≤ 65533) && (decide (n < 55296) || decide (57343 < n))

theorem isChar_iff (n : Int) : isChar n = true ↔ 32 ≤ n ∧ n ≤ 65533 ∧ (n < 55296 ∨ 57343 < n) := by
  simp [isChar, and_assoc]

theorem isChar_false (n : Int) : isChar n = false ↔ ¬ (32 ≤ n ∧ n ≤ 65533 ∧ (n < 55296 ∨ 57343 < n)) := by
  rw [← isChar_iff]; simp

/-- Byte number i of a list, 0 beyond its end. -/
def byt (l : List UInt8) (i : Nat) : Nat := (l.getD i 0).toNat
theorem byt_lt (l : List UInt8) (i : Nat) : byt l i < 256 := UInt8.toNat_lt _

/-- What Go's decoder says of the first bytes. -/
def raw (l : List UInt8) : Nat × Nat := Lib.decodeN l.length (byt l 0) (byt l 1) (byt l 2) (byt l 3)

/-- Whether a text can begin so. -/
def good (r : Nat × Nat) : Bool := isChar r.1 && !(r.1 == 65533 && r.2 == 1)

/-- The first character and its width; none if no character begins here. -/
def dec (l : List UInt8) : Option (Nat × Nat) := if good (raw l) then some (raw l) else none

theorem raw_width (l : List UInt8) (h : 0 < l.length) : 1 ≤ (raw l).2 ∧ (raw l).2 ≤ l.length ∧ (raw l).2 ≤ 4 ∧ (raw l).1 ≤ 1114111 := by
  have h0 := byt_lt l 0; have h1 := byt_lt l 1; have h2 := byt_lt l 2; have h3 := byt_lt l 3
  unfold raw Lib.decodeN
  repeat' split
  all_goals (refine ⟨?_, ?_, ?_, ?_⟩ <;> simp only <;> omega)

theorem dec_width {l : List UInt8} (h : 0 < l.length) {n k : Nat} (hd : dec l = some (n, k)) : 1 ≤ k ∧ k ≤ l.length ∧ isChar n = true := by
  have hw := raw_width l h
  unfold dec at hd
  split at hd
  · rename_i hg
    obtain ⟨rfl, rfl⟩ : (raw l).1 = n ∧ (raw l).2 = k := by
      have := Option.some.inj hd
      rw [this]; exact ⟨rfl, rfl⟩
    refine ⟨hw.1, hw.2.1, ?_⟩
    unfold good at hg
    simp only [Bool.and_eq_true] at hg
    exact hg.1
  · cases hd

theorem dec_char {l : List UInt8} {n k : Nat} (hd : dec l = some (n, k)) : n ≤ 65533 ∧ ¬ (n = 65533 ∧ k = 1) := by
  unfold dec at hd
  split at hd
  · rename_i hg
    obtain ⟨e1, e2⟩ : (raw l).1 = n ∧ (raw l).2 = k := by
      have := Option.some.inj hd
      rw [this]; exact ⟨rfl, rfl⟩
    unfold good at hg
    rw [e1, e2, Bool.and_eq_true, isChar_iff] at hg
    simp only [Bool.not_eq_true', Bool.and_eq_false_iff, beq_eq_false_iff_ne, ne_eq] at hg
    omega
  · cases hd

/-- The characters, with fuel. -/
def charsF : Nat → List UInt8 → Option (List Nat)
  | 0, l => if l.length = 0 then some [] else none
  | f + 1, l => if l.length = 0 then some [] else match dec l with
    | none => none
    | some (n, k) => match charsF f (l.drop k) with
      | none => none
      | some t => some (n :: t)

/-- The characters of a text; none if the bytes are no text. -/
def chars (l : List UInt8) : Option (List Nat) := charsF l.length l

theorem charsF_more (f : Nat) : ∀ (l : List UInt8) (g : Nat), l.length ≤ f → l.length ≤ g → charsF f l = charsF g l := by
  induction f with
  | zero =>
    intro l g h _
    have : l.length = 0 := by omega
    cases g <;> simp [charsF, this]
  | succ f ih =>
    intro l g h hg
    by_cases h0 : l.length = 0
    · cases g <;> simp [charsF, h0]
    · cases g with
      | zero => omega
      | succ g =>
        simp only [charsF, if_neg h0]
        cases hd : dec l with
        | none => rfl
        | some p =>
          obtain ⟨n, k⟩ := p
          have hw := dec_width (by omega) hd
          have e := ih (l.drop k) g (by simp; omega) (by simp; omega)
          simp only [e]

theorem chars_nil : chars [] = some [] := rfl

theorem chars_step {l : List UInt8} (h : 0 < l.length) {n k : Nat} (hd : dec l = some (n, k)) :
    chars l = match chars (l.drop k) with | none => none | some t => some (n :: t) := by
  have hw := dec_width h hd
  unfold chars
  obtain ⟨m, hm⟩ : ∃ m, l.length = m + 1 := ⟨l.length - 1, by omega⟩
  rw [hm]
  simp only [charsF, hd]
  rw [if_neg (by omega), charsF_more m (l.drop k) (l.drop k).length (by simp; omega) (Nat.le_refl _)]

theorem chars_none {l : List UInt8} (h : 0 < l.length) (hd : dec l = none) : chars l = none := by
  unfold chars
  obtain ⟨m, hm⟩ : ∃ m, l.length = m + 1 := ⟨l.length - 1, by omega⟩
  rw [hm]
  simp only [charsF, hd]
  rw [if_neg (by omega)]

theorem chars_some_step {l : List UInt8} (h : 0 < l.length) {cs : List Nat} (hc : chars l = some cs) :
    ∃ n k t, dec l = some (n, k) ∧ cs = n :: t ∧ chars (l.drop k) = some t := by
  cases hd : dec l with
  | none => rw [chars_none h hd] at hc; cases hc
  | some p =>
    obtain ⟨n, k⟩ := p
    rw [chars_step h hd] at hc
    cases ht : chars (l.drop k) with
    | none => rw [ht] at hc; cases hc
    | some t =>
      rw [ht] at hc
      exact ⟨n, k, t, rfl, (Option.some.inj hc).symm, ht⟩

theorem chars_none_step {l : List UInt8} (h : 0 < l.length) (hc : chars l = none) :
    dec l = none ∨ ∃ n k, dec l = some (n, k) ∧ chars (l.drop k) = none := by
  cases hd : dec l with
  | none => exact .inl rfl
  | some p =>
    obtain ⟨n, k⟩ := p
    rw [chars_step h hd] at hc
    cases ht : chars (l.drop k) with
    | none => exact .inr ⟨n, k, rfl, ht⟩
    | some t => rw [ht] at hc; cases hc

theorem chars_len {l : List UInt8} : ∀ {cs : List Nat}, chars l = some cs → cs.length ≤ l.length ∧ ∀ c ∈ cs, isChar c = true := by
  generalize hm : l.length = m
  induction m using Nat.strongRecOn generalizing l with
  | ind m ih =>
    intro cs hc
    by_cases h : 0 < l.length
    · obtain ⟨n, k, t, hd, rfl, ht⟩ := chars_some_step h hc
      have hw := dec_width h hd
      have r := ih (l.length - k) (by omega) (l := l.drop k) (by simp) ht
      refine ⟨by simp; omega, ?_⟩
      intro c hcm
      rcases List.mem_cons.1 hcm with rfl | hcm
      · exact hw.2.2
      · exact r.2 c hcm
    · have : l = [] := List.eq_nil_of_length_eq_zero (by omega)
      subst this
      rw [chars_nil] at hc
      obtain rfl := Option.some.inj hc
      simp

/-- What Characters returns: the characters, and the error's number. -/
def charsR (l : List UInt8) : List Nat × Int := if 65536 < l.length then ([], 7) else match chars l with
  | none => ([], 3)
  | some cs => (cs, 0)

theorem charsR_long {l : List UInt8} (h : 65536 < l.length) : charsR l = ([], 7) := if_pos h
theorem charsR_none {l : List UInt8} (h : l.length ≤ 65536) (hc : chars l = none) : charsR l = ([], 3) := by
  unfold charsR
  rw [if_neg (by omega), hc]
theorem charsR_some {l : List UInt8} {cs : List Nat} (h : l.length ≤ 65536) (hc : chars l = some cs) : charsR l = (cs, 0) := by
  unfold charsR
  rw [if_neg (by omega), hc]

/-- Some characters have been read, the rest is still to be read. -/
def Read (l : List UInt8) (acc : List Nat) (rest : List UInt8) : Prop := chars l = match chars rest with
  | none => none
  | some t => some (acc ++ t)

theorem Read.start (l : List UInt8) : Read l [] l := by
  unfold Read
  cases chars l <;> rfl
theorem Read.step {l rest : List UInt8} {acc : List Nat} {n k : Nat} (h : Read l acc rest) (h0 : 0 < rest.length) (hd : dec rest = some (n, k)) : Read l (acc ++ [n]) (rest.drop k) := by
  unfold Read at h ⊢
  rw [h, chars_step h0 hd]
  cases chars (rest.drop k) with
  | none => rfl
  | some t => simp
theorem Read.fail {l rest : List UInt8} {acc : List Nat} (h : Read l acc rest) (h0 : 0 < rest.length) (hd : dec rest = none) : chars l = none := by
  unfold Read at h
  rw [h, chars_none h0 hd]
theorem Read.done {l rest : List UInt8} {acc : List Nat} (h : Read l acc rest) (h0 : rest.length = 0) : chars l = some acc := by
  unfold Read at h
  rw [h, List.eq_nil_of_length_eq_zero h0, chars_nil]
  simp

theorem fr_some {l : List UInt8} {n k : Nat} (h : dec l = some (n, k)) : (dec l).getD (0, 0) = (n, k) := by rw [h]; rfl

/-! ### the reference's way: sizes 1, 2, 3 in turn -/

/-- The number that the first k bytes would encode. -/
def num (l : List UInt8) (k : Nat) : Int :=
  if k = 1 then byt l 0
  else if k = 2 then ((byt l 0 : Int) - 192) * 64 + byt l 1 - 128
  else ((byt l 0 : Int) - 224) * 4096 + ((byt l 1 : Int) - 128) * 64 + byt l 2 - 128

/-- The bytes of a character, as numbers. -/
def encZ (n : Int) : List Int :=
  if n < 128 then [n] else if n < 2048 then [192 + n / 64, 128 + n % 64] else [224 + n / 4096, 128 + n / 64 % 64, 128 + n % 64]

/-- The first k bytes are those of a character. -/
def fits (l : List UInt8) (k : Nat) : Bool := decide (k ≤ l.length) && (isChar (num l k) && decide (encZ (num l k) = (l.take k).map fun b => (b.toNat : Int)))

theorem take_one (l : List UInt8) (h : 1 ≤ l.length) : (l.take 1).map (fun b => (b.toNat : Int)) = [(byt l 0 : Int)] := by
  match l, h with
  | a :: t, _ => simp [byt]
theorem take_two (l : List UInt8) (h : 2 ≤ l.length) : (l.take 2).map (fun b => (b.toNat : Int)) = [(byt l 0 : Int), byt l 1] := by
  match l, h with
  | a :: b :: t, _ => simp [byt]
theorem take_three (l : List UInt8) (h : 3 ≤ l.length) : (l.take 3).map (fun b => (b.toNat : Int)) = [(byt l 0 : Int), byt l 1, byt l 2] := by
  match l, h with
  | a :: b :: c :: t, _ => simp [byt]

theorem fits_one (l : List UInt8) : fits l 1 = true ↔ 1 ≤ l.length ∧ 32 ≤ byt l 0 ∧ byt l 0 < 128 := by
  by_cases hl : 1 ≤ l.length
  · unfold fits
    rw [take_one l hl]
    have e : num l 1 = byt l 0 := rfl
    rw [e]
    simp only [Bool.and_eq_true, decide_eq_true_eq, isChar_iff]
    have h0 := byt_lt l 0
    constructor
    · rintro ⟨_, h, h'⟩
      unfold encZ at h'
      split at h'
      · omega
      · split at h' <;> simp at h'
    · rintro ⟨_, a, b⟩
      refine ⟨hl, by omega, ?_⟩
      unfold encZ
      rw [if_pos (by omega)]
  · simp [fits, hl]

theorem fits_two (l : List UInt8) : fits l 2 = true ↔ 2 ≤ l.length ∧ 194 ≤ byt l 0 ∧ byt l 0 < 224 ∧ 128 ≤ byt l 1 ∧ byt l 1 < 192 := by
  by_cases hl : 2 ≤ l.length
  · unfold fits
    rw [take_two l hl]
    have e : num l 2 = ((byt l 0 : Int) - 192) * 64 + byt l 1 - 128 := rfl
    rw [e]
    simp only [Bool.and_eq_true, decide_eq_true_eq, isChar_iff]
    have h0 := byt_lt l 0; have h1 := byt_lt l 1
    constructor
    · rintro ⟨_, h, h'⟩
      unfold encZ at h'
      split at h'
      · simp at h'
      · split at h'
        · simp only [List.cons.injEq, and_true] at h'; omega
        · simp at h'
    · rintro ⟨_, a, b, c, d⟩
      refine ⟨hl, by omega, ?_⟩
      unfold encZ
      rw [if_neg (by omega), if_pos (by omega)]
      simp only [List.cons.injEq, and_true]
      omega
  · simp [fits, hl]

theorem fits_three (l : List UInt8) : fits l 3 = true ↔ 3 ≤ l.length ∧ 224 ≤ byt l 0 ∧ byt l 0 < 240 ∧ 128 ≤ byt l 1 ∧ byt l 1 < 192 ∧ 128 ≤ byt l 2 ∧ byt l 2 < 192 ∧ 2048 ≤ num l 3 ∧ isChar (num l 3) = true := by
  by_cases hl : 3 ≤ l.length
  · unfold fits
    rw [take_three l hl]
    have e : num l 3 = ((byt l 0 : Int) - 224) * 4096 + ((byt l 1 : Int) - 128) * 64 + byt l 2 - 128 := rfl
    rw [e]
    simp only [Bool.and_eq_true, decide_eq_true_eq, isChar_iff]
    have h0 := byt_lt l 0; have h1 := byt_lt l 1; have h2 := byt_lt l 2
    constructor
    · rintro ⟨_, h, h'⟩
      unfold encZ at h'
      split at h'
      · simp at h'
      · split at h'
        · simp at h'
        · simp only [List.cons.injEq, and_true] at h'; omega
    · rintro ⟨_, a, b, c, d, x, y, z, i⟩
      refine ⟨hl, by omega, ?_⟩
      unfold encZ
      rw [if_neg (by omega), if_neg (by omega)]
      simp only [List.cons.injEq, and_true]
      omega
  · simp [fits, hl]

/-- The reference's way gives what the decoder gives. -/
theorem dec_fits (l : List UInt8) (h : 0 < l.length) :
    dec l = if fits l 1 then some ((num l 1).toNat, 1) else if fits l 2 then some ((num l 2).toNat, 2) else if fits l 3 then some ((num l 3).toNat, 3) else none := by
  have h0 := byt_lt l 0; have h1 := byt_lt l 1; have h2 := byt_lt l 2; have h3 := byt_lt l 3
  have f1 := fits_one l; have f2 := fits_two l; have f3 := fits_three l
  have e1 : num l 1 = byt l 0 := rfl
  have e2 : num l 2 = ((byt l 0 : Int) - 192) * 64 + byt l 1 - 128 := rfl
  have e3 : num l 3 = ((byt l 0 : Int) - 224) * 4096 + ((byt l 1 : Int) - 128) * 64 + byt l 2 - 128 := rfl
  have key : ∀ (r : Nat × Nat), raw l = r → (if good r then some r else none) = if fits l 1 then some ((num l 1).toNat, 1) else if fits l 2 then some ((num l 2).toNat, 2) else if fits l 3 then some ((num l 3).toNat, 3) else none := by
    intro r hr
    have g1 : good r = true ↔ (32 ≤ r.1 ∧ r.1 ≤ 65533 ∧ (r.1 < 55296 ∨ 57343 < r.1)) ∧ ¬ (r.1 = 65533 ∧ r.2 = 1) := by
      unfold good
      rw [Bool.and_eq_true, isChar_iff]
      simp only [Bool.not_eq_true', Bool.and_eq_false_iff, beq_eq_false_iff_ne, ne_eq]
      omega
    rw [isChar_iff] at f3
    unfold raw Lib.decodeN at hr
    by_cases c1 : fits l 1 = true
    · have := f1.1 c1
      rw [if_pos c1]
      rw [if_pos (by omega)] at hr
      subst hr
      rw [if_pos (g1.2 (by simp only; omega)), e1]
      simp
    · rw [if_neg c1]
      by_cases c2 : fits l 2 = true
      · have := f2.1 c2
        rw [if_pos c2]
        rw [if_neg (by omega), if_pos (by omega), if_pos (by omega)] at hr
        subst hr
        rw [if_pos (g1.2 (by simp only; omega)), e2]
        congr 2
        omega
      · rw [if_neg c2]
        by_cases c3 : fits l 3 = true
        · have := f3.1 c3
          rw [if_pos c3]
          rw [if_neg (by omega), if_neg (by omega), if_pos (by omega), if_pos (by omega)] at hr
          subst hr
          rw [if_pos (g1.2 (by simp only; omega)), e3]
          congr 2
          omega
        · rw [if_neg c3, if_neg]
          intro hg
          have hg := g1.1 hg
          revert hr
          repeat' split
          all_goals (rintro rfl; simp only at hg)
          all_goals first
            | (apply c1; apply f1.2; omega)
            | (apply c2; apply f2.2; omega)
            | (apply c3; apply f3.2; omega)
            | exact hg.2 (by simp)
            | (simp at hg; done)
            | omega
  exact key _ rfl
/-- What the reference's 'first' returns. -/
def fr (l : List UInt8) : Nat × Nat := (dec l).getD (0, 0)

/-- The bytes of a number that is a character. -/
def enc (n : Int) : List UInt8 := (encZ n).map fun x => UInt8.ofNat x.toNat

theorem encZ_byte (n : Int) (h0 : 0 ≤ n) (h1 : n ≤ 65535) : ∀ x ∈ encZ n, 0 ≤ x ∧ x < 256 := by
  intro x hx
  unfold encZ at hx
  split at hx
  · simp at hx; omega
  · split at hx
    · simp at hx; omega
    · simp at hx; omega

theorem enc_toNat (n : Int) (h0 : 0 ≤ n) (h1 : n ≤ 65535) : (enc n).map (fun b => (b.toNat : Int)) = encZ n := by
  unfold enc
  rw [List.map_map]
  have e : ∀ x ∈ encZ n, ((fun (b : UInt8) => (b.toNat : Int)) ∘ fun x => UInt8.ofNat x.toNat) x = id x := by
    intro x hx
    obtain ⟨a, b⟩ := encZ_byte n h0 h1 x hx
    show ((UInt8.ofNat x.toNat).toNat : Int) = x
    rw [UInt8.toNat_ofNat']
    omega
  rw [List.map_congr_left e, List.map_id]

theorem bytes_inj {a b : List UInt8} : a.map (fun b => (b.toNat : Int)) = b.map (fun b => (b.toNat : Int)) ↔ a = b := by
  constructor
  · intro h
    induction a generalizing b with
    | nil => cases b with
      | nil => rfl
      | cons y b => simp at h
    | cons x a ih => cases b with
      | nil => simp at h
      | cons y b =>
        simp only [List.map_cons, List.cons.injEq] at h
        rw [UInt8.toNat_inj.1 (show x.toNat = y.toNat by omega), ih h.2]
  · rintro rfl; rfl

/-- What the reference tests of the first k bytes. -/
theorem fits_eq (l : List UInt8) (k : Nat) (hk : k ≤ l.length) (hc : isChar (num l k) = true) : fits l k = decide (enc (num l k) = l.take k) := by
  have h := (isChar_iff _).1 hc
  unfold fits
  rw [hc]
  simp only [hk, decide_true, Bool.true_and]
  rw [← enc_toNat (num l k) (by omega) (by omega)]
  exact decide_eq_decide.2 bytes_inj

theorem fits_no (l : List UInt8) (k : Nat) (hc : isChar (num l k) = false) : fits l k = false := by
  unfold fits
  rw [hc]
  simp
theorem fr_of (l : List UInt8) (h : 0 < l.length) (k : Nat) (h1 : 1 ≤ k) (h3 : k ≤ 3) (hno : ∀ j, 1 ≤ j → j < k → fits l j = false) (hf : fits l k = true) : fr l = ((num l k).toNat, k) := by
  have hd := dec_fits l h
  unfold fr
  rw [hd]
  have hk : k = 1 ∨ k = 2 ∨ k = 3 := by omega
  rcases hk with rfl | rfl | rfl
  · rw [if_pos hf]; rfl
  · rw [if_neg (by rw [hno 1 (by omega) (by omega)]; simp), if_pos hf]; rfl
  · rw [if_neg (by rw [hno 1 (by omega) (by omega)]; simp), if_neg (by rw [hno 2 (by omega) (by omega)]; simp), if_pos hf]; rfl

theorem fr_none (l : List UInt8) (h : 0 < l.length) (hno : ∀ j, 1 ≤ j → j ≤ 3 → fits l j = false) : fr l = (0, 0) := by
  have hd := dec_fits l h
  unfold fr
  rw [hd, if_neg (by rw [hno 1 (by omega) (by omega)]; simp), if_neg (by rw [hno 2 (by omega) (by omega)]; simp), if_neg (by rw [hno 3 (by omega) (by omega)]; simp)]
  rfl

/-- The text with some characters, and the error's number. -/
def textR (zs : List Int) : List UInt8 × Int := if 21845 < zs.length then ([], 7) else if zs.all isChar then (zs.flatMap enc, 0) else ([], 2)
theorem textR_long {zs : List Int} (h : 21845 < zs.length) : textR zs = ([], 7) := if_pos h
theorem textR_ok {zs : List Int} (h : zs.length ≤ 21845) (ha : zs.all isChar = true) : textR zs = (zs.flatMap enc, 0) := by
  unfold textR
  rw [if_neg (by omega), if_pos ha]
theorem textR_no {zs : List Int} (h : zs.length ≤ 21845) {j : Nat} (hj : j < zs.length) (hc : isChar (zs.getD j 0) = false) : textR zs = ([], 2) := by
  unfold textR
  rw [if_neg (by omega), if_neg]
  intro ha
  have := List.all_eq_true.1 ha (zs.getD j 0) (by simp [List.getD, hj])
  rw [hc] at this
  cases this
theorem all_take {zs : List Int} {j : Nat} (hj : j < zs.length) (h : (zs.take j).all isChar = true) (hc : isChar (zs.getD j 0) = true) : (zs.take (j + 1)).all isChar = true := by
  rw [List.take_succ_eq_append_getElem hj, List.all_append, h]
  simpa [List.getD, hj] using hc
theorem flat_take {zs : List Int} {j : Nat} (hj : j < zs.length) : (zs.take (j + 1)).flatMap enc = (zs.take j).flatMap enc ++ enc (zs.getD j 0) := by
  rw [List.take_succ_eq_append_getElem hj, List.flatMap_append]
  simp [List.getD, hj]
theorem enc_len (n : Int) : (enc n).length ≤ 3 := by
  unfold enc encZ
  repeat' split
  all_goals simp
theorem flat_len (zs : List Int) : (zs.flatMap enc).length ≤ 3 * zs.length := by
  induction zs with
  | nil => simp
  | cons a t ih =>
    have := enc_len a
    simp only [List.flatMap_cons, List.length_append, List.length_cons]
    omega

theorem fits_long (l : List UInt8) (k : Nat) (h : l.length < k) : fits l k = false := by
  unfold fits
  simp; omega
end Cs
end Go.Proofs.YtlcdhlfkffkifaaGreatDoor

/-
  More small lemmas over the model: strings out of owned rows of bytes.
-/
namespace Go.Proofs.YtlcdhlfkffkifaaGreatDoor
open Go.RowKit
namespace Kit

theorem str_own {w : World} {base n : Nat} {v : Value} {l : List UInt8} (h : w.ownsRow base 5 1 v n (bytes l)) : (convert 111 9 v).run Tryz.prog w = .ok (.string ⟨l.toArray⟩) w := by
  have hn : n = l.length := by simpa [bytes] using h.1.symm
  subst hn
  exact str_of_own Tryz.underlying111 Tryz.underlying5 Tryz.underlying9 h

/-- The string of one byte that has just been laid. -/
theorem str_one (W : World) (x : Int) (h0 : 0 ≤ x) (h1 : x < 256) : (convert 111 9 (.slice (some ⟨W.heap.size, 0, none⟩) 1 1)).run Tryz.prog (W.alloc (.cells #[.int .u8 x] 5)) = .ok (.string ⟨#[UInt8.ofNat x.toNat]⟩) (W.alloc (.cells #[.int .u8 x] 5)) :=
  str_new (P := Tryz.prog) W 111 9 5 [x] 1 Tryz.underlying111 Tryz.underlying5 Tryz.underlying9 (by simp; omega) rfl

theorem own_nil (w : World) (e : Nat) : (w.alloc (.cells #[] e)).ownsRow w.heap.size e 1 (.slice (some ⟨w.heap.size, 0, none⟩) 0 0) 0 [] := by
  have := own_new w e [] (by simp [maxLen])
  simpa using this
theorem own_empty (w : World) (e : Nat) : (w.alloc (.cells #[] e)).ownsRow w.heap.size e 1 (.slice (some ⟨w.heap.size, 0, none⟩) 0 0) 0 (bytes []) := own_nil w e
theorem byt_get (s : ByteArray) (i : Nat) (h : i < s.size) : (s[i]'h).toNat = Cs.byt s.data.toList i := by
  unfold Cs.byt
  have h' : i < s.data.size := h
  simp only [List.getD, Array.getElem?_toList, Array.getElem?_eq_getElem h']
  rfl
theorem len_size (s : ByteArray) : s.data.toList.length = s.size := by simp
theorem not_empty (s : ByteArray) (h : 0 < s.size) : s.toList.isEmpty = false := by
  rw [Lib.toList_data]
  cases hs : s.data.toList with
  | nil => have := len_size s; rw [hs] at this; simp at this; omega
  | cons _ _ => rfl
theorem is_empty (s : ByteArray) (h : s.size = 0) : s.toList.isEmpty = true := by
  have hs : s.data.toList = [] := List.eq_nil_of_length_eq_zero (by rw [len_size]; exact h)
  rw [Lib.toList_data, hs]
  rfl
theorem extract_take (s : ByteArray) (k : Nat) : s.extract 0 k = ⟨(s.data.toList.take k).toArray⟩ := by
  apply ByteArray.ext
  apply Array.toList_inj.1
  rw [Lib.extract_data]
  simp
theorem append_mk (a b : List UInt8) : (⟨a.toArray⟩ : ByteArray) ++ ⟨b.toArray⟩ = ⟨(a ++ b).toArray⟩ := by
  apply ByteArray.ext
  simp [ByteArray.data_append]
theorem eta (s : ByteArray) : s = ⟨s.data.toList.toArray⟩ := by cases s; simp
set_option maxRecDepth 100000 in
/-- '[]byte(s)': a new row with the bytes of s. -/
theorem str_bytes (w : World) (s : ByteArray) : ∃ cap W', (convert 9 111 (.string s)).run Tryz.prog w = .ok (.slice (some ⟨w.heap.size, 0, none⟩) s.size cap) W' ∧ Below w.heap.size w W' ∧ W'.heap.size = w.heap.size + 1 ∧
    s.size ≤ cap ∧ ∀ j, j < s.size → W'.cell? ⟨w.heap.size, j, none⟩ = some (.int .u8 (Cs.byt s.data.toList j : Nat)) := by
  have h := run_bytes_of_string (P := Tryz.prog) w 9 111 5 s Tryz.underlying9 Tryz.underlying111 Tryz.underlying5
  refine ⟨_, _, h, ?_, ?_, grownCap_ge w _ _ _, ?_⟩
  · exact ((Below.refl _ w).drew).alloc (Nat.le_refl _) _
  · simp
  · intro j hj
    have hj' : j < s.data.size := hj
    rw [show w.heap.size = w.drew.heap.size from rfl, World.cell?_alloc_mark, bytesRow_at _ _ _ hj']
    congr 3
    unfold Cs.byt
    simp only [List.getD, Array.getElem?_toList, Array.getElem?_eq_getElem hj', Option.getD_some]

theorem builder_below {T e B b : Nat} {bs : List Value} {w w' : World} (h : Lib.IsBuilderF T e B b bs w) (hb : Below w.heap.size w w') : Lib.IsBuilderF T e B b bs w' := by
  have one : ∀ p, Lib.BuilderAtF T e B b p bs w → Lib.BuilderAtF T e B b p bs w' := by
    intro p h
    have hlt := h.lt
    obtain ⟨hB, v, hbk, hown, hne⟩ := h
    refine ⟨hB, v, (hb.block b hlt).trans hbk, hown.kept (grown_of_below hb) ?_, hne⟩
    cases hv : v.ownBlock <;> simp
  exact h.imp (one _) (one _)
theorem or8 (x y : Int) (hx0 : 0 ≤ x) (hx : x % 256 = 0) (hx1 : x < 2147483648) (h0 : 0 ≤ y) (h1 : y < 256) : bits .or .i32 x y = x + y :=
  bits_join .i32 31 (by decide) wraps_i32 8 x y hx0 hx hx1 h0 h1 (by omega)
/-- The string of one byte that stands in a cell. -/
theorem str_cell {W : World} {g : Nat} {x : Int} (h0 : 0 ≤ x) (h1 : x < 256) (hc : W.cell? ⟨g, 0, none⟩ = some (.int .u8 x)) : (convert 111 9 (.slice (some ⟨g, 0, none⟩) 1 1)).run Tryz.prog W = .ok (.string ⟨#[UInt8.ofNat x.toNat]⟩) W := by
  have h := run_convert_bytes_back (P := Tryz.prog) W 111 9 5 ⟨g, 0, none⟩ 1 [UInt8.ofNat x.toNat] Tryz.underlying111 Tryz.underlying5 Tryz.underlying9 (fun j hj => by
    have hj0 : j = 0 := by simpa using hj
    subst hj0
    rw [Addr.add_lit, Nat.add_zero, hc]
    simp only [List.getElem_cons_zero]
    congr 2
    rw [UInt8.toNat_ofNat']
    omega)
  exact h
end Kit
end Go.Proofs.YtlcdhlfkffkifaaGreatDoor

/-
  The rows of the table for int and byte.
-/
namespace Go.Proofs.YtlcdhlfkffkifaaGreatDoor
open Go.RowKit
theorem intInfo : (Tryz.prog.info? 3).map (fun i => (i.zero, i.size, i.bytes)) = some (some (.int .i64 0), 1, 8) := by kernel_rfl
theorem byteInfo : (Tryz.prog.info? 5).map (fun i => (i.zero, i.size, i.bytes)) = some (some (.int .u8 0), 1, 1) := by kernel_rfl
end Go.Proofs.YtlcdhlfkffkifaaGreatDoor

/-
  More small lemmas over the model: rows of whatever element size, sources of an append.
-/
namespace Go.Proofs.YtlcdhlfkffkifaaGreatDoor
open Go.RowKit
namespace Kit

/-- A row whose nil slice has no capacity. -/
def RowS (w : World) (v : Value) (xs : List Value) : Prop := Row w v xs ∧ ∀ n c, v = .slice none n c → c = 0
theorem RowS.below {w w' : World} {v : Value} {xs : List Value} (h : RowS w v xs) (hb : Below w.heap.size w w') : RowS w' v xs := ⟨h.1.below hb, h.2⟩
theorem RowS.of_own {w : World} {base e n : Nat} {v : Value} {xs : List Value} (h : w.ownsRow base e 1 v n xs) : RowS w v xs := by
  refine ⟨Row.of_own h, fun m c hv => ?_⟩
  rcases h.2 with ⟨rfl, _⟩ | ⟨g, cap, cur, rfl, _⟩
  · simp at hv; exact hv.2.symm
  · simp at hv
theorem RowS.nil (w : World) : RowS w (.slice none 0 0) [] := ⟨⟨none, 0, rfl, by simp, by unfold maxLen; omega, fun h => by simp at h⟩, fun n c h => by simp at h; exact h.2.symm⟩
/-- A row that has just been laid. -/
theorem RowS.new (w : World) (xs : List Value) (e : TypeId) (hl : xs.length ≤ maxLen) : RowS (w.alloc (.cells xs.toArray e)) (.slice (some ⟨w.heap.size, 0, none⟩) xs.length xs.length) xs := by
  refine ⟨⟨some ⟨w.heap.size, 0, none⟩, xs.length, rfl, Nat.le_refl _, hl, fun _ => ⟨w.heap.size, 0, rfl, by simp, fun j u hu => ?_⟩⟩, fun n c h => by simp at h⟩
  rw [World.cell?_alloc_at _ _ _ _ (by simp)]
  simpa using hu

/-- 'append(v, ys...)' onto a row of the call's own, ys a row. -/
theorem appRow {P : Program} {W : World} {ops : Array Oper} {rest : List Oper} {o : Oper} {a : Act} {Q : Exit → Act → World → Prop} {e : TypeId} {z : Value} {by8 : Nat}
    (hinfo : (P.info? e).map (fun i => (i.zero, i.size, i.bytes)) = some (some z, 1, by8)) (hzs : z.cells.size = 1) (hb1 : 1 ≤ by8) (hgd : o.guard = none) (s x : Operand) (t : TypeId)
    (ho : o.op = .call { callee := .builtin .append, args := #[s, x], argTypes := #[t, t] }) (ht : P.underlying t = some (.slice e)) (base : Nat)
    (v : Value) (n : Nat) (xs : List Value) (hs : a.eval s = v) (hown : W.ownsRow base e 1 v n xs)
    (y : Value) (ys : List Value) (hx : a.eval x = y) (hr : RowS W y ys) (h1 : ∀ u ∈ ys, u.oneCell' = true)
    (hbytes : (n + ys.length) * by8 ≤ 140737488355328) (hbase : base ≤ W.heap.size)
    (h : ∀ v' w', w'.ownsRow base e 1 v' (n + ys.length) (xs ++ ys) → Below base W w' → wpList P ops Q rest (a.put o.dst v') w') :
    wpList P ops Q (o :: rest) a W := by
  obtain ⟨i, hi, hz0, hz1, hz2⟩ := info_parts hinfo
  have hnm : n + ys.length ≤ 140737488355328 := Nat.le_trans (Nat.le_mul_of_pos_right _ hb1) hbytes
  obtain ⟨⟨A, c, rfl, hlc, hcm, hcell⟩, hn⟩ := hr
  cases A with
  | none =>
    have hc0 := hn _ _ rfl
    subst hc0
    obtain rfl : ys = [] := List.eq_nil_of_length_eq_zero (by omega)
    refine wpList_append_own_none hgd s x t ho base e i 1 ht hi v n xs hs hown hx ?_
    exact h v W (by simpa using hown) (Below.refl _ _)
  | some ad =>
    refine wpList_append_own W hgd s x t ho base e i z 1 by8 ht hi hz0 hz1 hz2 hzs (by decide) v n xs hs hown ad ys.length c ys hx (by omega) (fun j u hu => ?_) h1 (by unfold maxLen; omega) hbytes hbase ?_
    · have hj : j < ys.length := (List.getElem?_eq_some_iff.1 hu).1
      obtain ⟨b, o', hb, _, hc⟩ := hcell (by omega)
      simp at hb
      subst hb
      rw [Addr.add_lit]
      exact hc j u hu
    · intro v' w' ho' hg _
      exact h v' w' ho' ((Below.refl base W).grown hg hbase (fun k hk => (hown.lt k hk).1))
theorem one_izs (l : List Int) : ∀ u ∈ izs l, u.oneCell' = true := by
  intro u hu
  obtain ⟨_, _, rfl⟩ := List.mem_map.1 hu
  rfl
theorem izs_append (l m : List Int) : izs (l ++ m) = izs l ++ izs m := by simp [izs]

/-- A slice value whose elements, of some cells each, read as lists of cells. -/
def RowN (w : World) (v : Value) (size n : Nat) (C : Nat → List Value) : Prop := ∃ A c, v = .slice A n c ∧ n ≤ c ∧ c ≤ maxLen ∧
  (0 < n → ∃ b o, A = some ⟨b, o, none⟩ ∧ b < w.heap.size ∧ ∀ j, j < n → ∀ k u, (C j)[k]? = some u → w.cell? ⟨b, o + j * size + k, none⟩ = some u)
theorem RowN.below {w w' : World} {v : Value} {size n : Nat} {C : Nat → List Value} (h : RowN w v size n C) (hb : Below w.heap.size w w') : RowN w' v size n C := by
  obtain ⟨A, c, rfl, h1, h2, h3⟩ := h
  refine ⟨A, c, rfl, h1, h2, fun h0 => ?_⟩
  obtain ⟨b, o, rfl, hl, hc⟩ := h3 h0
  exact ⟨b, o, rfl, Nat.lt_of_lt_of_le hl hb.size, fun j hj k u hu => (hb.cell (p := ⟨b, o + j * size + k, none⟩) hl).trans (hc j hj k u hu)⟩
end Kit
end Go.Proofs.YtlcdhlfkffkifaaGreatDoor

/-
  Regions that draw their order and hold calls that make memory: one walk of the text's order serves every order, the class of worlds being all that leave what lay below a block as it was.
-/
namespace Go.Proofs.YtlcdhlfkffkifaaGreatDoor
open Go.RowKit

/-- A world that leaves what lies below block B as it is in w. -/
structure Later (B : Nat) (w : World) where
  to : World
  bel : Below B w to

instance later_ne {B : Nat} {w : World} : Nonempty (Later B w) := ⟨⟨w, Below.refl B w⟩⟩

theorem wp_region_later {P : Program} {id : Nat} {Q : Exit → Act → World → Prop} {a : Act} {w : World} {l : List Oper} (B : Nat) (hm : P.follows .mixedOrders = true) (hB : Region.lexB .any l.toArray = true)
    (h : wpQuiet P l.toArray (fun w' => ∃ x : Later B w, w' = x.to) (fun a' => ∀ w', (∃ x : Later B w, w' = x.to) → Q .normal a' w') l a) : (Code.region id l.toArray true).wp P Q a w :=
  wp_region_quiet (C := fun w' => ∃ x : Later B w, w' = x.to) hm hB ⟨⟨w.drewN 1, Kit.below_drewN 1⟩, rfl⟩ (by simpa using h)

/-- A callee's contract, met in a later world. -/
theorem Calls.later_of {P : Program} {f : FuncId} {args : Array Value} {B : Nat} {w : World} {x : Later B w} {v : Value} (hB : B ≤ w.heap.size)
    (h : Calls P f args x.to fun e w' => e = .returned v ∧ Below x.to.heap.size x.to w') : Calls P f args x.to fun e w'' => e = .returned v ∧ ∃ y : Later B w, w'' = y.to :=
  h.mono fun _ _ ⟨he, hb⟩ => ⟨he, ⟨_, x.bel.trans (hb.mono (Nat.le_trans hB x.bel.size))⟩, rfl⟩

/-- .. of a callee that leaves the world as it is. -/
theorem Calls.later_same {P : Program} {f : FuncId} {args : Array Value} {B : Nat} {w : World} {x : Later B w} {v : Value}
    (h : Calls P f args x.to fun e w' => e = .returned v ∧ x.to = w') : Calls P f args x.to fun e w'' => e = .returned v ∧ ∃ y : Later B w, w'' = y.to :=
  h.mono fun _ _ ⟨he, hb⟩ => ⟨he, x, hb.symm⟩
theorem later_cell {B : Nat} {w : World} (x : Later B w) {b o : Nat} {v : Value} (hb : b < B) (h : w.cell? ⟨b, o, none⟩ = some v) : x.to.cell? ⟨b, o, none⟩ = some v :=
  (x.bel.cell (p := ⟨b, o, none⟩) hb).trans h
end Go.Proofs.YtlcdhlfkffkifaaGreatDoor

/-
  Plain laws on entity identifiers: no program in sight.
-/
namespace Go.Proofs.YtlcdhlfkffkifaaGreatDoor
namespace Cs
/-- Printable ASCII. -/
def prt (b : UInt8) : Bool := decide (32 ≤ b.toNat) && decide (b.toNat ≤ 126)
theorem prt_iff (b : UInt8) : prt b = true ↔ 32 ≤ b.toNat ∧ b.toNat ≤ 126 := by simp [prt]
/-- What can be an identifier. -/
def idR (l : List UInt8) : Bool := decide (1 ≤ l.length) && (decide (l.length ≤ 23) && l.all prt)
/-- All bytes printable. -/
def allP (l : List UInt8) : Bool := l.all prt
/-- What Entity returns. -/
def entR (i s : List UInt8) : List UInt8 × Int :=
  if idR i = true ∧ s.length ≤ 8 then (0 :: i ++ List.replicate (23 - i.length) 0 ++ s ++ List.replicate (8 - s.length) 0, 0) else ([], 1)
theorem idR_len {l : List UInt8} (h : idR l = true) : 1 ≤ l.length ∧ l.length ≤ 23 := by
  unfold idR at h
  simp only [Bool.and_eq_true, decide_eq_true_eq] at h
  exact ⟨h.1, h.2.1⟩
/-- Where the identifier stands, and the identifier. -/
def entL (f : List UInt8) : List UInt8 := (f.drop 1).take 23
def entS (f : List UInt8) : List UInt8 := (entL f).takeWhile fun b => b != 0
/-- Is it an entity identifier behind its length? -/
def entOk (f : List UInt8) : Bool := idR (entS f) && ((entL f).drop (entS f).length).all fun b => b == 0
/-- What ParseEntity returns. -/
def pentR (f : List UInt8) : (List UInt8 × List UInt8) × Int :=
  if ¬ f.length = 32 then (([], []), 1) else if entOk f = true then ((entS f, f.drop 24), 0) else (([], []), 10)

theorem cut_while (l : List UInt8) : (Lib.cut l [0]).1 = l.takeWhile fun b => b != 0 := by
  induction l with
  | nil => rfl
  | cons b l ih =>
    by_cases hb : b = 0
    · subst hb
      rfl
    · have hp : ([0] : List UInt8).isPrefixOf (b :: l) = false := by
        simp [List.isPrefixOf]
        exact fun h => hb h.symm
      have hge := Lib.index_ge l [0]
      have hidx : Lib.index (b :: l) [0] = if (Lib.index l [0] == -1) = true then -1 else Lib.index l [0] + 1 := by
        show (if ([0] : List UInt8).isPrefixOf (b :: l) = true then 0 else if (Lib.index l [0] == -1) = true then -1 else Lib.index l [0] + 1) = _
        rw [hp]
        rfl
      have htw : (b :: l).takeWhile (fun b => b != 0) = b :: l.takeWhile (fun b => b != 0) := by
        rw [List.takeWhile_cons, if_pos (by simpa using hb)]
      unfold Lib.cut at ih ⊢
      rw [htw, ← ih, hidx]
      clear ih hidx htw
      generalize Lib.index l [0] = x at *
      by_cases h1 : x = -1
      · subst h1
        simp
      · have h2 : (x == -1) = false := by rw [beq_eq_false_iff_ne]; exact h1
        rw [h2]
        simp only [Bool.false_eq_true, if_false]
        rw [if_pos (show (0 : Int) ≤ x + 1 by omega), if_pos (show (0 : Int) ≤ x by omega)]
        rw [show (x + 1).toNat = x.toNat + 1 by omega]
        rfl

theorem dw_nil {p : UInt8 → Bool} (l : List UInt8) : l.dropWhile p = [] ↔ ∀ x ∈ l, p x = true := by
  induction l with
  | nil => simp
  | cons a t ih =>
    by_cases h : p a = true
    · rw [List.dropWhile_cons, if_pos h, ih]
      simp [h]
    · rw [List.dropWhile_cons, if_neg h]
      simp [h]
theorem trimB_nil (x : List UInt8) (c : UInt8) : Lib.trimB x c = [] ↔ (x.all fun b => b == c) = true := by
  unfold Lib.trimB Lib.trimLeftB Lib.trimRightB
  rw [dw_nil]
  constructor
  · intro h
    have hn : x.reverse.dropWhile (· == c) = [] := by
      cases hd : x.reverse.dropWhile (· == c) with
      | nil => rfl
      | cons a t =>
        have h1 := h a (by rw [hd]; simp)
        have h2 := List.head_dropWhile_not (p := (· == c)) (l := x.reverse) (by rw [hd]; simp)
        simp only [hd, List.head_cons] at h2
        rw [h1] at h2
        cases h2
    rw [dw_nil] at hn
    rw [List.all_eq_true]
    intro b hb
    exact hn b (by simpa using hb)
  · intro h b hb
    rw [List.all_eq_true] at h
    have hb' : b ∈ x.reverse.dropWhile (· == c) := by simpa using hb
    exact h b (by simpa using (List.dropWhile_sublist _).subset hb')
theorem entL_len {f : List UInt8} (h : f.length = 32) : (entL f).length = 23 := by
  unfold entL
  rw [List.length_take, List.length_drop]
  omega
theorem entS_len {f : List UInt8} (h : f.length = 32) : (entS f).length ≤ 23 := by
  rw [← entL_len h]
  unfold entS
  exact (List.takeWhile_sublist _).length_le
theorem trim_more (x : List UInt8) (c : UInt8) (k : Nat) : Lib.trimRightB (x ++ List.replicate k c) c = Lib.trimRightB x c := by
  unfold Lib.trimRightB
  rw [List.reverse_append, List.reverse_replicate]
  congr 1
  induction k with
  | zero => rfl
  | succ k ih =>
    rw [List.replicate_succ, List.cons_append, List.dropWhile_cons, if_pos (by simp)]
    exact ih
theorem while_app (i : List UInt8) (k : Nat) (h : ∀ b ∈ i, b ≠ 0) : ((i ++ List.replicate k 0).takeWhile fun b => b != 0) = i := by
  induction i with
  | nil =>
    cases k with
    | zero => rfl
    | succ k => rfl
  | cons a t ih =>
    rw [List.cons_append, List.takeWhile_cons, if_pos (by simpa using h a (by simp)), ih (fun b hb => h b (by simp [hb]))]
theorem prt_ne {l : List UInt8} (h : idR l = true) : ∀ b ∈ l, b ≠ 0 := by
  intro b hb e
  unfold idR at h
  simp only [Bool.and_eq_true, decide_eq_true_eq] at h
  have := (prt_iff b).1 (List.all_eq_true.1 h.2.2 b hb)
  rw [e] at this
  simp at this

/-- An entity identifier's bytes. -/
def entB (i s : List UInt8) : List UInt8 := 0 :: i ++ List.replicate (23 - i.length) 0 ++ s ++ List.replicate (8 - s.length) 0
theorem entB_len {i s : List UInt8} (h1 : i.length ≤ 23) (h2 : s.length ≤ 8) : (entB i s).length = 32 := by
  unfold entB
  simp only [List.length_append, List.length_cons, List.length_replicate]
  omega
theorem entR_ok {i s : List UInt8} (h1 : idR i = true) (h2 : s.length ≤ 8) : entR i s = (entB i s, 0) := if_pos ⟨h1, h2⟩
theorem pent_of {i s : List UInt8} (h1 : idR i = true) (h2 : s.length ≤ 8) : pentR (entB i s) = ((i, s ++ List.replicate (8 - s.length) 0), 0) := by
  have hl := (idR_len h1).2
  have hlen := entB_len hl h2
  have hL : entL (entB i s) = i ++ List.replicate (23 - i.length) 0 := by
    unfold entL entB
    rw [List.cons_append, List.cons_append, List.cons_append, List.drop_succ_cons, List.drop_zero, List.append_assoc (i ++ _)]
    exact List.take_left' (by simp; omega)
  have hS : entS (entB i s) = i := by
    unfold entS
    rw [hL]
    exact while_app i _ (prt_ne h1)
  have hD : (entB i s).drop 24 = s ++ List.replicate (8 - s.length) 0 := by
    unfold entB
    rw [List.append_assoc (0 :: i ++ _)]
    exact List.drop_left' (by simp; omega)
  have hO : entOk (entB i s) = true := by
    unfold entOk
    rw [hS, hL, h1, List.drop_left]
    simp
  unfold pentR
  rw [if_neg (by omega), if_pos hO, hS, hD]
theorem pent_ok {f : List UInt8} (h : f.length = 32) (hO : entOk f = true) : entR (entS f) (f.drop 24) = (entB (entS f) (f.drop 24), 0) ∧ (entB (entS f) (f.drop 24)).length = 32 ∧ (entB (entS f) (f.drop 24)).drop 1 = f.drop 1 := by
  unfold entOk at hO
  rw [Bool.and_eq_true] at hO
  obtain ⟨h1, h2⟩ := hO
  have hd : (f.drop 24).length = 8 := by rw [List.length_drop]; omega
  have hl := (idR_len h1).2
  refine ⟨entR_ok h1 (by omega), entB_len hl (by omega), ?_⟩
  have hz : (entL f).drop (entS f).length = List.replicate (23 - (entS f).length) 0 := by
    have e : ((entL f).drop (entS f).length).length = 23 - (entS f).length := by rw [List.length_drop, entL_len h]
    rw [← e]
    exact List.eq_replicate_iff.2 ⟨rfl, fun b hb => by simpa using List.all_eq_true.1 h2 b hb⟩
  have hp : entS f ++ (entL f).drop (entS f).length = entL f := by
    have : entS f = (entL f).take (entS f).length := List.prefix_iff_eq_take.1 (List.takeWhile_prefix _)
    conv => lhs; lhs; rw [this]
    exact List.take_append_drop _ _
  unfold entB
  rw [List.cons_append, List.cons_append, List.cons_append, List.drop_succ_cons, List.drop_zero, ← hz, hp, hd]
  have hf : f.drop 1 = entL f ++ f.drop 24 := by
    unfold entL
    have := (List.take_append_drop 23 (f.drop 1)).symm
    rw [List.drop_drop] at this
    exact this
  rw [hf]
  simp
theorem while_len (l : List UInt8) (k : Nat) (hk : k ≤ l.length) (h0 : ∀ j, j < k → byt l j ≠ 0) (h1 : k = l.length ∨ byt l k = 0) : (l.takeWhile fun b => b != 0) = l.take k := by
  induction l generalizing k with
  | nil =>
    have : k = 0 := by simpa using hk
    subst this
    rfl
  | cons a t ih =>
    cases k with
    | zero =>
      rcases h1 with h1 | h1
      · simp at h1
      · have ha : a = 0 := by
          apply UInt8.toNat_inj.1
          exact h1
        subst ha
        rfl
    | succ k =>
      have ha : a ≠ 0 := by
        intro h
        subst h
        exact h0 0 (by omega) rfl
      rw [List.takeWhile_cons, if_pos (by simpa using ha), List.take_succ_cons]
      congr 1
      refine ih k (by simpa using hk) (fun j hj => ?_) ?_
      · exact h0 (j + 1) (by omega)
      · rcases h1 with h1 | h1
        · left; simpa using h1
        · right; exact h1
theorem byt_entL {f : List UInt8} (_h : f.length = 32) (j : Nat) (hj : j < 23) : byt (entL f) j = byt f (1 + j) := by
  unfold entL byt
  simp [List.getD, hj, Nat.add_comm]
theorem zeros_all (l : List UInt8) : (l.all fun b => b == 0) = decide (l = List.replicate l.length 0) := by
  rw [Bool.eq_iff_iff, decide_eq_true_eq, List.all_eq_true]
  constructor
  · intro h
    exact List.eq_replicate_iff.2 ⟨rfl, fun b hb => by simpa using h b hb⟩
  · intro h b hb
    simpa using (List.eq_replicate_iff.1 h).2 b hb
end Cs

theorem all_snocP {p : UInt8 → Bool} {l : List UInt8} {i : Nat} (hi : i < l.length) (h : (l.take i).all p = true) (hp : p (l.getD i 0) = true) : (l.take (i + 1)).all p = true := by
  rw [List.take_succ_eq_append_getElem hi, List.all_append, h]
  simp [List.getD, hi] at hp
  simp [hp]
theorem all_failP {p : UInt8 → Bool} {l : List UInt8} {i : Nat} (hi : i < l.length) (hp : p (l.getD i 0) = false) : l.all p = false := by
  rw [Bool.eq_false_iff]
  intro h
  have := List.all_eq_true.1 h (l.getD i 0) (by simp [List.getD, hi])
  rw [hp] at this
  cases this

theorem lb_size (l : List UInt8) : (⟨l.toArray⟩ : ByteArray).size = l.length := by simp [ByteArray.size]
end Go.Proofs.YtlcdhlfkffkifaaGreatDoor

/-
  Plain laws on little-endian numbers and on partition maps as bytes: no program in sight.
-/
namespace Go.Proofs.YtlcdhlfkffkifaaGreatDoor
namespace Pm

/-- The k bytes of a number, the least significant one first. -/
def le : Nat → Nat → List UInt8
  | 0, _ => []
  | k + 1, n => UInt8.ofNat n :: le k (n / 256)
/-- The number with some bytes, the least significant one first. -/
def num : List UInt8 → Nat
  | [] => 0
  | b :: t => b.toNat + 256 * num t
theorem le_len (k n : Nat) : (le k n).length = k := by
  induction k generalizing n with
  | zero => rfl
  | succ k ih => simp [le, ih]
theorem num_le (k n : Nat) (h : n < 256 ^ k) : num (le k n) = n := by
  induction k generalizing n with
  | zero => simp at h; subst h; rfl
  | succ k ih =>
    unfold le num
    rw [ih (n / 256) (by rw [Nat.pow_succ] at h; omega), UInt8.toNat_ofNat']
    omega
theorem num_lt (l : List UInt8) : num l < 256 ^ l.length := by
  induction l with
  | nil => simp [num]
  | cons b t ih =>
    have hb : b.toNat < 256 := b.toNat_lt
    simp only [num, List.length_cons, Nat.pow_succ]
    omega
theorem num_append (a b : List UInt8) : num (a ++ b) = num a + 256 ^ a.length * num b := by
  induction a with
  | nil => simp [num]
  | cons x t ih =>
    simp only [List.cons_append, num, ih, List.length_cons, Nat.pow_succ]
    rw [Nat.mul_add, Nat.mul_comm (256 ^ t.length) 256, ← Nat.mul_assoc, Nat.add_assoc]
/-- The number at a place. -/
def at_ (s : List UInt8) (at' size : Nat) : Nat := num ((s.drop at').take size)
theorem at_lt (s : List UInt8) (a k : Nat) : at_ s a k < 256 ^ k := by
  have h := num_lt ((s.drop a).take k)
  refine Nat.lt_of_lt_of_le h (Nat.pow_le_pow_right (by decide) ?_)
  rw [List.length_take]
  omega
theorem at_mid (p q : List UInt8) (k n : Nat) (h : n < 256 ^ k) (a : Nat) (ha : p.length = a) : at_ (p ++ le k n ++ q) a k = n := by
  subst ha
  unfold at_
  rw [List.append_assoc, List.drop_left, List.take_left' (le_len k n), num_le k n h]

/-- A partition map. -/
structure M where
  kind : Int
  number : Int
  tables : List Int
  file : Int
  mirror : Int
  bitmap : Int

theorem M.ext' {a b : M} (h1 : a.kind = b.kind) (h2 : a.number = b.number) (h3 : a.tables = b.tables) (h4 : a.file = b.file) (h5 : a.mirror = b.mirror) (h6 : a.bitmap = b.bitmap) : a = b := by
  cases a; cases b; simp_all

def word (n : Int) : Bool := decide (0 ≤ n) && decide (n < 4294967296)

def valid (x : M) : Bool :=
  decide (0 ≤ x.kind) && decide (x.kind ≤ 3) && decide (0 ≤ x.number) && decide (x.number ≤ 65535) &&
  (if x.kind = 2 then decide (1 ≤ x.tables.length) && decide (x.tables.length ≤ 4) else decide (x.tables.length = 0)) &&
  (if x.kind = 3 then true else decide (x.file = 0) && (decide (x.mirror = 0) && decide (x.bitmap = 0))) &&
  x.tables.all word && word x.file && word x.mirror && word x.bitmap
def all (l : List M) : Bool := decide (l.length ≤ 4) && l.all valid

/-- The identifiers of the kinds that have one. -/
def nameV : List UInt8 := [42, 85, 68, 70, 32, 86, 105, 114, 116, 117, 97, 108, 32, 80, 97, 114, 116, 105, 116, 105, 111, 110]
def nameS : List UInt8 := [42, 85, 68, 70, 32, 83, 112, 97, 114, 97, 98, 108, 101, 32, 80, 97, 114, 116, 105, 116, 105, 111, 110]
def nameM : List UInt8 := [42, 85, 68, 70, 32, 77, 101, 116, 97, 100, 97, 116, 97, 32, 80, 97, 114, 116, 105, 116, 105, 111, 110]
def nameOf (kind : Int) : List UInt8 := if kind = 1 then nameV else if kind = 2 then nameS else nameM
def kindOf (s : List UInt8) : Int := if s = nameV then 1 else if s = nameS then 2 else if s = nameM then 3 else 0

/-- What stands behind the number of a map of 64 bytes. -/
def body (x : M) : List UInt8 :=
  if x.kind = 2 then le 2 8 ++ le 1 x.tables.length ++ le 1 0 ++ le 4 120 ++ x.tables.flatMap (fun t => le 4 t.toNat)
  else if x.kind = 3 then le 4 x.file.toNat ++ le 4 x.mirror.toNat ++ le 4 x.bitmap.toNat ++ le 4 8 ++ le 2 8 ++ le 1 1
  else []
/-- A map of 64 bytes, without the zeros at its end. -/
def big (x : M) : List UInt8 := [2, 64, 0, 0] ++ Cs.entB (nameOf x.kind) [1, 2] ++ le 2 1 ++ le 2 x.number.toNat ++ body x
/-- The bytes of a map. -/
def bytes (x : M) : List UInt8 :=
  if x.kind = 0 then [1, 6] ++ le 2 1 ++ le 2 x.number.toNat else big x ++ List.replicate (64 - (big x).length) 0
/-- Encode. -/
def encR (l : List M) : List UInt8 × Int := if all l = true then (l.flatMap bytes, 0) else ([], 1)

def none : M := ⟨0, 0, [], 0, 0, 0⟩
def tabs (d : List UInt8) (n : Nat) : List Int := (List.range n).map fun i => (at_ d (48 + 4 * i) 4 : Int)
/-- A map of 64 bytes. -/
def stepB (d : List UInt8) : M × Nat × Int :=
  if (Cs.pentR ((d.drop 4).take 32)).2 ≠ 0 then (none, 0, 10)
  else
    let k := kindOf (Cs.pentR ((d.drop 4).take 32)).1.1
    if k = 0 then (none, 0, 14)
    else if k = 2 then
      if at_ d 40 2 ≠ 8 then (none, 0, 14)
      else if at_ d 42 1 < 1 ∨ 4 < at_ d 42 1 then (none, 0, 10)
      else (⟨2, at_ d 38 2, tabs d (at_ d 42 1), 0, 0, 0⟩, 64, 0)
    else if k = 3 then (⟨3, at_ d 38 2, [], at_ d 40 4, at_ d 44 4, at_ d 48 4⟩, 64, 0)
    else (⟨1, at_ d 38 2, [], 0, 0, 0⟩, 64, 0)
/-- The map at the beginning of bytes, how many they are, the error. -/
def stepR (d : List UInt8) : M × Nat × Int :=
  if d.length < 2 ∨ d.length < Cs.byt d 1 then (none, 0, 10)
  else if Cs.byt d 0 = 1 then (if Cs.byt d 1 = 6 then (⟨0, at_ d 4 2, [], 0, 0, 0⟩, 6, 0) else (none, 0, 10))
  else if Cs.byt d 0 = 2 then (if Cs.byt d 1 = 64 then stepB d else (none, 0, 10))
  else (none, 0, 14)
def decN : Nat → List UInt8 → List M → List M × Int
  | 0, d, acc => if d = [] then (acc, 0) else ([], 10)
  | n + 1, d, acc => if (stepR d).2.2 ≠ 0 then ([], (stepR d).2.2) else decN n (d.drop (stepR d).2.1) (acc ++ [(stepR d).1])
/-- Decode. -/
def decR (d : List UInt8) (count : Int) : List M × Int := if count < 0 then ([], 1) else if 4 < count then ([], 7) else decN count.toNat d []
end Pm
end Go.Proofs.YtlcdhlfkffkifaaGreatDoor

/-
  Plain functions of the translation of addresses: extents, mappings, spans; and their plain laws.
-/
namespace Go.Proofs.YtlcdhlfkffkifaaGreatDoor
namespace Pm

/-- An extent. -/
structure X where
  kind : Int
  length : Int
  block : Int
  part : Int

def cnt (n : Int) : Int := (n + 2047) / 2048
def formed1 (x : X) : Bool :=
  decide (0 ≤ x.kind) && decide (x.kind ≤ 3) && decide (1 ≤ x.length) && decide (x.length < 1073741824) &&
  decide (0 ≤ x.block) && decide (x.block < 4294967296) && decide (0 ≤ x.part) && decide (x.part ≤ 65535)
def formed (l : List X) : Bool := decide (l.length ≤ 64) && l.all formed1
theorem formed1_iff (x : X) : formed1 x = true ↔ 0 ≤ x.kind ∧ x.kind ≤ 3 ∧ 1 ≤ x.length ∧ x.length < 1073741824 ∧ 0 ≤ x.block ∧ x.block < 4294967296 ∧ 0 ≤ x.part ∧ x.part ≤ 65535 := by
  simp [formed1, and_assoc]
def lenS (l : List X) : Int := (l.map X.length).sum
/-- Length. -/
def lenX (l : List X) : Int := if formed l = true then lenS l else 0
/-- What is asked of an extent at its place. -/
def okAt (l : List X) (j : Nat) : Bool := !decide ((l.getD j ⟨0, 0, 0, 0⟩).kind = 3) && (decide (j + 1 = l.length) || decide ((l.getD j ⟨0, 0, 0, 0⟩).length % 2048 = 0)) && decide ((l.getD j ⟨0, 0, 0, 0⟩).block + cnt (l.getD j ⟨0, 0, 0, 0⟩).length ≤ 4294967296)
def okX (l : List X) : Bool := (List.range l.length).all (okAt l)
/-- Valid. -/
def validX (l : List X) : Bool := formed l && decide (lenS l ≤ 1073739776) && okX l
def locS : List X → Int → (Int × Int) × Int × Int
  | [], _ => ((0, 0), 0, 2)
  | x :: t, b => if 0 ≤ b ∧ b < cnt x.length then ((x.block + b, x.part), x.kind, 0) else if b < cnt x.length then ((0, 0), 0, 2) else locS t (b - cnt x.length)
/-- Locate. -/
def locX (l : List X) (b : Int) : (Int × Int) × Int × Int := if validX l = true then locS l b else ((0, 0), 0, 1)

/-- A mapping (without the mirror's extents, which nothing reads). -/
structure Mp where
  maps : List M
  start : Int
  count : Int
  vat : List Int
  spares : List (Int × Int)
  mdat : List X

def phys (m : Mp) (b : Int) : Int × Int := if b < 0 ∨ m.count ≤ b then (0, 2) else (m.start + b, 0)
def spare (l : List (Int × Int)) (b : Int) (d : Int) : Int := match l.find? (fun s => decide (s.1 = b - b % 8)) with | some s => s.2 + b % 8 | .none => d
/-- Translate. -/
def transR (m : Mp) (b p : Int) : Int × Int :=
  if p < 0 ∨ (m.maps.length : Int) ≤ p then (0, 1)
  else
    let k := (m.maps.getD p.toNat none).kind
    if k = 0 then phys m b
    else if k = 1 then (if b < 0 ∨ (m.vat.length : Int) ≤ b then (0, 2) else if m.vat.getD b.toNat 0 = 4294967295 then (0, 6) else phys m (m.vat.getD b.toNat 0))
    else if k = 2 then (if (phys m b).2 ≠ 0 then (0, (phys m b).2) else (spare m.spares b (phys m b).1, 0))
    else if k = 3 then (if (locX m.mdat b).2.2 ≠ 0 then (0, 2) else phys m (locX m.mdat b).1.1)
    else (0, 14)
/-- One block more behind spans. -/
def push (out : List (Int × Int)) (lba : Int) : List (Int × Int) :=
  match out.getLast? with
  | some s => if s.1 + s.2 = lba then out.dropLast ++ [(s.1, s.2 + 1)] else out ++ [(lba, 1)]
  | .none => [(lba, 1)]
def spanN (m : Mp) (x : X) : Nat → Nat → List (Int × Int) → List (Int × Int) × Int
  | 0, _, out => (out, 0)
  | n + 1, i, out => if (transR m (x.block + i) x.part).2 ≠ 0 then ([], (transR m (x.block + i) x.part).2) else spanN m x n (i + 1) (push out (transR m (x.block + i) x.part).1)
/-- Spans. -/
def spansR (m : Mp) (x : X) : List (Int × Int) × Int :=
  if ¬ formed1 x = true ∨ x.kind = 3 then ([], 1)
  else if x.kind = 2 then ([], 0)
  else if 4096 < cnt x.length then ([], 7)
  else spanN m x (cnt x.length).toNat 0 []
end Pm
end Go.Proofs.YtlcdhlfkffkifaaGreatDoor

/-
  'append' onto a row of the call's own, as one step of a region that draws its order.
-/
namespace Go.Proofs.YtlcdhlfkffkifaaGreatDoor
open Go.RowKit
namespace Kit

theorem step_app {P : Program} {w W : World} {ops : Array Oper} {o : Oper} {a : Act} {K : Act → World → Prop} {Q : Exit → Act → World → Prop} {E : Prop} {e : TypeId} {z : Value} {by8 : Nat}
    (hinfo : (P.info? e).map (fun i => (i.zero, i.size, i.bytes)) = some (some z, 1, by8)) (hzs : z.cells.size = 1) (hb1 : 1 ≤ by8) (hgd : o.guard = none) (s x : Operand) (t : TypeId)
    (ho : o.op = .call { callee := .builtin .append, args := #[s, x], argTypes := #[t, t] }) (ht : P.underlying t = some (.slice e)) (base : Nat)
    (v : Value) (n : Nat) (xs : List Value) (hs : a.eval s = v) (hown : W.ownsRow base e 1 v n xs)
    (news : List Value) (m c : Nat) (hx : a.eval x = .slice (some ⟨W.heap.size, 0, none⟩) m c) (hm : news.length = m) (h1 : ∀ u ∈ news, u.oneCell' = true)
    (hweq : w = W.alloc (.cells news.toArray e)) (hbytes : (n + m) * by8 ≤ 140737488355328) (hbase : base ≤ W.heap.size)
    (h : ∀ v' w', w'.ownsRow base e 1 v' (n + m) (xs ++ news) → Below base W w' → K (a.put o.dst v') w') :
    if Region.wanted o (yielded ops a.tmps) = true then Oper.wp P o a w K Q else E := by
  subst hweq
  obtain ⟨i, hi, hz0, hz1, hz2⟩ := info_parts hinfo
  have hw : Region.wanted o (yielded ops a.tmps) = true := by simp [Region.wanted, hgd]
  rw [if_pos hw]
  have hnm : n + m ≤ 140737488355328 := Nat.le_trans (Nat.le_mul_of_pos_right _ hb1) hbytes
  obtain ⟨v', w', hrun, r1, r2, _⟩ := run_append_own (P := P) (W.alloc (.cells news.toArray e)) base t o.type e i z 1 by8 ht hi hz0 hz1 hz2 hzs (by decide) v n xs (hown.alloc _) ⟨W.heap.size, 0, none⟩ m c news (by omega)
    (by
      intro j u hu
      rw [Addr.add_lit, World.cell?_alloc_at _ _ _ _ (by simp)]
      simpa using hu) h1 (by unfold maxLen; omega) hbytes (by simp; omega)
  unfold Oper.wp
  simp [execOp, ho, resolve, invoke, builtin, hs, hx, hrun, Result.andThen]
  exact h v' w' r1 (((Below.refl base W).alloc hbase _).grown r2 (by simp; omega) (fun k hk => (hown.lt k hk).1))

/-- The same for a string that is appended to a row of bytes. -/
theorem step_str {P : Program} {w : World} {ops : Array Oper} {o : Oper} {a : Act} {K : Act → World → Prop} {Q : Exit → Act → World → Prop} {E : Prop} {e : TypeId}
    (hinfo : (P.info? e).map (fun i => (i.zero, i.size, i.bytes)) = some (some (.int .u8 0), 1, 1)) (hgd : o.guard = none) (sl x : Operand) (t u : TypeId)
    (ho : o.op = .call { callee := .builtin .append, args := #[sl, x], argTypes := #[t, u] }) (ht : P.underlying t = some (.slice e)) (hu : P.underlying u = some .string) (base : Nat)
    (v : Value) (n : Nat) (xs : List Value) (hs : a.eval sl = v) (hown : w.ownsRow base e 1 v n xs) (s : ByteArray) (hx : a.eval x = .string s)
    (hbytes : n + s.size ≤ 140737488355328) (hbase : base ≤ w.heap.size)
    (h : ∀ v' w', w'.ownsRow base e 1 v' (n + s.size) (xs ++ bytes s.data.toList) → Below base w w' → K (a.put o.dst v') w') :
    if Region.wanted o (yielded ops a.tmps) = true then Oper.wp P o a w K Q else E := by
  obtain ⟨i, hi, hz0, hz1, hz2⟩ := info_parts hinfo
  have hw : Region.wanted o (yielded ops a.tmps) = true := by simp [Region.wanted, hgd]
  rw [if_pos hw]
  obtain ⟨v', w', hrun, r1, r2, _⟩ := Lib.run_append_own_string (P := P) w base t u o.type e i ht hu hi hz0 hz1 hz2 v n xs hown s (by unfold maxLen; omega) hbytes hbase
  unfold Oper.wp
  simp [execOp, ho, resolve, invoke, builtin, hs, hx, hrun, Result.andThen]
  exact h v' w' r1 ((Below.refl base w).grown r2 hbase (fun k hk => (hown.lt k hk).1))
end Kit
end Go.Proofs.YtlcdhlfkffkifaaGreatDoor
