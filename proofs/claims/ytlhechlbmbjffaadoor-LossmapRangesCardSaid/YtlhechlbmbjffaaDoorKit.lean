/-
  Small lemmas over the model for this seat's walks: what stays behind 'Below', owned rows of cells, and rows that a slice value shows.
-/
import Derived.Test.YtlhechlbmbjffaaDoorProg
import Derived.WalkKit
import Derived.Lib.Hide
import Derived.Shelf.Unicode.DecodeSlow
import Derived.BigQuiet
import Derived.Deep.QuietTactic
import Derived.WalkSpells
import Derived.WalkLawsBesides
import Derived.Handy
import Derived.Lib.AppendStr
namespace Go.Proofs.YtlhechlbmbjffaaDoor
open Go.RowKit
namespace Kit

/-- Numbers as cells of type int. -/
def ints (l : List Nat) : List Value := l.map fun (c : Nat) => Value.int .i64 (c : Int)
theorem ints_length (l : List Nat) : (ints l).length = l.length := by simp [ints]
theorem ints_append (l m : List Nat) : ints (l ++ m) = ints l ++ ints m := by simp [ints]
/-- Bytes as cells. -/
def bytes (l : List UInt8) : List Value := l.map fun (b : UInt8) => Value.int .u8 (b.toNat : Int)
theorem bytes_length (l : List UInt8) : (bytes l).length = l.length := by simp [bytes]
theorem bytes_append (l m : List UInt8) : bytes (l ++ m) = bytes l ++ bytes m := by simp [bytes]

/-- The length of a string in a slot: for a loop's measure. -/
def strLen : Value → Nat | .string s => s.size | _ => 0

theorem ret_tuple2 {a a' b b' : Value} (h : a = a') (h' : b = b') : Ending.returned (.tuple #[a, b]) = .returned (.tuple #[a', b']) := by rw [h, h']

theorem tabs_below {a b : Nat} {w w' : World} (h : Lib.Utf8Tabs a b w) (hb : Below w.heap.size w w') : Lib.Utf8Tabs a b w' := by
  refine ⟨fun c hc => ?_, fun i hi => ⟨?_, ?_⟩⟩
  · rw [hb.cell (World.block_lt_of_cell? _ _ (h.1 c hc))]; exact h.1 c hc
  · rw [hb.cell (World.block_lt_of_cell? _ _ (h.2 i hi).1)]; exact (h.2 i hi).1
  · rw [hb.cell (World.block_lt_of_cell? _ _ (h.2 i hi).2)]; exact (h.2 i hi).2

theorem tabs_drewN {a b n : Nat} {w : World} (h : Lib.Utf8Tabs a b w) : Lib.Utf8Tabs a b (w.drewN n) := h

/-- Old cells and old marks read as before. -/
theorem bcell {W w1 : World} (hb : Below W.heap.size W w1) : (∀ b o, b < W.heap.size → w1.cell? ⟨b, o, none⟩ = W.cell? ⟨b, o, none⟩) ∧ (∀ b o, b < W.heap.size → w1.frozen? ⟨b, o, none⟩ = W.frozen? ⟨b, o, none⟩) :=
  ⟨fun b o h => hb.cell (p := ⟨b, o, none⟩) h, fun b o h => hb.frozen (p := ⟨b, o, none⟩) h⟩

theorem grown_of_below {w w' : World} (h : Below w.heap.size w w') : w.grownBy w' none :=
  ⟨h.os, h.tape, h.output, h.size, fun k hk _ => h.block k hk⟩

/-- A row that a call has made is not touched by what leaves old memory alone. -/
theorem own_below {w w' : World} {base e size n : Nat} {v : Value} {xs : List Value} (h : w.ownsRow base e size v n xs) (hb : Below w.heap.size w w') : w'.ownsRow base e size v n xs :=
  h.kept (grown_of_below hb) (by cases hv : v.ownBlock <;> simp)

theorem own_base {w : World} {B B' e size n : Nat} {v : Value} {xs : List Value} (h : w.ownsRow B' e size v n xs) (hB : B ≤ B') : w.ownsRow B e size v n xs :=
  ⟨h.1, h.2.imp id (fun ⟨g, cap, cur, a, b, c⟩ => ⟨g, cap, cur, a, Nat.le_trans hB b, c⟩)⟩

theorem below_drewN {B : Nat} {w : World} (n : Nat) : Below B w (w.drewN n) := ⟨rfl, rfl, rfl, Nat.le_refl _, fun _ _ => rfl⟩
theorem Below.drewN {B : Nat} {a w : World} (h : Below B a w) (n : Nat) : Below B a (w.drewN n) := h.trans (below_drewN n)

theorem cell_one_new (w : World) (x : Value) (t : TypeId) : ∀ j u, [x][j]? = some u → (w.alloc (.cells #[x] t)).cell? ((⟨w.heap.size, 0, none⟩ : Addr).add j) = some u := by
  intro j u hj
  match j, hj with
  | 0, hj => simp at hj; subst hj; simp [Addr.add]
  | (j + 1), hj => simp at hj
theorem cell_two_new (w : World) (x y : Value) (t : TypeId) : ∀ j u, [x, y][j]? = some u → (w.alloc (.cells #[x, y] t)).cell? ((⟨w.heap.size, 0, none⟩ : Addr).add j) = some u := by
  intro j u hj
  match j, hj with
  | 0, hj => simp at hj; subst hj; simp [Addr.add]
  | 1, hj => simp at hj; subst hj; simp [Addr.add]
  | (j + 2), hj => simp at hj
theorem one_i64 (l : List Nat) : ∀ u ∈ ints l, u.oneCell' = true := by
  intro u hu
  obtain ⟨_, _, rfl⟩ := List.mem_map.1 hu
  rfl
theorem one_u8 (l : List UInt8) : ∀ u ∈ bytes l, u.oneCell' = true := by
  intro u hu
  obtain ⟨_, _, rfl⟩ := List.mem_map.1 hu
  rfl

/-- A slice value that reads as the cells xs. -/
def Row (w : World) (v : Value) (xs : List Value) : Prop := ∃ A c, v = .slice A xs.length c ∧ xs.length ≤ c ∧ c ≤ maxLen ∧
  (0 < xs.length → ∃ b o, A = some ⟨b, o, none⟩ ∧ b < w.heap.size ∧ ∀ j u, xs[j]? = some u → w.cell? ⟨b, o + j, none⟩ = some u)

theorem Row.below {w w' : World} {v : Value} {xs : List Value} (h : Row w v xs) (hb : Below w.heap.size w w') : Row w' v xs := by
  obtain ⟨A, c, rfl, h1, h2, h3⟩ := h
  refine ⟨A, c, rfl, h1, h2, fun h0 => ?_⟩
  obtain ⟨b, o, rfl, hl, hc⟩ := h3 h0
  exact ⟨b, o, rfl, Nat.lt_of_lt_of_le hl hb.size, fun j u hu => (hb.cell (p := ⟨b, o + j, none⟩) hl).trans (hc j u hu)⟩

theorem Row.of_own {w : World} {base e n : Nat} {v : Value} {xs : List Value} (h : w.ownsRow base e 1 v n xs) : Row w v xs := by
  have hl : xs.length = n := by simpa using h.1
  rcases h.2 with ⟨rfl, h0⟩ | ⟨g, cap, cur, rfl, _, hg, hnc, hcm, _, _⟩
  · exact ⟨none, 0, by rw [hl, h0], by omega, by unfold maxLen; omega, fun h' => by omega⟩
  · refine ⟨some ⟨g, 0, none⟩, cap, by rw [hl], by omega, hcm, fun _ => ⟨g, 0, rfl, (Array.getElem?_eq_some_iff.1 hg).1, fun j u hu => ?_⟩⟩
    have := h.cells (g := g) rfl j u hu
    rwa [Addr.add_lit] at this

/-- Numbers as cells of type int. -/
def izs (l : List Int) : List Value := l.map (Value.int .i64)
theorem izs_length (l : List Int) : (izs l).length = l.length := by simp [izs]
theorem ints_izs (l : List Nat) : ints l = izs (l.map fun (n : Nat) => (n : Int)) := by simp [ints, izs]
theorem Row.at_izs {w : World} {v : Value} {zs : List Int} (h : Row w v (izs zs)) {j : Nat} (hj : j < zs.length) : ∃ b o c, v = .slice (some ⟨b, o, none⟩) zs.length c ∧ b < w.heap.size ∧ w.cell? ⟨b, o + j, none⟩ = some (.int .i64 (zs.getD j 0)) := by
  obtain ⟨A, c, rfl, h1, h2, h3⟩ := h
  rw [izs_length] at h1 h3 ⊢
  obtain ⟨b, o, rfl, hl, hc⟩ := h3 (by omega)
  exact ⟨b, o, c, rfl, hl, hc j _ (by simp [izs, List.getD, hj])⟩

/-- 'append(v, x, ..)' onto a row of the call's own: what is appended has just been laid. -/
theorem push {P : Program} {W : World} {ops : Array Oper} {rest : List Oper} {o : Oper} {a : Act} {Q : Exit → Act → World → Prop} (hgd : o.guard = none) (s x : Operand) (t : TypeId)
    (ho : o.op = .call { callee := .builtin .append, args := #[s, x], argTypes := #[t, t] })
    (base : Nat) (e : TypeId) (i : TypeInfo) (z : Value) (bytes : Nat) (ht : P.underlying t = some (.slice e)) (hi : P.info? e = some i) (hz : i.zero = some z)
    (hsize : i.size = 1) (hby : i.bytes = bytes) (hzs : z.cells.size = 1)
    (v : Value) (n : Nat) (xs : List Value) (hs : a.eval s = v) (hown : W.ownsRow base e 1 v n xs)
    (news : List Value) (m c : Nat) (hx : a.eval x = .slice (some ⟨W.heap.size, 0, none⟩) m c) (hm : news.length = m) (h1 : ∀ u ∈ news, u.oneCell' = true)
    (h63 : n + m ≤ maxLen) (hbytes : (n + m) * bytes ≤ 140737488355328) (hbase : base ≤ W.heap.size)
    (h : ∀ v' w', w'.ownsRow base e 1 v' (n + m) (xs ++ news) → Below base W w' → wpList P ops Q rest (a.put o.dst v') w') :
    wpList P ops Q (o :: rest) a (W.alloc (.cells news.toArray e)) := by
  refine wpList_append_own _ hgd s x t ho base e i z 1 bytes ht hi hz hsize hby hzs (by decide) v n xs hs (hown.alloc _) ⟨W.heap.size, 0, none⟩ m c news hx (by omega) ?_ h1 h63 hbytes (by simp; omega) ?_
  · intro j u hu
    rw [Addr.add_lit, World.cell?_alloc_at _ _ _ _ (by simp)]
    simpa using hu
  · intro v' w' ho' hg _
    refine h v' w' ho' ?_
    exact ((Below.refl base W).alloc hbase _).grown hg (by simp; omega) (fun k hk => (hown.lt k hk).1)
/-- The string of a row of bytes that the call owns. -/
theorem str_of_own {P : Program} {w : World} {src dst e base : Nat} {v : Value} {l : List UInt8} (hs : P.underlying src = some (.slice e)) (he : P.underlying e = some (.int .u8)) (hd : P.underlying dst = some .string)
    (h : w.ownsRow base e 1 v l.length (bytes l)) : (convert src dst v).run P w = .ok (.string ⟨l.toArray⟩) w := by
  rcases h.2 with ⟨rfl, h0⟩ | ⟨g, cap, cur, rfl, _, hg, _, _, _, htake⟩
  · have : l = [] := List.eq_nil_of_length_eq_zero h0
    subst this
    rw [run_convert_bytes_nil w src e hs he 0 0 dst hd]
    rfl
  · refine run_convert_bytes_back w src dst e _ cap l hs he hd fun j hj => ?_
    exact h.cells (g := g) rfl j _ (by simp [bytes, hj])

theorem strCells_eq (s : ByteArray) : Lib.strCells s = bytes s.data.toList := rfl

/-- A row that has just been laid is owned. -/
theorem own_new (w : World) (e : TypeId) (xs : List Value) (h : xs.length ≤ maxLen) : (w.alloc (.cells xs.toArray e)).ownsRow w.heap.size e 1 (.slice (some ⟨w.heap.size, 0, none⟩) xs.length xs.length) xs.length xs :=
  ⟨by simp, .inr ⟨w.heap.size, xs.length, xs.toArray, rfl, Nat.le_refl _, heap_alloc_new w _, Nat.le_refl _, h, by simp, by simp⟩⟩

theorem bytes_of (x : Int) (h0 : 0 ≤ x) (h1 : x < 256) : bytes [UInt8.ofNat x.toNat] = [Value.int .u8 x] := by
  have : (UInt8.ofNat x.toNat).toNat = x.toNat := by
    rw [UInt8.toNat_ofNat']; omega
  simp [bytes, this]; omega

/-- The string of one, two, three bytes that have just been laid. -/
theorem str_new {P : Program} (W : World) (src dst e : Nat) (l : List Int) (n : Nat) (hs : P.underlying src = some (.slice e)) (he : P.underlying e = some (.int .u8)) (hd : P.underlying dst = some .string)
    (hl : ∀ x ∈ l, 0 ≤ x ∧ x < 256) (hn : l.length = n) : (convert src dst (.slice (some ⟨W.heap.size, 0, none⟩) n n)).run P (W.alloc (.cells (l.map (Value.int .u8)).toArray e)) = .ok (.string ⟨(l.map fun x => UInt8.ofNat x.toNat).toArray⟩) (W.alloc (.cells (l.map (Value.int .u8)).toArray e)) := by
  subst hn
  have := run_convert_bytes_back (P := P) (W.alloc (.cells (l.map (Value.int .u8)).toArray e)) src dst e ⟨W.heap.size, 0, none⟩ l.length (l.map fun x => UInt8.ofNat x.toNat) hs he hd (fun j hj => by
    have hj' : j < l.length := by simpa using hj
    obtain ⟨a, b⟩ := hl l[j] (List.getElem_mem _)
    rw [Addr.add_lit, World.cell?_alloc_at _ _ _ _ (by simp)]
    simp only [Nat.zero_add, List.getElem?_toArray, List.getElem?_map, List.getElem?_eq_getElem hj', Option.map_some, List.getElem_map]
    congr 2
    rw [UInt8.toNat_ofNat']
    omega)
  simpa using this
/-- As 'push', the element type's row of the table as one fact. -/
theorem app {P : Program} {W : World} {ops : Array Oper} {rest : List Oper} {o : Oper} {a : Act} {Q : Exit → Act → World → Prop} {e : TypeId} {z : Value} {by8 : Nat}
    (hinfo : (P.info? e).map (fun i => (i.zero, i.size, i.bytes)) = some (some z, 1, by8)) (hzs : z.cells.size = 1) (hb1 : 1 ≤ by8) (hgd : o.guard = none) (s x : Operand) (t : TypeId)
    (ho : o.op = .call { callee := .builtin .append, args := #[s, x], argTypes := #[t, t] }) (ht : P.underlying t = some (.slice e)) (base : Nat)
    (v : Value) (n : Nat) (xs : List Value) (hs : a.eval s = v) (hown : W.ownsRow base e 1 v n xs)
    (news : List Value) (m c : Nat) (hx : a.eval x = .slice (some ⟨W.heap.size, 0, none⟩) m c) (hm : news.length = m) (h1 : ∀ u ∈ news, u.oneCell' = true)
    (hbytes : (n + m) * by8 ≤ 140737488355328) (hbase : base ≤ W.heap.size)
    (h : ∀ v' w', w'.ownsRow base e 1 v' (n + m) (xs ++ news) → Below base W w' → wpList P ops Q rest (a.put o.dst v') w') :
    wpList P ops Q (o :: rest) a (W.alloc (.cells news.toArray e)) := by
  obtain ⟨i, hi, hz0, hz1, hz2⟩ := info_parts hinfo
  have hnm : n + m ≤ 140737488355328 := Nat.le_trans (Nat.le_mul_of_pos_right _ hb1) hbytes
  exact push hgd s x t ho base e i z by8 ht hi hz0 hz1 hz2 hzs v n xs hs hown news m c hx hm h1 (by unfold maxLen; omega) hbytes hbase h

theorem one1 {a : Value} (ha : a.oneCell' = true) : ∀ u ∈ [a], u.oneCell' = true := by
  intro u hu; simp at hu; rw [hu]; exact ha
theorem one_u8s : ∀ (l : List Int), ∀ u ∈ l.map (Value.int .u8), u.oneCell' = true := by
  intro l u hu
  obtain ⟨_, _, rfl⟩ := List.mem_map.1 hu
  rfl

/-- One byte more. -/
theorem snoc_byte {w : World} {base e : Nat} {v : Value} {l : List UInt8} {n : Nat} {x : Int} (h : w.ownsRow base e 1 v n (bytes l ++ [.int .u8 x])) (h0 : 0 ≤ x) (h1 : x < 256) : w.ownsRow base e 1 v n (bytes (l ++ [UInt8.ofNat x.toNat])) := by
  rw [bytes_append, bytes_of x h0 h1]
  exact h
end Kit
end Go.Proofs.YtlhechlbmbjffaaDoor
