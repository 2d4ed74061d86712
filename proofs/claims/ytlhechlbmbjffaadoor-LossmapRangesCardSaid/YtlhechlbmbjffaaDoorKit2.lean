/-
  More small lemmas over the model: strings out of owned rows of bytes.
-/
import Derived.Test.YtlhechlbmbjffaaDoorKit
import Derived.Lib.FrozenHead
import Derived.Test.YtlhechlbmbjffaaDoorChars
namespace Go.Proofs.YtlhechlbmbjffaaDoor
open Go.RowKit
namespace Kit

theorem str_own {w : World} {base n : Nat} {v : Value} {l : List UInt8} (h : w.ownsRow base 5 1 v n (bytes l)) : (convert 69 9 v).run Tryd.prog w = .ok (.string ⟨l.toArray⟩) w := by
  have hn : n = l.length := by simpa [bytes] using h.1.symm
  subst hn
  exact str_of_own Tryd.underlying69 Tryd.underlying5 Tryd.underlying9 h

/-- The string of one byte that has just been laid. -/
theorem str_one (W : World) (x : Int) (h0 : 0 ≤ x) (h1 : x < 256) : (convert 69 9 (.slice (some ⟨W.heap.size, 0, none⟩) 1 1)).run Tryd.prog (W.alloc (.cells #[.int .u8 x] 5)) = .ok (.string ⟨#[UInt8.ofNat x.toNat]⟩) (W.alloc (.cells #[.int .u8 x] 5)) :=
  str_new (P := Tryd.prog) W 69 9 5 [x] 1 Tryd.underlying69 Tryd.underlying5 Tryd.underlying9 (by simp; omega) rfl

theorem own_nil (w : World) (e : Nat) : (w.alloc (.cells #[] e)).ownsRow w.heap.size e 1 (.slice (some ⟨w.heap.size, 0, none⟩) 0 0) 0 [] := by
  have := own_new w e [] (by simp [maxLen])
  simpa using this
theorem own_empty (w : World) (e : Nat) : (w.alloc (.cells #[] e)).ownsRow w.heap.size e 1 (.slice (some ⟨w.heap.size, 0, none⟩) 0 0) 0 (bytes []) := own_nil w e
theorem byt_get (s : ByteArray) (i : Nat) (h : i < s.size) : (s[i]'h).toNat = Cs.byt s.data.toList i := by
  unfold Cs.byt
  have h' : i < s.data.size := h
  simp only [List.getD, Array.getElem?_toList, Array.getElem?_eq_getElem h']
  rfl
theorem len_size (s : ByteArray) : s.data.toList.length = s.size := by simp
theorem not_empty (s : ByteArray) (h : 0 < s.size) : s.toList.isEmpty = false := by
  rw [Lib.toList_data]
  cases hs : s.data.toList with
  | nil => have := len_size s; rw [hs] at this; simp at this; omega
  | cons _ _ => rfl
theorem is_empty (s : ByteArray) (h : s.size = 0) : s.toList.isEmpty = true := by
  have hs : s.data.toList = [] := List.eq_nil_of_length_eq_zero (by rw [len_size]; exact h)
  rw [Lib.toList_data, hs]
  rfl
theorem extract_take (s : ByteArray) (k : Nat) : s.extract 0 k = ⟨(s.data.toList.take k).toArray⟩ := by
  apply ByteArray.ext
  apply Array.toList_inj.1
  rw [Lib.extract_data]
  simp
theorem append_mk (a b : List UInt8) : (⟨a.toArray⟩ : ByteArray) ++ ⟨b.toArray⟩ = ⟨(a ++ b).toArray⟩ := by
  apply ByteArray.ext
  simp [ByteArray.data_append]
theorem eta (s : ByteArray) : s = ⟨s.data.toList.toArray⟩ := by cases s; simp
set_option maxRecDepth 100000 in
/-- '[]byte(s)': a new row with the bytes of s. -/
theorem str_bytes (w : World) (s : ByteArray) : ∃ cap W', (convert 9 69 (.string s)).run Tryd.prog w = .ok (.slice (some ⟨w.heap.size, 0, none⟩) s.size cap) W' ∧ Below w.heap.size w W' ∧ W'.heap.size = w.heap.size + 1 ∧
    s.size ≤ cap ∧ ∀ j, j < s.size → W'.cell? ⟨w.heap.size, j, none⟩ = some (.int .u8 (Cs.byt s.data.toList j : Nat)) := by
  have h := run_bytes_of_string (P := Tryd.prog) w 9 69 5 s Tryd.underlying9 Tryd.underlying69 Tryd.underlying5
  refine ⟨_, _, h, ?_, ?_, grownCap_ge w _ _ _, ?_⟩
  · exact ((Below.refl _ w).drew).alloc (Nat.le_refl _) _
  · simp
  · intro j hj
    have hj' : j < s.data.size := hj
    rw [show w.heap.size = w.drew.heap.size from rfl, World.cell?_alloc_mark, bytesRow_at _ _ _ hj']
    congr 3
    unfold Cs.byt
    simp only [List.getD, Array.getElem?_toList, Array.getElem?_eq_getElem hj', Option.getD_some]

theorem builder_below {T e B b : Nat} {bs : List Value} {w w' : World} (h : Lib.IsBuilderF T e B b bs w) (hb : Below w.heap.size w w') : Lib.IsBuilderF T e B b bs w' := by
  have one : ∀ p, Lib.BuilderAtF T e B b p bs w → Lib.BuilderAtF T e B b p bs w' := by
    intro p h
    have hlt := h.lt
    obtain ⟨hB, v, hbk, hown, hne⟩ := h
    refine ⟨hB, v, (hb.block b hlt).trans hbk, hown.kept (grown_of_below hb) ?_, hne⟩
    cases hv : v.ownBlock <;> simp
  exact h.imp (one _) (one _)
theorem or8 (x y : Int) (hx0 : 0 ≤ x) (hx : x % 256 = 0) (hx1 : x < 2147483648) (h0 : 0 ≤ y) (h1 : y < 256) : bits .or .i32 x y = x + y :=
  bits_join .i32 31 (by decide) wraps_i32 8 x y hx0 hx hx1 h0 h1 (by omega)
/-- The string of one byte that stands in a cell. -/
theorem str_cell {W : World} {g : Nat} {x : Int} (h0 : 0 ≤ x) (h1 : x < 256) (hc : W.cell? ⟨g, 0, none⟩ = some (.int .u8 x)) : (convert 69 9 (.slice (some ⟨g, 0, none⟩) 1 1)).run Tryd.prog W = .ok (.string ⟨#[UInt8.ofNat x.toNat]⟩) W := by
  have h := run_convert_bytes_back (P := Tryd.prog) W 69 9 5 ⟨g, 0, none⟩ 1 [UInt8.ofNat x.toNat] Tryd.underlying69 Tryd.underlying5 Tryd.underlying9 (fun j hj => by
    have hj0 : j = 0 := by simpa using hj
    subst hj0
    rw [Addr.add_lit, Nat.add_zero, hc]
    simp only [List.getElem_cons_zero]
    congr 2
    rw [UInt8.toNat_ofNat']
    omega)
  exact h
end Kit
end Go.Proofs.YtlhechlbmbjffaaDoor
