/-
  The walks through volumeseq.set and FileSet.
-/
import Derived.Test.YthkppbimkjmbnaaGreatDoorZR
import Derived.Test.YthkppbimkjmbnaaGreatDoorZO
import Derived.Laws.IdiomArrays
namespace Go.Proofs.YthkppbimkjmbnaaGreatDoor
open Go.RowKit
open Vs (bs by_)
namespace Vs
/-- The cells of a file set's contents. -/
def fsC (f : Fs) : Array Value := #[.int .i64 f.num, .int .i64 f.time, .string f.name, .int .i64 f.rb, .int .i64 f.rp]
theorem fset_fills (f : Fs) (h : okFs f = true) (s1 : f.name.size ≤ 9223372036854775807) : ∃ L, bodyL L 496 = fsL f ∧ ∀ (W : World) (fb : Nat), W.heap[fb]? = some (.cells #[.int .i64 f.num, .int .i64 f.time, .string f.name, .int .i64 f.rb, .int .i64 f.rp] 65 (0, 0)) → Lib.Utf8Tabs 1 2 W → Fills 97 #[.pointer (some ⟨fb, 0, none⟩)] W L := by
  obtain ⟨h1, h2, h3, h4, h5, h6⟩ := (okFs_iff f).1 h
  have hn := named_text h6
  exact ⟨_, body_fs f (stampR_len h5) (fld128 hn) (fld32 hn), fun W fb q1 q2 => fillSet_any W fb f h s1 q1 q2⟩
end Vs

set_option maxHeartbeats 6400000 in
set_option maxRecDepth 100000 in
/-- set. -/
theorem vSet_any (f : Vs.Fs) (w : World) (hT : Lib.Utf8Tabs 1 2 w) (s1 : f.name.size ≤ 9223372036854775807) :
    Calls Tryz.prog 96 #[.agg (Vs.fsC f)] w fun e w' => e = .returned (.bool (Vs.okFs f)) ∧ Below w.heap.size w w' := by
  have C1 := Lib.hid (fun W => word_any f.num W)
  have C2 := Lib.hid (fun W => word_any f.rb W)
  have C3 := Lib.hid (fun W => timed_any f.time W)
  have C4 := Lib.hid (fun W (h : Lib.Utf8Tabs 1 2 W) => vNamed_any f.name W h s1)
  have HI := Lib.hid (Vs.okFs_iff f)
  have HB := Lib.hid ((Below.refl w.heap.size w).alloc (Nat.le_refl _) (.cells (Vs.fsC f) 65))
  have HT := Lib.hid (Kit.tabs_below hT HB.out)
  clear hT
  obtain ⟨num, tm, name, rb, rp⟩ := f
  unfold Vs.fsC at *
  simp only [] at *
  generalize Vs.okFs ⟨num, tm, name, rb, rp⟩ = R at *
  generalize Vs.word num = b1 at *
  generalize Vs.word rb = b2 at *
  generalize Vs.isTime tm = b3 at *
  generalize Vs.namedB (by_ name) = b4 at *
  have hcs : (b1 = false) ∨ (b1 = true ∧ b2 = false) ∨ (b1 = true ∧ b2 = true ∧ rp < 0) ∨ (b1 = true ∧ b2 = true ∧ 0 ≤ rp ∧ 65535 < rp) ∨ (b1 = true ∧ b2 = true ∧ 0 ≤ rp ∧ rp ≤ 65535 ∧ b3 = false) ∨ (b1 = true ∧ b2 = true ∧ 0 ≤ rp ∧ rp ≤ 65535 ∧ b3 = true) := by
    cases b1 <;> cases b2 <;> cases b3 <;> simp <;> omega
  rcases hcs with h | ⟨h, h2⟩ | ⟨h, h2, h3⟩ | ⟨h, h2, h3, h4⟩ | ⟨h, h2, h3, h4, h5⟩ | ⟨h, h2, h3, h4, h5⟩
  case inr.inr.inr.inr.inr =>
    subst h h2 h5
    have HV := Lib.hid (show R = b4 by
      rw [Bool.eq_iff_iff, HI.out]
      exact ⟨fun g => g.2.2.2.2.2, fun g => ⟨rfl, rfl, h3, h4, rfl, g⟩⟩)
    clear HI
    go_enter Tryz.func96, Tryz.ntmps96
    go_wp2_with (first | (with_reducible refine (C1.out _).mono ?_; rintro e wx ⟨rfl, hw⟩; subst hw) | (with_reducible refine (C2.out _).mono ?_; rintro e wx ⟨rfl, hw⟩; subst hw) | (with_reducible refine (C3.out _).mono ?_; rintro e wx ⟨rfl, hw⟩; subst hw))
    with_reducible refine (C4.out _ HT.out).mono ?_
    rintro e w2 ⟨rfl, hb2⟩
    have HB2 := Lib.hid (HB.out.trans (hb2.mono HB.out.size))
    clear hb2
    go_wp2_with fail
    go_ret
    rw [HV.out]
    exact ⟨rfl, HB2.out⟩
  all_goals
    have HV := Lib.hid (show R = false by
      rw [Bool.eq_false_iff]
      intro g
      obtain ⟨g1, g2, g3, g4, g5, g6⟩ := HI.out.1 g
      first
        | omega
        | exact absurd (h.symm.trans g1) (by decide)
        | exact absurd (h2.symm.trans g2) (by decide)
        | exact absurd (h5.symm.trans g5) (by decide))
    try subst h
    try subst h2
    try subst h5
    clear HI
    go_enter Tryz.func96, Tryz.ntmps96
    go_wp2_with (first | (with_reducible refine (C1.out _).mono ?_; rintro e wx ⟨rfl, hw⟩; subst hw) | (with_reducible refine (C2.out _).mono ?_; rintro e wx ⟨rfl, hw⟩; subst hw) | (with_reducible refine (C3.out _).mono ?_; rintro e wx ⟨rfl, hw⟩; subst hw))
    go_ret
    rw [HV.out]
    exact ⟨rfl, HB.out⟩

set_option maxHeartbeats 6400000 in
set_option maxRecDepth 100000 in
/-- FileSet. -/
theorem vFileSet_any (f : Vs.Fs) (loc : Int) (w : World) (hT : Lib.Utf8Tabs 1 2 w) (s1 : f.name.size ≤ 9223372036854775807) :
    Calls Tryz.prog 32 #[.agg (Vs.fsC f), .int .i64 loc] w fun e w' => e = .returned (.tuple #[.string (bs (Vs.fsetR f loc).1), .int .i64 (Vs.fsetR f loc).2]) ∧ Below w.heap.size w w' := by
  have CW := Lib.hid (fun W => word_any loc W)
  have CS := Lib.hid (fun W (h : Lib.Utf8Tabs 1 2 W) => vSet_any f W h s1)
  have HR := Lib.hid (show Vs.fsetR f loc = if Vs.word loc = true then (if Vs.okFs f = true then (Vs.blk 256 1 loc.toNat (Vs.fsL f), 0) else ([], 1)) else ([], 2) from rfl)
  have HF := Lib.hid (fun h => And.intro (Vs.fset_fills f h s1) (Vs.fs_len h))
  have HWL := Lib.hid (Vs.word_iff loc)
  have HB := Lib.hid ((Below.refl w.heap.size w).alloc (Nat.le_refl _) (.cells (Vs.fsC f) 65))
  have HN := Lib.hid (heap_alloc_new w (.cells (Vs.fsC f) 65))
  have HTW := Lib.hid (fun W (h : Below w.heap.size w W) => Kit.tabs_below hT h)
  clear hT
  generalize Vs.fsetR f loc = RR at *
  generalize Vs.fsL f = FL at *
  obtain ⟨num, tm, name, rb, rp⟩ := f
  unfold Vs.fsC at *
  simp only [] at *
  generalize Vs.okFs ⟨num, tm, name, rb, rp⟩ = ok at *
  cases hwl : Vs.word loc with
  | false =>
    rw [hwl] at CW
    have HR2 := Lib.hid (HR.out.trans (if_neg (by rw [hwl]; decide)))
    rw [HR2.out]
    clear HR HR2 HF HWL hwl
    go_enter Tryz.func32, Tryz.ntmps32
    go_wp2_with (with_reducible refine (CW.out _).mono ?_; rintro e wx ⟨rfl, hw⟩; subst hw)
    go_ret2
    exact ⟨rfl, HB.out⟩
  | true =>
  rw [hwl] at CW
  have HR1 := Lib.hid (HR.out.trans (if_pos hwl))
  cases ok with
  | false =>
    have HR2 := Lib.hid (HR1.out.trans (if_neg (by decide)))
    rw [HR2.out]
    clear HR HR1 HR2 HF HWL hwl
    go_enter Tryz.func32, Tryz.ntmps32
    go_wp2_with (with_reducible refine (CW.out _).mono ?_; rintro e wx ⟨rfl, hw⟩; subst hw)
    with_reducible refine (CS.out _ (HTW.out _ HB.out)).mono ?_
    rintro e w2 ⟨rfl, hb2⟩
    have HB2 := Lib.hid (HB.out.trans (hb2.mono HB.out.size))
    clear hb2
    go_wp2_with fail
    go_ret2
    exact ⟨rfl, HB2.out⟩
  | true =>
    have HR2 := Lib.hid (HR1.out.trans (if_pos rfl))
    obtain ⟨⟨L, hL, hfl⟩, hlen⟩ := HF.out rfl
    obtain ⟨hl0, hl1⟩ := HWL.out.1 hwl
    obtain ⟨N, hN⟩ : ∃ N : Nat, loc = N := ⟨loc.toNat, by omega⟩
    subst hN
    rw [HR2.out, Int.toNat_natCast]
    have G := Lib.hid hfl
    have HLE := Lib.hid hL
    have CB := Lib.hid (fun W bl (hbl : bl = FL) => block_any 256 1 (N : Int) (bs bl) W (by rw [hbl, Vs.bs_size, hlen]; decide))
    have HBB := Lib.hid (show Vs.blockR 256 1 (N : Int) FL = (Vs.blk 256 1 N FL, 0) from Vs.blockR_ok (id := 256) (ser := 1) (by decide) (by decide) (by omega) (by rw [hlen]; decide))
    clear HR HR1 HR2 HF HWL hwl hL hfl hlen
    go_enter Tryz.func32, Tryz.ntmps32
    go_wp2_with (with_reducible refine (CW.out _).mono ?_; rintro e wx ⟨rfl, hw⟩; subst hw)
    with_reducible refine (CS.out _ (HTW.out _ HB.out)).mono ?_
    rintro e w2 ⟨rfl, hb2⟩
    have HB2 := Lib.hid (HB.out.trans (hb2.mono HB.out.size))
    have HN2 := Lib.hid ((hb2.block w.heap.size (by simp)).trans HN.out)
    clear hb2
    go_wp2_with fail
    refine (body_any 496 496 rfl _ _ L _ (G.out _ _ HN2.out (HTW.out _ HB2.out)) (by decide)).mono ?_
    rintro e w3 ⟨rfl, hb3⟩
    have HB3 := Lib.hid (HB2.out.trans (hb3.mono HB2.out.size))
    clear hb3
    rw [HLE.out]
    go_wp2_with fail
    refine (CB.out _ _ rfl).mono ?_
    rintro e w4 ⟨rfl, hb4⟩
    have HB4 := Lib.hid (HB3.out.trans (hb4.mono HB3.out.size))
    clear hb4
    rw [Vs.by_bs, HBB.out]
    go_wp2_with fail
    go_ret2
    exact ⟨rfl, HB4.out⟩
end Go.Proofs.YthkppbimkjmbnaaGreatDoor

/-
  Structs, slices and an array among the arguments of layer 36's laws, opened: strings, ints, file sets, integrity contents, three bytes.
-/
namespace Go.Proofs.YthkppbimkjmbnaaGreatDoor
open Go.RowKit
namespace Frame
section
variable {H : Type} {enc : TypeId × Value → H} {w : World} {base : Nat} {spare : Nat → Bool} {held : Bool}
/-- The elements of a slice that reads. -/
theorem open_elems {P : Program} {t e : TypeId} {C : Nat} (ht : P.underlying t = some (.slice e)) (hC : P.cellsOf e = C) (h0 : 0 < C) {n : Nat} {c : Value} {y : DataW H × List MemPlace} (h : DataW.trod enc P w base spare held n t [c] = some y) :
    ∃ A len cap, c = .slice A len cap ∧ len ≤ cap ∧ cap ≤ maxLen ∧ (A = none → cap = 0) ∧
      (0 < len → ∃ b o, A = some ⟨b, o, none⟩ ∧ b < w.heap.size ∧ ∀ i, i < len → ∃ cs m x, cs.length = C ∧ (∀ k u, cs[k]? = some u → w.cell? ⟨b, o + i * C + k, none⟩ = some u) ∧ DataW.trod enc P w base spare held m e cs = some x) := by
  rcases Go.Deep.open_slice ht h with ⟨hcs, _⟩ | ⟨a, len, cap, m, n', D, Pl, hcs, _, hle, hmax, hm, _, hall⟩
  · simp only [List.cons.injEq, and_true] at hcs
    exact ⟨none, 0, 0, hcs, Nat.le_refl _, by unfold maxLen; omega, fun _ => rfl, fun h => absurd h (Nat.lt_irrefl 0)⟩
  · simp only [List.cons.injEq, and_true] at hcs
    refine ⟨some a, len, cap, hcs, hle, hmax, (fun h => by cases h), fun hl => ?_⟩
    have hml : len ≤ m := by rw [hm]; split <;> omega
    have hpos : 0 < m := by omega
    have at0 : ∀ i, i < m → ∃ cs x, cs.length = C ∧ (∀ k u, cs[k]? = some u → w.cell? ((a.add (i * C)).add k) = some u) ∧ DataW.trod enc P w base spare held n' e cs = some x := by
      intro i hi
      obtain ⟨cs, hc, ht'⟩ := hall i hi
      rw [hC] at hc
      obtain ⟨_, hcl, hat⟩ := World.cells?_some hc
      refine ⟨cs, _, hcl, fun k u hu => ?_, ht'⟩
      have hk : k < C := by rw [← hcl]; exact (List.getElem?_eq_some_iff.1 hu).1
      rw [hat k hk, hu]
    obtain ⟨b, o, spot⟩ := a
    obtain ⟨cs0, x0, hl0, hc0, _⟩ := at0 0 hpos
    have h00 := hc0 0 (cs0[0]'(by omega)) (List.getElem?_eq_getElem (by omega))
    have hspot : spot = none := by simpa [Addr.add] using World.cell?_spot h00
    subst hspot
    rw [Addr.add_lit, Addr.add_lit] at h00
    refine ⟨b, o, rfl, World.block_lt_of_cell? _ _ h00, fun i hi => ?_⟩
    obtain ⟨cs, x, hcl, hat, ht'⟩ := at0 i (by omega)
    refine ⟨cs, n', x, hcl, fun k u hu => ?_, ht'⟩
    have := hat k u hu
    rwa [Addr.add_lit, Addr.add_lit] at this
/-- A slice of ints that reads. -/
theorem open_rowS {n : Nat} {c : Value} {y : DataW H × List MemPlace} (h : DataW.trod enc Tryz.prog w base spare held n 34 [c] = some y) : ∃ xs : List Int, Kit.RowS w c (Kit.izs xs) ∧ ∀ z ∈ xs, -9223372036854775808 ≤ z ∧ z ≤ 9223372036854775807 := by
  obtain ⟨A, len, cap, rfl, hle, hmax, hnone, hel⟩ := open_elems Tryz.underlying34 (show Tryz.prog.cellsOf 3 = 1 by kernel_rfl) (by decide) h
  by_cases hl : 0 < len
  · obtain ⟨b, o, rfl, hb, hx⟩ := hel hl
    obtain ⟨f, hf⟩ := Go.Deep.choose_lt (α := Int) (n := len) (p := fun i z => w.cell? ⟨b, o + i, none⟩ = some (.int .i64 z) ∧ -9223372036854775808 ≤ z ∧ z ≤ 9223372036854775807) (fun i hi => by
      obtain ⟨cs, m, x, hcl, hat, ht⟩ := hx i hi
      obtain ⟨c, rfl⟩ : ∃ c, cs = [c] := by
        match cs, hcl with
        | [c], _ => exact ⟨c, rfl⟩
      obtain ⟨z, rfl, hz⟩ := intAt ht
      have := hat 0 _ rfl
      rw [Nat.mul_one] at this
      exact ⟨z, this, hz⟩)
    have hlen : ((List.range len).map f).length = len := by simp
    refine ⟨(List.range len).map f, ⟨⟨some ⟨b, o, none⟩, cap, by rw [Kit.izs_length, hlen], by rw [Kit.izs_length, hlen]; exact hle, hmax, fun _ => ⟨b, o, rfl, hb, fun j u hu => ?_⟩⟩, fun n c h => by cases h⟩, fun z hz => ?_⟩
    · have hj : j < len := by have := (List.getElem?_eq_some_iff.1 hu).1; rwa [Kit.izs_length, hlen] at this
      rw [(hf j hj).1]
      rw [← hu]
      simp [Kit.izs, hj]
    · obtain ⟨i, hi, rfl⟩ := List.mem_map.1 hz
      exact (hf i (by simpa using hi)).2
  · obtain rfl : len = 0 := by omega
    exact ⟨[], ⟨⟨A, cap, rfl, Nat.zero_le _, hmax, fun h => by simp [Kit.izs] at h⟩, fun n c h => by cases h; exact hnone rfl⟩, fun z hz => by cases hz⟩
/-- A slice of strings that reads. -/
theorem open_strs {n : Nat} {c : Value} {y : DataW H × List MemPlace} (h : DataW.trod enc Tryz.prog w base spare held n 31 [c] = some y) : ∃ l : List ByteArray, Kit.RowS w c (Vs.strs l) := by
  obtain ⟨A, len, cap, rfl, hle, hmax, hnone, hel⟩ := open_elems Tryz.underlying31 (show Tryz.prog.cellsOf 9 = 1 by kernel_rfl) (by decide) h
  by_cases hl : 0 < len
  · obtain ⟨b, o, rfl, hb, hx⟩ := hel hl
    have : Inhabited ByteArray := ⟨⟨#[]⟩⟩
    obtain ⟨f, hf⟩ := Go.Deep.choose_lt (α := ByteArray) (n := len) (p := fun i s => w.cell? ⟨b, o + i, none⟩ = some (.string s)) (fun i hi => by
      obtain ⟨cs, m, x, hcl, hat, ht⟩ := hx i hi
      obtain ⟨c, rfl⟩ : ∃ c, cs = [c] := by
        match cs, hcl with
        | [c], _ => exact ⟨c, rfl⟩
      obtain ⟨s, rfl⟩ := strAt ht
      have := hat 0 _ rfl
      rw [Nat.mul_one] at this
      exact ⟨s, this⟩)
    have hlen : ((List.range len).map f).length = len := by simp
    refine ⟨(List.range len).map f, ⟨some ⟨b, o, none⟩, cap, by rw [Vs.strs_len, hlen], by rw [Vs.strs_len, hlen]; exact hle, hmax, fun _ => ⟨b, o, rfl, hb, fun j u hu => ?_⟩⟩, fun n c h => by cases h⟩
    have hj : j < len := by have := (List.getElem?_eq_some_iff.1 hu).1; rwa [Vs.strs_len, hlen] at this
    rw [hf j hj, ← hu]
    simp [Vs.strs, hj]
  · obtain rfl : len = 0 := by omega
    exact ⟨[], ⟨A, cap, rfl, Nat.zero_le _, hmax, fun h => by simp [Vs.strs] at h⟩, fun n c h => by cases h; exact hnone rfl⟩
/-- A bool that reads; a byte. -/
theorem boolAt {n : Nat} {c : Value} {y : DataW H × List MemPlace} (h : DataW.trod enc Tryz.prog w base spare held n 4 [c] = some y) : ∃ b : Bool, c = .bool b := by
  obtain ⟨b, hb, _⟩ := DataW.trod_bool Tryz.underlying4 h
  simp only [List.cons.injEq, and_true] at hb
  exact ⟨b, hb⟩
theorem u8At {n : Nat} {c : Value} {y : DataW H × List MemPlace} (h : DataW.trod enc Tryz.prog w base spare held n 5 [c] = some y) : ∃ z : Nat, c = .int .u8 (z : Int) ∧ z < 256 := by
  obtain ⟨z, hz, _, hwf⟩ := DataW.trod_int Tryz.underlying5 h
  simp only [List.cons.injEq, and_true] at hz
  have h' : (decide (IntKind.min .u8 ≤ z) && decide (z ≤ IntKind.max .u8)) = true := hwf
  rw [show IntKind.min .u8 = 0 from rfl, show IntKind.max .u8 = 255 from rfl, Bool.and_eq_true, decide_eq_true_eq, decide_eq_true_eq] at h'
  exact ⟨z.toNat, by rw [hz, Int.toNat_of_nonneg h'.1], by omega⟩
end
theorem arr3 {cs : Array Value} (h : cs.size = 3) : ∃ c0 c1 c2, cs = #[c0, c1, c2] := by
  obtain ⟨l⟩ := cs
  have hl : l.length = 3 := by simpa using h
  match l, hl with
  | [c0, c1, c2], _ => exact ⟨c0, c1, c2, rfl⟩
theorem arr5 {cs : Array Value} (h : cs.size = 5) : ∃ c0 c1 c2 c3 c4, cs = #[c0, c1, c2, c3, c4] := by
  obtain ⟨l⟩ := cs
  have hl : l.length = 5 := by simpa using h
  match l, hl with
  | [c0, c1, c2, c3, c4], _ => exact ⟨c0, c1, c2, c3, c4, rfl⟩
theorem arr7 {cs : Array Value} (h : cs.size = 7) : ∃ c0 c1 c2 c3 c4 c5 c6, cs = #[c0, c1, c2, c3, c4, c5, c6] := by
  obtain ⟨l⟩ := cs
  have hl : l.length = 7 := by simpa using h
  match l, hl with
  | [c0, c1, c2, c3, c4, c5, c6], _ => exact ⟨c0, c1, c2, c3, c4, c5, c6, rfl⟩
theorem okWide_arr {P : Program} {w : World} {r : Reach} {base : Nat} {t : TypeId} {v : Value} {n : Nat} {e : TypeId} (ht : P.underlying t = some (.array n e)) (h : Value.okWide P w r base t v) : ∃ cs, v = .agg cs ∧ cs.size = P.cellsOf t := by
  simp only [Value.okWide, ht] at h
  obtain ⟨cs, h1, h2, _⟩ := h
  exact ⟨cs, h1, h2⟩
theorem u16Nat {z : Int} (h : (Lit.int .u16 z).wf = true) : ∃ N : Nat, z = N ∧ N ≤ 65535 := by
  have h' : (decide (IntKind.min .u16 ≤ z) && decide (z ≤ IntKind.max .u16)) = true := h
  rw [show IntKind.min .u16 = 0 from rfl, show IntKind.max .u16 = 65535 from rfl, Bool.and_eq_true, decide_eq_true_eq, decide_eq_true_eq] at h'
  exact ⟨z.toNat, by rw [Int.toNat_of_nonneg h'.1], by omega⟩
set_option maxRecDepth 100000 in
/-- Three bytes. -/
theorem open_three {H : Type} {enc : TypeId × Value → H} {base : Nat} (W : World) (v : Value) (d : DataW H) (p : List MemPlace) (hval : Value.okWide Tryz.prog W .any base 57 v)
    (h : DataW.Trod enc Tryz.prog W 0 (fun _ => true) true 57 v d p) : ∃ y z u : Nat, v = .agg #[.int .u8 (y : Int), .int .u8 (z : Int), .int .u8 (u : Int)] ∧ y < 256 ∧ z < 256 ∧ u < 256 := by
  obtain ⟨cs, rfl, hsz⟩ := okWide_arr Tryz.underlying57 hval
  obtain ⟨c0, c1, c2, rfl⟩ := arr3 (hsz.trans (show Tryz.prog.cellsOf 57 = 3 by kernel_rfl))
  obtain ⟨fuel, hf⟩ := h
  have hf' : DataW.trod enc Tryz.prog W 0 (fun _ => true) true fuel 57 [c0, c1, c2] = some (d, p) := hf
  obtain ⟨y0, y1, y2, n, _, h0, h1, h2⟩ := Go.ChangeShapes.trod_array3 Tryz.underlying57 (show Tryz.prog.cellsOf 5 = 1 by kernel_rfl) hf'
  obtain ⟨a, rfl, ha⟩ := u8At h0
  obtain ⟨b, rfl, hb⟩ := u8At h1
  obtain ⟨c, rfl, hc⟩ := u8At h2
  exact ⟨a, b, c, rfl, ha, hb, hc⟩
set_option maxRecDepth 100000 in
/-- A file set's contents. -/
theorem open_fset {H : Type} {enc : TypeId × Value → H} {base : Nat} (W : World) (v : Value) (d : DataW H) (p : List MemPlace) (hval : Value.okWide Tryz.prog W .any base 65 v)
    (h : DataW.Trod enc Tryz.prog W 0 (fun _ => true) true 65 v d p) : ∃ f : Vs.Fs, v = .agg (Vs.fsC f) := by
  obtain ⟨cs, rfl, hsz⟩ := Go.WideShapes.okWide_struct Tryz.underlying65 hval
  obtain ⟨c0, c1, c2, c3, c4, rfl⟩ := arr5 (hsz.trans (show Tryz.prog.cellsOf 65 = 5 by kernel_rfl))
  obtain ⟨fuel, hf⟩ := h
  have hf' : DataW.trod enc Tryz.prog W 0 (fun _ => true) true fuel 65 [c0, c1, c2, c3, c4] = some (d, p) := hf
  have hs := Tryz.underlying65
  have ki : Tryz.prog.cellsOf 3 = 1 := by kernel_rfl
  have ks : Tryz.prog.cellsOf 9 = 1 := by kernel_rfl
  obtain ⟨_, _, h0⟩ := field hs hf' 0 0 1 3 (by rfl) ki
  obtain ⟨_, _, h1⟩ := field hs hf' 1 1 1 3 (by rfl) ki
  obtain ⟨_, _, h2⟩ := field hs hf' 2 2 1 9 (by rfl) ks
  obtain ⟨_, _, h3⟩ := field hs hf' 3 3 2 42 (by rfl) (by kernel_rfl)
  obtain ⟨z0, rfl, _⟩ := intAt h0
  obtain ⟨z1, rfl, _⟩ := intAt h1
  obtain ⟨s, rfl⟩ := strAt h2
  obtain ⟨b, q, rfl, rfl, _⟩ := twoAt Tryz.underlying42 (by rfl) (by rfl) h3
  exact ⟨⟨z0, z1, s, b, q⟩, rfl⟩
set_option maxRecDepth 100000 in
/-- The contents of an integrity descriptor: their lists lie in slices. -/
theorem open_info {H : Type} {enc : TypeId × Value → H} {base : Nat} (W : World) (v : Value) (d : DataW H) (p : List MemPlace) (hval : Value.okWide Tryz.prog W .any base 71 v)
    (h : DataW.Trod enc Tryz.prog W 0 (fun _ => true) true 71 v d p) : ∃ (i : Vs.In) (vf vs : Value), v = .agg #[.int .i64 i.time, .bool i.closed, .int .i64 i.unique, vf, vs, .int .i64 i.files, .int .i64 i.folders] ∧ Kit.RowS W vf (Kit.izs i.free) ∧ Kit.RowS W vs (Kit.izs i.size) := by
  obtain ⟨cs, rfl, hsz⟩ := Go.WideShapes.okWide_struct Tryz.underlying71 hval
  obtain ⟨c0, c1, c2, c3, c4, c5, c6, rfl⟩ := arr7 (hsz.trans (show Tryz.prog.cellsOf 71 = 7 by kernel_rfl))
  obtain ⟨fuel, hf⟩ := h
  have hf' : DataW.trod enc Tryz.prog W 0 (fun _ => true) true fuel 71 [c0, c1, c2, c3, c4, c5, c6] = some (d, p) := hf
  have hs := Tryz.underlying71
  have ki : Tryz.prog.cellsOf 3 = 1 := by kernel_rfl
  have kb : Tryz.prog.cellsOf 4 = 1 := by kernel_rfl
  have kl : Tryz.prog.cellsOf 34 = 1 := by kernel_rfl
  obtain ⟨_, _, h0⟩ := field hs hf' 0 0 1 3 (by rfl) ki
  obtain ⟨_, _, h1⟩ := field hs hf' 1 1 1 4 (by rfl) kb
  obtain ⟨_, _, h2⟩ := field hs hf' 2 2 1 3 (by rfl) ki
  obtain ⟨_, _, h3⟩ := field hs hf' 3 3 1 34 (by rfl) kl
  obtain ⟨_, _, h4⟩ := field hs hf' 4 4 1 34 (by rfl) kl
  obtain ⟨_, _, h5⟩ := field hs hf' 5 5 1 3 (by rfl) ki
  obtain ⟨_, _, h6⟩ := field hs hf' 6 6 1 3 (by rfl) ki
  obtain ⟨z0, rfl, _⟩ := intAt h0
  obtain ⟨b1, rfl⟩ := boolAt h1
  obtain ⟨z2, rfl, _⟩ := intAt h2
  obtain ⟨l3, r3, _⟩ := open_rowS h3
  obtain ⟨l4, r4, _⟩ := open_rowS h4
  obtain ⟨z5, rfl, _⟩ := intAt h5
  obtain ⟨z6, rfl, _⟩ := intAt h6
  exact ⟨⟨z0, b1, z2, l3, l4, z5, z6⟩, c3, c4, rfl, r3, r4⟩
set_option maxRecDepth 100000 in
/-- A slice of strings. -/
theorem open_strings {H : Type} {enc : TypeId × Value → H} {base : Nat} (W : World) (v : Value) (d : DataW H) (p : List MemPlace) (hval : Value.okWide Tryz.prog W .any base 31 v)
    (h : DataW.Trod enc Tryz.prog W 0 (fun _ => true) true 31 v d p) : ∃ l : List ByteArray, Kit.RowS W v (Vs.strs l) := by
  obtain ⟨a0, len0, cap0, rfl⟩ := Go.WideShapes.okWide_slice Tryz.underlying31 hval
  obtain ⟨fuel, hf⟩ := h
  have hf' : DataW.trod enc Tryz.prog W 0 (fun _ => true) true fuel 31 [.slice a0 len0 cap0] = some (d, p) := hf
  exact open_strs hf'
end Frame
end Go.Proofs.YthkppbimkjmbnaaGreatDoor
