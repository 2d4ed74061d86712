/-
  strconv.Itoa behind the table; Format.
-/
import Derived.WalkSmall
import Derived.Deep.RegionLaw
import Derived.Test.YtlhechlbmbjffaaDoorStep
import Derived.Test.YtlhechlbmbjffaaDoorJt
namespace Go.Proofs.YtlhechlbmbjffaaDoor
open Go.RowKit Go.Sort
namespace Lm
/-- The table of powers lies. -/
def Pow (w : World) : Prop := Lib.TabIs Tryd.prog w "internal/strconv.uint64pow10" .u64 Lib.pow10Tab
theorem Pow.below {B : Nat} {w w' : World} (h : Pow w) (hb : Below B w w') (hB : 1 < B) : Pow w' :=
  var?_below hb (show Tryd.prog.globalNamed "internal/strconv.uint64pow10" = some 1 by kernel_rfl) hB h
theorem Pow.lt {w : World} (h : Pow w) : 1 < w.heap.size := by
  have hg : Tryd.prog.globalNamed "internal/strconv.uint64pow10" = some 1 := by kernel_rfl
  unfold Pow Lib.TabIs World.var? at h
  rw [hg] at h
  simp only [Option.bind_some] at h
  rcases Nat.lt_or_ge 1 w.heap.size with h' | h'
  · exact h'
  · rw [Array.getElem?_eq_none h'] at h; cases h
theorem below_grow (w : World) (k : Nat) (os : Array Obj) : Below w.heap.size w (grow (w.drewN k) os) :=
  ⟨rfl, rfl, rfl, by simp [grow], fun j hj => by simp [grow, Array.getElem?_append_left hj]⟩
/-- Decimal digits as a string. -/
def dec (n : Int) : ByteArray := ⟨(Lib.itoa n).toArray⟩
/-- A line of Format. -/
def lineR (x : L) : ByteArray := x.path ++ ⟨#[32]⟩ ++ dec x.off ++ ⟨#[32]⟩ ++ dec x.len
def fmtR (l : List L) : List ByteArray := l.map lineR
/-- What the calls of a round stand on. -/
structure FB (w0 : World) (g : Nat) (out : Value) (d : List ByteArray) (x : L) (W : World) : Prop where
  pow : Pow W
  bel : Below w0.heap.size w0 W
  powlt : 1 < w0.heap.size
  c0 : W.cell? ⟨g, 0, none⟩ = some (.string x.path)
  c1 : W.cell? ⟨g, 1, none⟩ = some (.int .i64 x.off)
  c2 : W.cell? ⟨g, 2, none⟩ = some (.int .i64 x.len)
  own : W.ownsRow w0.heap.size 9 1 out d.length (strs d)
theorem FB.below {w0 : World} {g : Nat} {out : Value} {d : List ByteArray} {x : L} {W W' : World} (h : FB w0 g out d x W) (hb : Below W.heap.size W W') : FB w0 g out d x W' :=
  ⟨h.pow.below hb (Nat.lt_of_lt_of_le h.powlt h.bel.size), h.bel.trans (hb.mono h.bel.size), h.powlt, (hb.cell (p := ⟨g, 0, none⟩) (World.block_lt_of_cell? _ _ h.c0)).trans h.c0, (hb.cell (p := ⟨g, 1, none⟩) (World.block_lt_of_cell? _ _ h.c1)).trans h.c1, (hb.cell (p := ⟨g, 2, none⟩) (World.block_lt_of_cell? _ _ h.c2)).trans h.c2, Kit.own_below h.own hb⟩
end Lm
theorem slice_of_own {w : World} {base e n : Nat} {v : Value} {xs : List Value} (h : w.ownsRow base e 1 v n xs) : ∃ A c, v = .slice A n c := by
  have hl : xs.length = n := by simpa using h.1
  obtain ⟨A, c, rfl, _⟩ := Kit.Row.of_own h
  exact ⟨A, c, by rw [hl]⟩
/-- strconv.Itoa. -/
theorem itoa_any (n : Int) (h0 : -9223372036854775808 ≤ n) (h1 : n ≤ 9223372036854775807) (w : World) (h : Lm.Pow w) :
    Calls Tryd.prog 47 #[.int .i64 n] w fun e w' => e = .returned (.string (Lm.dec n)) ∧ Below w.heap.size w w' :=
  (Tryd.strconv_Itoa n h0 h1 w h).mono (by
    rintro e w' ⟨rfl, k, os, rfl⟩
    exact ⟨rfl, Lm.below_grow w k os⟩)
theorem itoa_fb {w0 : World} {g : Nat} {out : Value} {d : List ByteArray} {x : Lm.L} (n : Int) (h0 : -9223372036854775808 ≤ n) (h1 : n ≤ 9223372036854775807) (w : World) (h : Hid (Lm.FB w0 g out d x w)) :
    Calls Tryd.prog 47 #[.int .i64 n] w fun e w' => e = .returned (.string (Lm.dec n)) ∧ Hid (Lm.FB w0 g out d x w') :=
  (itoa_any n h0 h1 w h.out.pow).mono (by
    rintro e w' ⟨rfl, hb⟩
    exact ⟨rfl, Lib.hid (h.out.below hb)⟩)

set_option maxHeartbeats 6400000 in
set_option maxRecDepth 100000 in
/-- Format. -/
theorem format_any (v : Value) (l : List Lm.L) (w : World) (hm : Lm.Losses w v l) (hl : l.length ≤ 1048576) (hp : Lm.Pow w) (hb : ∀ j, j < l.length → -9223372036854775808 ≤ (l.getD j Lm.l0).off ∧ (l.getD j Lm.l0).off ≤ 9223372036854775807 ∧ -9223372036854775808 ≤ (l.getD j Lm.l0).len ∧ (l.getD j Lm.l0).len ≤ 9223372036854775807 ∧ (Lm.lineR (l.getD j Lm.l0)).size ≤ 1000000) :
    Calls Tryd.prog 24 #[v] w fun e w' => ∃ r, e = .returned r ∧ w'.ownsRow w.heap.size 9 1 r (Lm.fmtR l).length (Lm.strs (Lm.fmtR l)) ∧ Below w.heap.size w w' := by
  obtain ⟨A, c, rfl, hlc, hcm, hcells⟩ := hm
  have HCE := Lib.hid hcells
  have HBD := Lib.hid hb
  have HPW := Lib.hid hp
  have hplt := hp.lt
  clear hcells hb hp
  unfold maxLen at hcm
  go_enter Tryd.func24, Tryd.ntmps24
  go_wp2_with fail
  go_loopw [3, 5, 8] (fun v _ iv wr => ∃ j : Nat, j ≤ l.length ∧ iv = .int .i64 j ∧ Hid (wr.ownsRow w.heap.size 9 1 v (Lm.fmtR (l.take j)).length (Lm.strs (Lm.fmtR (l.take j)))) ∧ Below w.heap.size w wr) (fun _ _ iv _ => l.length - (intOf iv).toNat)
  case atStart => exact ⟨0, by omega, rfl, Lib.hid (World.ownsRow_nil _ _ _ _), Below.refl _ _⟩
  case round =>
    obtain ⟨j, hj, rfl, HOWN, hbw⟩ := hrel
    by_cases hlt : j < l.length
    · obtain ⟨b, o, rfl, hbl, hc⟩ := HCE.out (by omega)
      have q0 := (hbw.cell (p := ⟨b, o + j * 3 + 0, none⟩) hbl).trans (hc j hlt 0 _ rfl)
      have q1 := (hbw.cell (p := ⟨b, o + j * 3 + 1, none⟩) hbl).trans (hc j hlt 1 _ rfl)
      have q2 := (hbw.cell (p := ⟨b, o + j * 3 + 2, none⟩) hbl).trans (hc j hlt 2 _ rfl)
      simp only [Nat.add_zero] at q0
      obtain ⟨n0, n1, n2, n3, n4⟩ := HBD.out j hlt
      have HST := Lib.hid (show Lm.fmtR (l.take (j + 1)) = Lm.fmtR (l.take j) ++ [Lm.lineR (l.getD j Lm.l0)] by
        unfold Lm.fmtR
        rw [List.take_succ_eq_append_getElem hlt, List.map_append]
        congr 1
        simp [List.getD, hlt])
      have hdl : (Lm.fmtR (l.take j)).length = j := by
        rw [Lm.fmtR, List.length_map, List.length_take]; omega
      have HB1 := Lib.hid (Lm.FB.mk (w0 := w) (g := wr.heap.size) (x := l.getD j Lm.l0) (W := wr.alloc (.cells #[.string (l.getD j Lm.l0).path, .int .i64 (l.getD j Lm.l0).off, .int .i64 (l.getD j Lm.l0).len] 35))
        (HPW.out.below (hbw.alloc hbw.size _) hplt) (hbw.alloc hbw.size _) hplt (Lm.newCells wr _ _ 0 _ rfl) (Lm.newCells wr _ _ 1 _ rfl) (Lm.newCells wr _ _ 2 _ rfl) (HOWN.out.alloc _))
      clear hc
      generalize Lm.fmtR (l.take j) = d at *
      generalize l.getD j Lm.l0 = x at *
      have hln := (show Lm.lineR x = x.path ++ ⟨#[32]⟩ ++ Lm.dec x.off ++ ⟨#[32]⟩ ++ Lm.dec x.len from rfl)
      have n5 := n4
      rw [hln] at n5
      simp only [ByteArray.size_append] at n5
      have HLN := Lib.hid hln
      have a1 : ∀ W, (Op.stringOp .add x.path ⟨#[32]⟩).run Tryd.prog W = .ok (.string (x.path ++ ⟨#[32]⟩)) W := fun W => run_string_add_sum W _ _ (by omega)
      have a2 : ∀ W, (Op.stringOp .add (x.path ++ ⟨#[32]⟩) (Lm.dec x.off)).run Tryd.prog W = .ok (.string (x.path ++ ⟨#[32]⟩ ++ Lm.dec x.off)) W := fun W => run_string_add_sum W _ _ (by rw [ByteArray.size_append]; omega)
      have a3 : ∀ W, (Op.stringOp .add (x.path ++ ⟨#[32]⟩ ++ Lm.dec x.off) ⟨#[32]⟩).run Tryd.prog W = .ok (.string (x.path ++ ⟨#[32]⟩ ++ Lm.dec x.off ++ ⟨#[32]⟩)) W := fun W => run_string_add_sum W _ _ (by rw [ByteArray.size_append, ByteArray.size_append]; omega)
      have a4 : ∀ W, (Op.stringOp .add (x.path ++ ⟨#[32]⟩ ++ Lm.dec x.off ++ ⟨#[32]⟩) (Lm.dec x.len)).run Tryd.prog W = .ok (.string (x.path ++ ⟨#[32]⟩ ++ Lm.dec x.off ++ ⟨#[32]⟩ ++ Lm.dec x.len)) W := fun W => run_string_add_sum W _ _ (by rw [ByteArray.size_append, ByteArray.size_append, ByteArray.size_append]; omega)
      clear hln n4 n5
      subst hdl
      obtain ⟨pa, off, ln⟩ := x
      simp only [Lm.lC] at *
      go_wp2_with fail
      generalize (wr.alloc (.cells #[.string pa, .int .i64 off, .int .i64 ln] 35)) = W1 at *
      have HB0 := Lib.hid (HB1.out.below ((Below.refl _ W1).drew))
      obtain ⟨c0, c1, c2⟩ : W1.cell? ⟨wr.heap.size, 0, none⟩ = some (.string pa) ∧ W1.cell? ⟨wr.heap.size, 1, none⟩ = some (.int .i64 off) ∧ W1.cell? ⟨wr.heap.size, 2, none⟩ = some (.int .i64 ln) := ⟨HB1.out.c0, HB1.out.c1, HB1.out.c2⟩
      obtain ⟨VA, vc, hvv⟩ := slice_of_own HOWN.out
      subst hvv
      clear HB1 HOWN HPW hplt hbl hcm hlc
      go_region_law (first | ((go_simp; go_at_call 47; refine (itoa_fb _ (by assumption) (by assumption) _ (by assumption)).mono ?_; rintro e wn ⟨rfl, HBn⟩; have cn0 := HBn.out.c0; have cn1 := HBn.out.c1; have cn2 := HBn.out.c2)) | ((refine Kit.step_app strInfo (by rfl) (by decide) (by rfl) (.tmp 12) (.tmp 25) 22 (by rfl) Tryd.underlying22 w.heap.size _ _ _ (by rfl) (by exact HBn.out.own) [.string (pa ++ ⟨#[32]⟩ ++ Lm.dec off ++ ⟨#[32]⟩ ++ Lm.dec ln)] 1 1 (by rfl) (by rfl) (Kit.one1 (by rfl)) (by rfl) (by omega) (by exact HBn.out.bel.size) ?_; intro v' w' ho' hb'; have HO' := Lib.hid ho'; have HB' := Lib.hid hb'; obtain ⟨A', c', rfl⟩ := slice_of_own ho'; clear ho' hb')))
      all_goals go_wp2_with fail
      all_goals go_roundw
      all_goals first
        | (exact ⟨d.length + 1, by omega, by go_num, Lib.hid (by
            rw [HST.out, HLN.out]
            have h := HO'.out
            rw [show ∀ s, [Value.string s] = Lm.strs [s] from fun _ => rfl, ← Lm.strs_append] at h
            simpa using h), HBn.out.bel.trans HB'.out⟩)
        | (simp [intOf]; omega)
    · obtain rfl : j = l.length := by omega
      rw [List.take_length] at HOWN
      go_wp2_with fail
      go_ret
      exact ⟨_, rfl, HOWN.out, hbw⟩
end Go.Proofs.YtlhechlbmbjffaaDoor
