/-
  The law's function lost: which bytes of a path lie in losses.
-/
import Derived.Laws.MakeOwn
import Derived.Test.YtlhechlbmbjffaaDoorKc
import Derived.Test.YtlhechlbmbjffaaDoorJw
namespace Go.Proofs.YtlhechlbmbjffaaDoor
open Go.RowKit
namespace Lm
/-- A loss holds byte k. -/
def holds (x : L) (k : Nat) : Bool := decide (x.off ≤ k) && decide ((k : Int) < x.off + x.len)
/-- The losses of a path. -/
def ofP (p : ByteArray) (l : List L) : List L := l.filter fun x => decide (x.path = p)
/-- The bytes of a path that are in losses. -/
def gone (p : ByteArray) (l : List L) (k : Nat) : Bool := (ofP p l).any fun x => holds x k
/-- Losses in order, apart, within n bytes. -/
structure Neat (n : Nat) (l : List L) : Prop where
  each : ∀ x ∈ l, 0 ≤ x.off ∧ 1 ≤ x.len ∧ x.off + x.len ≤ n
  apart : l.Pairwise fun x y => x.off + x.len ≤ y.off
def bools (f : Nat → Bool) (n : Nat) : List Value := (List.range n).map fun k => .bool (f k)
theorem bools_len (f : Nat → Bool) (n : Nat) : (bools f n).length = n := by simp [bools]
theorem bools_at (f : Nat → Bool) (n k : Nat) (h : k < n) : (bools f n)[k]? = some (.bool (f k)) := by simp [bools, h]
theorem bools_set (f : Nat → Bool) (n k : Nat) : (bools f n).set k (.bool true) = bools (fun i => f i || decide (i = k)) n := by
  apply List.ext_getElem?
  intro i
  rw [List.getElem?_set]
  by_cases hi : k = i
  · subst hi
    by_cases hk : k < n
    · rw [if_pos rfl, bools_len, if_pos hk, bools_at _ _ _ hk]
      simp
    · rw [if_pos rfl, bools_len, if_neg hk]
      simp [bools, Nat.not_lt.1 hk]
  · rw [if_neg hi]
    by_cases hk : i < n
    · rw [bools_at _ _ _ hk, bools_at _ _ _ hk, decide_eq_false (fun e => hi e.symm), Bool.or_false]
    · simp [bools, Nat.not_lt.1 hk]
theorem bools_congr {f g : Nat → Bool} {n : Nat} (h : ∀ k, k < n → f k = g k) : bools f n = bools g n := by
  unfold bools
  exact List.map_congr_left fun k hk => by rw [h k (List.mem_range.1 hk)]
theorem ofP_succ {l : List L} {j : Nat} (h : j < l.length) (p : ByteArray) : ofP p (l.take (j + 1)) = ofP p (l.take j) ++ if (l.getD j l0).path = p then [l.getD j l0] else [] := by
  unfold ofP
  rw [List.take_succ_eq_append_getElem h, List.filter_append]
  have e : l.getD j l0 = l[j] := by simp [List.getD, h]
  rw [e]
  congr 1
  by_cases hp : l[j].path = p
  · rw [if_pos hp]; simp [hp]
  · rw [if_neg hp]; simp [hp]
theorem gone_succ {l : List L} {j : Nat} (h : j < l.length) (p : ByteArray) (k : Nat) : gone p (l.take (j + 1)) k = (gone p (l.take j) k || if (l.getD j l0).path = p then holds (l.getD j l0) k else false) := by
  unfold gone
  rw [ofP_succ h, List.any_append]
  congr 1
  split <;> simp
/-- The next loss of a path is new. -/
theorem neat_new {n : Nat} {l : List L} {p : ByteArray} {j : Nat} (h : Neat n (ofP p l)) (hj : j < l.length) (hp : (l.getD j l0).path = p) : (0 ≤ (l.getD j l0).off ∧ 1 ≤ (l.getD j l0).len ∧ (l.getD j l0).off + (l.getD j l0).len ≤ n) ∧ ∀ k : Nat, (l.getD j l0).off ≤ k → gone p (l.take j) k = false := by
  have hsub : ofP p (l.take (j + 1)) <+: ofP p l := by
    unfold ofP
    exact (List.take_prefix (j + 1) l).filter _
  have hn : Neat n (ofP p (l.take (j + 1))) := ⟨fun x hx => h.each x (hsub.subset hx), h.apart.sublist hsub.sublist⟩
  rw [ofP_succ hj, if_pos hp] at hn
  refine ⟨hn.each _ (by simp), fun k hk => ?_⟩
  unfold gone
  rw [Bool.eq_false_iff]
  intro ht
  obtain ⟨x, hx, hh⟩ := List.any_eq_true.1 ht
  have := (List.pairwise_append.1 hn.apart).2.2 x hx _ (List.mem_singleton.2 rfl)
  unfold holds at hh
  simp only [Bool.and_eq_true, decide_eq_true_eq] at hh
  omega
/-- A row of truth values of the call's own. -/
abbrev OwnT (w : World) (base g : Nat) (f : Nat → Bool) (n : Nat) : Prop := w.ownsRow base 4 1 (.slice (some ⟨g, 0, none⟩) n n) n (bools f n)
theorem OwnT.cell {w : World} {base g n : Nat} {f : Nat → Bool} (h : OwnT w base g f n) {k : Nat} (hk : k < n) : w.cell? ⟨g, k, none⟩ = some (.bool (f k)) := by
  have := h.cells (g := g) rfl k _ (bools_at f n k hk)
  rw [Addr.add_lit] at this
  simpa using this
theorem OwnT.put {w : World} {base g n : Nat} {f : Nat → Bool} (h : OwnT w base g f n) (k : Nat) : OwnT (w.setCell ⟨g, k, none⟩ (.bool true)) base g (fun i => f i || decide (i = k)) n := by
  have := (h.stored k (.bool true)).1
  rwa [bools_set] at this
end Lm

set_option maxHeartbeats 6400000 in
set_option maxRecDepth 100000 in
/-- lost, at neat losses. -/
theorem lost_neat (v : Value) (l : List Lm.L) (p : ByteArray) (n : Nat) (w : World) (hm : Lm.Losses w v l) (hn : n ≤ 1048576) (hne : Lm.Neat n (Lm.ofP p l)) :
    Calls Tryd.prog 14 #[v, .string p, .int .i64 n] w fun e w' => ∃ g, e = .returned (.tuple #[.slice (some ⟨g, 0, none⟩) n n, .bool true]) ∧ Lm.OwnT w' w.heap.size g (Lm.gone p l) n ∧ Below w.heap.size w w' := by
  obtain ⟨i0, hi, hz0, hz1, hz2⟩ := info_parts (show (Tryd.prog.info? 4).map (fun i => (i.zero, i.size, i.bytes)) = some (some (.bool false), 1, 1) by kernel_rfl)
  have hmk : ∀ W, (Instr.makeSlice 37 (.int .i64 n) (.int .i64 n)).run Tryd.prog W = .ok (.slice (some ⟨W.heap.size, 0, none⟩) n n) (W.alloc (.cells (Lm.bools (fun _ => false) n).toArray 4)) := fun W => by
    have h := run_make (P := Tryd.prog) W 37 4 i0 _ Tryd.underlying37 hi hz0 .i64 .i64 n n (by omega) (Int.le_refl _) (by rw [hz2]; omega) (by omega)
    simp only [Int.toNat_natCast, hz1, Nat.mul_one] at h
    rw [h]
    have : madeCells (Value.bool false).cells n = (Lm.bools (fun _ => false) n).toArray := by
      show madeCells #[Value.bool false] n = _
      rw [Lm.made_one]
      congr 1
      apply List.ext_getElem?
      intro i
      by_cases h : i < n
      · rw [Lm.bools_at _ _ _ h]; simp [h]
      · simp [Lm.bools, Nat.not_lt.1 h]
    rw [this]
  have hO0 : Lm.OwnT (w.alloc (.cells (Lm.bools (fun _ => false) n).toArray 4)) w.heap.size w.heap.size (fun _ => false) n := by
    have := Kit.own_new w 4 (Lm.bools (fun _ => false) n) (by rw [Lm.bools_len]; unfold maxLen; omega)
    rw [Lm.bools_len] at this
    exact this
  have HO0 := Lib.hid hO0
  have HB0 := Lib.hid (show Below w.heap.size w (w.alloc (.cells (Lm.bools (fun _ => false) n).toArray 4)) from (Below.refl _ w).alloc (Nat.le_refl _) _)
  have HNE := Lib.hid hne
  obtain ⟨A, c, rfl, hlc, hcm, hcells⟩ := hm
  have HCE := Lib.hid hcells
  clear hcells hO0 hne hi hz0 hz1 hz2
  unfold maxLen at hcm
  go_enter Tryd.func14, Tryd.ntmps14
  go_wp2_with fail
  have hsz0 : w.heap.size < (w.alloc (.cells (Lm.bools (fun _ => false) n).toArray 4)).heap.size := by simp
  go_loopw [10, 11, 16] (fun _ _ iv wr => ∃ j : Nat, j ≤ l.length ∧ iv = .int .i64 j ∧ Hid (Lm.OwnT wr w.heap.size w.heap.size (Lm.gone p (l.take j)) n) ∧ Below w.heap.size w wr ∧ w.heap.size < wr.heap.size) (fun _ _ iv _ => l.length - (intOf iv).toNat)
  case atStart => exact ⟨0, by omega, rfl, Lib.hid (by have := HO0.out; rwa [show (fun _ => false) = Lm.gone p (l.take 0) from by funext k; simp [Lm.gone, Lm.ofP]] at this), HB0.out, hsz0⟩
  case round =>
    clear hsz0
    obtain ⟨j, hj, rfl, HOW, hbw, hsw⟩ := hrel
    obtain ⟨wo, rfl⟩ : ∃ wo : World, wo = wr := ⟨_, rfl⟩
    by_cases hlt : j < l.length
    · obtain ⟨b, o, rfl, hbl, hc⟩ := HCE.out (by omega)
      have q0 := (hbw.cell (p := ⟨b, o + j * 3 + 0, none⟩) hbl).trans (hc j hlt 0 _ rfl)
      have q1 := (hbw.cell (p := ⟨b, o + j * 3 + 1, none⟩) hbl).trans (hc j hlt 1 _ rfl)
      have q2 := (hbw.cell (p := ⟨b, o + j * 3 + 2, none⟩) hbl).trans (hc j hlt 2 _ rfl)
      simp only [Nat.add_zero] at q0
      have HGS := Lib.hid (fun k => Lm.gone_succ hlt p k)
      have HNN := Lib.hid (fun hp => Lm.neat_new (j := j) HNE.out hlt hp)
      clear hc
      generalize l.getD j Lm.l0 = x at *
      obtain ⟨pa, off, ln⟩ := x
      simp only [Lm.lC] at *
      have hba := (Below.refl wo.heap.size wo).alloc (Nat.le_refl _) (.cells #[.string pa, .int .i64 off, .int .i64 ln] 35)
      have HX := Lib.hid (heap_alloc_new wo (.cells #[.string pa, .int .i64 off, .int .i64 ln] 35))
      have HOA := Lib.hid (HOW.out.kept (Kit.grown_of_below hba) (by simp [Value.ownBlock]))
      have HBA := Lib.hid (hbw.trans (hba.mono (Nat.le_of_lt hsw)))
      have HSA := Lib.hid (Nat.lt_of_lt_of_le hsw hba.size)
      clear hba
      by_cases hpp : pa.toList = p.toList
      · have e1 : (!pa.toList == p.toList) = false := by rw [hpp]; simp
        have hpe : pa = p := by
          have h := hpp
          rw [Lib.toList_data, Lib.toList_data] at h
          cases pa; cases p
          simp at h
          rw [h]
        obtain ⟨⟨n0, n1, n2⟩, hnew⟩ := HNN.out hpe
        have HNW := Lib.hid hnew
        have HG1 := Lib.hid (show ∀ k, Lm.gone p (l.take (j + 1)) k = (Lm.gone p (l.take j) k || Lm.holds ⟨pa, off, ln⟩ k) from fun k => by rw [HGS.out, if_pos hpe])
        clear hnew HNN HGS hpe hpp
        have d0 : decide (off < 0) = false := decide_eq_false (by omega)
        have d1 : decide (ln < 1) = false := decide_eq_false (by omega)
        have d2 : decide ((n : Int) < off) = false := decide_eq_false (by omega)
        have d3 : decide ((n : Int) - off < ln) = false := decide_eq_false (by omega)
        obtain ⟨k0, hk0⟩ : ∃ k0 : Nat, (k0 : Int) = off := ⟨off.toNat, by omega⟩
        obtain ⟨m, hm⟩ : ∃ m : Nat, (m : Int) = ln := ⟨ln.toNat, by omega⟩
        subst hk0 hm
        have hkm : k0 + m ≤ n := by omega
        clear n0 n2
        go_wp2_with fail
        clear q0 q1 q2
        go_loopw [11] (fun kv wr => ∃ i : Nat, k0 ≤ i ∧ i ≤ k0 + m ∧ kv = .int .i64 i ∧ Hid (Lm.OwnT wr w.heap.size w.heap.size (fun k => Lm.gone p (l.take j) k || (decide (k0 ≤ k) && decide (k < i))) n) ∧ Hid (wr.heap[wo.heap.size]? = some (.cells #[.string pa, .int .i64 k0, .int .i64 m] 35 (0, 0))) ∧ Below w.heap.size w wr ∧ w.heap.size < wr.heap.size) (fun kv _ => k0 + m - (intOf kv).toNat)
        case atStart => exact ⟨k0, Nat.le_refl _, by omega, rfl, Lib.hid (by
          have h := HOA.out
          rwa [show Lm.gone p (l.take j) = (fun k => Lm.gone p (l.take j) k || (decide (k0 ≤ k) && decide (k < k0))) from by
            funext k
            by_cases h1 : k0 ≤ k
            · rw [decide_eq_false (show ¬ k < k0 by omega), Bool.and_false, Bool.or_false]
            · rw [decide_eq_false h1, Bool.false_and, Bool.or_false]] at h), HX, HBA.out, HSA.out⟩
        case round =>
          obtain ⟨i, hi0, hi1, rfl, HOI, HXI, hbi, hsi⟩ := hrel
          have c1 : wr.cell? ⟨wo.heap.size, 1, none⟩ = some (.int .i64 k0) := Lib.cell_of_heap HXI.out 1
          have c2 : wr.cell? ⟨wo.heap.size, 2, none⟩ = some (.int .i64 m) := Lib.cell_of_heap HXI.out 2
          by_cases hik : i < k0 + m
          · have hin : i < n := by omega
            have t0 := HOI.out.cell hin
            have z0 := HOI.out.frozenAt i
            rw [HNW.out i (by omega), decide_eq_false (show ¬ i < i by omega), Bool.and_false, Bool.or_false] at t0
            have HPT := Lib.hid (HOI.out.put i)
            have HFN := Lib.hid (show (fun q => (Lm.gone p (l.take j) q || (decide (k0 ≤ q) && decide (q < i))) || decide (q = i)) = (fun q => Lm.gone p (l.take j) q || (decide (k0 ≤ q) && decide (q < i + 1))) from by
              funext q
              rw [Bool.or_assoc]
              congr 1
              rw [Bool.eq_iff_iff]
              simp only [Bool.or_eq_true, Bool.and_eq_true, decide_eq_true_eq]
              omega)
            go_wp2_with fail
            go_roundw
            case rel => exact ⟨i + 1, by omega, by omega, by go_num, Lib.hid (by have h := HPT.out; rw [HFN.out] at h; exact h), Lib.hid (by
              have hne : wo.heap.size ≠ w.heap.size := by omega
              exact (Below.heap_setCell wr ⟨w.heap.size, i, none⟩ (.bool true) wo.heap.size hne).trans HXI.out), hbi.setCell (p := ⟨w.heap.size, i, none⟩) (Nat.le_refl _) _, by simpa using hsi⟩
            case measure => simp [intOf]; omega
          · obtain rfl : i = k0 + m := by omega
            have HFN := Lib.hid (show (fun q => Lm.gone p (l.take j) q || (decide (k0 ≤ q) && decide (q < k0 + m))) = Lm.gone p (l.take (j + 1)) from by
              funext q
              rw [HG1.out]
              congr 1
              unfold Lm.holds
              rw [Bool.eq_iff_iff]
              simp only [Bool.and_eq_true, decide_eq_true_eq]
              omega)
            go_wp2_with fail
            go_roundw
            case rel => exact ⟨j + 1, by omega, by go_num, Lib.hid (by have h := HOI.out; rw [HFN.out] at h; exact h), hbi, hsi⟩
            case measure => simp [intOf]; omega
      · have e1 : (!pa.toList == p.toList) = true := by simpa using hpp
        have HG1 := Lib.hid (show Lm.gone p (l.take (j + 1)) = Lm.gone p (l.take j) from by
          funext k
          rw [HGS.out, if_neg (fun e => hpp (by rw [e]))]
          simp)
        clear HNN HGS hpp
        go_wp2_with fail
        go_roundw
        case rel => exact ⟨j + 1, by omega, by go_num, Lib.hid (by rw [HG1.out]; exact HOA.out), HBA.out, HSA.out⟩
        case measure => simp [intOf]; omega
    · obtain rfl : j = l.length := by omega
      rw [List.take_length] at HOW
      go_wp2_with fail
      go_ret2
      exact ⟨_, rfl, HOW.out, hbw⟩
end Go.Proofs.YtlhechlbmbjffaaDoor
