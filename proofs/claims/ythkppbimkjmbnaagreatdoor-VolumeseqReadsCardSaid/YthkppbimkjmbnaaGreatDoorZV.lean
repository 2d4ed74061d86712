/-
  The walks through allocation.DecodeLong of sixteen bytes.
-/
import Derived.Test.YthkppbimkjmbnaaGreatDoorZN
import Derived.Test.YthkppbimkjmbnaaGreatDoorZQ
import Derived.Test.YthkppbimkjmbnaaGreatDoorZR
import Derived.Test.YthkppbimkjmbnaaGreatDoorZU
import Derived.Test.YthkppbimkjmbnaaGreatDoorZE
namespace Go.Proofs.YthkppbimkjmbnaaGreatDoor
open Go.RowKit
open Vs (bs by_)
namespace Vs
/-- The cells of extents; a row of extents of the call's own. -/
def exL (L : List Pm.X) : List Value := L.flatMap Pm.exC
abbrev OwnX (w : World) (base : Nat) (v : Value) (L : List Pm.X) : Prop := w.ownsRow base 44 4 v L.length (exL L)
theorem OwnX.nil (w : World) (base : Nat) : OwnX w base (.slice Option.none 0 0) [] := ⟨rfl, Or.inl ⟨rfl, rfl⟩⟩
theorem exL_app (L : List Pm.X) (p : Pm.X) : exL (L ++ [p]) = exL L ++ Pm.exC p := by simp [exL]
/-- What DecodeLong gives of sixteen bytes. -/
def dlX (b : List UInt8) : List Pm.X := if Pm.at_ b 0 4 % 1073741824 = 0 then [] else [⟨(Pm.at_ b 0 4 / 1073741824 : Nat), (Pm.at_ b 0 4 % 1073741824 : Nat), (Pm.at_ b 4 4 : Nat), (Pm.at_ b 8 2 : Nat)⟩]
end Vs

/-- 'append(v, x)': one extent more behind a row of the call's own; its cells have just been laid. -/
theorem pushX {W : World} {ops : Array Oper} {rest : List Oper} {o : Oper} {a : Act} {Q : Exit → Act → World → Prop} (hgd : o.guard = none) (s x : Operand)
    (ho : o.op = .call { callee := .builtin .append, args := #[s, x], argTypes := #[123, 123] })
    (base : Nat) (v : Value) (L : List Pm.X) (hs : a.eval s = v) (hown : Vs.OwnX W base v L) (p : Pm.X)
    (c g : Nat) (hx : a.eval x = .slice (some ⟨g, 0, none⟩) 1 c) (hgs : g = W.heap.size) (h8 : L.length ≤ 100000) (hbase : base ≤ W.heap.size)
    (h : ∀ v' w', Vs.OwnX w' base v' (L ++ [p]) → Below base W w' → wpList Tryz.prog ops Q rest (a.put o.dst v') w') :
    wpList Tryz.prog ops Q (o :: rest) a (W.alloc (.cells #[.int .i64 p.kind, .int .i64 p.length, .int .i64 p.block, .int .i64 p.part] 44)) := by
  subst hgs
  have hinfo : (Tryz.prog.info? 44).map (fun i => (i.zero, i.size, i.bytes)) = some (some (.agg #[.int .i64 0, .int .i64 0, .int .i64 0, .int .i64 0]), 4, 32) := by kernel_rfl
  obtain ⟨i, hi, hz0, hz1, hz2⟩ := info_parts hinfo
  have ht : Tryz.prog.underlying 123 = some (.slice 44) := by kernel_rfl
  have h1 : ∀ u ∈ Pm.exC p, u.oneCell' = true := by
    intro u hu
    simp only [Pm.exC, List.mem_cons, List.not_mem_nil, or_false] at hu
    rcases hu with rfl | rfl | rfl | rfl <;> rfl
  refine wpList_append_own _ hgd s x _ ho base 44 i _ 4 32 ht hi hz0 hz1 hz2 rfl (by decide) v L.length (Vs.exL L) hs (hown.alloc _) ⟨W.heap.size, 0, none⟩ 1 c (Pm.exC p) hx rfl ?_ h1 (by unfold maxLen; omega) (by omega) (by simp; omega) ?_
  · intro j u hu
    rw [Addr.add_lit, World.cell?_alloc_at _ _ _ _ (by simp)]
    simpa [Pm.exC] using hu
  · intro v' w' ho' hg _
    have hg2 := (World.grownBy_alloc W (.cells #[.int .i64 p.kind, .int .i64 p.length, .int .i64 p.block, .int .i64 p.part] 44) v.ownBlock).trans hg
    have hb : Below base W w' := (Below.refl base W).grown hg2 hbase (fun k hk => (hown.lt k hk).1)
    refine h v' w' ?_ hb
    show w'.ownsRow base 44 4 v' (L ++ [p]).length (Vs.exL (L ++ [p]))
    rw [Vs.exL_app, List.length_append]
    exact ho'

set_option maxHeartbeats 1600000 in
set_option maxRecDepth 100000 in
/-- allocation.read. -/
theorem aRead_any (s : ByteArray) (a k : Nat) (A K : Int) (hA : A = (a : Int)) (hK : K = (k : Int)) (hk : k = 2 ∨ k = 4) (ha : a + k ≤ s.size) (hs : s.size ≤ 9223372036854775807) (w : World) : Calls Tryz.prog 206 #[.string s, .int .i64 A, .int .i64 K] w fun e w' => e = .returned (.int .i64 (Pm.at_ (by_ s) a k : Nat)) ∧ w = w' := by
  subst hA hK
  have CR := Lib.hid (fun W => readLittle_any s a k (by unfold Pm.Sz; omega) hs W)
  rw [Vs.readR_in (by rw [Vs.by_len]; exact ha) (by omega)] at CR
  simp only [] at CR
  generalize Pm.at_ (by_ s) a k = r at *
  clear ha hk
  go_enter Tryz.func206, Tryz.ntmps206
  go_wp2_with fail
  with_reducible refine (CR.out _).mono ?_
  rintro e w2 ⟨rfl, rfl⟩
  go_wp2_with fail
  go_ret
  exact ⟨rfl, rfl⟩

set_option maxHeartbeats 1600000 in
set_option maxRecDepth 100000 in
/-- allocation.DecodeLong$1. -/
theorem decPart_any (s : ByteArray) (hs : s.size = 16) (w : World) : Calls Tryz.prog 205 #[.string s] w fun e w' => e = .returned (.int .i64 (Pm.at_ (by_ s) 8 2 : Nat)) ∧ w = w' := by
  have CR := Lib.hid (fun W => aRead_any s 8 2 8 2 rfl rfl (.inl rfl) (by omega) (by omega) W)
  generalize Pm.at_ (by_ s) 8 2 = r at *
  clear hs
  go_enter Tryz.func205, Tryz.ntmps205
  go_wp2_with fail
  with_reducible refine (CR.out _).mono ?_
  rintro e w2 ⟨rfl, rfl⟩
  go_wp2_with fail
  go_ret
  exact ⟨rfl, rfl⟩

set_option maxHeartbeats 6400000 in
set_option maxRecDepth 100000 in
/-- allocation.decode of sixteen bytes. -/
theorem decode16_any (s : ByteArray) (hs : s.size = 16) (w : World) :
    Calls Tryz.prog 204 #[.string s, .int .i64 16, .func (.func 205) #[] #[]] w fun e w' => ∃ v, e = .returned (.tuple #[v, .int .i64 0]) ∧ Vs.OwnX w' w.heap.size v (Vs.dlX (by_ s)) ∧ Below w.heap.size w w' := by
  have C1 := Lib.hid (fun W => aRead_any s 0 4 0 4 rfl rfl (.inr rfl) (by omega) (by omega) W)
  have C2 := Lib.hid (fun W => aRead_any s 4 4 4 4 rfl rfl (.inr rfl) (by omega) (by omega) W)
  have C3 := Lib.hid (fun W => decPart_any s hs W)
  have HD := Lib.hid (show Vs.dlX (by_ s) = if Pm.at_ (by_ s) 0 4 % 1073741824 = 0 then [] else [⟨(Pm.at_ (by_ s) 0 4 / 1073741824 : Nat), (Pm.at_ (by_ s) 0 4 % 1073741824 : Nat), (Pm.at_ (by_ s) 4 4 : Nat), (Pm.at_ (by_ s) 8 2 : Nat)⟩] from rfl)
  have hE : s.extract 0 16 = s := by
    rw [Vs.bs_ext]
    unfold Vs.sl
    rw [List.drop_zero, List.take_of_length_le (by rw [Vs.by_len]; omega), Vs.bs_by]
  have hz : (s.size : Int) = 16 := by omega
  have hb0 := Pm.at_lt (by_ s) 0 4
  generalize Vs.dlX (by_ s) = R at *
  generalize Pm.at_ (by_ s) 0 4 = n at *
  generalize Pm.at_ (by_ s) 4 4 = b at *
  generalize Pm.at_ (by_ s) 8 2 = p at *
  have hn : (n : Int) < 4294967296 := by omega
  clear hs hb0

  go_enter Tryz.func204, Tryz.ntmps204
  go_wp2_with fail
  go_loopw [8, 9, 10, 11, 21] (fun ov _ _ _ iv wr => (iv = .int .i64 ((0 : Nat) : Int) ∧ ov = .slice none 0 0 ∧ wr = w) ∨ (iv = .int .i64 ((1 : Nat) : Int) ∧ Vs.OwnX wr w.heap.size ov R ∧ Below w.heap.size w wr)) (fun _ _ _ _ iv _ => 1 - (intOf iv).toNat)
  case atStart => exact .inl ⟨rfl, rfl, rfl⟩
  case round =>
    rcases hrel with ⟨rfl, rfl, rfl⟩ | ⟨rfl, ho, hbw⟩
    · go_wp2_with fail
      with_reducible refine (C1.out _).mono ?_
      rintro e w2 ⟨rfl, hw⟩
      subst hw
      by_cases h0 : n % 1073741824 = 0
      · have HR := Lib.hid (HD.out.trans (if_pos h0))
        have z0 : ((n : Int) % 1073741824 == 0) = true := by rw [beq_iff_eq]; omega
        clear h0 HD
        go_wp2_with fail
        go_ret2
        exact ⟨_, rfl, by rw [HR.out]; exact Vs.OwnX.nil _ _, Below.refl _ _⟩
      · have HR := Lib.hid (HD.out.trans (if_neg h0))
        have z0 : ((n : Int) % 1073741824 == 0) = false := by rw [beq_eq_false_iff_ne]; omega
        clear HD
        go_wp2_with fail
        with_reducible refine (C2.out _).mono ?_
        rintro e w2 ⟨rfl, hw⟩
        subst hw
        go_wp2_with fail
        with_reducible refine (C3.out _).mono ?_
        rintro e w2 ⟨rfl, hw⟩
        subst hw
        have HM := Lib.hid (show ((n : Int) / 1073741824 = ((n / 1073741824 : Nat) : Int)) ∧ ((n : Int) % 1073741824 = ((n % 1073741824 : Nat) : Int)) from ⟨by omega, by omega⟩)
        go_wp2_with (at_builtin; refine pushX rfl _ _ rfl wr.heap.size _ [] rfl (Vs.OwnX.nil _ _) ⟨(n : Int) / 1073741824, (n : Int) % 1073741824, (b : Int), (p : Int)⟩ 1 _ rfl rfl (by decide) (Nat.le_refl _) ?_)
        intro v' w' ho' hb'
        obtain ⟨A, c, rfl⟩ := own_shape ho'
        have HO := Lib.hid (show Vs.OwnX w' wr.heap.size _ R from by rw [HR.out, ← HM.out.1, ← HM.out.2]; exact ho')
        have HB := Lib.hid hb'
        clear ho' hb' HR
        go_wp2_with fail
        go_roundw
        case rel => exact .inr ⟨by go_num, HO.out, HB.out⟩
        case measure => simp [intOf]
    · obtain ⟨A, c, rfl⟩ := own_shape ho
      have HO := Lib.hid ho
      have HB := Lib.hid hbw
      clear ho hbw
      go_wp2_with fail
      go_ret2
      exact ⟨_, rfl, HO.out, HB.out⟩

set_option maxHeartbeats 1600000 in
set_option maxRecDepth 100000 in
/-- allocation.DecodeLong of sixteen bytes. -/
theorem decodeLong_any (s : ByteArray) (hs : s.size = 16) (w : World) :
    Calls Tryz.prog 141 #[.string s] w fun e w' => ∃ v, e = .returned (.tuple #[v, .int .i64 0]) ∧ Vs.OwnX w' w.heap.size v (Vs.dlX (by_ s)) ∧ Below w.heap.size w w' := by
  have CD := Lib.hid (fun W => decode16_any s hs W)
  clear hs
  go_enter Tryz.func141, Tryz.ntmps141
  go_wp2_with fail
  with_reducible refine (CD.out _).mono ?_
  rintro e w2 ⟨v, rfl, ho, hb⟩
  obtain ⟨A, c, rfl⟩ := own_shape ho
  have HO := Lib.hid ho
  have HB := Lib.hid hb
  clear ho hb
  go_wp2_with fail
  go_ret2
  exact ⟨_, rfl, HO.out, HB.out⟩
end Go.Proofs.YthkppbimkjmbnaaGreatDoor

/-
  The walks through the first two parsers of a sequence's descriptors.
-/
namespace Go.Proofs.YthkppbimkjmbnaaGreatDoor
open Go.RowKit
open Vs (bs by_)
namespace Vs
structure Prs (W W' : World) (db : Nat) : Prop where
  keep : ∀ k, k < W.heap.size → k ≠ db → W'.heap[k]? = W.heap[k]?
  bel : ∀ b, b ≤ db → b ≤ W.heap.size → Below b W W'
theorem Prs.size {W W' : World} {db : Nat} (h : Prs W W' db) : W.heap.size ≤ W'.heap.size := (h.bel 0 (Nat.zero_le _) (Nat.zero_le _)).size
theorem Prs.refl (W : World) (db : Nat) : Prs W W db := ⟨fun _ _ _ => rfl, fun _ _ _ => Below.refl _ _⟩
theorem Prs.below {W W' W2 : World} {db : Nat} (h : Prs W W' db) (hb : Below W'.heap.size W' W2) : Prs W W2 db :=
  ⟨fun k hk hne => (hb.block k (Nat.lt_of_lt_of_le hk h.size)).trans (h.keep k hk hne), fun b h1 h2 => (h.bel b h1 h2).trans (hb.mono (Nat.le_trans h2 h.size))⟩
theorem Prs.set {W W' : World} {db j : Nat} (h : Prs W W' db) (v : Value) : Prs W (W'.setCell ⟨db, j, none⟩ v) db :=
  ⟨fun k hk hne => (heap_setCell_other _ _ _ _ (by simpa using fun e => hne e)).trans (h.keep k hk hne), fun b h1 h2 => (h.bel b h1 h2).setCell (p := ⟨db, j, none⟩) h1 _⟩
theorem units_le (size : Nat) : ∀ (n : Nat) (u : List UInt8), u.length ≤ n → (Cs.units size u).length ≤ u.length := by
  intro n
  induction n using Nat.strongRecOn with
  | _ n ih =>
    intro u hn
    match u, hn with
    | [], _ => simp [Cs.units]
    | [a], _ => unfold Cs.units; split <;> simp
    | a :: b :: t, hn =>
      unfold Cs.units
      simp only [List.length_cons] at hn
      split
      · have := ih (t.length + 1) (by omega) (b :: t) (by simp)
        simp only [List.length_cons] at this ⊢
        omega
      · have := ih t.length (by omega) t (Nat.le_refl _)
        simp only [List.length_cons]
        omega
theorem parse_le (l : List UInt8) : (Cs.parseR l).1.length ≤ 3 * l.length := by
  unfold Cs.parseR
  split
  · simp
  split
  · simp
  generalize Cs.byt l (l.length - 1) = k
  unfold Cs.expandR
  split
  · simp
  split
  · simp
  split
  · simp
  split
  · have h1 := Cs.text_len (Cs.units (Cs.byt (l.take k) 0 / 8) ((l.take k).drop 1))
    have h2 := units_le (Cs.byt (l.take k) 0 / 8) _ ((l.take k).drop 1) (Nat.le_refl _)
    simp only [List.length_drop, List.length_take] at h2
    simp only []
    omega
  · simp
end Vs

set_option maxHeartbeats 12800000 in
set_option maxRecDepth 100000 in
/-- The parser of the primary descriptor. -/
theorem parse1_any (s : ByteArray) (hs : s.size = 2048) (d : Vs.D) (w0 W : World) (tb db : Nat) (hT : Lib.Utf8Tabs 1 2 w0) (hB0 : Below w0.heap.size w0 W) (hdb : w0.heap.size ≤ db) (h1 : W.heap[tb]? = some (.cells #[.pointer (some ⟨db, 0, none⟩)] 113 (0, 0))) (h2 : W.heap[db]? = some (.cells (Vs.dC d) 46 (0, 0))) (hne : tb ≠ db) :
    Calls Tryz.prog 137 #[.string s, .pointer (some ⟨tb, 0, none⟩)] W fun e W' => e = .returned (.int .i64 (Vs.p1E (by_ s) d)) ∧ W'.heap[db]? = some (.cells (Vs.dC (Vs.p1D (by_ s) d)) 46 (0, 0)) ∧ Vs.Prs W W' db := by
  obtain ⟨x1, e1⟩ : ∃ x, s.extract 72 200 = x := ⟨_, rfl⟩
  obtain ⟨x2, e2⟩ : ∃ x, s.extract 376 388 = x := ⟨_, rfl⟩
  have b1 : by_ x1 = Vs.sl (by_ s) 72 128 := by rw [← e1, Vs.bs_ext]; rfl
  have b2 : by_ x2 = Vs.sl (by_ s) 376 12 := by rw [← e2, Vs.bs_ext]; rfl
  have z1 : x1.size ≤ 2048 := by rw [← e1, ByteArray.size_extract]; omega
  have z2 : x2.size ≤ 2048 := by rw [← e2, ByteArray.size_extract]; omega
  have CP := Lib.hid (fun W => (show Calls Tryz.prog 107 #[.string x1] W fun e w' => e = .returned (.tuple #[.string (bs (Cs.parseR (by_ x1)).1), .int .i64 (Cs.parseR (by_ x1)).2]) ∧ Below W.heap.size W w' from parse_any x1 W (by omega)))
  have CR := Lib.hid (fun W => readStamp_any x2 W (by omega))
  have hpl := Vs.parse_le (by_ x1)
  rw [Vs.by_len] at hpl
  rw [b1] at CP hpl
  rw [b2] at CR
  have C1 := Lib.hid (fun W => vRead_any s 56 2 56 2 rfl rfl (.inl rfl) (by omega) (by omega) W)
  have C2 := Lib.hid (fun W => vRead_any s 58 2 58 2 rfl rfl (.inl rfl) (by omega) (by omega) W)
  have HD := Lib.hid (show Vs.p1D (by_ s) d = { d with vol := { d.vol with set := bs (Cs.parseR (Vs.sl (by_ s) 72 128)).1, number := (Pm.at_ (by_ s) 56 2 : Nat), discs := (Pm.at_ (by_ s) 58 2 : Nat), time := (Vs.readSR (Vs.sl (by_ s) 376 12)).1.1 } } from rfl)
  have HE := Lib.hid (show Vs.p1E (by_ s) d = if (Cs.parseR (Vs.sl (by_ s) 72 128)).2 = 0 ∧ (Vs.readSR (Vs.sl (by_ s) 376 12)).2 = 0 ∧ Vs.okVol { d.vol with set := bs (Cs.parseR (Vs.sl (by_ s) 72 128)).1, number := (Pm.at_ (by_ s) 56 2 : Nat), discs := (Pm.at_ (by_ s) 58 2 : Nat), time := (Vs.readSR (Vs.sl (by_ s) 376 12)).1.1 } = true then 0 else 10 from rfl)
  have CV := Lib.hid (fun W (h : Lib.Utf8Tabs 1 2 W) => vVolume_any { d.vol with set := bs (Cs.parseR (Vs.sl (by_ s) 72 128)).1, number := (Pm.at_ (by_ s) 56 2 : Nat), discs := (Pm.at_ (by_ s) 58 2 : Nat), time := (Vs.readSR (Vs.sl (by_ s) 376 12)).1.1 } W h (by show (bs (Cs.parseR (Vs.sl (by_ s) 72 128)).1).size ≤ _; rw [Vs.bs_size]; omega))
  generalize Vs.p1E (by_ s) d = E at *
  generalize Vs.p1D (by_ s) d = D' at *
  have hk1 := (Array.getElem?_eq_some_iff.1 h1).1
  have hk2 := (Array.getElem?_eq_some_iff.1 h2).1
  have HK1 := Lib.hid hk1
  have HK2 := Lib.hid hk2
  have HR1 := Lib.hid (fun W' (h : Below W.heap.size W W') => (h.block tb HK1.out).trans h1)
  have HR2 := Lib.hid (fun W' (h : Below W.heap.size W W') => (h.block db HK2.out).trans h2)
  have HTW := Lib.hid (fun W' (h : Vs.Prs W W' db) => Kit.tabs_below hT (hB0.trans (h.bel _ hdb hB0.size)))
  clear hB0 hdb
  have HNE := Lib.hid hne
  generalize Cs.parseR (Vs.sl (by_ s) 72 128) = pr at *
  generalize Vs.readSR (Vs.sl (by_ s) 376 12) = sr at *
  generalize ((Pm.at_ (by_ s) 56 2 : Nat) : Int) = a1 at *
  generalize ((Pm.at_ (by_ s) 58 2 : Nat) : Int) = a2 at *
  obtain ⟨ps, pe⟩ := pr
  obtain ⟨⟨st, sz⟩, se⟩ := sr
  simp only [] at *
  generalize bs ps = q at *
  have hs1 : (s.size : Int) = 2048 := by omega
  clear hpl b1 b2 z1 z2 h1 h2 hT hk1 hk2 hs
  obtain ⟨⟨name, set, pub, prep, app, n, dd, tm⟩, ⟨pn, pa, psx, pc, pbs, pbc⟩, maps, table, fk, fl, fb, fp, ist, ic⟩ := d
  unfold Vs.dC at *
  unfold Vs.volC at *
  simp only [] at *
  go_enter Tryz.func137, Tryz.ntmps137
  go_wp2_with fail
  with_reducible refine (CP.out _).mono ?_
  rintro e w2 ⟨rfl, hb2⟩
  have HB2 := Lib.hid hb2
  clear hb2
  go_wp2_with fail
  with_reducible refine (CR.out _).mono ?_
  rintro e w3 ⟨rfl, hb3⟩
  have HB3 := Lib.hid (HB2.out.trans (hb3.mono HB2.out.size))
  clear hb3
  have cT := cell_of_row _ _ 0 _ _ _ (HR1.out _ HB3.out)
  have c1 := cell_of_row _ _ 1 _ _ _ (HR2.out _ HB3.out)
  have c5 := cell_of_row _ _ 5 _ _ _ (HR2.out _ HB3.out)
  have c6 := cell_of_row _ _ 6 _ _ _ (HR2.out _ HB3.out)
  have c7 := cell_of_row _ _ 7 _ _ _ (HR2.out _ HB3.out)
  have hfj := fun j => frozen_of_row _ _ j _ _ (HR2.out _ HB3.out)
  simp only [List.getElem?_toArray, List.getElem?_cons_zero, List.getElem?_cons_succ] at cT c1 c5 c6 c7
  have HW4 := Lib.hid (show ((((w3.setCell ⟨db, 1, none⟩ (.string q)).setCell ⟨db, 5, none⟩ (.int .i64 a1)).setCell ⟨db, 6, none⟩ (.int .i64 a2)).setCell ⟨db, 7, none⟩ (.int .i64 st)).heap[db]? = some (.cells #[.string name, .string q, .string pub, .string prep, .string app, .int .i64 a1, .int .i64 a2, .int .i64 st, .int .i64 pn, .int .i64 pa, .int .i64 psx, .int .i64 pc, .int .i64 pbs, .int .i64 pbc, .int .i64 maps, .string table, .int .i64 fk, .int .i64 fl, .int .i64 fb, .int .i64 fp, .int .i64 ist, .int .i64 ic] 46 (0, 0)) from heap_setCell_same _ _ 7 _ _ _ (heap_setCell_same _ _ 6 _ _ _ (heap_setCell_same _ _ 5 _ _ _ (heap_setCell_same _ _ 1 _ _ _ (HR2.out _ HB3.out)))))
  have HP4 := Lib.hid (((((((Vs.Prs.refl W db).below HB3.out).set (j := 1) (.string q)).set (j := 5) (.int .i64 a1)).set (j := 6) (.int .i64 a2)).set (j := 7) (.int .i64 st)))
  have HLD := Lib.hid (fun (W4 : World) (h : W4.heap[db]? = some (.cells #[.string name, .string q, .string pub, .string prep, .string app, .int .i64 a1, .int .i64 a2, .int .i64 st, .int .i64 pn, .int .i64 pa, .int .i64 psx, .int .i64 pc, .int .i64 pbs, .int .i64 pbc, .int .i64 maps, .string table, .int .i64 fk, .int .i64 fl, .int .i64 fb, .int .i64 fp, .int .i64 ist, .int .i64 ic] 46 (0, 0))) => (show (loadVar 38 ⟨db, 0, none⟩).run Tryz.prog W4 = .ok (.agg #[.string name, .string q, .string pub, .string prep, .string app, .int .i64 a1, .int .i64 a2, .int .i64 st]) W4 from load_row (P := Tryz.prog) (n := 8) 38 _ h Tryz.underlying38 rfl (by kernel_rfl) (show 0 + 8 ≤ 22 by decide)))
  go_upto_region 4 with fail
  go_upto_region 5 with (first | (with_reducible refine (C1.out _).mono ?_; rintro e wx ⟨rfl, hw⟩; subst hw) | (with_reducible refine (C2.out _).mono ?_; rintro e wx ⟨rfl, hw⟩; subst hw) | fail)
  generalize ((((w3.setCell ⟨db, 1, none⟩ (.string q)).setCell ⟨db, 5, none⟩ (.int .i64 a1)).setCell ⟨db, 6, none⟩ (.int .i64 a2)).setCell ⟨db, 7, none⟩ (.int .i64 st)) = W4 at *
  clear cT c1 c5 c6 c7 hfj HR1 HR2 HK1 HK2 HB2 HB3
  by_cases hpe : pe = 0
  case neg =>
    have HE2 := Lib.hid (HE.out.trans (if_neg (fun h => hpe h.1)))
    have d1 : (pe != 0) = true := by rw [bne_iff_ne]; exact hpe
    clear HE hpe
    go_wp2_with fail
    go_ret
    rw [HE2.out, HD.out]
    exact ⟨rfl, HW4.out, HP4.out⟩
  by_cases hse : se = 0
  case neg =>
    have HE2 := Lib.hid (HE.out.trans (if_neg (fun h => hse h.2.1)))
    have d1 : (se != 0) = true := by rw [bne_iff_ne]; exact hse
    subst hpe
    clear HE hse
    go_wp2_with fail
    go_ret
    rw [HE2.out, HD.out]
    exact ⟨rfl, HW4.out, HP4.out⟩
  subst hpe hse
  generalize Vs.okVol ⟨name, q, pub, prep, app, a1, a2, st⟩ = ok at *
  cases ok with
  | false =>
    have HE2 := Lib.hid (HE.out.trans (if_neg (fun h => absurd h.2.2 (by decide))))
    clear HE
    go_wp2_with (refine wpList_load_at 38 _ rfl db 0 rfl _ (HLD.out _ HW4.out) (by rfl) ?_)
    with_reducible refine (CV.out _ (HTW.out _ HP4.out)).mono ?_
    rintro e w5 ⟨rfl, hb5⟩
    have HW5 := Lib.hid ((hb5.block db (Array.getElem?_eq_some_iff.1 HW4.out).1).trans HW4.out)
    have HP5 := Lib.hid (HP4.out.below hb5)
    clear hb5
    go_wp2_with fail
    go_ret
    rw [HE2.out, HD.out]
    exact ⟨rfl, HW5.out, HP5.out⟩
  | true =>
    have HE2 := Lib.hid (HE.out.trans (if_pos ⟨rfl, rfl, rfl⟩))
    clear HE
    go_wp2_with (refine wpList_load_at 38 _ rfl db 0 rfl _ (HLD.out _ HW4.out) (by rfl) ?_)
    with_reducible refine (CV.out _ (HTW.out _ HP4.out)).mono ?_
    rintro e w5 ⟨rfl, hb5⟩
    have HW5 := Lib.hid ((hb5.block db (Array.getElem?_eq_some_iff.1 HW4.out).1).trans HW4.out)
    have HP5 := Lib.hid (HP4.out.below hb5)
    clear hb5
    go_wp2_with fail
    go_ret
    rw [HE2.out, HD.out]
    exact ⟨rfl, HW5.out, HP5.out⟩
end Go.Proofs.YthkppbimkjmbnaaGreatDoor

/-
  The walk through udfstring.ParseEntity.
-/
namespace Go.Proofs.YthkppbimkjmbnaaGreatDoor
open Go.RowKit

set_option maxHeartbeats 3200000 in
set_option maxRecDepth 100000 in
/-- udfstring.ParseEntity. -/
theorem pent_any (f : ByteArray) (w : World) (m : Int) (hM : w.cell? ⟨0, 0, none⟩ = some (.int .i64 m)) (_hs : f.size ≤ 9223372036854775807) :
    Calls Tryz.prog 139 #[.string f] w fun e w' => e = .returned (.tuple #[.string ⟨(Cs.pentR f.data.toList).1.1.toArray⟩, .string ⟨(Cs.pentR f.data.toList).1.2.toArray⟩, .int .i64 (Cs.pentR f.data.toList).2]) ∧ Below w.heap.size w w' := by
  have hdl := Kit.len_size f
  by_cases h32 : f.size = 32
  case neg =>
    have HR := Lib.hid (show Cs.pentR f.data.toList = (([], []), 1) from if_pos (by rw [hdl]; exact h32))
    have h32' : ((f.size : Int) != 32) = true := by rw [bne_iff_ne]; omega
    clear hdl h32
    go_enter Tryz.func139, Tryz.ntmps139
    go_wp2_with fail
    go_returns
    rw [HR.out]
    exact ⟨rfl, Below.refl _ _⟩
  case pos =>
  have h32l : f.data.toList.length = 32 := by omega
  have hR : Cs.pentR f.data.toList = if Cs.entOk f.data.toList = true then ((Cs.entS f.data.toList, f.data.toList.drop 24), 0) else (([], []), 10) := if_neg (by omega)
  have hsl := Cs.entS_len h32l
  have e1 : (f.extract 1 24).data.toList = Cs.entL f.data.toList := by rw [Lib.extract_data]; rfl
  have cC := fun W hm => Tryz.strings_Cut (f.extract 1 24) ⟨#[0]⟩ m W (by simp <;> omega) hm
  have ecut : (Lib.cut (f.extract 1 24).data.toList (⟨#[0]⟩ : ByteArray).data.toList).1 = Cs.entS f.data.toList := by rw [e1]; exact Cs.cut_while _
  simp only [ecut] at cC
  generalize (Lib.cut (f.extract 1 24).data.toList (⟨#[0]⟩ : ByteArray).data.toList).2.1 = q1 at cC
  generalize (Lib.cut (f.extract 1 24).data.toList (⟨#[0]⟩ : ByteArray).data.toList).2.2 = q2 at cC
  have hx : (f.extract (1 + (Cs.entS f.data.toList).length) 24).data.toList = (Cs.entL f.data.toList).drop (Cs.entS f.data.toList).length := by
    rw [Lib.extract_data]
    unfold Cs.entL
    rw [List.drop_take, List.drop_drop]
    congr 1
    omega
  have cT := fun W => Tryz.strings_Trim_one (f.extract (1 + (Cs.entS f.data.toList).length) 24) 0 (by decide) W (by simp <;> omega)
  rw [hx] at cT
  have hall := Cs.trimB_nil ((Cs.entL f.data.toList).drop (Cs.entS f.data.toList).length) 0
  have hok : Cs.entOk f.data.toList = (Cs.idR (Cs.entS f.data.toList) && ((Cs.entL f.data.toList).drop (Cs.entS f.data.toList).length).all fun b => b == 0) := rfl
  have cP := fun W => printable_any ⟨(Cs.entS f.data.toList).toArray⟩ W (by rw [lb_size]; omega)
  have hd24 : (f.extract 24 f.size).data.toList = f.data.toList.drop 24 := Lib.extract_to_end f 24
  have h32' : ((f.size : Int) != 32) = false := by rw [bne_eq_false_iff_eq]; omega
  have hz : (32 : Int) ≤ (f.size : Int) := by omega
  have H24 := Lib.hid (show f.extract 24 f.size = ⟨(f.data.toList.drop 24).toArray⟩ by rw [← hd24])
  generalize f.data.toList.drop 24 = d24 at *
  generalize ((Cs.entL f.data.toList).drop (Cs.entS f.data.toList).length).all (fun b => b == 0) = al at *
  generalize Lib.trimB ((Cs.entL f.data.toList).drop (Cs.entS f.data.toList).length) 0 = tb at *
  generalize Cs.entS f.data.toList = sl at *
  generalize Cs.idR sl = ir at *
  have hM2 : 0 < w.heap.size := World.block_lt_of_cell? _ _ hM
  have CC := Lib.hid (cC w hM); have CT := Lib.hid cT
  have hn1 : (1 + (sl.length : Int)).toNat = 1 + sl.length := by omega
  have hn2 : (1 + (sl.length : Int)) ≤ 24 := by omega
  clear cC cT e1 ecut hx hdl hd24 h32l hM
  cases ir with
  | false =>
    rw [hok] at hR
    have HR := Lib.hid (hR.trans (if_neg (by simp)))
    have CP := Lib.hid cP
    clear hR hok cP hall
    go_enter Tryz.func139, Tryz.ntmps139
    go_wp2_with fail
    with_reducible refine CC.out.mono ?_
    rintro e w2 ⟨rfl, n2, rfl⟩
    have hb2 := Kit.below_drewN (B := w.heap.size) (w := w) n2
    generalize w.drewN n2 = w2 at hb2 ⊢
    go_wp2_with fail
    with_reducible refine (CP.out _).mono ?_
    rintro e w3 ⟨rfl, hb3⟩
    have hc3 := hb2.trans (hb3.mono hb2.size)
    go_wp2_with fail
    go_returns
    rw [HR.out]
    exact ⟨rfl, hc3⟩
  | true =>
    have CP := Lib.hid cP
    clear cP
    by_cases hal : al = true
    · subst hal
      rw [hok] at hR
      have HR := Lib.hid (hR.trans (if_pos rfl))
      have htb : tb = [] := hall.2 rfl
      subst htb
      clear hR hok hall
      go_enter Tryz.func139, Tryz.ntmps139
      go_wp2_with fail
      with_reducible refine CC.out.mono ?_
      rintro e w2 ⟨rfl, n2, rfl⟩
      have hb2 := Kit.below_drewN (B := w.heap.size) (w := w) n2
      generalize w.drewN n2 = w2 at hb2 ⊢
      go_wp2_with fail
      with_reducible refine (CP.out _).mono ?_
      rintro e w3 ⟨rfl, hb3⟩
      have hc3 := hb2.trans (hb3.mono hb2.size)
      go_wp2_with fail
      with_reducible refine (CT.out _).mono ?_
      rintro e w4 ⟨rfl, hw4⟩
      have hc4 : Below w.heap.size w w4 := by
        rcases hw4 with rfl | rfl
        · exact hc3
        · exact hc3.drew
      clear hw4
      go_wp2_with fail
      go_quiet (fail)
      have hc5 := Kit.Below.drewN hc4 nq
      generalize w4.drewN nq = wq at hc5 ⊢
      go_wp2_with fail
      go_returns
      rw [HR.out]
      refine ⟨?_, hc5⟩
      simp
      rw [← h32]
      exact H24.out
    · have hal' : al = false := by simpa using hal
      subst hal'
      rw [hok] at hR
      have HR := Lib.hid (hR.trans (if_neg (by simp)))
      have htb : tb ≠ [] := fun h => by have := hall.1 h; cases this
      clear hR hok hall hal
      go_enter Tryz.func139, Tryz.ntmps139
      go_wp2_with fail
      with_reducible refine CC.out.mono ?_
      rintro e w2 ⟨rfl, n2, rfl⟩
      have hb2 := Kit.below_drewN (B := w.heap.size) (w := w) n2
      generalize w.drewN n2 = w2 at hb2 ⊢
      go_wp2_with fail
      with_reducible refine (CP.out _).mono ?_
      rintro e w3 ⟨rfl, hb3⟩
      have hc3 := hb2.trans (hb3.mono hb2.size)
      go_wp2_with fail
      with_reducible refine (CT.out _).mono ?_
      rintro e w4 ⟨rfl, hw4⟩
      have hc4 : Below w.heap.size w w4 := by
        rcases hw4 with rfl | rfl
        · exact hc3
        · exact hc3.drew
      clear hw4
      cases tb with
      | nil => exact absurd rfl htb
      | cons tb0 tb1 =>
      go_wp2_with fail
      go_returns
      rw [HR.out]
      exact ⟨rfl, hc4⟩
end Go.Proofs.YthkppbimkjmbnaaGreatDoor
