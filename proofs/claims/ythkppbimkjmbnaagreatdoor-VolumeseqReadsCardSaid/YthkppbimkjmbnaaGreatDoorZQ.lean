/-
  Plain: the bodies of descriptors as their fields, put one after the other; no program in sight but the names.
-/
import Derived.Test.YthkppbimkjmbnaaGreatDoorZP
import Derived.Test.YthkppbimkjmbnaaGreatDoorZN
import Derived.Test.YthkppbimkjmbnaaGreatDoorZA
import Derived.Deep.RegionLaw
namespace Go.Proofs.YthkppbimkjmbnaaGreatDoor
open Vs (bs by_)
namespace Vs
theorem body_eq {L X M : List UInt8} {n : Nat} (hX : L = z 16 ++ X) (hM : X ++ z (n - X.length) = M) (hl : X.length ≤ n) (hn : n ≤ 2032) : bodyL L n = M := by
  have hML : M.length = n := by rw [← hM, List.length_append, z_len]; omega
  have e1 : L ++ z (2048 - L.length) = z 16 ++ (M ++ z (2032 - n)) := by
    rw [hX, List.length_append, z_len, List.append_assoc, ← hM, List.append_assoc, z_add]
    congr 3
    omega
  unfold bodyL
  rw [e1]
  exact sl_mid rfl (z_len 16) hML
theorem body_prim (v : Vol) (hf : (fldL (by_ v.name) 32).length = 32) (hg : (fldL (by_ v.set) 128).length = 128) (ht : (stampR v.time).length = 12) :
    bodyL (fillL [(16, n4 1), (24, fldL (by_ v.name) 32), (56, n2 v.number ++ n2 v.discs ++ n2 3 ++ n2 3 ++ n4 1 ++ n4 1), (72, fldL (by_ v.set) 128), (200, csL ++ csL), (376, stampR v.time ++ implL)] []) 496 = primL v := by
  refine body_eq (X := n4 1 ++ (z 4 ++ (fldL (by_ v.name) 32 ++ (n2 v.number ++ (n2 v.discs ++ (n2 3 ++ (n2 3 ++ (n4 1 ++ (n4 1 ++ (fldL (by_ v.set) 128 ++ (csL ++ (csL ++ (z 48 ++ (stampR v.time ++ implL)))))))))))))) ?_ ?_ ?_ (by decide)
  · simp only [fillL, List.length_append, List.length_nil, z_len, n4_len, n2_len, hf, hg, cs_len, Nat.reduceAdd, Nat.reduceSub, show z 0 = [] from rfl, List.nil_append, List.append_nil, List.append_assoc]
  · simp only [List.length_append, z_len, n4_len, n2_len, hf, hg, ht, cs_len, impl_len, Nat.reduceAdd, Nat.reduceSub, List.append_assoc]
    rfl
  · simp only [List.length_append, z_len, n4_len, n2_len, hf, hg, ht, cs_len, impl_len, Nat.reduceAdd]
    decide
theorem body_part (p : Part) :
    bodyL (fillL [(16, n4 2 ++ n2 1 ++ n2 p.number ++ contL), (64, n4 (p.bcount * 2048) ++ n4 p.bstart), (184, n4 p.access ++ n4 p.start ++ n4 p.count ++ implL)] []) 496 = partL p := by
  refine body_eq (X := n4 2 ++ (n2 1 ++ (n2 p.number ++ (contL ++ (z 8 ++ (n4 (p.bcount * 2048) ++ (n4 p.bstart ++ (z 112 ++ (n4 p.access ++ (n4 p.start ++ (n4 p.count ++ implL))))))))))) ?_ ?_ ?_ (by decide)
  · simp only [fillL, List.length_append, List.length_nil, z_len, n4_len, n2_len, cont_len, Nat.reduceAdd, Nat.reduceSub, List.nil_append, List.append_assoc]
  · simp only [List.length_append, z_len, n4_len, n2_len, cont_len, impl_len, Nat.reduceAdd, Nat.reduceSub, List.append_assoc]
    rfl
  · simp only [List.length_append, z_len, n4_len, n2_len, cont_len, impl_len, Nat.reduceAdd]
    decide
theorem body_log (d : D) (hf : (fldL (by_ d.vol.name) 128).length = 128) (ht : d.table.size ≤ 1608) :
    bodyL (fillL [(16, n4 3 ++ csL ++ fldL (by_ d.vol.name) 128 ++ n4 2048 ++ domL ++ longL d.fk d.fl d.fb d.fp ++ n4 (d.table.size : Int) ++ n4 d.maps ++ implL), (432, extL d.istart d.icount ++ by_ d.table)] []) (424 + d.table.size) = logL d := by
  refine body_eq (X := n4 3 ++ (csL ++ (fldL (by_ d.vol.name) 128 ++ (n4 2048 ++ (domL ++ (longL d.fk d.fl d.fb d.fp ++ (n4 (d.table.size : Int) ++ (n4 d.maps ++ (implL ++ (z 128 ++ (extL d.istart d.icount ++ by_ d.table))))))))))) ?_ ?_ ?_ (by omega)
  · simp only [fillL, List.length_append, List.length_nil, z_len, n4_len, hf, cs_len, impl_len, dom_len, longL_len, Nat.reduceAdd, Nat.reduceSub, List.nil_append, List.append_assoc]
  · have hX : (n4 3 ++ (csL ++ (fldL (by_ d.vol.name) 128 ++ (n4 2048 ++ (domL ++ (longL d.fk d.fl d.fb d.fp ++ (n4 (d.table.size : Int) ++ (n4 d.maps ++ (implL ++ (z 128 ++ (extL d.istart d.icount ++ by_ d.table))))))))))).length = 424 + d.table.size := by
      simp only [List.length_append, z_len, n4_len, hf, cs_len, impl_len, dom_len, longL_len, extL_len, by_len]
      omega
    rw [hX, Nat.sub_self]
    exact List.append_nil _
  · simp only [List.length_append, z_len, n4_len, hf, cs_len, impl_len, dom_len, longL_len, extL_len, by_len]
    omega
theorem body_unal : bodyL (fillL [(16, n4 4)] []) 8 = unalL := by
  refine body_eq (X := n4 4) ?_ ?_ ?_ (by decide)
  · simp only [fillL, List.length_nil, Nat.reduceSub, List.nil_append]
  · simp only [n4_len, Nat.reduceSub]
    rfl
  · rw [n4_len]
    decide
theorem body_term : bodyL (fillL [] []) 496 = z 496 := by
  show sl ([] ++ z (2048 - 0)) 16 496 = z 496
  rw [List.nil_append]
  exact sl_mid (p := z 16) (q := z 1536) (by rw [z_add, z_add]) (z_len 16) (z_len 496)
end Vs
end Go.Proofs.YthkppbimkjmbnaaGreatDoor

/-
  The walks through udftag.Is, Open, volumeseq.is, extentAt, ParseAnchor.
-/
namespace Go.Proofs.YthkppbimkjmbnaaGreatDoor
open Go.RowKit
open Vs (bs by_)
/-- A row that a call owns has its length. -/
theorem own_shape {w : World} {base e size n : Nat} {v : Value} {xs : List Value} (h : w.ownsRow base e size v n xs) : ∃ a c, v = .slice a n c := by
  rcases h.2 with ⟨rfl, h0⟩ | ⟨g, cap, _, rfl, _⟩
  · exact ⟨none, 0, by rw [h0]⟩
  · exact ⟨_, _, rfl⟩
section
variable {P : Program}
/-- Results: a struct in a cell and two slots; two structs and a slot; a struct and a slot. -/
theorem res_ctt {fn : Func} {p u v : Tmp} {ty : TypeId} (h : fn.results = #[.cell p ty, .tmp u, .tmp v]) (tmps : Array Value) (w : World) (g : Nat) (t : TypeId) (cs : Array Value) (fr : Nat × Nat) (d : TypeDesc)
    (hp : tmps.getD p undef = .pointer (some ⟨g, 0, none⟩)) (hg : w.heap[g]? = some (.cells cs t fr))
    (hu : P.underlying ty = some d) (hd : (match d with | .struct _ | .array _ _ => true | _ => false) = true) (hi : (P.info? ty).map (·.size) = some cs.size) (x y : Value) (hx : tmps.getD u undef = x) (hy : tmps.getD v undef = y) :
    (results fn tmps).run P w = .ok (.tuple #[.agg cs, x, y]) w := by
  have hp' : tmps[p]?.getD undef = .pointer (some ⟨g, 0, none⟩) := by simpa using hp
  have hx' : tmps[u]?.getD undef = x := by simpa using hx
  have hy' : tmps[v]?.getD undef = y := by simpa using hy
  simp [results, h, hp', hx', hy', asAddr, run_loadVar_row w g t ty cs fr d hg hu hd hi]
theorem res_cct {fn : Func} {p q u : Tmp} {ty : TypeId} (h : fn.results = #[.cell p ty, .cell q ty, .tmp u]) (tmps : Array Value) (w : World) (g : Nat) (t : TypeId) (cs : Array Value) (fr : Nat × Nat) (g' : Nat) (t' : TypeId) (cs' : Array Value) (fr' : Nat × Nat) (d : TypeDesc)
    (hp : tmps.getD p undef = .pointer (some ⟨g, 0, none⟩)) (hg : w.heap[g]? = some (.cells cs t fr)) (hp2 : tmps.getD q undef = .pointer (some ⟨g', 0, none⟩)) (hg2 : w.heap[g']? = some (.cells cs' t' fr'))
    (hu : P.underlying ty = some d) (hd : (match d with | .struct _ | .array _ _ => true | _ => false) = true) (hi : (P.info? ty).map (·.size) = some cs.size) (hi2 : (P.info? ty).map (·.size) = some cs'.size) (x : Value) (hx : tmps.getD u undef = x) :
    (results fn tmps).run P w = .ok (.tuple #[.agg cs, .agg cs', x]) w := by
  have hp' : tmps[p]?.getD undef = .pointer (some ⟨g, 0, none⟩) := by simpa using hp
  have hq' : tmps[q]?.getD undef = .pointer (some ⟨g', 0, none⟩) := by simpa using hp2
  have hx' : tmps[u]?.getD undef = x := by simpa using hx
  simp [results, h, hp', hq', hx', asAddr, run_loadVar_row w g t ty cs fr d hg hu hd hi, run_loadVar_row w g' t' ty cs' fr' d hg2 hu hd hi2]
end

set_option maxHeartbeats 3200000 in
set_option maxRecDepth 100000 in
/-- udftag.Is. -/
theorem tIs_any (s : ByteArray) (id loc : Int) (w : World) (hs : s.size ≤ 9223372036854775807) :
    Calls Tryz.prog 31 #[.string s, .int .i64 id, .int .i64 loc] w fun e w' => e = .returned (.bool (Vs.isR (by_ s) id loc)) ∧ Below w.heap.size w w' := by
  have CF := Lib.hid (fun W => faults_any s loc W hs)
  have HR := Lib.hid (show Vs.isR (by_ s) id loc = (decide (Vs.faultsR (by_ s) loc = []) && decide ((Pm.at_ (by_ s) 0 2 : Int) = id)) from rfl)
  by_cases h : Vs.faultsR (by_ s) loc = []
  · have h16 : 16 ≤ s.size := by
      have := ((Vs.faults_iff (by_ s) loc).1 h).1
      rwa [Vs.by_len] at this
    have CV := Lib.hid (fun W => values_any s h16 hs W)
    rw [decide_eq_true h, Bool.true_and] at HR
    rw [h] at CF
    generalize Pm.at_ (by_ s) 0 2 = a at *
    generalize Pm.at_ (by_ s) 6 2 = b at *
    generalize Pm.at_ (by_ s) 10 2 = c at *
    generalize Pm.at_ (by_ s) 12 4 = d at *
    have hfld : ∀ W : World, (Instr.field 104 (.agg #[.int .i64 (a : Int), .int .i64 (b : Int), .int .i64 (c : Int), .int .i64 (d : Int)]) 0).run Tryz.prog W = .ok (.int .i64 (a : Int)) W := fun W => by kernel_rfl
    obtain ⟨C, hC⟩ : ∃ C : Bool, ((a : Int) == id) = C := ⟨_, rfl⟩
    have HC := Lib.hid (show decide ((a : Int) = id) = C by rw [← hC]; by_cases e : (a : Int) = id <;> simp [e])
    rw [HR.out, HC.out]
    clear h h16 HR HC
    go_enter Tryz.func31, Tryz.ntmps31
    go_wp2_with fail
    with_reducible refine (CF.out _).mono ?_
    rintro e w2 ⟨v, rfl, ho, hb2⟩
    obtain ⟨ad, cap, rfl⟩ := own_shape ho
    clear ho
    have HB2 := Lib.hid hb2
    clear hb2
    simp only [List.length_nil]
    go_wp2_with fail
    with_reducible refine (CV.out _).mono ?_
    rintro e w3 ⟨rfl, hb3⟩
    have HB3 := Lib.hid (HB2.out.trans (hb3.mono HB2.out.size))
    clear hb3
    go_wp2_with fail
    go_ret
    first
      | exact ⟨rfl, HB3.out⟩
      | (rw [hC]; exact ⟨rfl, HB3.out⟩)
  · rw [decide_eq_false h, Bool.false_and] at HR
    rw [HR.out]
    have hlen : 1 ≤ (Vs.faultsR (by_ s) loc).length := by
      cases hl : Vs.faultsR (by_ s) loc with
      | nil => exact absurd hl h
      | cons a t => simp
    obtain ⟨n, hn⟩ : ∃ n, (Vs.faultsR (by_ s) loc).length = n := ⟨_, rfl⟩
    rw [hn] at CF hlen
    have hne : ((n : Int) == 0) = false := by rw [beq_eq_false_iff_ne]; omega
    clear h HR hn
    generalize Kit.izs (Vs.faultsR (by_ s) loc) = xs at *
    go_enter Tryz.func31, Tryz.ntmps31
    go_wp2_with fail
    with_reducible refine (CF.out _).mono ?_
    rintro e w2 ⟨v, rfl, ho, hb2⟩
    obtain ⟨ad, cap, rfl⟩ := own_shape ho
    clear ho
    have HB2 := Lib.hid hb2
    clear hb2
    go_wp2_with fail
    go_ret
    exact ⟨rfl, HB2.out⟩

set_option maxHeartbeats 3200000 in
set_option maxRecDepth 100000 in
/-- volumeseq.is. -/
theorem vIs_any (s : ByteArray) (id loc : Int) (w : World) (hs : s.size ≤ 9223372036854775807) :
    Calls Tryz.prog 53 #[.string s, .int .i64 id, .int .i64 loc] w fun e w' => e = .returned (.bool (Vs.isB (by_ s) id loc)) ∧ Below w.heap.size w w' := by
  have CI := Lib.hid (fun W => tIs_any s id loc W hs)
  have HR := Lib.hid (show Vs.isB (by_ s) id loc = (decide ((by_ s).length = 2048) && Vs.isR (by_ s) id loc) from rfl)
  rw [Vs.by_len] at HR
  by_cases h : s.size = 2048
  · rw [decide_eq_true h, Bool.true_and] at HR
    rw [HR.out]
    have he : ((s.size : Int) == 2048) = true := by rw [h]; rfl
    generalize Vs.isR (by_ s) id loc = r at *
    clear h HR
    go_enter Tryz.func53, Tryz.ntmps53
    go_wp2_with fail
    with_reducible refine (CI.out _).mono ?_
    rintro e w2 ⟨rfl, hb2⟩
    go_wp2_with fail
    go_ret
    exact ⟨rfl, hb2⟩
  · rw [decide_eq_false h, Bool.false_and] at HR
    rw [HR.out]
    have he : ((s.size : Int) == 2048) = false := by rw [beq_eq_false_iff_ne]; omega
    clear h HR
    go_enter Tryz.func53, Tryz.ntmps53
    go_wp2_with fail
    go_ret
    exact ⟨rfl, Below.refl _ _⟩

set_option maxHeartbeats 3200000 in
set_option maxRecDepth 100000 in
/-- extentAt. -/
theorem extentAt_any (s : ByteArray) (a : Nat) (A : Int) (hA : A = (a : Int)) (ha : a + 8 ≤ s.size) (hs : s.size ≤ 9223372036854775807) (w : World) :
    Calls Tryz.prog 54 #[.string s, .int .i64 A] w fun e w' => e = .returned (.agg #[.int .i64 (Pm.at_ (by_ s) (a + 4) 4 : Nat), .int .i64 (Pm.at_ (by_ s) a 4 / 2048 : Nat)]) ∧ Below w.heap.size w w' := by
  subst hA
  have C1 := Lib.hid (fun W => vRead_any s (a + 4) 4 ((a : Int) + 4) 4 (by omega) rfl (.inr rfl) (by omega) hs W)
  have C2 := Lib.hid (fun W => vRead_any s a 4 a 4 rfl rfl (.inr rfl) (by omega) hs W)
  have hb := Pm.at_lt (by_ s) a 4
  have ha2 : (a : Int) + 8 ≤ 9223372036854775807 := by omega
  generalize Pm.at_ (by_ s) (a + 4) 4 = x at *
  generalize Pm.at_ (by_ s) a 4 = y at *
  have hy : (y : Int) < 4294967296 := by omega
  have HQ := Lib.hid (show ((y / 2048 : Nat) : Int) = (y : Int) / 2048 by omega)
  clear hs ha hb
  go_enter Tryz.func54, Tryz.ntmps54
  go_wp2_with fail
  with_reducible refine (C1.out _).mono ?_
  rintro e w2 ⟨rfl, hw⟩
  subst hw
  go_wp2_with fail
  with_reducible refine (C2.out _).mono ?_
  rintro e w2 ⟨rfl, hw⟩
  subst hw
  go_wp2_with fail
  refine bodyPost_ret (v := .agg #[.int .i64 (x : Int), .int .i64 ((y : Int) / 2048)]) (results_cell_row rfl _ _ w.heap.size 23 _ (0, 0) _ rfl (heap_alloc_new w _) Tryz.underlying23 rfl (by kernel_rfl)) rfl ⟨?_, (Below.refl _ _).alloc (Nat.le_refl _) _⟩
  rw [HQ.out]
end Go.Proofs.YthkppbimkjmbnaaGreatDoor

/-
  The walks through udftag.Open and volumeseq.ParseAnchor.
-/
namespace Go.Proofs.YthkppbimkjmbnaaGreatDoor
open Go.RowKit
open Vs (bs by_)
namespace Vs
/-- A tag as a value. -/
def tgV (t : Int × Int × Int × Int) : Array Value := #[.int .i64 t.1, .int .i64 t.2.1, .int .i64 t.2.2.1, .int .i64 t.2.2.2]
theorem row2 {W : World} {g : Nat} {a b : Value} {t : TypeId} (h : W.heap[g]? = some (.cells #[a, b] t (0, 0))) (u0 u1 : Value) : ((W.setCell ⟨g, 0, none⟩ u0).setCell ⟨g, 1, none⟩ u1).heap[g]? = some (.cells #[u0, u1] t (0, 0)) :=
  heap_setCell_same _ _ 1 _ _ _ (heap_setCell_same _ _ 0 _ _ _ h)
theorem row4 {W : World} {g : Nat} {a b c d : Value} {t : TypeId} (h : W.heap[g]? = some (.cells #[a, b, c, d] t (0, 0))) (u0 u1 u2 u3 : Value) : ((((W.setCell ⟨g, 0, none⟩ u0).setCell ⟨g, 1, none⟩ u1).setCell ⟨g, 2, none⟩ u2).setCell ⟨g, 3, none⟩ u3).heap[g]? = some (.cells #[u0, u1, u2, u3] t (0, 0)) :=
  heap_setCell_same _ _ 3 _ _ _ (heap_setCell_same _ _ 2 _ _ _ (heap_setCell_same _ _ 1 _ _ _ (heap_setCell_same _ _ 0 _ _ _ h)))
end Vs

set_option maxHeartbeats 3200000 in
set_option maxRecDepth 100000 in
/-- udftag.Open. -/
theorem open_any (s : ByteArray) (loc : Int) (w : World) (hs : s.size ≤ 9223372036854775807) :
    Calls Tryz.prog 82 #[.string s, .int .i64 loc] w fun e w' => e = .returned (.tuple #[.agg (Vs.tgV (Vs.openR (by_ s) loc).1.1), .string (bs (Vs.openR (by_ s) loc).1.2), .int .i64 (Vs.openR (by_ s) loc).2]) ∧ Below w.heap.size w w' := by
  have CF := Lib.hid (fun W => faults_any s loc W hs)
  have HB0 := Lib.hid ((Below.refl w.heap.size w).alloc (Nat.le_refl _) (.cells #[.int .i64 0, .int .i64 0, .int .i64 0, .int .i64 0] 104))
  have HN0 := Lib.hid (heap_alloc_new w (.cells #[.int .i64 0, .int .i64 0, .int .i64 0, .int .i64 0] 104))
  by_cases h : Vs.faultsR (by_ s) loc = []
  · have HR := Lib.hid (show Vs.openR (by_ s) loc = (((((Pm.at_ (by_ s) 0 2 : Nat) : Int), ((Pm.at_ (by_ s) 6 2 : Nat) : Int), ((Pm.at_ (by_ s) 10 2 : Nat) : Int), ((Pm.at_ (by_ s) 12 4 : Nat) : Int)), Vs.sl (by_ s) 16 (Pm.at_ (by_ s) 10 2)), 0) from if_pos h)
    obtain ⟨h16, -, -, h10, -, -⟩ := (Vs.faults_iff (by_ s) loc).1 h
    rw [Vs.by_len] at h16 h10
    have CV := Lib.hid (fun W => values_any s h16 hs W)
    rw [HR.out]
    rw [h] at CF
    unfold Vs.tgV
    simp only []
    have HX := Lib.hid (show s.extract 16 (16 + Pm.at_ (by_ s) 10 2) = bs (Vs.sl (by_ s) 16 (Pm.at_ (by_ s) 10 2)) by rw [Vs.bs_ext, Nat.add_sub_cancel_left])
    generalize Pm.at_ (by_ s) 0 2 = a at *
    generalize Pm.at_ (by_ s) 6 2 = b at *
    generalize Pm.at_ (by_ s) 10 2 = n at *
    generalize Pm.at_ (by_ s) 12 4 = d at *
    have hn16 : 16 + n ≤ s.size := by omega
    have hn16' : (16 : Int) + (n : Int) ≤ (s.size : Int) := by omega
    have hn0 : (0 : Int) ≤ (n : Int) := by omega
    have HR2 := HX
    clear h HR HX
    go_enter Tryz.func82, Tryz.ntmps82
    go_wp2_with fail
    with_reducible refine (CF.out _).mono ?_
    rintro e w2 ⟨v, rfl, ho, hb2⟩
    obtain ⟨ad, cap, rfl⟩ := own_shape ho
    clear ho
    have HB2 := Lib.hid (HB0.out.trans (hb2.mono HB0.out.size))
    have HN2 := Lib.hid ((hb2.block w.heap.size (by simp)).trans HN0.out)
    have hs2 := hb2.size
    simp only [World.size_alloc] at hs2
    clear hb2
    simp only [List.length_nil]
    go_wp2_with fail
    with_reducible refine (CV.out _).mono ?_
    rintro e w3 ⟨rfl, hb3⟩
    have hs3 := hb3.size
    have HB3 := Lib.hid ((HB2.out.trans (hb3.mono HB2.out.size)).alloc (by omega) (.cells #[.int .i64 (a : Int), .int .i64 (b : Int), .int .i64 (n : Int), .int .i64 (d : Int)] 104))
    have HN3 := Lib.hid ((((Below.refl w3.heap.size w3).alloc (Nat.le_refl _) (.cells #[.int .i64 (a : Int), .int .i64 (b : Int), .int .i64 (n : Int), .int .i64 (d : Int)] 104)).block w.heap.size (by omega)).trans ((hb3.block w.heap.size (by omega)).trans HN2.out))
    have HT3 := Lib.hid (heap_alloc_new w3 (.cells #[.int .i64 (a : Int), .int .i64 (b : Int), .int .i64 (n : Int), .int .i64 (d : Int)] 104))
    have c0 := cell_of_row _ _ 0 _ _ _ HN3.out
    have c1 := cell_of_row _ _ 1 _ _ _ HN3.out
    have c2 := cell_of_row _ _ 2 _ _ _ HN3.out
    have c3 := cell_of_row _ _ 3 _ _ _ HN3.out
    simp only [List.getElem?_toArray, List.getElem?_cons_zero, List.getElem?_cons_succ] at c0 c1 c2 c3
    have hfj := fun j => frozen_of_row _ _ j _ _ HN3.out
    clear hb3
    go_wp2_with fail
    go_region
    all_goals
      go_wp2_with fail
      refine bodyPost_ret (v := .tuple #[.agg #[.int .i64 (a : Int), .int .i64 (b : Int), .int .i64 (n : Int), .int .i64 (d : Int)], .string (s.extract 16 (16 + n)), .int .i64 0]) (res_ctt rfl _ _ w.heap.size 104 #[.int .i64 (a : Int), .int .i64 (b : Int), .int .i64 (n : Int), .int .i64 (d : Int)] (0, 0) _ rfl ?_ Tryz.underlying104 rfl (by kernel_rfl) _ _ rfl rfl) rfl ⟨?_, ((((HB3.out.setCell (by simp) _).setCell (by simp) _).setCell (by simp) _).setCell (by simp) _).drew⟩
      · exact Vs.row4 HN3.out _ _ _ _
      · rw [HR2.out]
  · have HR := Lib.hid (show Vs.openR (by_ s) loc = (((0, 0, 0, 0), []), 10) from if_neg h)
    rw [HR.out]
    unfold Vs.tgV
    simp only []
    have hlen : 1 ≤ (Vs.faultsR (by_ s) loc).length := by
      cases hl : Vs.faultsR (by_ s) loc with
      | nil => exact absurd hl h
      | cons a t => simp
    obtain ⟨n, hn⟩ : ∃ n, (Vs.faultsR (by_ s) loc).length = n := ⟨_, rfl⟩
    rw [hn] at CF hlen
    have hne : decide (0 < (n : Int)) = true := decide_eq_true (by omega)
    clear h HR hn
    generalize Kit.izs (Vs.faultsR (by_ s) loc) = xs at *
    go_enter Tryz.func82, Tryz.ntmps82
    go_wp2_with fail
    with_reducible refine (CF.out _).mono ?_
    rintro e w2 ⟨v, rfl, ho, hb2⟩
    obtain ⟨ad, cap, rfl⟩ := own_shape ho
    clear ho
    have HB2 := Lib.hid (HB0.out.trans (hb2.mono HB0.out.size))
    have HN2 := Lib.hid ((hb2.block w.heap.size (by simp)).trans HN0.out)
    clear hb2
    have c0 := cell_of_row _ _ 0 _ _ _ HN2.out
    have c1 := cell_of_row _ _ 1 _ _ _ HN2.out
    have c2 := cell_of_row _ _ 2 _ _ _ HN2.out
    have c3 := cell_of_row _ _ 3 _ _ _ HN2.out
    have hfj := fun j => frozen_of_row _ _ j _ _ HN2.out
    simp only [List.getElem?_toArray, List.getElem?_cons_zero, List.getElem?_cons_succ] at c0 c1 c2 c3
    go_wp2_with fail
    refine bodyPost_ret (v := .tuple #[.agg #[.int .i64 0, .int .i64 0, .int .i64 0, .int .i64 0], .string (bs []), .int .i64 10]) (res_ctt rfl _ _ w.heap.size 104 _ (0, 0) _ rfl (Vs.row4 HN2.out _ _ _ _) Tryz.underlying104 rfl (by kernel_rfl) _ _ rfl rfl) rfl ⟨rfl, ((((HB2.out.setCell (by simp) _).setCell (by simp) _).setCell (by simp) _).setCell (by simp) _)⟩

set_option maxHeartbeats 3200000 in
set_option maxRecDepth 100000 in
/-- ParseAnchor. -/
theorem vParseAnchor_any (s : ByteArray) (loc : Int) (w : World) (hs : s.size ≤ 9223372036854775807) :
    Calls Tryz.prog 14 #[.string s, .int .i64 loc] w fun e w' => e = .returned (.tuple #[.agg (Vs.spV (Vs.pancR (by_ s) loc).1.1.1 (Vs.pancR (by_ s) loc).1.1.2), .agg (Vs.spV (Vs.pancR (by_ s) loc).1.2.1 (Vs.pancR (by_ s) loc).1.2.2), .int .i64 (Vs.pancR (by_ s) loc).2]) ∧ Below w.heap.size w w' := by
  have CI := Lib.hid (fun W => vIs_any s 2 loc W hs)
  have HB0 := Lib.hid (((Below.refl w.heap.size w).alloc (Nat.le_refl _) (.cells #[.int .i64 0, .int .i64 0] 23)).alloc (by simp) (.cells #[.int .i64 0, .int .i64 0] 23))
  have HN1 := Lib.hid (heap_alloc2_old w (.cells #[.int .i64 0, .int .i64 0] 23) (.cells #[.int .i64 0, .int .i64 0] 23))
  have HN2 := Lib.hid (heap_alloc2_new w (.cells #[.int .i64 0, .int .i64 0] 23) (.cells #[.int .i64 0, .int .i64 0] 23))
  unfold Vs.spV
  cases h : Vs.isB (by_ s) 2 loc with
  | false =>
    rw [h] at CI
    have HR := Lib.hid (show Vs.pancR (by_ s) loc = (((0, 0), (0, 0)), 10) from if_neg (by rw [h]; decide))
    rw [HR.out]
    simp only []
    clear h HR
    go_enter Tryz.func14, Tryz.ntmps14
    go_wp2_with fail
    with_reducible refine (CI.out _).mono ?_
    rintro e w2 ⟨rfl, hb2⟩
    have HB2 := Lib.hid (HB0.out.trans (hb2.mono HB0.out.size))
    have HM1 := Lib.hid ((hb2.block w.heap.size (by simp; omega)).trans HN1.out)
    have HM2 := Lib.hid ((hb2.block (w.heap.size + 1) (by simp)).trans HN2.out)
    clear hb2
    have c0 := cell_of_row _ _ 0 _ _ _ HM1.out
    have c1 := cell_of_row _ _ 1 _ _ _ HM1.out
    have c2 := cell_of_row _ _ 0 _ _ _ HM2.out
    have c3 := cell_of_row _ _ 1 _ _ _ HM2.out
    have hfj := fun j => frozen_of_row _ _ j _ _ HM1.out
    have hfk := fun j => frozen_of_row _ _ j _ _ HM2.out
    simp only [List.getElem?_toArray, List.getElem?_cons_zero, List.getElem?_cons_succ] at c0 c1 c2 c3
    go_wp2_with fail
    refine bodyPost_ret (v := .tuple #[.agg #[.int .i64 0, .int .i64 0], .agg #[.int .i64 0, .int .i64 0], .int .i64 10]) (res_cct rfl _ _ w.heap.size 23 #[.int .i64 0, .int .i64 0] (0, 0) (w.heap.size + 1) 23 #[.int .i64 0, .int .i64 0] (0, 0) _ rfl ?_ rfl ?_ Tryz.underlying23 rfl (by kernel_rfl) (by kernel_rfl) _ rfl) rfl ⟨rfl, ?_⟩
    · refine (heap_setCell_other _ _ _ _ (by simp)).trans ((heap_setCell_other _ _ _ _ (by simp)).trans ?_)
      exact Vs.row2 HM1.out _ _
    · refine Vs.row2 (a := .int .i64 0) (b := .int .i64 0) ?_ _ _
      exact (heap_setCell_other _ _ _ _ (by simp)).trans ((heap_setCell_other _ _ _ _ (by simp)).trans HM2.out)
    · exact ((((HB2.out.setCell (by simp) _).setCell (by simp) _).setCell (by simp) _).setCell (by simp) _)
  | true =>
    rw [h] at CI
    have HR := Lib.hid (show Vs.pancR (by_ s) loc = (((((Pm.at_ (by_ s) 20 4 : Nat) : Int), ((Pm.at_ (by_ s) 16 4 / 2048 : Nat) : Int)), (((Pm.at_ (by_ s) 28 4 : Nat) : Int), ((Pm.at_ (by_ s) 24 4 / 2048 : Nat) : Int))), 0) from if_pos h)
    have hl := Vs.isB_len h
    rw [Vs.by_len] at hl
    have C1 := Lib.hid (fun W => extentAt_any s 16 16 rfl (by omega) hs W)
    have C2 := Lib.hid (fun W => extentAt_any s 24 24 rfl (by omega) hs W)
    rw [HR.out]
    simp only []
    generalize ((Pm.at_ (by_ s) 20 4 : Nat) : Int) = a at *
    generalize ((Pm.at_ (by_ s) 16 4 / 2048 : Nat) : Int) = b at *
    generalize ((Pm.at_ (by_ s) 28 4 : Nat) : Int) = c at *
    generalize ((Pm.at_ (by_ s) 24 4 / 2048 : Nat) : Int) = d at *
    clear h HR hl
    go_enter Tryz.func14, Tryz.ntmps14
    go_wp2_with fail
    with_reducible refine (CI.out _).mono ?_
    rintro e w2 ⟨rfl, hb2⟩
    have hs2 := hb2.size
    simp only [World.size_alloc] at hs2
    have HB2 := Lib.hid (HB0.out.trans (hb2.mono HB0.out.size))
    have HM1 := Lib.hid ((hb2.block w.heap.size (by simp; omega)).trans HN1.out)
    have HM2 := Lib.hid ((hb2.block (w.heap.size + 1) (by simp)).trans HN2.out)
    clear hb2
    go_wp2_with fail
    with_reducible refine (C1.out _).mono ?_
    rintro e w3 ⟨rfl, hb3⟩
    have hs3 := hb3.size
    have HB3 := Lib.hid (HB2.out.trans (hb3.mono HB2.out.size))
    have HK1 := Lib.hid ((hb3.block w.heap.size (by omega)).trans HM1.out)
    have HK2 := Lib.hid ((hb3.block (w.heap.size + 1) (by omega)).trans HM2.out)
    clear hb3 HM1 HM2
    go_wp2_with fail
    with_reducible refine (C2.out _).mono ?_
    rintro e w4 ⟨rfl, hb4⟩
    have HB4 := Lib.hid (HB3.out.trans (hb4.mono HB3.out.size))
    have HM1 := Lib.hid ((hb4.block w.heap.size (by omega)).trans HK1.out)
    have HM2 := Lib.hid ((hb4.block (w.heap.size + 1) (by omega)).trans HK2.out)
    clear hb4 HK1 HK2
    have c0 := cell_of_row _ _ 0 _ _ _ HM1.out
    have c1 := cell_of_row _ _ 1 _ _ _ HM1.out
    have c2 := cell_of_row _ _ 0 _ _ _ HM2.out
    have c3 := cell_of_row _ _ 1 _ _ _ HM2.out
    have hfj := fun j => frozen_of_row _ _ j _ _ HM1.out
    have hfk := fun j => frozen_of_row _ _ j _ _ HM2.out
    simp only [List.getElem?_toArray, List.getElem?_cons_zero, List.getElem?_cons_succ] at c0 c1 c2 c3
    go_wp2_with fail
    refine bodyPost_ret (v := .tuple #[.agg #[.int .i64 a, .int .i64 b], .agg #[.int .i64 c, .int .i64 d], .int .i64 0]) (res_cct rfl _ _ w.heap.size 23 #[.int .i64 a, .int .i64 b] (0, 0) (w.heap.size + 1) 23 #[.int .i64 c, .int .i64 d] (0, 0) _ rfl ?_ rfl ?_ Tryz.underlying23 rfl (by kernel_rfl) (by kernel_rfl) _ rfl) rfl ⟨rfl, ?_⟩
    · refine (heap_setCell_other _ _ _ _ (by simp)).trans ((heap_setCell_other _ _ _ _ (by simp)).trans ?_)
      exact Vs.row2 HM1.out _ _
    · refine Vs.row2 (a := .int .i64 0) (b := .int .i64 0) ?_ _ _
      exact (heap_setCell_other _ _ _ _ (by simp)).trans ((heap_setCell_other _ _ _ _ (by simp)).trans HM2.out)
    · exact ((((HB4.out.setCell (by simp) _).setCell (by simp) _).setCell (by simp) _).setCell (by simp) _)
end Go.Proofs.YthkppbimkjmbnaaGreatDoor

/-
  The walk through the closure add of Sequence.
-/
namespace Go.Proofs.YthkppbimkjmbnaaGreatDoor
open Go.RowKit
open Vs (bs by_)
theorem strInfo : (Tryz.prog.info? 9).map (fun i => (i.zero, i.size, i.bytes)) = some (some (.string ⟨#[]⟩), 1, 16) := by kernel_rfl
namespace Vs
def strs (l : List ByteArray) : List Value := l.map Value.string
theorem strs_len (l : List ByteArray) : (strs l).length = l.length := by simp [strs]
theorem strs_snoc (l : List ByteArray) (s : ByteArray) : strs (l ++ [s]) = strs l ++ [Value.string s] := by simp [strs]
structure Sq (w1 : World) (b0 ob : Nat) (l : List ByteArray) (W : World) : Prop where
  box : ∃ v, W.heap[ob]? = some (.cells #[v] 31 (0, 0)) ∧ W.ownsRow w1.heap.size 9 1 v l.length (strs l)
  keep : ∀ k, k < w1.heap.size → k ≠ ob → W.heap[k]? = w1.heap[k]?
  bel : Below b0 w1 W
  hob : ob < w1.heap.size
  hb0 : b0 ≤ ob
theorem Sq.size {w1 W : World} {b0 ob : Nat} {l : List ByteArray} (h : Sq w1 b0 ob l W) : w1.heap.size ≤ W.heap.size := h.bel.size
theorem Sq.below {w1 W W' : World} {b0 ob : Nat} {l : List ByteArray} (h : Sq w1 b0 ob l W) (hb : Below W.heap.size W W') : Sq w1 b0 ob l W' := by
  obtain ⟨v, hv, ho⟩ := h.box
  have hs := h.size
  have h1 := h.hob
  have h2 := h.hb0
  exact ⟨⟨v, (hb.block _ (by omega)).trans hv, Kit.own_below ho hb⟩, fun k hk hne => (hb.block _ (by omega)).trans (h.keep k hk hne), h.bel.trans (hb.mono (by omega)), h1, h2⟩
theorem bodyL_le (L : List UInt8) (n : Nat) : (bodyL L n).length ≤ n := by
  unfold bodyL sl
  rw [List.length_take]
  exact Nat.min_le_left _ _
theorem Sq.start {w1 : World} {b0 ob : Nat} (h : w1.heap[ob]? = some (.cells #[.slice none 0 0] 31 (0, 0))) (hb : b0 ≤ ob) : Sq w1 b0 ob [] w1 :=
  ⟨⟨_, h, rfl, Or.inl ⟨rfl, rfl⟩⟩, fun _ _ _ => rfl, Below.refl _ _, (Array.getElem?_eq_some_iff.1 h).1, hb⟩
theorem Sq.set {w1 W w' : World} {b0 ob g c : Nat} {l : List ByteArray} {s : ByteArray} (h : Sq w1 b0 ob l W) (ho : w'.ownsRow w1.heap.size 9 1 (.slice (some ⟨g, 0, none⟩) (l.length + 1) c) (l.length + 1) (strs l ++ [.string s])) (hb : Below w1.heap.size W w') :
    Sq w1 b0 ob (l ++ [s]) (w'.setCell ⟨ob, 0, none⟩ (.slice (some ⟨g, 0, none⟩) (l.length + 1) c)) := by
  have h1 := h.hob
  have h2 := h.hb0
  obtain ⟨v, hv, _⟩ := h.box
  have hg := (ho.lt g rfl).1
  refine ⟨⟨_, heap_setCell_same _ _ 0 _ _ _ ((hb.block ob h1).trans hv), ?_⟩, fun k hk hne => (heap_setCell_other _ _ _ _ (by simpa using fun e => hne e)).trans ((hb.block k hk).trans (h.keep k hk hne)), (h.bel.trans (hb.mono (by omega))).setCell (p := ⟨ob, 0, none⟩) h2 _, h1, h2⟩
  rw [strs_snoc, List.length_append, List.length_singleton]
  refine ho.kept (grown_set _ _ _ _) (.inr fun e => ?_)
  have e' : g = ob := Option.some.inj e
  omega
end Vs

set_option maxHeartbeats 3200000 in
set_option maxRecDepth 100000 in
/-- add. -/
theorem addSeq_any (w1 W : World) (b0 ob lb loc : Nat) (l : List ByteArray) (h : Vs.Sq w1 b0 ob l W) (hlb : W.heap[lb]? = some (.cells #[.int .i64 (loc : Int)] 3 (0, 0))) (hlc : loc ≤ 4294967280) (hll : l.length ≤ 10)
    (id n : Nat) (ID N : Int) (hID : ID = id) (hN : N = n) (hid : id < 65536) (F : FuncId) (caps : Array Value) (L : List UInt8) (hF : Vs.Fills F caps W L) (hn : 1 ≤ n ∧ n ≤ 2032) :
    Calls Tryz.prog 65 #[.int .i64 ID, .int .i64 N, .func (.func F) #[] caps, .pointer (some ⟨lb, 0, none⟩), .pointer (some ⟨ob, 0, none⟩)] W fun e W' => e = .returned (.tuple #[]) ∧ Vs.Sq w1 b0 ob (l ++ [bs (Vs.blk id 1 (loc + l.length) (Vs.bodyL L n))]) W' := by
  subst hID hN
  have CB := Lib.hid (fun x : Later W.heap.size W => body_any n n rfl F caps L x.to (hF.below x.bel) hn)
  have hbl := Vs.bodyL_le L n
  have CK := Lib.hid (fun W' => block_any id 1 ((loc + l.length : Nat) : Int) (bs (Vs.bodyL L n)) W' (by rw [Vs.bs_size]; omega))
  rw [Vs.by_bs, show Vs.blockR (id : Int) 1 ((loc + l.length : Nat) : Int) (Vs.bodyL L n) = (Vs.blk id 1 (loc + l.length) (Vs.bodyL L n), 0) from Vs.blockR_ok (id := id) (ser := 1) hid (by decide) (by omega) (by omega), Int.natCast_add] at CK
  generalize bs (Vs.blk id 1 (loc + l.length) (Vs.bodyL L n)) = R at *
  generalize bs (Vs.bodyL L n) = B at *
  have HS := Lib.hid h
  obtain ⟨v, hv, ho⟩ := h.box
  obtain ⟨A, c, rfl⟩ := own_shape ho
  have hlt : ob < W.heap.size := (Array.getElem?_eq_some_iff.1 hv).1
  have hlt2 : lb < W.heap.size := (Array.getElem?_eq_some_iff.1 hlb).1
  have cO := cell_of_row _ _ 0 _ _ _ hv
  have cL := cell_of_row _ _ 0 _ _ _ hlb
  simp only [List.getElem?_toArray, List.getElem?_cons_zero] at cO cL
  have yO := fun x : Later W.heap.size W => later_cell x hlt cO
  have yL := fun x : Later W.heap.size W => later_cell x hlt2 cL
  have hlcI : (loc : Int) ≤ 4294967280 := by omega
  have hllI : (l.length : Int) ≤ 10 := by omega
  clear h hF hbl hv hlb ho cO cL hlt hlt2 hid hn hlc
  go_enter Tryz.func65, Tryz.ntmps65
  go_wp2_with fail
  refine wp_region_later W.heap.size (by kernel_rfl) (by kernel_rfl) ?_
  repeat (any_goals (first | go_big_quiet_skip | (go_big_quiet_want; go_big_quiet_op; first | go_big_quiet_on | (apply Exists.intro; refine ⟨fun _ => ?_, ?_⟩; (first | (with_reducible refine Calls.later_of ?_ (CB.out _); exact Nat.le_refl _) | (with_reducible refine Calls.later_of ?_ (CK.out _); exact Nat.le_refl _)); go_big_quiet_on))))
  refine wpQuiet_nil ?_
  intro wq hw'
  obtain ⟨⟨wz, hbq⟩, hw''⟩ := hw'
  subst hw''
  have HQ := Lib.hid (HS.out.below hbq)
  clear hbq yO yL
  obtain ⟨v2, hv2, ho2⟩ := HQ.out.box
  obtain ⟨A2, c2, rfl⟩ := own_shape ho2
  have cO := cell_of_row _ _ 0 _ _ _ hv2
  have hfz := frozen_of_row _ _ 0 _ _ hv2
  simp only [List.getElem?_toArray, List.getElem?_cons_zero] at cO
  have HO := Lib.hid ho2
  have HV := Lib.hid hv2
  have hsz : w1.heap.size ≤ wq.heap.size := HQ.out.size
  clear ho2 hv2
  go_wp2_with (at_builtin; refine Kit.app strInfo rfl (by decide) rfl _ _ 31 rfl Tryz.underlying31 w1.heap.size _ _ _ rfl HO.out [_] 1 1 rfl rfl (Kit.one1 rfl) ?c1 hsz ?_)
  case c1 => omega
  intro v' w' ho' hb'
  obtain ⟨g2, cap2, rfl⟩ : ∃ g2 cap2, v' = .slice (some ⟨g2, 0, none⟩) (l.length + 1) cap2 := by
    rcases ho'.2 with ⟨_, h0⟩ | ⟨g2, cap2, _, h0, _⟩
    · omega
    · exact ⟨g2, cap2, h0⟩
  have hv' := (hb'.block ob HQ.out.hob).trans HV.out
  have hc' := cell_of_row _ _ 0 _ _ _ hv'
  have hf' := frozen_of_row _ _ 0 _ _ hv'
  simp only [List.getElem?_toArray, List.getElem?_cons_zero] at hc'
  have HO' := Lib.hid ho'
  have HB' := Lib.hid hb'
  clear ho' hb' hv' cO hfz
  go_wp2_with fail
  go_end0
  exact ⟨rfl, HQ.out.set HO'.out HB'.out⟩
end Go.Proofs.YthkppbimkjmbnaaGreatDoor

/-
  'append' onto a row of the call's own, as one step of a region that draws its order.
-/
namespace Go.Proofs.YthkppbimkjmbnaaGreatDoor
open Go.RowKit
namespace Kit

theorem step_app {P : Program} {w W : World} {ops : Array Oper} {o : Oper} {a : Act} {K : Act → World → Prop} {Q : Exit → Act → World → Prop} {E : Prop} {e : TypeId} {z : Value} {by8 : Nat}
    (hinfo : (P.info? e).map (fun i => (i.zero, i.size, i.bytes)) = some (some z, 1, by8)) (hzs : z.cells.size = 1) (hb1 : 1 ≤ by8) (hgd : o.guard = none) (s x : Operand) (t : TypeId)
    (ho : o.op = .call { callee := .builtin .append, args := #[s, x], argTypes := #[t, t] }) (ht : P.underlying t = some (.slice e)) (base : Nat)
    (v : Value) (n : Nat) (xs : List Value) (hs : a.eval s = v) (hown : W.ownsRow base e 1 v n xs)
    (news : List Value) (m c : Nat) (hx : a.eval x = .slice (some ⟨W.heap.size, 0, none⟩) m c) (hm : news.length = m) (h1 : ∀ u ∈ news, u.oneCell' = true)
    (hweq : w = W.alloc (.cells news.toArray e)) (hbytes : (n + m) * by8 ≤ 140737488355328) (hbase : base ≤ W.heap.size)
    (h : ∀ v' w', w'.ownsRow base e 1 v' (n + m) (xs ++ news) → Below base W w' → K (a.put o.dst v') w') :
    if Region.wanted o (yielded ops a.tmps) = true then Oper.wp P o a w K Q else E := by
  subst hweq
  obtain ⟨i, hi, hz0, hz1, hz2⟩ := info_parts hinfo
  have hw : Region.wanted o (yielded ops a.tmps) = true := by simp [Region.wanted, hgd]
  rw [if_pos hw]
  have hnm : n + m ≤ 140737488355328 := Nat.le_trans (Nat.le_mul_of_pos_right _ hb1) hbytes
  obtain ⟨v', w', hrun, r1, r2, _⟩ := run_append_own (P := P) (W.alloc (.cells news.toArray e)) base t o.type e i z 1 by8 ht hi hz0 hz1 hz2 hzs (by decide) v n xs (hown.alloc _) ⟨W.heap.size, 0, none⟩ m c news (by omega)
    (by
      intro j u hu
      rw [Addr.add_lit, World.cell?_alloc_at _ _ _ _ (by simp)]
      simpa using hu) h1 (by unfold maxLen; omega) hbytes (by simp; omega)
  unfold Oper.wp
  simp [execOp, ho, resolve, invoke, builtin, hs, hx, hrun, Result.andThen]
  exact h v' w' r1 (((Below.refl base W).alloc hbase _).grown r2 (by simp; omega) (fun k hk => (hown.lt k hk).1))

end Kit
end Go.Proofs.YthkppbimkjmbnaaGreatDoor
