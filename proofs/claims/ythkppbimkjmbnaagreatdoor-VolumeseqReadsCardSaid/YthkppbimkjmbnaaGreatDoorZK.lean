/-
  The walk through udfstring.Dstring.
-/
import Derived.Test.YthkppbimkjmbnaaGreatDoorZJ
import Derived.Test.YthkppbimkjmbnaaGreatDoorZE
import Derived.Test.YthkppbimkjmbnaaGreatDoorZG
import Derived.Test.YthkppbimkjmbnaaGreatDoorZI
namespace Go.Proofs.YthkppbimkjmbnaaGreatDoor
open Go.RowKit

set_option maxHeartbeats 1600000 in
set_option maxRecDepth 100000 in
/-- udfstring.Dstring. -/
theorem dstring_any (s : ByteArray) (size : Int) (w : World) (hT : Lib.Utf8Tabs 1 2 w) (hs : s.size ≤ 9223372036854775807) :
    Calls Tryz.prog 130 #[.string s, .int .i64 size] w fun e w' => e = .returned (.tuple #[.string ⟨(Cs.dstrR s.data.toList size).1.toArray⟩, .int .i64 (Cs.dstrR s.data.toList size).2]) ∧ Below w.heap.size w w' := by
  have cC := compress_any s w hT hs
  have cS := fun W => sized_any size W
  by_cases hz : Cs.sized size = true
  case neg =>
    have hz' : Cs.sized size = false := by simpa using hz
    have HR := Lib.hid (show Cs.dstrR s.data.toList size = ([], 1) from if_pos hz')
    rw [hz'] at cS
    have CS := Lib.hid cS
    clear cC cS hz hz' hT
    go_enter Tryz.func130, Tryz.ntmps130
    go_wp2_with fail
    with_reducible refine (CS.out _).mono ?_
    rintro e w3 ⟨rfl, rfl⟩
    go_wp2_with fail
    go_ret2
    rw [HR.out]
    exact ⟨rfl, Below.refl _ _⟩
  case pos =>
  have hR1 : Cs.dstrR s.data.toList size = if ¬ (Cs.compressR s.data.toList).2 = 0 then ([], (Cs.compressR s.data.toList).2)
      else if size - 1 < (Cs.compressR s.data.toList).1.length then ([], 12)
      else ((Cs.compressR s.data.toList).1 ++ List.replicate (size.toNat - 1 - (Cs.compressR s.data.toList).1.length) 0 ++ [UInt8.ofNat (Cs.compressR s.data.toList).1.length], 0) := by
    unfold Cs.dstrR
    rw [if_neg (by rw [hz]; simp)]
  obtain ⟨hz2, hz255⟩ := (sized_iff _).1 hz
  rw [hz] at cS
  have CS := Lib.hid cS
  generalize (Cs.compressR s.data.toList).1 = cd at *
  generalize (Cs.compressR s.data.toList).2 = er at *
  have CC := Lib.hid cC
  clear cC cS hz hT
  by_cases h0 : er = 0
  case neg =>
    rw [if_pos h0] at hR1
    have HR := Lib.hid hR1
    have h0' : (er != 0) = true := by rw [bne_iff_ne]; exact h0
    clear hR1 h0
    go_enter Tryz.func130, Tryz.ntmps130
    go_wp2_with fail
    with_reducible refine (CS.out _).mono ?_
    rintro e w3 ⟨rfl, rfl⟩
    go_wp2_with fail
    with_reducible refine (CC.out).mono ?_
    rintro e w3 ⟨rfl, hb3⟩
    go_wp2_with fail
    go_ret2
    rw [HR.out]
    exact ⟨rfl, hb3⟩
  case pos =>
  subst h0
  rw [if_neg (by simp)] at hR1
  by_cases hf : size - 1 < cd.length
  · rw [if_pos hf] at hR1
    have HR := Lib.hid hR1
    clear hR1
    go_enter Tryz.func130, Tryz.ntmps130
    go_wp2_with fail
    with_reducible refine (CS.out _).mono ?_
    rintro e w3 ⟨rfl, rfl⟩
    go_wp2_with fail
    with_reducible refine (CC.out).mono ?_
    rintro e w3 ⟨rfl, hb3⟩
    go_wp2_with fail
    go_ret2
    rw [HR.out]
    exact ⟨rfl, hb3⟩
  · rw [if_neg hf] at hR1
    have HR := Lib.hid hR1
    clear hR1
    have hcd : (cd.length : Int) ≤ 254 := by omega
    go_enter Tryz.func130, Tryz.ntmps130
    go_wp2_with fail
    with_reducible refine (CS.out _).mono ?_
    rintro e w3 ⟨rfl, rfl⟩
    go_wp2_with fail
    with_reducible refine (CC.out).mono ?_
    rintro e w3 ⟨rfl, hb3⟩
    go_wp2_with fail
    have hcv : ∀ (W : World) (g : Nat), W.cell? ⟨g, 0, none⟩ = some (.int .u8 (cd.length : Int)) → (convert 126 9 (.slice (some ⟨g, 0, none⟩) 1 1)).run Tryz.prog W = .ok (.string ⟨#[UInt8.ofNat cd.length]⟩) W := fun W g h => Kit.str_cell (x := (cd.length : Int)) (by omega) (by omega) h
    have k1 : IntKind.i64.wrap (size - 1) = size - 1 := IntWalk.i64_in _ (by omega)
    have k2 : IntKind.i64.wrap (size - 1 - (cd.length : Int)) = size - 1 - (cd.length : Int) := IntWalk.i64_in _ (by omega)
    have k3 : IntKind.u8.wrap (cd.length : Int) = (cd.length : Int) := IntWalk.u8_in _ (by omega)
    have q0 : 0 ≤ size - 1 - (cd.length : Int) := by omega
    have q1 : size - 1 - (cd.length : Int) ≤ 65536 := by omega
    have cZ := fun W => zeros_any (size - 1 - (cd.length : Int)) q0 q1 W
    go_region_with (first | (go_at_call 110; refine (cZ _).mono ?_; rintro e w4 ⟨rfl, hb4⟩; have hbc := (Kit.bcell hb4).1))
    all_goals (try go_wp2_with fail)
    all_goals go_ret2
    all_goals rw [HR.out]
    all_goals refine ⟨?_, ?_⟩
    all_goals have hs3 := hb3.size
    all_goals have hs4 := hb4.size
    all_goals simp only [World.size_alloc, World.size_drew] at hs4
    all_goals first
      | (with_reducible refine congrArg Ending.returned ?_; simp [Act.put]; apply ByteArray.ext; simp [ByteArray.data_append])
      | (repeat (first
           | exact hb3
           | (refine Below.drew ?_)
           | (refine Below.trans ?_ (Below.mono hb4 (by first | omega | (simp; omega))))
           | (refine Below.alloc ?_ (by first | omega | (simp; omega)) _)))
end Go.Proofs.YthkppbimkjmbnaaGreatDoor

/-
  The walk through udfstring.Charspec.
-/
namespace Go.Proofs.YthkppbimkjmbnaaGreatDoor
open Go.RowKit

/-- The character set specification. -/
def charspecL : List UInt8 := [0, 79, 83, 84, 65, 32, 67, 111, 109, 112, 114, 101, 115, 115, 101, 100, 32, 85, 110, 105, 99, 111, 100, 101] ++ List.replicate 40 0

set_option maxHeartbeats 1600000 in
set_option maxRecDepth 100000 in
/-- udfstring.Charspec. -/
theorem charspec_any (w : World) : Calls Tryz.prog 69 #[] w fun e w' => e = .returned (.string ⟨charspecL.toArray⟩) ∧ Below w.heap.size w w' := by
  have cZ := fun W => zeros_any 40 (by decide) (by decide) W
  generalize hr : List.replicate (40 : Int).toNat (0 : UInt8) = r at cZ
  have hr' : r = List.replicate 40 0 := hr.symm
  have hl : r.length ≤ 40 := by rw [hr']; simp
  have HR := Lib.hid hr'
  have CZ := Lib.hid cZ
  clear cZ hr hr'
  go_enter Tryz.func69, Tryz.ntmps69
  go_wp2_with fail
  with_reducible refine (CZ.out _).mono ?_
  rintro e w3 ⟨rfl, hb3⟩
  go_wp2_with fail
  go_ret
  refine ⟨?_, hb3⟩
  rw [HR.out]
  exact congrArg (fun s => Ending.returned (.string s)) (Kit.append_mk [0, 79, 83, 84, 65, 32, 67, 111, 109, 112, 114, 101, 115, 115, 101, 100, 32, 85, 110, 105, 99, 111, 100, 101] _)

end Go.Proofs.YthkppbimkjmbnaaGreatDoor

/-
  Plain: anchors, anchor descriptors, file set descriptors; no program in sight.
-/
namespace Go.Proofs.YthkppbimkjmbnaaGreatDoor
namespace Vs
open Pm (le num at_ le_len num_le num_lt)
/-- The block of a descriptor, with its identifier and location. -/
def isB (b : List UInt8) (id loc : Int) : Bool := decide (b.length = 2048) && isR b id loc
theorem isB_blk {id : Nat} {loc : Nat} {body : List UInt8} {I : Int} (hI : I = id) (h1 : id < 65536) (h3 : loc < 4294967296) (hb : body.length ≤ 2032) : isB (blk id 1 loc body) I loc = true := by
  subst hI
  unfold isB
  rw [blk_len hb, blk_is id 1 loc body h1 (by decide) h3 hb, decide_eq_true rfl, decide_eq_true rfl, decide_eq_true rfl]
  rfl
theorem isB_len {b : List UInt8} {id loc : Int} (h : isB b id loc = true) : b.length = 2048 := by
  unfold isB at h
  rw [Bool.and_eq_true] at h
  exact of_decide_eq_true h.1
/-- The anchors of a session. -/
def sess (s c : Int) : Bool := decide (0 ≤ s) && (decide (1 ≤ c) && (decide (s ≤ 4096) && decide (c ≤ 4096 - s)))
theorem sess_iff (s c : Int) : sess s c = true ↔ 0 ≤ s ∧ 1 ≤ c ∧ s ≤ 4096 ∧ c ≤ 4096 - s := by simp [sess]
def isAnc (s c : Int) (op : Bool) (k : Int) : Bool := decide (k = s + 256) || (!op && (decide (k = s + c - 1 - 256) || decide (k = s + c - 1)))
def ancR (s c : Int) (op : Bool) : List Int := if sess s c = true then ((List.range c.toNat).map fun (i : Nat) => s + (i : Int)).filter (isAnc s c op) else []
/-- An anchor descriptor. -/
def ancL (ms mc rs rc : Int) : List UInt8 := n4 (mc * 2048) ++ (n4 ms ++ (n4 (rc * 2048) ++ (n4 rs ++ z 480)))
theorem ancL_len (ms mc rs rc : Int) : (ancL ms mc rs rc).length = 496 := by simp [ancL, n4_len, z_len]
def anchorR (loc ms mc rs rc : Int) : List UInt8 × Int := if word loc = true then (if (spanB ms mc && spanB rs rc) = true then (blk 2 1 loc.toNat (ancL ms mc rs rc), 0) else ([], 1)) else ([], 2)
def pancR (b : List UInt8) (loc : Int) : ((Int × Int) × (Int × Int)) × Int :=
  if isB b 2 loc = true then ((((at_ b 20 4 : Nat), (at_ b 16 4 / 2048 : Nat)), ((at_ b 28 4 : Nat), (at_ b 24 4 / 2048 : Nat))), 0) else (((0, 0), (0, 0)), 10)
theorem panc_anc {loc : Nat} {ms mc rs rc : Int} (hl : loc < 4294967296) (hm : spanB ms mc = true) (hr : spanB rs rc = true) : pancR (blk 2 1 loc (ancL ms mc rs rc)) loc = (((ms, mc), (rs, rc)), 0) := by
  rw [spanB_iff] at hm hr
  have hlen := ancL_len ms mc rs rc
  unfold pancR
  rw [isB_blk (id := 2) (I := 2) rfl (by decide) hl (by omega), if_pos rfl]
  have x1 := at4 (id := 2) (ser := 1) (loc := loc) (body := ancL ms mc rs rc) (a := 0) (b := 16) rfl (by omega) (hd (n4_len _)) (by omega) (by omega)
  have x2 := at4 (id := 2) (ser := 1) (loc := loc) (body := ancL ms mc rs rc) (a := 4) (b := 20) rfl (by omega) (sk (n4_len _) rfl (hd (n4_len _))) (by omega) (by omega)
  have x3 := at4 (id := 2) (ser := 1) (loc := loc) (body := ancL ms mc rs rc) (a := 8) (b := 24) rfl (by omega) (sk (n4_len _) rfl (sk (n4_len _) rfl (hd (n4_len _)))) (by omega) (by omega)
  have x4 := at4 (id := 2) (ser := 1) (loc := loc) (body := ancL ms mc rs rc) (a := 12) (b := 28) rfl (by omega) (sk (n4_len _) rfl (sk (n4_len _) rfl (sk (n4_len _) rfl (hd (n4_len _))))) (by omega) (by omega)
  rw [x2, x4, show ((at_ (blk 2 1 loc (ancL ms mc rs rc)) 16 4 / 2048 : Nat) : Int) = mc by omega, show ((at_ (blk 2 1 loc (ancL ms mc rs rc)) 24 4 / 2048 : Nat) : Int) = rc by omega]
structure Fs where
  num : Int
  time : Int
  name : ByteArray
  rb : Int
  rp : Int
end Vs
end Go.Proofs.YthkppbimkjmbnaaGreatDoor

/-
  The walks through volumeseq's small functions.
-/
namespace Go.Proofs.YthkppbimkjmbnaaGreatDoor
open Go.RowKit
open Vs (bs by_)

set_option maxHeartbeats 1600000 in
set_option maxRecDepth 100000 in
/-- word. -/
theorem word_any (n : Int) (w : World) : Calls Tryz.prog 42 #[.int .i64 n] w fun e w' => e = .returned (.bool (Vs.word n)) ∧ w = w' := by
  unfold Vs.word
  by_cases h1 : 0 ≤ n <;> by_cases h2 : n < 4294967296
  all_goals
    first | rw [decide_eq_true h1] | rw [decide_eq_false h1]
    first | rw [decide_eq_true h2] | rw [decide_eq_false h2]
    go_enter Tryz.func42, Tryz.ntmps42
    go_wp2
    go_ret
    exact ⟨rfl, rfl⟩

set_option maxHeartbeats 1600000 in
set_option maxRecDepth 100000 in
/-- timed. -/
theorem timed_any (n : Int) (w : World) : Calls Tryz.prog 125 #[.int .i64 n] w fun e w' => e = .returned (.bool (Vs.isTime n)) ∧ w = w' := by
  unfold Vs.isTime
  by_cases h1 : 315532800 ≤ n <;> by_cases h2 : n ≤ 4102444799
  all_goals
    first | rw [decide_eq_true h1] | rw [decide_eq_false h1]
    first | rw [decide_eq_true h2] | rw [decide_eq_false h2]
    go_enter Tryz.func125, Tryz.ntmps125
    go_wp2
    go_ret
    exact ⟨rfl, rfl⟩

set_option maxHeartbeats 1600000 in
set_option maxRecDepth 100000 in
/-- span. -/
theorem span_any (s c : Int) (w : World) : Calls Tryz.prog 43 #[.agg #[.int .i64 s, .int .i64 c]] w fun e w' => e = .returned (.bool (Vs.spanB s c)) ∧ Below w.heap.size w w' := by
  have CW := Lib.hid (fun W => word_any s W)
  unfold Vs.spanB
  have HB := Lib.hid ((Below.refl w.heap.size w).alloc (Nat.le_refl _) (.cells #[.int .i64 s, .int .i64 c] 23))
  cases h0 : Vs.word s with
  | false =>
    rw [h0] at CW
    go_enter Tryz.func43, Tryz.ntmps43
    go_wp2_with fail
    with_reducible refine (CW.out _).mono ?_
    rintro e w2 ⟨rfl, hw⟩
    subst hw
    go_wp2_with fail
    go_ret
    exact ⟨rfl, HB.out⟩
  | true =>
  rw [h0] at CW
  by_cases h1 : 0 ≤ c <;> by_cases h2 : c < 2097152
  all_goals
    first
      | have d1 : decide (0 ≤ c) = true := decide_eq_true h1
      | have d1 : decide (0 ≤ c) = false := decide_eq_false h1
    first
      | have d2 : decide (c < 2097152) = true := decide_eq_true h2
      | have d2 : decide (c < 2097152) = false := decide_eq_false h2
    rw [d1, d2]
    clear h1 h2
    go_enter Tryz.func43, Tryz.ntmps43
    go_wp2_with fail
    with_reducible refine (CW.out _).mono ?_
    rintro e w2 ⟨rfl, hw⟩
    subst hw
    go_wp2_with fail
    go_ret
    exact ⟨rfl, HB.out⟩

set_option maxHeartbeats 1600000 in
set_option maxRecDepth 100000 in
/-- little, of a number that fits. -/
theorem vLittle_any (n : Int) (k : Nat) (K : Int) (hK : K = (k : Int)) (hk : Pm.Sz k) (hf : Vs.fit n k = true) (w : World) : Calls Tryz.prog 67 #[.int .i64 n, .int .i64 K] w fun e w' => e = .returned (.string (bs (Pm.le k n.toNat))) ∧ Below w.heap.size w w' := by
  subst hK
  have CL := Lib.hid (fun W => little_any n k hk W)
  rw [Vs.leR_fit hf] at CL
  rw [show (⟨(Pm.le k n.toNat).toArray⟩ : ByteArray) = bs (Pm.le k n.toNat) from rfl] at CL
  clear hf
  generalize bs (Pm.le k n.toNat) = r at *
  generalize (if Pm.fitsB n k = true then (0 : Int) else 2) = er at *
  go_enter Tryz.func67, Tryz.ntmps67
  go_wp2_with fail
  with_reducible refine (CL.out _).mono ?_
  rintro e w2 ⟨rfl, hb2⟩
  go_wp2_with fail
  go_ret
  exact ⟨rfl, hb2⟩

set_option maxHeartbeats 1600000 in
set_option maxRecDepth 100000 in
/-- read. -/
theorem vRead_any (s : ByteArray) (a k : Nat) (A K : Int) (hA : A = (a : Int)) (hK : K = (k : Int)) (hk : k = 2 ∨ k = 4) (ha : a + k ≤ s.size) (hs : s.size ≤ 9223372036854775807) (w : World) : Calls Tryz.prog 83 #[.string s, .int .i64 A, .int .i64 K] w fun e w' => e = .returned (.int .i64 (Pm.at_ (by_ s) a k : Nat)) ∧ w = w' := by
  subst hA hK
  have CR := Lib.hid (fun W => readLittle_any s a k (by unfold Pm.Sz; omega) hs W)
  rw [Vs.readR_in (by rw [Vs.by_len]; exact ha) (by omega)] at CR
  simp only [] at CR
  generalize Pm.at_ (by_ s) a k = r at *
  clear ha hk
  go_enter Tryz.func83, Tryz.ntmps83
  go_wp2_with fail
  with_reducible refine (CR.out _).mono ?_
  rintro e w2 ⟨rfl, rfl⟩
  go_wp2_with fail
  go_ret
  exact ⟨rfl, rfl⟩

set_option maxHeartbeats 1600000 in
set_option maxRecDepth 100000 in
/-- zero. -/
theorem zero_any (w : World) : Calls Tryz.prog 57 #[] w fun e w' => e = .returned (.string (bs (Vs.z 2048))) ∧ Below w.heap.size w w' := by
  have CZ := Lib.hid (fun W => zeros_any 2048 (by decide) (by decide) W)
  rw [show (⟨(List.replicate (2048 : Int).toNat 0).toArray⟩ : ByteArray) = bs (Vs.z 2048) from rfl] at CZ
  generalize bs (Vs.z 2048) = r at *
  go_enter Tryz.func57, Tryz.ntmps57
  go_wp2_with fail
  with_reducible refine (CZ.out _).mono ?_
  rintro e w2 ⟨rfl, hb⟩
  go_wp2_with fail
  go_ret
  exact ⟨rfl, hb⟩

set_option maxHeartbeats 1600000 in
set_option maxRecDepth 100000 in
/-- entity. -/
theorem vEntity_any (i s : ByteArray) (w : World) (hi : i.size ≤ 9223372036854775807) (hs : s.size ≤ 9223372036854775807) : Calls Tryz.prog 64 #[.string i, .string s] w fun e w' => e = .returned (.string (bs (Cs.entR (by_ i) (by_ s)).1)) ∧ Below w.heap.size w w' := by
  have CE := Lib.hid (fun W => entity_any i s W hi hs)
  rw [show (⟨(Cs.entR i.data.toList s.data.toList).1.toArray⟩ : ByteArray) = bs (Cs.entR (by_ i) (by_ s)).1 from rfl] at CE
  generalize bs (Cs.entR (by_ i) (by_ s)).1 = r at *
  generalize (Cs.entR i.data.toList s.data.toList).2 = er at *
  go_enter Tryz.func64, Tryz.ntmps64
  go_wp2_with fail
  with_reducible refine (CE.out _).mono ?_
  rintro e w2 ⟨rfl, hb⟩
  go_wp2_with fail
  go_ret
  exact ⟨rfl, hb⟩

set_option maxHeartbeats 1600000 in
set_option maxRecDepth 100000 in
/-- field. -/
theorem vField_any (s : ByteArray) (n : Int) (w : World) (hT : Lib.Utf8Tabs 1 2 w) (hs : s.size ≤ 9223372036854775807) (hn : n ≤ 255) : Calls Tryz.prog 68 #[.string s, .int .i64 n] w fun e w' => e = .returned (.string (bs (Vs.fldL (by_ s) n))) ∧ Below w.heap.size w w' := by
  have CF := Lib.hid (fit_any s n w hT hs)
  have hl := Vs.fit_len (l := by_ s) (n := n) hn
  have CD := Lib.hid (fun W (h : Lib.Utf8Tabs 1 2 W) => dstring_any (bs (Cs.fitR (by_ s) n)) n W h (by rw [Vs.bs_size]; omega))
  rw [show (⟨(Cs.fitR s.data.toList n).toArray⟩ : ByteArray) = bs (Cs.fitR (by_ s) n) from rfl] at CF
  have HR := Lib.hid (show (⟨(Cs.dstrR (bs (Cs.fitR (by_ s) n)).data.toList n).1.toArray⟩ : ByteArray) = bs (Vs.fldL (by_ s) n) from rfl)
  rw [HR.out] at CD
  clear HR hl
  generalize bs (Vs.fldL (by_ s) n) = r at *
  generalize (Cs.dstrR (bs (Cs.fitR (by_ s) n)).data.toList n).2 = er at *
  generalize bs (Cs.fitR (by_ s) n) = m at *
  have HT := Lib.hid hT
  clear hT
  go_enter Tryz.func68, Tryz.ntmps68
  go_wp2_with fail
  with_reducible refine CF.out.mono ?_
  rintro e w2 ⟨rfl, hb⟩
  have HT2 := Lib.hid (Kit.tabs_below HT.out hb)
  go_wp2_with fail
  with_reducible refine (CD.out _ HT2.out).mono ?_
  rintro e w3 ⟨rfl, hb3⟩
  go_wp2_with fail
  go_ret
  exact ⟨rfl, hb.trans (hb3.mono hb.size)⟩

set_option maxHeartbeats 1600000 in
set_option maxRecDepth 100000 in
/-- stamp. -/
theorem vStamp_any (t : Int) (w : World) (ht : Vs.isTime t = true) : Calls Tryz.prog 70 #[.int .i64 t] w fun e w' => e = .returned (.string (bs (Vs.stampR t))) ∧ Below w.heap.size w w' := by
  have CS := Lib.hid (fun W => stamp_any t W ht)
  clear ht
  generalize bs (Vs.stampR t) = r at *
  go_enter Tryz.func70, Tryz.ntmps70
  go_wp2_with fail
  with_reducible refine (CS.out _).mono ?_
  rintro e w2 ⟨rfl, hb⟩
  go_wp2_with fail
  go_ret
  exact ⟨rfl, hb⟩

set_option maxHeartbeats 1600000 in
set_option maxRecDepth 100000 in
/-- text. -/
theorem vText_any (s : ByteArray) (w : World) (hT : Lib.Utf8Tabs 1 2 w) (hs : s.size ≤ 9223372036854775807) : Calls Tryz.prog 124 #[.string s] w fun e w' => e = .returned (.bool (Vs.textB (by_ s))) ∧ Below w.heap.size w w' := by
  have CC := Lib.hid (characters_any s w hT hs)
  have HZ := Lib.hid (fun h => (Cs.charsR_zero (l := by_ s) h).1)
  rw [Vs.by_len] at HZ
  unfold Vs.textB
  change Hid (Calls _ _ _ _ fun e w' => ∃ v, e = .returned (.tuple #[v, .int .i64 (Cs.charsR (by_ s)).2]) ∧ _) at CC
  by_cases h : (Cs.charsR (by_ s)).2 = 0
  · rw [h] at CC
    rw [decide_eq_true h]
    have hl := HZ.out h
    have hl2 : (s.size : Int) ≤ 65536 := by omega
    clear h HZ
    go_enter Tryz.func124, Tryz.ntmps124
    go_wp2_with fail
    with_reducible refine CC.out.mono ?_
    rintro e w2 ⟨v, rfl, _, hb⟩
    go_wp2_with fail
    go_ret
    exact ⟨rfl, hb⟩
  · rw [decide_eq_false h]
    have he : ((Cs.charsR (by_ s)).2 == 0) = false := by rw [beq_eq_false_iff_ne]; exact h
    clear h HZ
    generalize (Cs.charsR (by_ s)).2 = er at *
    go_enter Tryz.func124, Tryz.ntmps124
    go_wp2_with fail
    with_reducible refine CC.out.mono ?_
    rintro e w2 ⟨v, rfl, _, hb⟩
    go_wp2_with fail
    go_ret
    exact ⟨rfl, hb⟩

set_option maxHeartbeats 1600000 in
set_option maxRecDepth 100000 in
/-- named. -/
theorem vNamed_any (s : ByteArray) (w : World) (hT : Lib.Utf8Tabs 1 2 w) (hs : s.size ≤ 9223372036854775807) : Calls Tryz.prog 127 #[.string s] w fun e w' => e = .returned (.bool (Vs.namedB (by_ s))) ∧ Below w.heap.size w w' := by
  have CD := Lib.hid (dstring_any s 128 w hT hs)
  unfold Vs.namedB
  change Hid (Calls _ _ _ _ fun e w' => e = .returned (.tuple #[_, .int .i64 (Cs.dstrR (by_ s) 128).2]) ∧ _) at CD
  by_cases h0 : s.size = 0
  · have e1 := Kit.is_empty s h0
    have hem : (by_ s).isEmpty = true := by show (s.data.toList).isEmpty = _; rw [← Lib.toList_data]; exact e1
    rw [hem]
    clear hem h0
    generalize (⟨(Cs.dstrR s.data.toList 128).1.toArray⟩ : ByteArray) = o at *
    generalize (Cs.dstrR (by_ s) 128).2 = er at *
    go_enter Tryz.func127, Tryz.ntmps127
    go_wp2_with fail
    with_reducible refine CD.out.mono ?_
    rintro e w2 ⟨rfl, hb⟩
    go_wp2_with fail
    go_ret
    exact ⟨rfl, hb⟩
  · have e1 := Kit.not_empty s (by omega)
    have hem : (by_ s).isEmpty = false := by show (s.data.toList).isEmpty = _; rw [← Lib.toList_data]; exact e1
    rw [hem]
    clear h0 hem
    by_cases h : (Cs.dstrR (by_ s) 128).2 = 0
    · rw [h] at CD
      rw [decide_eq_true h]
      clear h
      generalize (⟨(Cs.dstrR s.data.toList 128).1.toArray⟩ : ByteArray) = o at *
      go_enter Tryz.func127, Tryz.ntmps127
      go_wp2_with fail
      with_reducible refine CD.out.mono ?_
      rintro e w2 ⟨rfl, hb⟩
      go_wp2_with fail
      go_ret
      exact ⟨rfl, hb⟩
    · rw [decide_eq_false h]
      have he : ((Cs.dstrR (by_ s) 128).2 == 0) = false := by rw [beq_eq_false_iff_ne]; exact h
      clear h
      generalize (⟨(Cs.dstrR s.data.toList 128).1.toArray⟩ : ByteArray) = o at *
      generalize (Cs.dstrR (by_ s) 128).2 = er at *
      go_enter Tryz.func127, Tryz.ntmps127
      go_wp2_with fail
      with_reducible refine CD.out.mono ?_
      rintro e w2 ⟨rfl, hb⟩
      go_wp2_with fail
      go_ret
      exact ⟨rfl, hb⟩
end Go.Proofs.YthkppbimkjmbnaaGreatDoor
