/-
  What the runner is told of at this seat: checksums, repeated bytes, the search of a byte, new buffers, the builder's mark; each by its contract.
-/
import Derived.Test.YtiekfipjbmdkpaaGreatDoorEa
import Derived.Lib.MakeNoZero
import Derived.Lib.Builder
import Derived.Laws.Externs
import Derived.Test.YtiekfipjbmdkpaaGreatDoorSxd
namespace Go.Proofs.YtiekfipjbmdkpaaGreatDoor
open Go.RowKit Go.Sx
set_option maxRecDepth 100000
namespace Sx

theorem same_size : ((Tryz.prog.info? 164).map (·.size)) = some 2 := by kernel_rfl
theorem cells2 : Tryz.prog.cellsOf 164 = 2 := by kernel_rfl
theorem cells1 : Tryz.prog.cellsOf 5 = 1 := by kernel_rfl

set_option maxHeartbeats 1000000 in
set_option maxRecDepth 100000 in
theorem cck_used (b : Nat) (w : World) (h0 : w.cell? ⟨b, 0, none⟩ = some (.pointer (some ⟨b, 0, none⟩))) :
    Calls Tryz.prog 162 #[.pointer (some ⟨b, 0, none⟩)] w fun e w' => e = .returned (.tuple #[]) ∧ w' = w := by
  obtain ⟨j, hj, _⟩ := Option.map_eq_some_iff.1 same_size
  go_enter Tryz.func162, Tryz.ntmps162
  go_wp2
  rw [Lib.run_neq_ptr_same w _ Tryz.underlying161 hj]
  go_wp2
  go_end0
  exact ⟨rfl, rfl⟩

/-- A row of builders: at its first cell lies a builder. -/
theorem lies_builder (k : Nat) (hk : 1 ≤ k) : liesAt Tryz.prog Tryz.prog.depth 164 (k * 2 / Tryz.prog.cellsOf 164) 0 164 1 = true := by
  rw [cells2, Nat.mul_div_cancel _ (by decide)]
  have h1 : rowAt Tryz.prog (sameLayout Tryz.prog Tryz.prog.depth · 164) Tryz.prog.depth 164 k 0 1 = true := by
    have hd : ∃ d, Tryz.prog.depth = d + 1 := ⟨Tryz.prog.depth - 1, by kernel_rfl⟩
    obtain ⟨d, hd⟩ := hd
    have hs : sameLayout Tryz.prog Tryz.prog.depth 164 164 = true := by kernel_rfl
    rw [hd] at hs ⊢
    unfold rowAt
    simp [cells2, hs]
    omega
  have hd : ∃ d, Tryz.prog.depth = d + 1 := ⟨Tryz.prog.depth - 1, by kernel_rfl⟩
  obtain ⟨d, hd⟩ := hd
  rw [hd] at h1 ⊢
  unfold liesAt
  rw [hd, h1]
  rfl

set_option maxHeartbeats 1000000 in
set_option maxRecDepth 100000 in
theorem cck_fresh (b k : Nat) (w : World) (h0 : w.cell? ⟨b, 0, none⟩ = some (.pointer none)) (hsh : w.shape? b = some (164, k * 2)) (hk : 1 ≤ k) (hfz : w.frozen? ⟨b, 0, none⟩ = false) :
    Calls Tryz.prog 162 #[.pointer (some ⟨b, 0, none⟩)] w fun e w' => e = .returned (.tuple #[]) ∧ w' = w.setCell ⟨b, 0, none⟩ (.pointer (some ⟨b, 0, none⟩)) := by
  obtain ⟨j, hj, hjs⟩ := Option.map_eq_some_iff.1 same_size
  have hL := Lib.hid (lies_builder k hk)
  go_enter Tryz.func162, Tryz.ntmps162
  go_wp2
  rw [Lib.run_to_unsafe w ⟨b, 0, none⟩ Tryz.underlying161 Tryz.underlying414 hj (by rw [hjs]; decide) hsh (by show 0 < k * 2; omega)]
  simp only [Result.andThen]
  rw [Oper.upon_value]
  go_wp2
  rw [run_callFunc_extern Tryz.func290 (by kernel_rfl) (by kernel_rfl) (by kernel_rfl) (e := Extern.AbiNoEscape.same) (by kernel_rfl)]
  rw [Lib.run_noEscape]
  simp only [Result.andThen]
  rw [Oper.upon_value]
  go_wp2
  rw [Lib.run_from_unsafe w ⟨b, 0, none⟩ Tryz.underlying414 Tryz.underlying161 hj hsh hL.out]
  simp only [Result.andThen]
  rw [Oper.upon_value]
  go_wp2
  go_end0
  exact ⟨rfl, rfl⟩

-- ------------------------------------------------------------------ the checksum, a byte by a formula
theorem crc_tab : ∀ x : Fin 256, Vs.crcTab x.val = ((x.val ^^^ (x.val / 16)) * 4096 % 65536 ^^^ (x.val ^^^ (x.val / 16)) * 32 % 65536) ^^^ (x.val ^^^ (x.val / 16)) := by decide +kernel
theorem crc_step {c b : Nat} (hc : c < 65536) (hb : b < 256) : Vs.crcStep c b = crcS c b := by
  have hx : c / 256 ^^^ b < 256 := Nat.xor_lt_two_pow (n := 8) (by omega) hb
  have := crc_tab ⟨c / 256 ^^^ b, hx⟩
  simp only [] at this
  unfold Vs.crcStep
  rw [this]
  rfl
theorem crc_all : ∀ (l : List UInt8) (c : Nat), c < 65536 → l.foldl (fun c b => Vs.crcStep c b.toNat) c = l.foldl (fun c b => crcS c b.toNat) c
  | [], _, _ => rfl
  | b :: l, c, hc => by
    rw [List.foldl_cons, List.foldl_cons, ← crc_step hc b.toNat_lt]
    exact crc_all l _ (Vs.crcStep_lt hc b.toNat_lt)
theorem crc_list (l : List UInt8) : Vs.crcR l = l.foldl (fun c b => crcS c b.toNat) 0 := crc_all l 0 (by decide)

theorem ok_crc : OrcOk Tryz.prog 294 crcO := crcO_ok (fun s w hs => by rw [← crc_list]; exact crc16_any s w hs) (runs' Tryz.func294 (by kernel_rfl) (by kernel_rfl))
theorem ok_rcrc : OrcOk Tryz.prog 402 crcO := crcO_ok (fun s w hs => by
  rw [← crc_list]
  refine (rCrc16_any s w hs).mono ?_
  rintro e w' ⟨rfl, rfl⟩
  exact ⟨rfl, Below.refl _ _⟩) (runs' Tryz.func402 (by kernel_rfl) (by kernel_rfl))
theorem ok_rep : OrcOk Tryz.prog 207 repO := repO_ok (fun b z h1 h0 w => vRepeat_any b z h1 h0 w) (runs' Tryz.func207 (by kernel_rfl) (by kernel_rfl))
theorem ok_cck : OrcOk Tryz.prog 162 (cckO 164) := cckO_ok cells2 cck_used cck_fresh (runs' Tryz.func162 (by kernel_rfl) (by kernel_rfl))
theorem ok_mnz : OrcOk Tryz.prog 291 (mnzO 5) := mnzO_ok cells1 fun n w hn => by
  obtain ⟨cs, hrun, hle, _⟩ := Lib.run_makeNoZero (P := Tryz.prog) w #[3] 162 5 Tryz.underlying162 n hn
  refine ⟨cs, ?_, hle⟩
  rw [run_callFunc_extern Tryz.func291 (by kernel_rfl) (by kernel_rfl) (by kernel_rfl) (e := Extern.BytealgMakeNoZero.makeNoZero #[3] #[162]) (by kernel_rfl), hrun]
  rfl
theorem ok_idx : OrcOk Tryz.prog 479 idxO := idxO_ok fun s c w => by
  rw [run_callFunc_extern Tryz.func479 (by kernel_rfl) (by kernel_rfl) (by kernel_rfl) (e := Extern.BytealgIndexByte.indexByte) (by kernel_rfl), Lib.run_indexByteString]
  rfl

-- ------------------------------------------------------------------ all of it
noncomputable def orcK : Orc := orcOf (orcTab [(207, repO), (402, crcO), (294, crcO), (479, idxO), (162, cckO 164), (291, mnzO 5)])
noncomputable def fnK : Nat → Option Func := fun f => nth Tryz.prog.funcs.toList f
def noNum : List Func → Bool
  | [] => true
  | f :: l => match f.name == "runtime.NumGoroutine" with
    | true => false
    | false => noNum l
theorem noNum_spec : ∀ {l : List Func}, noNum l = true → ∀ i fn, nth l i = some fn → l[i]? = some fn ∧ (fn.name == "runtime.NumGoroutine") = false
  | [], _, _, _, h => by simp [nth] at h
  | f :: l, hl, i, fn, h => by
    unfold noNum at hl
    split at hl
    · cases hl
    · rename_i hf
      cases i with
      | zero =>
        simp only [nth] at h
        injection h with h
        subst h
        exact ⟨rfl, hf⟩
      | succ i =>
        simp only [nth] at h
        exact noNum_spec hl i fn h
theorem fnK_ok (f : Nat) (fn : Func) (h : fnK f = some fn) : Tryz.prog.funcs[f]? = some fn ∧ (fn.name == "runtime.NumGoroutine") = false := by
  have := noNum_spec (l := Tryz.prog.funcs.toList) (by kernel_rfl) f fn h
  exact ⟨by simpa using this.1, this.2⟩
theorem given0 : Given Tryz.prog fnK orcK noCuts := Given.ofOrc (by kernel_rfl) fnK_ok
  (oks_cons ok_rep (oks_cons ok_rcrc (oks_cons ok_crc (oks_cons ok_idx (oks_cons ok_cck (oks_cons ok_mnz oks_nil))))))
end Sx
end Go.Proofs.YtiekfipjbmdkpaaGreatDoor
