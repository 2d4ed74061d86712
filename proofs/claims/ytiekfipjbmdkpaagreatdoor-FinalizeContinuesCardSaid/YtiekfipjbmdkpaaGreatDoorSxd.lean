/-
  Contracts told to the runner; the runner within a round.
-/
import Derived.Test.YtiekfipjbmdkpaaGreatDoorSxc
import Derived.Lib.Bytealg
import Derived.RangeFuncNested
import Derived.RangeFuncCalls
import Derived.OrdersIn
import Derived.RegionIn
noncomputable section
set_option linter.unusedVariables false
set_option linter.unusedSimpArgs false
namespace Go.Sx
open Go.RowKit

-- ------------------------------------------------------------------ the functions
/-- The number of a byte k times over. -/
def rptN (b k : Nat) : Nat := Nat.div (Nat.mul b (Nat.sub (Nat.pow 256 k) 1)) 255
/-- One byte more of a CRC (the polynomial 0x1021). -/
def crcS (c b : Nat) : Nat :=
  (fun x => (fun y => Nat.xor (Nat.mod (Nat.mul c 256) 65536) (Nat.xor (Nat.xor (Nat.mod (Nat.mul y 4096) 65536) (Nat.mod (Nat.mul y 32) 65536)) y)) (Nat.xor x (Nat.div x 16))) (Nat.xor (Nat.div c 256) b)
noncomputable def crcN (l : Nat) : Nat → Nat → Nat := @Nat.rec (fun _ => Nat → Nat → Nat) (fun _ c => c) (fun _ ih n c => forceNat (crcS c (Nat.mod n 256)) (fun c' => forceNat (Nat.div n 256) fun n' => ih n' c')) l
noncomputable def idxN (k : Nat) (l : Nat) : Nat → Nat → Int := @Nat.rec (fun _ => Nat → Nat → Int) (fun _ _ => -1) (fun _ ih n i => match Nat.beq (Nat.mod n 256) k with
    | true => Int.ofNat i
    | false => forceNat (Nat.div n 256) fun n' => ih n' (Nat.succ i)) l
def pureE (v : AV) : Option Eff := some ⟨v, .non⟩
abbrev OrcF := List AV → (Nat → Option AObj) → Nat → Option Eff
def repO : OrcF := fun a _ _ => match a with
  | [.int .u8 (.ofNat b), .int .i64 (.ofNat k)] => (match Nat.blt b 256, Nat.ble k 65536 with
    | true, true => pureE (.str k (rptN b k))
    | _, _ => none)
  | _ => none
noncomputable def crcO : OrcF := fun a _ _ => match a with
  | [.str l n] => (match Nat.ble l 1048576 with
    | true => pureE (.int .u16 (Int.ofNat (crcN l n 0)))
    | false => none)
  | _ => none
noncomputable def idxO : OrcF := fun a _ _ => match a with
  | [.str l n, .int .u8 (.ofNat k)] => (match Nat.blt k 256 with
    | true => pureE (.int .i64 (idxN k l n 0))
    | false => none)
  | _ => none
def cckO (t : Nat) : OrcF := fun a get _ => match a with
  | [.ptr id 0] => (match get id with
    | some (.row e cs 0 false) => (match Nat.beq e t, cs with
      | true, .nilp :: r => some ⟨.tup [], .set id (.row e (.ptr id 0 :: r) 0 false)⟩
      | true, .ptr i 0 :: _ => (match Nat.beq i id with
        | true => pureE (.tup [])
        | false => none)
      | _, _ => none)
    | _ => none)
  | _ => none
def mnzO (t : Nat) : OrcF := fun a _ next => match a with
  | [.int .i64 (.ofNat k)] => (match Nat.ble k 281474976710656 with
    | true => some ⟨.slice next 0 k (.u 0), .new (.row t [] 0 false)⟩
    | false => none)
  | _ => none
def orcTab : List (Nat × OrcF) → PT OrcF
  | [] => .nil
  | (f, g) :: l => (orcTab l).put f (some g)
def orcOf (t : PT OrcF) : Orc := fun f a get nx => match t.get f with
  | some g => g a get nx
  | none => none

-- ------------------------------------------------------------------ told truly
/-- What is told of a function is so. -/
def OrcOk (P : Program) (f : Nat) (g : OrcF) : Prop := ∀ args get nx e, g args get nx = some e → On get e ∧ ∀ E w xs, VRs E nx args xs → GR P E nx w get →
    CallsF P f xs.toArray w fun x w' => ∃ E', GPost P E nx w E' w' e.u ∧ VR E' (e.u.nx nx) e.v x
theorem orcTab_get : ∀ {l : List (Nat × OrcF)} {f : Nat} {g : OrcF}, (orcTab l).get f = some g → (f, g) ∈ l
  | [], _, _, h => by cases h
  | (j, p) :: l, f, g, h => by
    rw [orcTab, PT.get_put] at h
    split at h
    · rename_i hj
      injection h with h
      subst h hj
      exact List.mem_cons_self ..
    · exact List.mem_cons_of_mem _ (orcTab_get h)
def noCuts : Big := fun _ _ _ => none
theorem Given.ofOrc {P : Program} {fnAt : Nat → Option Func} {l : List (Nat × OrcF)} (hm : P.follows .mixedOrders = true) (hf : ∀ f fn, fnAt f = some fn → P.funcs[f]? = some fn ∧ (fn.name == "runtime.NumGoroutine") = false)
    (hl : ∀ p ∈ l, OrcOk P p.1 p.2) : Given P fnAt (orcOf (orcTab l)) noCuts := by
  refine ⟨hm, hf, fun f args get nx e h => ?_, fun f args H v H' h => by cases h⟩
  unfold orcOf at h
  split at h
  · rename_i g hg
    exact hl _ (orcTab_get hg) _ _ _ _ h
  · cases h
theorem oks_nil {P : Program} : ∀ p ∈ ([] : List (Nat × OrcF)), OrcOk P p.1 p.2 := by simp
theorem oks_cons {P : Program} {f : Nat} {g : OrcF} {l : List (Nat × OrcF)} (h : OrcOk P f g) (hl : ∀ p ∈ l, OrcOk P p.1 p.2) : ∀ p ∈ (f, g) :: l, OrcOk P p.1 p.2 := by
  intro p hp
  rcases List.mem_cons.1 hp with rfl | hp
  · exact h
  · exact hl p hp
theorem alls_nil {P : Program} : ∀ c ∈ ([] : List Cut), c.True P := by simp
theorem alls_cons {P : Program} {c : Cut} {l : List Cut} (h : c.True P) (hl : ∀ c ∈ l, c.True P) : ∀ d ∈ c :: l, d.True P := by
  intro d hd
  rcases List.mem_cons.1 hd with rfl | hd
  · exact h
  · exact hl d hd
theorem tells_nil {P : Program} : ∀ e ∈ ([] : List (Nat × List AV × AV)), Told P e.1 e.2.1 e.2.2 := by simp
theorem tells_cons {P : Program} {e : Nat × List AV × AV} {l : List (Nat × List AV × AV)} (h : Told P e.1 e.2.1 e.2.2) (hl : ∀ e ∈ l, Told P e.1 e.2.1 e.2.2) : ∀ d ∈ e :: l, Told P d.1 d.2.1 d.2.2 := by
  intro d hd
  rcases List.mem_cons.1 hd with rfl | hd
  · exact h
  · exact hl d hd
/-- The check that a run tells what is told. -/
def tchk (e : Nat × List AV × AV) (r : Option (AV × Hp)) : Bool := match r with
  | some (v, _) => (match eqV e.2.2 v, plainL e.2.1, plainV e.2.2 with
    | true, true, true => true
    | _, _, _ => false)
  | none => false
theorem told_of {P : Program} {fnAt : Nat → Option Func} {orc : Orc} {big : Big} (hG : Given P fnAt orc big) {n : Nat} (e : Nat × List AV × AV) (h : tchk e (call P fnAt orc big n e.1 e.2.1 empH) = true) : Told P e.1 e.2.1 e.2.2 := by
  unfold tchk at h
  split at h
  · rename_i v H' hc
    split at h
    · rename_i h1 h2 h3
      exact told_plain hG ⟨H', by rw [hc, eqV_eq _ _ h1]⟩ h2 h3
    · cases h
  · cases h
theorem Below.calm {B : Nat} {w w' : World} (h : Below B w w') : Calm w w' := ⟨h.os, h.tape, h.output⟩
theorem Below.gpost {P : Program} {E : Env} {nx : Nat} {w w' : World} (h : Below w.heap.size w w') : GPost P E nx w E w' .non := ⟨rfl, h.size, h.block, Below.calm h⟩

/-- A contract serves the runner. -/
theorem runs' {P : Program} {f : Nat} {fn : Func} (hf : P.funcs[f]? = some fn) (hn : (fn.name == "runtime.NumGoroutine") = false) (hb : fn.body.isNone = false) : ∀ (xs : Array Value) (w : World) (R : Value → World → Prop),
    Calls P f xs w (fun | .returned v, w' => R v w' | _, _ => False) → CallsF P f xs w R := fun _ _ _ h => CallsF.of_calls hf hn hb h

-- ------------------------------------------------------------------ bytes over and over
theorem rptN_zero (b : Nat) : rptN b 0 = 0 := by simp [rptN]
theorem pow_255 (k : Nat) : ∃ S, 256 ^ k = 255 * S + 1 := by
  induction k with
  | zero => exact ⟨0, rfl⟩
  | succ k ih =>
    obtain ⟨S, hS⟩ := ih
    exact ⟨256 * S + 1, by rw [Nat.pow_succ, hS]; omega⟩
theorem rptN_succ (b k : Nat) : rptN b (k + 1) = b + 256 * rptN b k := by
  obtain ⟨S, hS⟩ := pow_255 k
  have h1 : rptN b k = b * S := by
    show b * (256 ^ k - 1) / 255 = b * S
    rw [hS, Nat.add_sub_cancel, Nat.mul_left_comm, Nat.mul_div_cancel_left _ (by decide)]
  have h2 : rptN b (k + 1) = b * (256 * S + 1) := by
    show b * (256 ^ (k + 1) - 1) / 255 = _
    rw [Nat.pow_succ, hS, show (255 * S + 1) * 256 - 1 = 255 * (256 * S + 1) by omega, Nat.mul_left_comm, Nat.mul_div_cancel_left _ (by decide)]
  rw [h1, h2, Nat.mul_add, Nat.mul_one, Nat.mul_left_comm, Nat.add_comm]
theorem bytesL_rpt (b : Nat) (hb : b < 256) : ∀ k, bytesL k (rptN b k) = List.replicate k (UInt8.ofNat b)
  | 0 => rfl
  | k + 1 => by
    rw [rptN_succ, bytesL, show (b + 256 * rptN b k) % 256 = b by omega, show (b + 256 * rptN b k) / 256 = rptN b k by omega, bytesL_rpt b hb k, List.replicate_succ]
theorem repO_ok {P : Program} {f : Nat} (h : ∀ (b : UInt8) (z : Int), z ≤ 65536 → -9223372036854775808 ≤ z → ∀ w, Calls P f #[.int .u8 (b.toNat : Nat), .int .i64 z] w fun e w' => e = .returned (.string ⟨(List.replicate z.toNat b).toArray⟩) ∧ Below w.heap.size w w')
    (hf : ∀ xs w R, Calls P f xs w (fun | .returned v, w' => R v w' | _, _ => False) → CallsF P f xs w R) : OrcOk P f repO := by
  intro args get nx e he
  unfold repO at he
  split at he
  · rename_i b k
    split at he
    · rename_i h1 h2
      injection he with he
      subst he
      rw [blt_eq, decide_eq_true_eq] at h1
      have h2 := Nat.le_of_ble_eq_true h2
      refine ⟨On.none rfl, fun E w xs hx _ => ?_⟩
      simp only [VRs, VR] at hx
      obtain ⟨_, _, rfl, ⟨_, _, rfl, rfl, rfl⟩, rfl⟩ := hx
      refine hf _ _ _ ?_
      have hc := h (UInt8.ofNat b) (k : Int) (by omega) (by omega) w
      rw [show (UInt8.ofNat b).toNat = b by simp; omega] at hc
      refine hc.mono ?_
      rintro e w' ⟨rfl, hb⟩
      refine ⟨E, Below.gpost hb, ?_⟩
      simp only [VR, strV]
      rw [bytesL_rpt b h1]
      simp
    · cases he
  · cases he

-- ------------------------------------------------------------------ checksums
theorem crcN_eq : ∀ l n c, crcN l n c = (bytesL l n).foldl (fun c b => crcS c b.toNat) c
  | 0, _, _ => rfl
  | l + 1, n, c => by
    have h : crcN (l + 1) n c = crcN l (n / 256) (crcS c (n % 256)) := by
      show forceNat (crcS c (Nat.mod n 256)) (fun c' => forceNat (Nat.div n 256) fun n' => crcN l n' c') = _
      rw [forceNat_eq, forceNat_eq]
      rfl
    rw [h, crcN_eq l, bytesL, List.foldl_cons]
    rw [show (UInt8.ofNat (n % 256)).toNat = n % 256 by simp]
theorem crcO_ok {P : Program} {f : Nat} (h : ∀ (s : ByteArray) (w : World), s.size ≤ 9223372036854775807 → Calls P f #[.string s] w fun e w' => e = .returned (.int .u16 (s.data.toList.foldl (fun c b => crcS c b.toNat) 0 : Nat)) ∧ Below w.heap.size w w')
    (hf : ∀ xs w R, Calls P f xs w (fun | .returned v, w' => R v w' | _, _ => False) → CallsF P f xs w R) : OrcOk P f crcO := by
  intro args get nx e he
  unfold crcO at he
  split at he
  · rename_i l n
    split at he
    · rename_i h1
      injection he with he
      subst he
      have h1 := Nat.le_of_ble_eq_true h1
      refine ⟨On.none rfl, fun E w xs hx _ => ?_⟩
      simp only [VRs, VR, strV] at hx
      obtain ⟨_, _, rfl, rfl, rfl⟩ := hx
      refine hf _ _ _ ?_
      refine (h _ w (by simp [ByteArray.size, bytesL_length]; omega)).mono ?_
      rintro e w' ⟨rfl, hb⟩
      refine ⟨E, Below.gpost hb, ?_⟩
      simp only [VR]
      rw [crcN_eq]
      rfl
    · cases he
  · cases he

-- ------------------------------------------------------------------ the search of a byte
theorem idxN_eq (k : Nat) (hk : k < 256) : ∀ l n i, idxN k l n i = if Lib.indexByte (bytesL l n) (UInt8.ofNat k) = -1 then -1 else (i : Int) + Lib.indexByte (bytesL l n) (UInt8.ofNat k)
  | 0, _, _ => by simp [bytesL, Lib.indexByte]; rfl
  | l + 1, n, i => by
    have h : idxN k (l + 1) n i = match Nat.beq (n % 256) k with
        | true => (i : Int)
        | false => idxN k l (n / 256) (i + 1) := by
      show (match Nat.beq (Nat.mod n 256) k with
        | true => Int.ofNat i
        | false => forceNat (Nat.div n 256) fun n' => idxN k l n' (Nat.succ i)) = _
      rw [forceNat_eq]
      rfl
    rw [h, bytesL, Lib.indexByte]
    have he : (UInt8.ofNat (n % 256) == UInt8.ofNat k) = Nat.beq (n % 256) k := by
      rw [Bool.eq_iff_iff, beq_iff_eq, Nat.beq_eq]
      constructor
      · intro h
        have := congrArg UInt8.toNat h
        simpa [Nat.mod_eq_of_lt hk] using this
      · intro h; rw [h]
    rw [he]
    cases Nat.beq (n % 256) k with
    | true => simp
    | false =>
      simp only [Bool.false_eq_true, if_false]
      rw [idxN_eq k hk l (n / 256) (i + 1)]
      have hge := Lib.indexByte_ge (bytesL l (n / 256)) (UInt8.ofNat k)
      generalize Lib.indexByte (bytesL l (n / 256)) (UInt8.ofNat k) = q at *
      by_cases h1 : q = -1
      · simp [h1]
      · rw [if_neg h1]
        have h2 : (q == -1) = false := by simpa using h1
        rw [h2]
        simp only [Bool.false_eq_true, if_false]
        rw [if_neg (by omega)]
        omega
theorem idxO_ok {P : Program} {f : Nat} (h : ∀ (s : ByteArray) (c : Int) (w : World), (callFunc f #[.string s, .int .u8 c]).run P w = .ok (.value (.int .i64 (Lib.indexByte s.data.toList c.toNat.toUInt8))) w) : OrcOk P f idxO := by
  intro args get nx e he
  unfold idxO at he
  split at he
  · rename_i l n k
    split at he
    · rename_i h1
      injection he with he
      subst he
      rw [blt_eq, decide_eq_true_eq] at h1
      refine ⟨On.none rfl, fun E w xs hx _ => ?_⟩
      simp only [VRs, VR, strV] at hx
      obtain ⟨_, _, rfl, ⟨_, _, rfl, rfl, rfl⟩, rfl⟩ := hx
      unfold CallsF
      rw [h]
      refine ⟨E, Below.gpost (Below.refl _ _), ?_⟩
      simp only [VR]
      rw [idxN_eq k h1]
      have h2 : (Int.ofNat k).toNat.toUInt8 = UInt8.ofNat k := rfl
      rw [h2]
      split
      · rename_i hq; rw [hq]
      · simp
    · cases he
  · cases he

-- ------------------------------------------------------------------ a new buffer
theorem mnzO_ok {P : Program} {f t : Nat} (hc1 : P.cellsOf t = 1) (h : ∀ (n : Nat) (w : World), n ≤ 281474976710656 → ∃ cs : Array Value, (callFunc f #[.int .i64 n]).run P w = .ok (.value (.slice (some ⟨w.heap.size, 0, none⟩) n cs.size)) (w.drew.drew.alloc (.cells cs t)) ∧ n ≤ cs.size) : OrcOk P f (mnzO t) := by
  intro args get nx e he
  unfold mnzO at he
  split at he
  · rename_i k
    split at he
    · rename_i h1
      injection he with he
      subst he
      have h1 := Nat.le_of_ble_eq_true h1
      refine ⟨On.none rfl, fun E w xs hx _ => ?_⟩
      simp only [VRs, VR] at hx
      obtain ⟨_, _, rfl, rfl, rfl⟩ := hx
      obtain ⟨cs, hrun, hle⟩ := h k w h1
      unfold CallsF
      have hrun' : (callFunc f [Value.int .i64 (Int.ofNat k)].toArray).run P w = .ok (.value (.slice (some ⟨w.heap.size, 0, none⟩) k cs.size)) (w.drew.drew.alloc (.cells cs t)) := hrun
      rw [hrun']
      have hp := newRow_post (P := P) (E := E) (nx := nx) (w := w) (w' := w.drew.drew.alloc (.cells cs t)) (e := t) (cs := []) (c := cs) (fr := (0, 0)) (fz := 0) (mk := false) cs.size rfl ⟨rfl, rfl, rfl⟩ (by rw [hc1]; omega) (fun i v hi => by simp at hi) (fun o _ _ => by simp) (fun _ => .inl rfl)
      obtain ⟨p1, p2, p3, p4, p5, p6⟩ := hp
      refine ⟨_, ⟨p1, Nat.le_of_eq p2.symm, p3, by omega, p5, p6⟩, ?_⟩
      simp only [VR, Upd.nx, Env.addr, Env.set_at, Env.set_cap]
      exact ⟨Nat.lt_succ_self _, by omega, rfl⟩
    · cases he
  · cases he

-- ------------------------------------------------------------------ the builder's mark
theorem cckO_ok {P : Program} {f t : Nat} (hc2 : P.cellsOf t = 2)
    (hused : ∀ (b : Nat) (w : World), w.cell? ⟨b, 0, none⟩ = some (.pointer (some ⟨b, 0, none⟩)) → Calls P f #[.pointer (some ⟨b, 0, none⟩)] w fun e w' => e = .returned (.tuple #[]) ∧ w' = w)
    (hfresh : ∀ (b k : Nat) (w : World), w.cell? ⟨b, 0, none⟩ = some (.pointer none) → w.shape? b = some (t, k * 2) → 1 ≤ k → w.frozen? ⟨b, 0, none⟩ = false →
      Calls P f #[.pointer (some ⟨b, 0, none⟩)] w fun e w' => e = .returned (.tuple #[]) ∧ w' = w.setCell ⟨b, 0, none⟩ (.pointer (some ⟨b, 0, none⟩)))
    (hf : ∀ xs w R, Calls P f xs w (fun | .returned v, w' => R v w' | _, _ => False) → CallsF P f xs w R) : OrcOk P f (cckO t) := by
  intro args get nx e he
  unfold cckO at he
  split at he
  · rename_i id
    split at he
    · rename_i e0 cs hget
      split at he
      · rename_i r ht
        injection he with he
        subst he
        have ht := Nat.eq_of_beq_eq_true ht
        subst ht
        refine ⟨fun i hi => by simp only [Upd.on, Option.some.injEq] at hi; subst hi; exact ⟨_, hget⟩, fun E w xs hx hg => ?_⟩
        simp only [VRs, VR] at hx
        obtain ⟨_, _, ⟨hid, rfl⟩, rfl, rfl⟩ := hx
        obtain ⟨_, hobj⟩ := hg _ _ hget
        have hset := setCells_obj (off := 0) (new := [.ptr id 0]) (cs' := .ptr id 0 :: r) (xs := [.pointer (some (E.addr id 0))]) hobj (by simp [VRs, VR]; exact hid) (by simp [splice]) (Nat.le_refl _)
        obtain ⟨_, s2, s3⟩ := hset
        have s2 := s2 0 (by simp)
        obtain ⟨c, fr, r0, r1, r2, r3, r4⟩ := hobj
        obtain ⟨r4, _⟩ := r4 rfl
        obtain ⟨x, hx0, hx1⟩ := r2 0 .nilp rfl
        simp only [VR] at hx1
        subst hx1
        rw [r4] at r1 hx0 s2 s3
        have hcell : w.cell? ⟨(E.at_ id).1, 0, none⟩ = some (.pointer none) := by simpa [World.cell?, r0] using hx0
        have hsz : 0 < c.size := (Array.getElem?_eq_some_iff.1 hx0).1
        have hb := hfresh (E.at_ id).1 (E.cap id) w hcell (by simp [World.shape?, r0, r1, hc2]) (by
          rcases Nat.eq_zero_or_pos (E.cap id) with h | h
          · rw [r1, h] at hsz; omega
          · exact h) (by simpa using s2)
        have haddr : E.addr id 0 = ⟨(E.at_ id).1, 0, none⟩ := by simp [Env.addr, r4]
        rw [haddr] at s3 ⊢
        refine hf _ _ _ (hb.mono ?_)
        rintro e w' ⟨rfl, rfl⟩
        refine ⟨E, ⟨rfl, s3, by simp, fun k _ hk => ?_, ?_⟩, ?_⟩
        · exact heap_setCells_ne (b := (E.at_ id).1) hk [Value.pointer (some ⟨(E.at_ id).1, 0, none⟩)] 0 w
        · exact calm_setCells (b := (E.at_ id).1) [Value.pointer (some ⟨(E.at_ id).1, 0, none⟩)] 0 w
        · simp [VR, VRs]
      · rename_i i r ht
        split at he
        · rename_i hi
          injection he with he
          subst he
          have hi := Nat.eq_of_beq_eq_true hi
          subst hi
          refine ⟨On.none rfl, fun E w xs hx hg => ?_⟩
          simp only [VRs, VR] at hx
          obtain ⟨_, _, ⟨hid, rfl⟩, rfl, rfl⟩ := hx
          obtain ⟨_, hobj⟩ := hg _ _ hget
          obtain ⟨c, fr, r0, r1, r2, r3, r4⟩ := hobj
          obtain ⟨r4, _⟩ := r4 rfl
          obtain ⟨x, hx0, hx1⟩ := r2 0 _ rfl
          simp only [VR] at hx1
          obtain ⟨_, rfl⟩ := hx1
          have haddr : E.addr i 0 = ⟨(E.at_ i).1, 0, none⟩ := by simp [Env.addr, r4]
          rw [haddr, r4] at hx0
          rw [haddr]
          refine hf _ _ _ ((hused (E.at_ i).1 w (by simpa [World.cell?, r0] using hx0)).mono ?_)
          rintro e w' ⟨rfl, rfl⟩
          exact ⟨E, Below.gpost (Below.refl _ _), by simp [VR, VRs]⟩
        · cases he
      · cases he
    · cases he
  · cases he

-- ------------------------------------------------------------------ a run, as a contract
theorem CallsF.calls {P : Program} {f : Nat} {fn : Func} (hf : P.funcs[f]? = some fn) (hn : (fn.name == "runtime.NumGoroutine") = false) (hb : fn.body.isNone = false) {xs : Array Value} {w : World} {R : Value → World → Prop}
    (h : CallsF P f xs w R) : Calls P f xs w fun e w' => ∃ x, e = .returned x ∧ R x w' := by
  have hrun : (callFunc f xs).run P w = .ok (.enter f xs) w := by
    unfold callFunc
    simp only [Sem.run_bind, run_program, Result.andThen_ok, hf, hn, hb, Bool.false_eq_true, if_false, Sem.run_pure]
  unfold CallsF at h
  rw [hrun] at h
  refine Calls.mono h fun e w'' he => ?_
  cases e with
  | returned v => exact ⟨v, rfl, he⟩
  | panicked c => exact he.elim
  | outgrown => exact he.elim
/-- What stands below lies as it lay: the blocks stand. -/
theorem Rep.below {P : Program} {E : Env} {H : Hp} {w w' : World} (h : Rep P E H w) (hb : Below w.heap.size w w') : Rep P E H w' :=
  ⟨fun i o hi => ⟨(h.objs i o hi).1, (h.objs i o hi).2.mono (h.objs i o hi).1 (Agree.refl _ _) (Nat.le_refl _) (hb.block _ (h.objs i o hi).2.lt)⟩, h.sep⟩
/-- A run that turned nothing elder, its answer passing a test. -/
def rchk (t : AV → Bool) (r : Option (AV × Hp)) : Bool := match r with
  | some (v, H) => (match t v, H.log with
    | true, [] => true
    | _, _ => false)
  | none => false
theorem ran {P : Program} {fnAt : Nat → Option Func} {orc : Orc} {big : Big} (hG : Given P fnAt orc big) {n f : Nat} {args : List AV} {H : Hp} {t : AV → Bool} (h : rchk t (call P fnAt orc big n f args H) = true) (hl : H.lim = H.next)
    {E : Env} {w : World} (hr : Rep P E H w) {xs : List Value} (hx : VRs E H.next args xs) :
    CallsF P f xs.toArray w fun x w' => Below w.heap.size w w' ∧ ∃ E' nx' v, Agree E E' H.next ∧ H.next ≤ nx' ∧ t v = true ∧ VR E' nx' v x := by
  unfold rchk at h
  split at h
  · rename_i v H' hc
    split at h
    · rename_i ht hlog
      refine (call_sound hG hc hr hx).mono ?_
      rintro x w' ⟨E', _, q2, q3⟩
      refine ⟨⟨q2.calm.os, q2.calm.tape, q2.calm.output, q2.size, fun k hk => ?_⟩, E', H'.next, v, q2.agree, q2.next, ht, q3⟩
      rcases q2.frame k hk with q | ⟨y, o, p1, _, p3⟩
      · exact q
      · have := (hr.objs y o p1).1
        rcases p3 with p3 | p3
        · exact absurd p3 (by omega)
        · rw [hlog] at p3; cases p3
    · cases h
  · cases h
/-- A run that answers with a value of no name. -/
theorem ranP {P : Program} {fnAt : Nat → Option Func} {orc : Orc} {big : Big} (hG : Given P fnAt orc big) {n f : Nat} {args : List AV} {H : Hp} {v : AV} (hv : plainV v = true) (h : rchk (eqV v) (call P fnAt orc big n f args H) = true) (hl : H.lim = H.next)
    {E : Env} {w : World} (hr : Rep P E H w) {xs : List Value} (hx : VRs E H.next args xs) :
    CallsF P f xs.toArray w fun x w' => Below w.heap.size w w' ∧ VR E H.next v x := by
  refine (ran hG h hl hr hx).mono ?_
  rintro x w' ⟨hb, E', nx', u, _, _, ht, hu⟩
  rw [← eqV_eq _ _ ht] at hu
  exact ⟨hb, plain_VR v x hv hu⟩
/-- A call told of by hand, that turns nothing and answers with a value of no name. -/
theorem Cut.true_plain {P : Program} {c : Cut} (hout : c.out = []) (hlog : c.log = []) (hnx : c.nx' = c.nx)
    (h : ∀ E w xs, Rep P E c.hin w → VRs E c.nx c.args xs → CallsF P c.f xs.toArray w fun x w' => Below w.heap.size w w' ∧ VR E c.nx c.v x) : c.True P := by
  refine ⟨by unfold Cut.ok; rw [hout, hlog]; rfl, fun E w xs hr hx => (h E w xs hr hx).mono ?_⟩
  rintro x w' ⟨hb, hv⟩
  have he : c.hout = c.hin := by unfold Cut.hout Cut.hin; rw [hout, hlog, hnx]; rfl
  obtain ⟨q1, q2⟩ := geff_step (u := .non) (E' := E) hr (Below.gpost hb) (fun id hi => by cases hi)
  rw [he, hnx]
  exact ⟨E, q1, q2, hv⟩

-- ------------------------------------------------------------------ rows, read
theorem nth_drop {α : Type} : ∀ (l : List α) (o j : Nat), nth (dropL l o) j = nth l (o + j)
  | [], o, j => by cases o <;> simp [dropL, nth]
  | a :: l, 0, j => by simp [dropL]
  | a :: l, o + 1, j => by rw [dropL, nth_drop l o j, show o + 1 + j = (o + j) + 1 by omega]; rfl
/-- A slice of a row that is known: where it lies, and what its cells read. -/
theorem slice_row {P : Program} {E : Env} {H : Hp} {w : World} (hr : Rep P E H w) {i o l e fz : Nat} {c : Cap} {cs : List AV} {mk : Bool} {x : Value} (hg : H.m.get i = some (.row e cs fz mk)) (hx : VR E H.next (.slice i o l c) x) (hc : ∀ n, c = .k n → l ≤ n) :
    ∃ b p cap, x = .slice (some ⟨b, p, none⟩) l cap ∧ l ≤ cap ∧ b < w.heap.size ∧ ∀ j v, nth cs (o + j) = some v → ∃ y, w.cell? ⟨b, p + j, none⟩ = some y ∧ VR E H.next v y := by
  obtain ⟨hi, hobj⟩ := hr.objs i _ hg
  have hlt := hobj.lt
  obtain ⟨c0, fr, r0, r1, r2, _, _⟩ := hobj
  have cells : ∀ j v, nth cs (o + j) = some v → ∃ y, w.cell? ⟨(E.at_ i).1, (E.at_ i).2 + o + j, none⟩ = some y ∧ VR E H.next v y := fun j v hv => by
    obtain ⟨y, hy, hr⟩ := r2 (o + j) v hv
    refine ⟨y, ?_, hr⟩
    rw [← Nat.add_assoc] at hy
    simpa [World.cell?, r0] using hy
  simp only [VR] at hx
  obtain ⟨_, hx⟩ := hx
  cases c with
  | k n => exact ⟨_, _, n, hx, hc n rfl, hlt, cells⟩
  | u j => exact ⟨_, _, E.cap i - j, hx.2, by omega, hlt, cells⟩
/-- The first cells as strings. -/
def strsA : List AV → Nat → Option (List (Nat × Nat))
  | _, 0 => some []
  | l, k + 1 => match l with
    | .str n b :: r => (match strsA r k with
      | some t => some ((n, b) :: t)
      | none => none)
    | _ => none
theorem strsA_spec : ∀ {l : List AV} {k : Nat} {t : List (Nat × Nat)}, strsA l k = some t → t.length = k ∧ ∀ (j : Nat) (p : Nat × Nat), t[j]? = some p → nth l j = some (.str p.1 p.2)
  | l, 0, t, h => by
    simp only [strsA, Option.some.injEq] at h
    subst h
    exact ⟨rfl, fun j p hj => by simp at hj⟩
  | l, k + 1, t, h => by
    unfold strsA at h
    split at h
    · rename_i n b r
      split at h
      · rename_i t' ht'
        injection h with h
        subst h
        obtain ⟨h1, h2⟩ := strsA_spec ht'
        refine ⟨by simp [h1], fun j p hj => ?_⟩
        cases j with
        | zero => simp only [List.getElem?_cons_zero, Option.some.injEq] at hj; subst hj; rfl
        | succ j => simp only [List.getElem?_cons_succ] at hj; exact h2 j p hj
      · cases h
    · cases h
def strB (p : Nat × Nat) : ByteArray := ⟨(bytesL p.1 p.2).toArray⟩
end Go.Sx

namespace Go.Sx
open Go.RowKit

/-- The fence of a round. -/
abbrev FR (k : Nat) : Fence := Fence.wide.inRound k

/-- No deferred call. -/
def noDefer (o : Op) : Bool := match o with | .defer _ => false | _ => true
theorem noDefer_spec {o : Op} (h : noDefer o = true) (c : Call) : o ≠ .defer c := fun e => by rw [e] at h; cases h

section
variable {P : Program} {fnAt : Nat → Option Func} {orc : Orc} {big : Big} {ih : Run} {k n : Nat}

theorem call_in {o : Oper} {f : Nat} {xs : List Value} {a : Act} {w : World} (hd : noDefer o.op = true) (he : execOp a.eval o = callFunc f xs.toArray) {R : Value → World → Prop} (hcall : CallsF P f xs.toArray w R)
    {K : Act → World → Prop} {Q : Exit → Act → World → Prop} (hK : ∀ x w', R x w' → K (a.put o.dst x) w') : o.wpIn (FR k) n P a w K Q := by
  unfold Oper.wpIn
  refine ⟨fun f _ => trivial, ?_⟩
  rw [show (FR k).round = some k from rfl, Oper.semAt_some _ _ _ (noDefer_spec hd), he]
  unfold CallsF at hcall
  split at hcall
  · rename_i y w' hrun
    rw [hrun]
    exact hK y w' hcall
  · rename_i g ys w' hrun
    rw [hrun, Oper.uponIn_enter]
    refine ⟨fun h => (by cases h), ?_⟩
    refine (CallsIn.inRound k (callsIn_wide.2 hcall)).mono ?_
    intro e w'' he
    cases e with
    | returned y => exact hK y w'' he
    | panicked c => exact he.elim
    | outgrown => exact he.elim
  · exact hcall.elim

theorem opR_in (hG : Given P fnAt orc big) (hS : Sound P ih) {o : Oper} (hd : noDefer o.op = true) {S : PT AV} {H H' : Hp} {v : AV} (h : opR P fnAt orc big ih o.op S H = some (v, H')) {E : Env} {a : Act} {w : World} (hr : Rep P E H w) (hs : SR E H.next S a)
    {K : Act → World → Prop} {Q : Exit → Act → World → Prop} (hK : ∀ x w' E', Rep P E' H' w' → Tr E H w E' H' w' → VR E' H'.next v x → K (a.put o.dst x) w') : o.wpIn (FR k) n P a w K Q := by
  unfold opR at h
  split at h
  · rename_i f args hc
    obtain ⟨xs, hx, he⟩ := callOf_spec hc hs
    exact call_in hd he (callR_sound hG hS h hr hx) fun x w' ⟨E', q1, q2, q3⟩ => hK x w' E' q1 q2 q3
  · split at h
    · rename_i e he
      rw [openH_eq] at h
      injection h with h
      injection h with h1 h2
      subst h1 h2
      obtain ⟨x, w', E', q1, q2, q3⟩ := aop_sound hr.objs hs o he
      obtain ⟨p1, p2⟩ := eff_step hr q2 (aop_on he)
      have := hK x w' E' p1 p2 (by rw [Upd.onto_next]; exact q3)
      unfold Oper.wpIn
      refine ⟨fun f _ => trivial, ?_⟩
      rw [show (FR k).round = some k from rfl, Oper.semAt_some _ _ _ (noDefer_spec hd)]
      rcases q1 with q1 | ⟨q1, rfl⟩
      · rw [q1]; exact this
      · rw [q1]; exact this
    · cases h
  · cases h

theorem opOut_in {o : Oper} {a : Act} {w : World} {K : Act → World → Prop} {Q : Exit → Act → World → Prop} (hK : K (a.put o.dst undef) w) : (∀ f, o.about P w a.eval = some f → (FR k).fn f) ∧ K (a.put o.dst undef) w := ⟨fun _ _ => trivial, hK⟩

-- ------------------------------------------------------------------ a region that draws
variable {nt : Nat} {ops : Array Oper} {st : Nat → St} {rc : Nat → Rc}
theorem runOp_in (hG : Given P fnAt orc big) (hS : Sound P ih) {i : Nat} {E : Env} {a : Act} {w : World} {o : Oper} (ho : ops[i]? = some o) (hd : noDefer o.op = true) (hst : Step1 P fnAt orc big ih nt ops i o (st i) (st (i + 1)) (rc i)) (hrep : Rep P E (rc i).hin w)
    (hsl : ∀ t ∈ readsOf ops.toList o, ∀ v, (st i).S.get t = some v → ∃ x, a.tmps[t]? = some x ∧ VR E (st i).H.next v x)
    (K : Act → World → Prop) (Q : Exit → Act → World → Prop) (hK : ∀ x w' E', Rep P E' (rc i).out w' → Tr E (rc i).hin w E' (rc i).out w' → VR E' (rc i).out.next (rc i).v x → K (a.put o.dst x) w') : wpOpIn (FR k) n P ops Q i K a w := by
  have hwant : ∀ b, wantedA ops.toList o.guard (st i).S = some b → Region.wanted o (yielded ops a.tmps) = b := fun b hb =>
    wantedA_sound (E := E) (nx := (st i).H.next) hb (a := a) fun j want t hg hd v hv => hsl t (by
      unfold readsOf
      rw [hg]
      exact List.mem_append.2 (.inr (by simp [hd]))) v hv
  have hSR : SR E (st i).H.next (pickT (st i).S (readsOf ops.toList o)) a := fun t v h => by
    rw [pickT_get] at h
    split at h
    · exact hsl t (by assumption) v h
    · cases h
  have hsame : Same (st i).S (pickT (st i).S (readsOf ops.toList o)) o.op := Same.of fun t ht => by
    rw [pickT_get, if_pos]
    exact List.mem_append.2 (.inl ht)
  unfold wpOpIn
  rw [ho]
  cases hst with
  | skip hw hp hH hT hR hr =>
    rw [hr] at hrep hK
    have hrf := Tr.refl E _ w fun id p h => (hrep.objs id p h).1
    simp only [hwant false hw, Bool.false_eq_true, if_false]
    exact ⟨fun _ _ => trivial, hK undef w E hrep hrf undef_VR⟩
  | simple e hw hc ha hf hu hcl hp hH hT hR hr =>
    rw [hr] at hrep hK
    simp only [] at hrep hK
    rw [aop_congr hsame] at ha
    obtain ⟨x, w', E', q1, q2, q3⟩ := aop_sound hrep.objs hSR o ha
    obtain ⟨p1, p2⟩ := eff_step hrep q2 (aop_on ha)
    have q3' : VR E' (e.u.onto (hinS (st i).H (foot o.op (st i).S))).next e.v x := by rw [Upd.onto_next]; exact q3
    simp only [hwant true hw, if_true]
    have := hK x w' E' p1 p2 q3'
    unfold Oper.wpIn
    refine ⟨fun f _ => trivial, ?_⟩
    rw [show (FR k).round = some k from rfl, Oper.semAt_some _ _ _ (noDefer_spec hd)]
    rcases q1 with q1 | ⟨q1, rfl⟩
    · rw [q1]; exact this
    · rw [q1]; exact this
  | call f args v Ho hw hc ha hu hcl hp hH hT hR hr =>
    rw [hr] at hrep hK
    simp only [] at hrep hK
    rw [callOf_congr hsame] at hc
    obtain ⟨xs, hx, he⟩ := callOf_spec hc hSR
    have hcall := callR_sound hG hS ha hrep hx
    simp only [hwant true hw, if_true]
    exact call_in hd he hcall fun x w' ⟨E', q1, q2, q3⟩ => hK x w' E' q1 q2 q3

variable {E0 : Env} {a0 : Act} {w0 : World}
theorem draw_anyIn (hG : Given P fnAt orc big) (hS : Sound P ih) (hnd : ∀ (i : Nat) o, ops[i]? = some o → noDefer o.op = true) (W : Way nt ops st rc ops.size) (hstep : ∀ i o, ops[i]? = some o → Step1 P fnAt orc big ih nt ops i o (st i) (st (i + 1)) (rc i)) (hnt : nt ≤ a0.tmps.size) {Q : Exit → Act → World → Prop}
    (hQ : ∀ a' w' E', Rep P E' (st ops.size).H w' → Tr E0 (st 0).H w0 E' (st ops.size).H w' → SR E' (st ops.size).H.next (st ops.size).S a' → a'.tmps.size = a0.tmps.size → a'.defers = a0.defers → Q .normal a' w') :
    ∀ (fuel : Nat) (listed : Array Bool) (E : Env) (a : Act) (w : World), listed.size = ops.size → listed.count false = fuel → Done ops ops.size (fun j => listed.getD j false = true) → Inv P ops st rc E0 a0 w0 (fun j => listed.getD j false = true) E a w →
    wpAnyIn (FR k) n P .any ops Q fuel listed a w := by
  have fin : ∀ (listed : Array Bool) (E : Env) (a : Act) (w : World), Done ops ops.size (fun j => listed.getD j false = true) → Inv P ops st rc E0 a0 w0 (fun j => listed.getD j false = true) E a w → (∀ j, j < ops.size → listed.getD j false = true) → Q .normal a w := by
    intro listed E a w hD hI hall
    obtain ⟨q1, q2, q3⟩ := hI.fin W fun j => ⟨hD.lt j, hall j⟩
    exact hQ a w E q1 q2 q3 hI.tsz hI.dfr
  intro fuel
  induction fuel with
  | zero =>
    intro listed E a w hsz hc hD hI
    have hall : ∀ j, j < ops.size → listed.getD j false = true := fun j hj => by
      have hlt : j < listed.size := by omega
      have hmem : listed[j] ∈ listed := Array.getElem_mem hlt
      cases hb : listed[j] with
      | true => simp [Array.getD, hlt, hb]
      | false =>
        rw [hb] at hmem
        have := Array.count_pos_iff.2 hmem
        omega
    refine ⟨?_, fin listed E a w hD hI hall⟩
    cases hrd : Region.ready .any ops listed with
    | nil => rfl
    | cons j l =>
      have : j ∈ Region.ready .any ops listed := by rw [hrd]; simp
      rw [mem_ready] at this
      obtain ⟨h0, o, ho, _⟩ := this
      have hj : j < ops.size := (Array.getElem?_eq_some_iff.1 ho).1
      have h1 := hall j hj
      have hlt : j < listed.size := by omega
      simp [Array.getD, hlt] at h0 h1
      rw [h0] at h1
      cases h1
  | succ fuel ihf =>
    intro listed E a w hsz hc hD hI
    refine ⟨fun hrd => fin listed E a w hD hI (ready_nil W.ok hsz hrd), fun i hi => ?_⟩
    rw [mem_ready] at hi
    obtain ⟨h0, o, ho, hb⟩ := hi
    have hio : i < ops.size := (Array.getElem?_eq_some_iff.1 ho).1
    have hlt : i < listed.size := by omega
    have hfl : listed[i] = false := by simpa [Array.getD, hlt] using h0
    have hni : ¬ listed.getD i false = true := by simp [Array.getD, hlt, hfl]
    have hor : ∀ j, ord ops j i → listed.getD j false = true := fun j hj => ord_closed ops hD.cl i o ho hb j hj
    have hrep := rep_in W hD (by omega) hio hni hor hI
    have hst := hstep i o ho
    refine runOp_in hG hS ho (hnd i o ho) hst hrep (fun t ht v hv => slots_in W hD (by omega) ho hni hor hI (List.mem_append.2 (.inl ht)) hv) _ Q fun x w' E' q1 q2 q3 => ?_
    have hDs : (fun j => (listed.setIfInBounds i true).getD j false = true) = fun j => listed.getD j false = true ∨ j = i := by
      funext j
      apply propext
      by_cases hj : j = i
      · subst hj; simp [Array.getD, hlt]
      · rw [getD_set_ne false (Ne.symm hj)]
        simp [hj]
    refine ihf _ (mixE st i E E') _ w' (by simpa using hsz) ?_ ?_ ?_
    · have : (listed.setIfInBounds i true).count false = listed.count false - 1 := by
        rw [Array.setIfInBounds, dif_pos hlt, Array.count_set]
        simp [hfl]
      omega
    · rw [hDs]; exact hD.step hio ho hb
    · rw [hDs]; exact Inv.step W hD hio ho hni hor hI hnt q1 q2 q3
theorem noDefer_at {l : List Oper} (h : l.all (fun o => noDefer o.op) = true) {i : Nat} {o : Oper} (ho : l[i]? = some o) : noDefer o.op = true := List.all_eq_true.1 h o (List.mem_of_getElem? ho)
end
section
variable {P : Program} {fnAt : Nat → Option Func} {orc : Orc} {big : Big} {ih : Run} {k n : Nat}
theorem draw_in (hG : Given P fnAt orc big) (hS : Sound P ih) {nt : Nat} {ops : Array Oper} {S S' : PT AV} {H H' : Hp} (hok : slotsOk ops.toList = true) (hnd : ops.toList.all (fun o => noDefer o.op) = true)
    (hd : drawR P fnAt orc big ih nt ops.toList (masksOf ops.toList) ops.toList 0 S H [] [] = some (S', H')) {E : Env} {a : Act} {w : World} (hr : Rep P E H w) (hs : SR E H.next S a) (hnt : nt ≤ a.tmps.size) (id : Nat) {Q : Exit → Act → World → Prop}
    (hQ : ∀ a' w' E', Rep P E' H' w' → Tr E H w E' H' w' → SR E' H'.next S' a' → a'.tmps.size = a.tmps.size → a'.defers = a.defers → Q .normal a' w') : (Code.region id ops true).wpIn (FR k) n P Q a w := by
  obtain ⟨st, rc, h0, hstep, hSn, hHn⟩ := trace P fnAt orc big ih nt ops 0 ⟨S, H, [], []⟩ (by simpa using hd) (Nat.zero_le _)
  have hstep' : ∀ i o, ops[i]? = some o → Step1 P fnAt orc big ih nt ops i o (st i) (st (i + 1)) (rc i) := fun i o ho => hstep i o (Nat.zero_le _) ho
  have hr' : Rep P E (st 0).H { w with drawn := w.drawn + 1 } := by rw [h0]; exact ⟨hr.objs, hr.sep⟩
  have hs' : SR E (st 0).H.next (st 0).S a := by rw [h0]; exact hs
  obtain ⟨W, _⟩ := way_all hG hS hok (by rw [h0]) hstep' hr' hs' hnt ops.size (Nat.le_refl _)
  refine wpIn_region_any hG.mixed (draw_anyIn hG hS (fun i o ho => noDefer_at hnd (by simpa using ho)) W hstep' (E0 := E) (a0 := a) (w0 := { w with drawn := w.drawn + 1 }) hnt (fun a' w' E' q1 q2 q3 q4 q5 => ?_) ops.size _ E a _ (by simp) (by simp) ?_ ?_)
  · rw [hHn, h0] at q2
    rw [hHn] at q1 q3
    rw [hSn] at q3
    exact hQ a' w' E' q1 ⟨q2.agree, q2.next, q2.lim, q2.log, q2.logd, q2.keep, q2.same, q2.fresh, q2.frame, q2.size, ⟨q2.calm.os, q2.calm.tape, q2.calm.output⟩⟩ q3 q4 q5
  · refine ⟨fun j h => ?_, fun j o h => ?_⟩ <;> (exfalso; by_cases hj : j < ops.size <;> simp [Array.getD, hj] at h)
  · exact Inv.init hr' hs' fun j h => by by_cases hj : j < ops.size <;> simp [Array.getD, hj] at h
end

section
variable {P : Program} {fnAt : Nat → Option Func} {orc : Orc} {big : Big} {k n : Nat}
theorem opsR_in (hG : Given P fnAt orc big) {ih : Run} (hS : Sound P ih) {nt : Nat} {ops : Array Oper} (hnd : ops.toList.all (fun o => noDefer o.op) = true) {S' : PT AV} {H' : Hp} {Q : Exit → Act → World → Prop} : ∀ (m : Nat) (S : PT AV) (H : Hp), opsR P fnAt orc big ih nt ops.toList (ops.toList.drop m) S H = some (S', H') →
    ∀ (E : Env) (a : Act) (w : World), Rep P E H w → SR E H.next S a → nt ≤ a.tmps.size →
    (∀ a' w' E', Rep P E' H' w' → Tr E H w E' H' w' → SR E' H'.next S' a' → a'.tmps.size = a.tmps.size → a'.defers = a.defers → Q .normal a' w') →
    wpOpsIn (FR k) n P ops Q (List.range' m (ops.size - m)) a w := by
  intro m
  induction hn : ops.size - m generalizing m with
  | zero =>
    intro S H h E a w hr hs hnt hq
    rw [List.drop_eq_nil_of_le (by simp; omega)] at h
    simp only [opsR, Option.some.injEq, Prod.mk.injEq] at h
    obtain ⟨rfl, rfl⟩ := h
    simp only [List.range'_zero, wpOpsIn]
    exact hq a w E hr (Tr.refl E H w fun i o h => (hr.objs i o h).1) hs rfl rfl
  | succ d ihn =>
    intro S H h E a w hr hs hnt hq
    have hk : m < ops.size := by omega
    rw [List.drop_eq_getElem_cons (by simpa using hk)] at h
    rw [List.range'_succ, wpOpsIn_cons]
    unfold wpOpIn
    have hget : ops[m]? = some ops[m] := Array.getElem?_eq_getElem hk
    simp only [hget]
    simp only [Array.getElem_toList, opsR] at h
    split at h
    · rename_i hw
      have hwant := wantedA_sound (E := E) (nx := H.next) hw (a := a) (fun j want t _ _ v hv => hs t v hv)
      rw [hwant, if_pos rfl]
      split at h
      · rename_i v H1 hop
        split at h
        · rename_i S1 hput
          refine opR_in hG hS (noDefer_at hnd (i := m) (by rw [Array.getElem?_toList]; exact hget)) hop hr hs fun x w' E' q1 q2 q3 => ?_
          refine ihn (m + 1) (by omega) S1 H1 h E' (a.put ops[m].dst x) w' q1 (putS_sound hput (hs.mono q2.agree q2.next) hnt q3) (by rw [Act.put_size]; exact hnt) ?_
          intro a' w'' E'' p1 p2 p3 p4 p5
          exact hq a' w'' E'' p1 (q2.trans p2) p3 (by rw [p4, Act.put_size]) (by rw [p5, Act.put_defers'])
        · cases h
      · cases h
    · rename_i hw
      have hwant := wantedA_sound (E := E) (nx := H.next) hw (a := a) (fun j want t _ _ v hv => hs t v hv)
      rw [hwant]
      simp only [Bool.false_eq_true, if_false]
      split at h
      · rename_i S1 hput
        refine ⟨fun _ _ => trivial, ?_⟩
        refine ihn (m + 1) (by omega) S1 H h E (a.put ops[m].dst undef) w hr (putS_sound hput hs hnt undef_VR) (by rw [Act.put_size]; exact hnt) ?_
        intro a' w'' E'' p1 p2 p3 p4 p5
        exact hq a' w'' E'' p1 p2 p3 (by rw [p4, Act.put_size]) (by rw [p5, Act.put_defers'])
      · cases h
    · cases h

/-- Code without loops and ranges, that defers nothing. -/
def plainC : Code → Bool
  | .skip => true
  | .label _ => true
  | .region _ ops _ => ops.toList.all (fun o => noDefer o.op)
  | .seq a b => (match plainC a with | true => plainC b | false => false)
  | .cond _ a b => (match plainC a with | true => plainC b | false => false)
  | .block _ a => plainC a
  | .exit _ => true
  | .ret => true
  | _ => false

/-- What the runner has run of a round's code. -/
theorem code_in (hG : Given P fnAt orc big) : ∀ (m : Nat) {nt : Nat} {c : Code} {S S' : PT AV} {H H' : Hp} {x : AX}, plainC c = true → run P fnAt orc big m nt c S H = .ok x S' H' →
    ∀ (E : Env) (a : Act) (w : World), Rep P E H w → SR E H.next S a → nt ≤ a.tmps.size → a.defers = [] → c.wpIn (FR k) n P (After P E H w a x S' H') a w
  | 0, _, _, _, _, _, _, _, _, h => by cases h
  | m + 1, nt, c, S, S', H, H', x, hp, h => by
    intro E a w hr hs hnt hd
    have hS := run_sound hG m
    have ih := fun {c : Code} {S S' : PT AV} {H H' : Hp} {x : AX} (hp : plainC c = true) (h : run P fnAt orc big m nt c S H = .ok x S' H') => code_in hG m (nt := nt) hp h
    have hlt : ∀ i o, H.m.get i = some o → i < H.next := fun i o h => (hr.objs i o h).1
    have here : ∀ y, After P E H w a y S H y.conc a w := fun y => ⟨rfl, rfl, hd, E, hr, Tr.refl E H w hlt, hs⟩
    have h : codeR P fnAt orc big (run P fnAt orc big m) nt c S H = .ok x S' H' := h
    unfold codeR at h
    split at h
    · injection h with h1 h2 h3; subst h1 h2 h3; exact wpIn_skip (here .normal)
    · injection h with h1 h2 h3; subst h1 h2 h3; exact wpIn_label (here .normal)
    · rename_i id ops draw hpx
      unfold plainC at hp
      split at h
      · split at h
        · rename_i S1 H1 hop
          injection h with h1 h2 h3
          subst h1 h2 h3
          refine wpIn_region ?_
          have := opsR_in (k := k) (n := n) hG hS hp (Q := After P E H w a .normal S1 H1) 0 S H (by simpa using hop) E a w hr hs hnt (fun a' w' E' q1 q2 q3 q4 q5 => ⟨rfl, q4, by rw [q5, hd], E', q1, q2, q3⟩)
          rw [List.range_eq_range']
          simpa using this
        · cases h
      · split at h
        · rename_i hok
          split at h
          · rename_i S1 H1 hop
            injection h with h1 h2 h3
            subst h1 h2 h3
            exact draw_in hG hS hok hp hop hr hs hnt id (fun a' w' E' q1 q2 q3 q4 q5 => ⟨rfl, q4, by rw [q5, hd], E', q1, q2, q3⟩)
          · cases h
        · cases h
    · rename_i c1 c2 hpx
      unfold plainC at hp
      split at hp
      case h_2 => cases hp
      rename_i hp1
      split at h
      · rename_i y S1 H1 h1
        refine wpIn_seq (wpIn_mono (ih hp1 h1 E a w hr hs hnt hd) ?_)
        rintro e a1 w1 ⟨q0, q1, q2, E1, q3, q4, q5⟩
        cases y with
        | normal =>
          subst q0
          simp only [] at h
          exact wpIn_mono (ih hp h E1 a1 w1 q3 q5 (by omega) q2) (After.of q4 q1)
        | exit i =>
          simp only [] at h
          injection h with h2 h3 h4
          subst q0 h2 h3 h4
          exact ⟨rfl, q1, q2, E1, q3, q4, q5⟩
        | ret =>
          simp only [] at h
          injection h with h2 h3 h4
          subst q0 h2 h3 h4
          exact ⟨rfl, q1, q2, E1, q3, q4, q5⟩
      · cases h
    · rename_i xo c1 c2 hpx
      unfold plainC at hp
      split at hp
      case h_2 => cases hp
      rename_i hp1
      split at h
      · rename_i hv
        have hb := ev_sound hs hv
        simp only [VR] at hb
        exact wpIn_cond_true hb (ih hp1 h E a w hr hs hnt hd)
      · rename_i hv
        have hb := ev_sound hs hv
        simp only [VR] at hb
        exact wpIn_cond_false hb (ih hp h E a w hr hs hnt hd)
      · cases h
    · rename_i id c1 hpx
      unfold plainC at hp
      split at h
      · rename_i y S1 H1 h1
        refine wpIn_block (wpIn_mono (ih hp h1 E a w hr hs hnt hd) ?_)
        rintro e a1 w1 ⟨q0, q1, q2, E1, q3, q4, q5⟩
        cases y with
        | normal =>
          simp only [] at h
          injection h with h2 h3 h4
          subst q0 h2 h3 h4
          exact ⟨rfl, q1, q2, E1, q3, q4, q5⟩
        | ret =>
          simp only [] at h
          injection h with h2 h3 h4
          subst q0 h2 h3 h4
          exact ⟨rfl, q1, q2, E1, q3, q4, q5⟩
        | exit i =>
          simp only [] at h
          subst q0
          show Exit.inBlock id _ (.exit i) a1 w1
          unfold Exit.inBlock
          split at h
          · rename_i hi
            injection h with h2 h3 h4
            subst h2 h3 h4
            simp only [Nat.eq_of_beq_eq_true hi, if_true]
            exact ⟨rfl, q1, q2, E1, q3, q4, q5⟩
          · rename_i hi
            injection h with h2 h3 h4
            subst h2 h3 h4
            simp only [Nat.ne_of_beq_eq_false hi, if_false]
            exact ⟨rfl, q1, q2, E1, q3, q4, q5⟩
      · cases h
    · cases hp
    · injection h with h1 h2 h3; subst h1 h2 h3; exact wpIn_exit (here (.exit _))
    · injection h with h1 h2 h3; subst h1 h2 h3; exact wpIn_ret (here .ret)
    · cases h
end
end Go.Sx
end
