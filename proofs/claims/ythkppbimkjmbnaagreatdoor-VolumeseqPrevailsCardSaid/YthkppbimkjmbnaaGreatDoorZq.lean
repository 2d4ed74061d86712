/-
  Plain: two volumes' descriptors in one sequence; no program in sight.
-/
import Derived.Test.YthkppbimkjmbnaaGreatDoorZK
import Derived.Test.YthkppbimkjmbnaaGreatDoorZQ
import Derived.Test.YthkppbimkjmbnaaGreatDoorZy
namespace Go.Proofs.YthkppbimkjmbnaaGreatDoor
set_option linter.unusedVariables false
namespace Vs
open Pm (le num at_ le_len num_le num_lt)
/-- Some bytes agree behind the sequence number. -/
def Agree (m : Nat) (b b' : List UInt8) : Prop := ∀ a n, 20 ≤ a → a + n ≤ m → sl b a n = sl b' a n
theorem Agree.at {m : Nat} {b b' : List UInt8} (h : Agree m b b') (a n : Nat) (h1 : 20 ≤ a) (h2 : a + n ≤ m) : at_ b a n = at_ b' a n := by
  rw [at_sl, at_sl, h a n h1 h2]
theorem numbered_agree {id ser loc loc' : Nat} {body : List UInt8} (n : Nat) (h : 4 ≤ body.length) : Agree (16 + body.length) (blk id ser loc' (le 4 n ++ body.drop 4)) (blk id ser loc body) := by
  intro a m h1 h2
  have hl : (le 4 n ++ body.drop 4).length = body.length := by rw [List.length_append, le_len, List.length_drop]; omega
  rw [blk_sl (a := a - 16) (by omega) (by omega), blk_sl (a := a - 16) (by omega) (by omega), sk (le_len 4 n) (b := a - 20) (by omega) rfl]
  unfold sl
  rw [List.drop_drop, show 4 + (a - 20) = a - 16 by omega]
/-- Numbering a descriptor anew. -/
def numR (b : List UInt8) (frm tgt : Int) (n : Nat) : List UInt8 × Bool :=
  if (openR b frm).2 ≠ 0 ∨ (openR b frm).1.2.length < 4 then ([], false) else
    ((blockR (openR b frm).1.1.1 (openR b frm).1.1.2.1 tgt (le 4 n ++ (openR b frm).1.2.drop 4)).1, decide ((blockR (openR b frm).1.1.1 (openR b frm).1.1.2.1 tgt (le 4 n ++ (openR b frm).1.2.drop 4)).2 = 0))
theorem num_blk {id loc tgt : Nat} {body : List UInt8} (n : Nat) (h1 : id < 65536) (h3 : loc < 4294967296) (h4 : tgt < 4294967296) (hb : body.length ≤ 2032) (h : 4 ≤ body.length) : numR (blk id 1 loc body) loc tgt n = (blk id 1 tgt (le 4 n ++ body.drop 4), true) := by
  have hl : (le 4 n ++ body.drop 4).length = body.length := by rw [List.length_append, le_len, List.length_drop]; omega
  unfold numR
  rw [blk_open id 1 loc body h1 (by decide) h3 hb]
  simp only []
  rw [if_neg (by omega), blockR_ok h1 (by decide) h4 (by omega)]
  rfl
/-- A block that reads as a primary descriptor; as a partition descriptor; as a logical volume descriptor. -/
structure Rd1 (d : D) (b : List UInt8) : Prop where
  v : ∀ d1 : D, p1V b d1.vol = { d1.vol with set := bs (Cs.fitR (by_ d.vol.set) 128), number := d.vol.number, discs := d.vol.discs, time := d.vol.time }
  s : (Cs.parseR (sl b 72 128)).2 = 0
  t : (readSR (sl b 376 12)).2 = 0
structure Rd2 (d : D) (b : List UInt8) : Prop where
  p : p2P b = d.part
  e : Cs.pentR (sl b 24 32) = ((contN, z 8), 0)
structure Rd3 (d : D) (b : List UInt8) : Prop where
  q : ∀ d1 : D, p3D b d1 = { d1 with vol := { d1.vol with name := d.vol.name }, fk := d.fk, fl := d.fl, fb := d.fb, fp := d.fp, maps := d.maps, table := d.table, istart := d.istart, icount := d.icount }
  k : at_ b 212 4 = 2048
  s : (Cs.parseR (sl b 84 128)).2 = 0
  l : at_ b 248 4 % 1073741824 ≠ 0
  t : at_ b 264 4 ≤ 1608
theorem rd1_of {d : D} (h : okD d = true) (loc : Nat) : Rd1 d (blk 1 1 loc (primL d.vol)) := ⟨fun d1 => (prim_read h loc d1).1, (prim_read h loc d0).2.1, (prim_read h loc d0).2.2⟩
theorem rd2_of {d : D} (h : okD d = true) (loc : Nat) : Rd2 d (blk 5 1 loc (partL d.part)) := ⟨(part_read h loc).1, (part_read h loc).2⟩
theorem rd3_of {d : D} (h : okD d = true) (loc : Nat) : Rd3 d (blk 6 1 loc (logL d)) := ⟨fun d1 => (log_read h loc d1).1, (log_read h loc d0).2.1, (log_read h loc d0).2.2.1, (log_read h loc d0).2.2.2.1, (log_read h loc d0).2.2.2.2⟩
theorem Rd1.agree {d : D} {b b' : List UInt8} (h : Rd1 d b) (ha : Agree 512 b' b) : Rd1 d b' := by
  have e1 := ha 72 128 (by decide) (by decide)
  have e2 := ha 376 12 (by decide) (by decide)
  refine ⟨fun d1 => ?_, by rw [e1]; exact h.s, by rw [e2]; exact h.t⟩
  rw [← h.v d1]
  unfold p1V
  rw [e1, e2, ha.at 56 2 (by decide) (by decide), ha.at 58 2 (by decide) (by decide)]
theorem Rd2.agree {d : D} {b b' : List UInt8} (h : Rd2 d b) (ha : Agree 512 b' b) : Rd2 d b' := by
  refine ⟨?_, by rw [ha 24 32 (by decide) (by decide)]; exact h.e⟩
  rw [← h.p]
  unfold p2P
  rw [ha.at 22 2 (by decide) (by decide), ha.at 184 4 (by decide) (by decide), ha.at 188 4 (by decide) (by decide), ha.at 192 4 (by decide) (by decide), ha.at 68 4 (by decide) (by decide), ha.at 64 4 (by decide) (by decide)]
theorem Rd3.agree {d : D} {b b' : List UInt8} (h : Rd3 d b) (ha : Agree (440 + at_ b 264 4) b' b) : Rd3 d b' := by
  have e1 := ha 84 128 (by decide) (by omega)
  have e2 := ha.at 264 4 (by decide) (by omega)
  refine ⟨fun d1 => ?_, by rw [ha.at 212 4 (by decide) (by omega)]; exact h.k, by rw [e1]; exact h.s, by rw [ha.at 248 4 (by decide) (by omega)]; exact h.l, by rw [e2]; exact h.t⟩
  rw [← h.q d1]
  unfold p3D
  rw [e1, e2, ha.at 248 4 (by decide) (by omega), ha.at 252 4 (by decide) (by omega), ha.at 256 2 (by decide) (by omega), ha.at 268 4 (by decide) (by omega), ha 440 (at_ b 264 4) (by decide) (by omega), ha.at 436 4 (by decide) (by omega), ha.at 432 4 (by decide) (by omega)]
/-- Descriptors whose parts come from three volumes. -/
def mixD (d1 d2 d3 : D) : D :=
  { vol := { name := d3.vol.name, set := bs (Cs.fitR (by_ d1.vol.set) 128), pub := ⟨#[]⟩, prep := ⟨#[]⟩, app := ⟨#[]⟩, number := d1.vol.number, discs := d1.vol.discs, time := d1.vol.time }, part := d2.part, maps := d3.maps, table := d3.table, fk := d3.fk, fl := d3.fl, fb := d3.fb, fp := d3.fp, istart := d3.istart, icount := d3.icount }
theorem mix_one (d : D) : mixD d d d = keptD d := rfl
theorem par_mix {a b c d1 d2 d3 : _} {A B C : List UInt8} {i j k : Nat} {s t u : Int} (ha : a = (⟨bs A, i, s⟩ : Pv)) (hb : b = (⟨bs B, j, t⟩ : Pv)) (hc : c = (⟨bs C, k, u⟩ : Pv)) (h1 : okD d1 = true) (h2 : okD d2 = true) (h3 : okD d3 = true) (r1 : Rd1 d1 A) (r2 : Rd2 d2 B) (r3 : Rd3 d3 C) : par3 a b c = ((mixD d1 d2 d3, 0), 0) := by
  subst ha hb hc
  obtain ⟨h11, _, _⟩ := (okD_iff d1).1 h1
  obtain ⟨_, h22, _⟩ := (okD_iff d2).1 h2
  obtain ⟨_, _, h33⟩ := (okD_iff d3).1 h3
  obtain ⟨g1, g2, g3, g4, g5, g6⟩ := (okVol_iff _).1 h11
  have E1 : p1E A d0 = 0 := by
    unfold p1E
    rw [r1.v d0]
    exact if_pos ⟨r1.s, r1.t, (okVol_iff _).2 ⟨fitR_text g1, g2, g3, g4, g5, g6⟩⟩
  have E2 : p2E B = 0 := by
    unfold p2E
    rw [r2.e, r2.p, if_neg (fun e => e rfl), if_neg (fun e => e.2 rfl), if_pos h22]
  have hK : p3D C (p2D B (p1D A d0)) = mixD d1 d2 d3 := by
    rw [r3.q]
    unfold p2D p1D mixD
    rw [r2.p, r1.v d0]
    rfl
  have E3 : p3E C (p2D B (p1D A d0)) = 0 := by
    unfold p3E
    rw [if_neg (fun e => e r3.k), if_neg (fun e => by rcases e with e | e | e; exact e r3.s; exact r3.l e; have := r3.t; omega), hK, if_pos]
    rw [okLog_iff] at h33 ⊢
    exact h33
  unfold par3
  refine (if_neg (fun h => h E1)).trans ((if_neg (fun h => h E2)).trans ((if_neg (fun h => h E3)).trans ?_))
  exact congrArg (fun x => ((x, (0 : Int)), (0 : Int))) hK
/-- The six blocks: of one volume, and of another one, numbered anew. -/
def six (a b : D) (loc n0 n1 n2 : Nat) : List ByteArray :=
  [bs (blk 1 1 loc (primL a.vol)), bs (blk 5 1 (loc + 1) (partL a.part)), bs (blk 6 1 (loc + 2) (logL a)), bs (blk 1 1 (loc + 3) (le 4 n0 ++ (primL b.vol).drop 4)), bs (blk 5 1 (loc + 4) (le 4 n1 ++ (partL b.part).drop 4)), bs (blk 6 1 (loc + 5) (le 4 n2 ++ (logL b).drop 4))]
theorem upd_new {f : Int → Option Pv} {id : Int} {x : Pv} (h : f id = none) : upd f id x = fun j => if j = id then some x else f j := by
  unfold upd
  rw [h]
theorem upd_old {f : Int → Option Pv} {id : Int} {x o : Pv} (h : f id = some o) : upd f id x = fun j => if j = id then some (if o.seq < x.seq then x else o) else f j := by
  have e : upd f id x = if o.seq < x.seq then (fun j => if j = id then some x else f j) else f := by
    unfold upd
    rw [h]
  rw [e]
  funext j
  by_cases hj : j = id
  · subst hj
    rw [if_pos rfl]
    by_cases hs : o.seq < x.seq
    · rw [if_pos hs, if_pos hs]
      exact if_pos rfl
    · rw [if_neg hs, if_neg hs]
      exact h
  · rw [if_neg hj]
    by_cases hs : o.seq < x.seq
    · rw [if_pos hs]
      exact if_neg hj
    · rw [if_neg hs]
theorem six_found (A B C A' B' C' : Pv) :
    (upd (upd (upd (upd (upd (upd (fun _ => none) 1 A) 5 B) 6 C) 1 A') 5 B') 6 C') 1 = some (if A.seq < A'.seq then A' else A) ∧
    (upd (upd (upd (upd (upd (upd (fun _ => none) 1 A) 5 B) 6 C) 1 A') 5 B') 6 C') 5 = some (if B.seq < B'.seq then B' else B) ∧
    (upd (upd (upd (upd (upd (upd (fun _ => none) 1 A) 5 B) 6 C) 1 A') 5 B') 6 C') 6 = some (if C.seq < C'.seq then C' else C) := by
  have e1 : upd (fun _ => none) 1 A = fun j => if j = 1 then some A else none := upd_new rfl
  have e2 : upd (fun j => if j = 1 then some A else none) 5 B = fun j => if j = 5 then some B else if j = 1 then some A else none := upd_new (by simp)
  have e3 : upd (fun j => if j = 5 then some B else if j = 1 then some A else none) 6 C = fun j => if j = 6 then some C else if j = 5 then some B else if j = 1 then some A else none := upd_new (by simp)
  rw [e1, e2, e3]
  have e4 : upd (fun j => if j = 6 then some C else if j = 5 then some B else if j = 1 then some A else none) 1 A' = _ := upd_old (o := A) (by simp)
  rw [e4]
  have e5 : upd (fun j => if j = 1 then some (if A.seq < A'.seq then A' else A) else if j = 6 then some C else if j = 5 then some B else if j = 1 then some A else none) 5 B' = _ := upd_old (o := B) (by simp)
  rw [e5]
  have e6 : upd (fun j => if j = 5 then some (if B.seq < B'.seq then B' else B) else if j = 1 then some (if A.seq < A'.seq then A' else A) else if j = 6 then some C else if j = 5 then some B else if j = 1 then some A else none) 6 C' = _ := upd_old (o := C) (by simp)
  rw [e6]
  refine ⟨?_, ?_, ?_⟩ <;> simp
theorem prevails {a b : D} (ha : okD a = true) (hb : okD b = true) {loc n0 n1 n2 : Nat} (hl : loc < 65536) (h0 : n0 < 6) (h1 : n1 < 6) (h2 : n2 < 6) :
    parR (six a b loc n0 n1 n2) loc = ((mixD (if 1 < n0 then b else a) (if 2 < n1 then b else a) (if 3 < n2 then b else a), 0), 0) := by
  obtain ⟨ka1, ka2, ka3, ka4⟩ := okL_of ha
  obtain ⟨kb1, kb2, kb3, kb4⟩ := okL_of hb
  have s1 : sl (blk 1 1 loc (primL a.vol)) 16 4 = le 4 1 := (blk_sl (a := 0) rfl (by omega)).trans (hd (n4_len 1))
  have s2 : sl (blk 5 1 (loc + 1) (partL a.part)) 16 4 = le 4 2 := (blk_sl (a := 0) rfl (by omega)).trans (hd (n4_len 2))
  have s3 : sl (blk 6 1 (loc + 2) (logL a)) 16 4 = le 4 3 := (blk_sl (a := 0) rfl (by omega)).trans (hd (n4_len 3))
  have l1 : (le 4 n0 ++ (primL b.vol).drop 4).length = 496 := by rw [List.length_append, le_len, List.length_drop]; omega
  have l2 : (le 4 n1 ++ (partL b.part).drop 4).length = 496 := by rw [List.length_append, le_len, List.length_drop]; omega
  have l3 : (le 4 n2 ++ (logL b).drop 4).length = 424 + b.table.size := by rw [List.length_append, le_len, List.length_drop]; omega
  have s4 : sl (blk 1 1 (loc + 3) (le 4 n0 ++ (primL b.vol).drop 4)) 16 4 = le 4 n0 := (blk_sl (a := 0) rfl (by omega)).trans (hd (le_len 4 n0))
  have s5 : sl (blk 5 1 (loc + 4) (le 4 n1 ++ (partL b.part).drop 4)) 16 4 = le 4 n1 := (blk_sl (a := 0) rfl (by omega)).trans (hd (le_len 4 n1))
  have s6 : sl (blk 6 1 (loc + 5) (le 4 n2 ++ (logL b).drop 4)) 16 4 = le 4 n2 := (blk_sl (a := 0) rfl (by omega)).trans (hd (le_len 4 n2))
  have b1 := blk_scan 1 loc (primL a.vol) 1 (by decide) (by omega) (by omega) s1 (by decide)
  have b2 := blk_scan 5 (loc + 1) (partL a.part) 2 (by decide) (by omega) (by omega) s2 (by decide)
  have b3 := blk_scan 6 (loc + 2) (logL a) 3 (by decide) (by omega) (by omega) s3 (by decide)
  have b4 := blk_scan 1 (loc + 3) _ n0 (by decide) (by omega) (by omega) s4 (by omega)
  have b5 := blk_scan 5 (loc + 4) _ n1 (by decide) (by omega) (by omega) s5 (by omega)
  have b6 := blk_scan 6 (loc + 5) _ n2 (by decide) (by omega) (by omega) s6 (by omega)
  have r1a := rd1_of ha loc
  have r1b := (rd1_of hb loc).agree (by have := numbered_agree (id := 1) (ser := 1) (loc := loc) (loc' := loc + 3) (body := primL b.vol) n0 (by omega); rw [kb1] at this; exact this)
  have r2a := rd2_of ha (loc + 1)
  have r2b := (rd2_of hb loc).agree (by have := numbered_agree (id := 5) (ser := 1) (loc := loc) (loc' := loc + 4) (body := partL b.part) n1 (by omega); rw [kb2] at this; exact this)
  have r3a := rd3_of ha (loc + 2)
  have hx : at_ (blk 6 1 loc (logL b)) 264 4 = b.table.size := by
    have h3 := (log_at b (fld128 (named_text ((okLog_iff _).1 ((okD_iff b).1 hb).2.2).1))).2.2.2.2.2.2.2.1
    have := at4 (id := 6) (ser := 1) (loc := loc) (body := logL b) (a := 248) (b := 264) rfl (by omega) h3 (by omega) (by omega)
    omega
  have r3b := (rd3_of hb loc).agree (by have := numbered_agree (id := 6) (ser := 1) (loc := loc) (loc' := loc + 5) (body := logL b) n2 (by omega); rw [kb3] at this; rw [hx]; exact fun p q g1 g2 => this p q g1 (by omega))
  have hw : word loc = true := by rw [word_iff]; omega
  have hsc : scan loc (six a b loc n0 n1 n2) 0 (fun _ => none) = .ok (upd (upd (upd (upd (upd (upd (fun _ => none) 1 ⟨bs (blk 1 1 loc (primL a.vol)), 0, 1⟩) 5 ⟨bs (blk 5 1 (loc + 1) (partL a.part)), 1, 2⟩) 6 ⟨bs (blk 6 1 (loc + 2) (logL a)), 2, 3⟩) 1 ⟨bs (blk 1 1 (loc + 3) (le 4 n0 ++ (primL b.vol).drop 4)), 3, n0⟩) 5 ⟨bs (blk 5 1 (loc + 4) (le 4 n1 ++ (partL b.part).drop 4)), 4, n1⟩) 6 ⟨bs (blk 6 1 (loc + 5) (le 4 n2 ++ (logL b).drop 4)), 5, n2⟩) 6 := by
    unfold six
    rw [scan_step b1.1 b1.2.1 (by simpa using b1.2.2.1) b1.2.2.2.1 b1.2.2.2.2, if_neg (by decide),
      scan_step b2.1 b2.2.1 (by simpa using b2.2.2.1) b2.2.2.2.1 b2.2.2.2.2, if_neg (by decide),
      scan_step b3.1 b3.2.1 (by simpa using b3.2.2.1) b3.2.2.2.1 b3.2.2.2.2, if_neg (by decide),
      scan_step b4.1 b4.2.1 (by simpa using b4.2.2.1) b4.2.2.2.1 b4.2.2.2.2, if_neg (by decide),
      scan_step b5.1 b5.2.1 (by simpa using b5.2.2.1) b5.2.2.2.1 b5.2.2.2.2, if_neg (by decide),
      scan_step b6.1 b6.2.1 (by simpa using b6.2.2.1) b6.2.2.2.1 b6.2.2.2.2, if_neg (by decide)]
    rfl
  unfold parR
  rw [hw, if_neg (by decide), if_neg (by simp [six]), hsc]
  obtain ⟨q1, q5, q6⟩ := six_found ⟨bs (blk 1 1 loc (primL a.vol)), 0, 1⟩ ⟨bs (blk 5 1 (loc + 1) (partL a.part)), 1, 2⟩ ⟨bs (blk 6 1 (loc + 2) (logL a)), 2, 3⟩ ⟨bs (blk 1 1 (loc + 3) (le 4 n0 ++ (primL b.vol).drop 4)), 3, n0⟩ ⟨bs (blk 5 1 (loc + 4) (le 4 n1 ++ (partL b.part).drop 4)), 4, n1⟩ ⟨bs (blk 6 1 (loc + 5) (le 4 n2 ++ (logL b).drop 4)), 5, n2⟩
  simp only [] at q1 q5 q6
  have g1 : ∃ (X : List UInt8) (i : Nat) (s : Int), (if (1 : Int) < (n0 : Int) then (⟨bs (blk 1 1 (loc + 3) (le 4 n0 ++ (primL b.vol).drop 4)), 3, n0⟩ : Pv) else ⟨bs (blk 1 1 loc (primL a.vol)), 0, 1⟩) = ⟨bs X, i, s⟩ ∧ Rd1 (if 1 < n0 then b else a) X ∧ okD (if 1 < n0 then b else a) = true := by
    by_cases h : 1 < n0
    · rw [if_pos (by omega), if_pos h]; exact ⟨_, _, _, rfl, r1b, hb⟩
    · rw [if_neg (by omega), if_neg h]; exact ⟨_, _, _, rfl, r1a, ha⟩
  have g2 : ∃ (X : List UInt8) (i : Nat) (s : Int), (if (2 : Int) < (n1 : Int) then (⟨bs (blk 5 1 (loc + 4) (le 4 n1 ++ (partL b.part).drop 4)), 4, n1⟩ : Pv) else ⟨bs (blk 5 1 (loc + 1) (partL a.part)), 1, 2⟩) = ⟨bs X, i, s⟩ ∧ Rd2 (if 2 < n1 then b else a) X ∧ okD (if 2 < n1 then b else a) = true := by
    by_cases h : 2 < n1
    · rw [if_pos (by omega), if_pos h]; exact ⟨_, _, _, rfl, r2b, hb⟩
    · rw [if_neg (by omega), if_neg h]; exact ⟨_, _, _, rfl, r2a, ha⟩
  have g3 : ∃ (X : List UInt8) (i : Nat) (s : Int), (if (3 : Int) < (n2 : Int) then (⟨bs (blk 6 1 (loc + 5) (le 4 n2 ++ (logL b).drop 4)), 5, n2⟩ : Pv) else ⟨bs (blk 6 1 (loc + 2) (logL a)), 2, 3⟩) = ⟨bs X, i, s⟩ ∧ Rd3 (if 3 < n2 then b else a) X ∧ okD (if 3 < n2 then b else a) = true := by
    by_cases h : 3 < n2
    · rw [if_pos (by omega), if_pos h]; exact ⟨_, _, _, rfl, r3b, hb⟩
    · rw [if_neg (by omega), if_neg h]; exact ⟨_, _, _, rfl, r3a, ha⟩
  obtain ⟨X1, i1, s1', e1, x1, o1⟩ := g1
  obtain ⟨X2, i2, s2', e2, x2, o2⟩ := g2
  obtain ⟨X3, i3, s3', e3, x3, o3⟩ := g3
  unfold parS
  simp only []
  rw [q1, q5, q6]
  exact par_mix e1 e2 e3 o1 o2 o3 x1 x2 x3
end Vs
end Go.Proofs.YthkppbimkjmbnaaGreatDoor

/-
  The walk through the law's numbered.
-/
namespace Go.Proofs.YthkppbimkjmbnaaGreatDoor
set_option linter.unusedVariables false
open Go.RowKit
open Vs (bs by_)
namespace Vs
set_option maxRecDepth 100000 in
/-- '[]byte(s)', to be written into. -/
theorem bytes_w (w : World) (s : ByteArray) : ∃ cap W', (convert 9 126 (.string s)).run Tryz.prog w = .ok (.slice (some ⟨w.heap.size, 0, none⟩) s.size cap) W' ∧ Below w.heap.size w W' ∧ s.size ≤ cap ∧
    ∀ j, j < s.size → W'.cell? ⟨w.heap.size, j, none⟩ = some (.int .u8 (Cs.byt s.data.toList j : Nat)) ∧ W'.frozen? ⟨w.heap.size, j, none⟩ = false := by
  have h := run_bytes_of_string (P := Tryz.prog) w 9 126 5 s Tryz.underlying9 Tryz.underlying126 Tryz.underlying5
  refine ⟨_, _, h, ?_, grownCap_ge w _ _ _, ?_⟩
  · exact ((Below.refl _ w).drew).alloc (Nat.le_refl _) _
  · intro j hj
    have hj' : j < s.data.size := hj
    refine ⟨?_, ?_⟩
    · rw [show w.heap.size = w.drew.heap.size from rfl, World.cell?_alloc_mark, bytesRow_at _ _ _ hj']
      congr 3
      unfold Cs.byt
      simp only [List.getD, Array.getElem?_toList, Array.getElem?_eq_getElem hj', Option.getD_some]
    · rw [show w.heap.size = w.drew.heap.size from rfl, World.frozen?_alloc_mark]
      have hb : j < (bytesRow s (grownCap w s.size 0 5)).size := by
        have := bytesRow_at s (grownCap w s.size 0 5) j hj'
        exact (Array.getElem?_eq_some_iff.1 this).1
      simp
      omega
/-- The body whose first i bytes are those of a number. -/
def mixB (n : Nat) (body : List UInt8) (i : Nat) : List UInt8 := (Pm.le 4 n).take i ++ body.drop i
theorem mixB_len (n : Nat) (body : List UInt8) {i : Nat} (hi : i ≤ 4) (h : 4 ≤ body.length) : (mixB n body i).length = body.length := by
  unfold mixB
  rw [List.length_append, List.length_take, Pm.le_len, List.length_drop]
  omega
theorem mixB_0 (n : Nat) (body : List UInt8) : mixB n body 0 = body := by simp [mixB]
theorem mixB_4 (n : Nat) (body : List UInt8) : mixB n body 4 = Pm.le 4 n ++ body.drop 4 := by
  unfold mixB
  rw [List.take_of_length_le (by rw [Pm.le_len]; decide)]
theorem byt_app_l {a b : List UInt8} {j : Nat} (h : j < a.length) : Cs.byt (a ++ b) j = Cs.byt a j := by
  unfold Cs.byt
  rw [List.getD_eq_getElem?_getD, List.getElem?_append_left h, ← List.getD_eq_getElem?_getD]
theorem byt_app_r {a b : List UInt8} {j : Nat} (h : a.length ≤ j) : Cs.byt (a ++ b) j = Cs.byt b (j - a.length) := by
  unfold Cs.byt
  rw [List.getD_eq_getElem?_getD, List.getElem?_append_right h, ← List.getD_eq_getElem?_getD]
theorem byt_drop (b : List UInt8) (i j : Nat) : Cs.byt (b.drop i) j = Cs.byt b (i + j) := by
  unfold Cs.byt
  rw [List.getD_eq_getElem?_getD, List.getElem?_drop, ← List.getD_eq_getElem?_getD]
theorem byt_take {b : List UInt8} {i j : Nat} (h : j < i) : Cs.byt (b.take i) j = Cs.byt b j := by
  unfold Cs.byt
  rw [List.getD_eq_getElem?_getD, List.getElem?_take_of_lt h, ← List.getD_eq_getElem?_getD]
theorem mixB_lo (n : Nat) (body : List UInt8) {i j : Nat} (hi : i ≤ 4) (h : j < i) : Cs.byt (mixB n body i) j = Pm.byteAt n j := by
  unfold mixB
  rw [byt_app_l (by rw [List.length_take, Pm.le_len]; omega), byt_take h]
  unfold Cs.byt
  rw [List.getD_eq_getElem?_getD, Pm.le_get 4 n j (by omega), Option.getD_some, UInt8.toNat_ofNat']
  unfold Pm.byteAt
  omega
theorem mixB_hi (n : Nat) (body : List UInt8) {i j : Nat} (hi : i ≤ 4) (h : i ≤ j) : Cs.byt (mixB n body i) j = Cs.byt body j := by
  unfold mixB
  have hl : ((Pm.le 4 n).take i).length = i := by rw [List.length_take, Pm.le_len]; omega
  rw [byt_app_r (by omega), hl, byt_drop]
  congr 1
  omega
/-- The cells of bytes under way. -/
def MixW (g : Nat) (n : Nat) (body : List UInt8) (i : Nat) (W : World) : Prop := ∀ j, j < body.length → W.cell? ⟨g, j, none⟩ = some (.int .u8 (Cs.byt (mixB n body i) j : Nat)) ∧ W.frozen? ⟨g, j, none⟩ = false
theorem MixW.step {g n i : Nat} {body : List UInt8} {W : World} (h : MixW g n body i W) (hi : i < 4) (hb : 4 ≤ body.length) : MixW g n body (i + 1) (W.setCell ⟨g, i, none⟩ (.int .u8 (Pm.byteAt n i : Nat))) := fun j hj => by
  refine ⟨?_, ?_⟩
  · by_cases hij : j = i
    · subst hij
      rw [World.cell?_setCell_same _ _ _ (h j hj).1, mixB_lo n body (by omega) (by omega)]
    · rw [World.cell?_setCell_other _ _ _ _ (by simp), (h j hj).1]
      by_cases hl : j < i
      · rw [mixB_lo n body (by omega) hl, mixB_lo n body (by omega) (by omega)]
      · rw [mixB_hi n body (by omega) (by omega), mixB_hi n body (by omega) (by omega)]
  · rw [World.frozen?_setCell]
    exact (h j hj).2
end Vs

set_option maxHeartbeats 6400000 in
set_option maxRecDepth 100000 in
/-- numbered, of a sequence's block. -/
theorem numbered_any (id loc tt n : Nat) (body : List UInt8) (h1 : id < 65536) (h2 : loc < 4294967296) (h3 : tt < 4294967296) (hb : body.length ≤ 2032) (h4 : 4 ≤ body.length) (hn : n < 256) (w : World) :
    Calls Tryz.prog 30 #[.string (bs (Vs.blk id 1 loc body)), .int .i64 (loc : Int), .int .i64 (tt : Int), .int .i64 (n : Int)] w fun e w' => e = .returned (.tuple #[.string (bs (Vs.blk id 1 tt (Pm.le 4 n ++ body.drop 4))), .bool true]) ∧ Below w.heap.size w w' := by
  have CO := Lib.hid (fun W => open_any (bs (Vs.blk id 1 loc body)) loc W (by rw [Vs.bs_size, Vs.blk_len hb]; decide))
  rw [Vs.by_bs, Vs.blk_open id 1 loc body h1 (by decide) h2 hb] at CO
  unfold Vs.tgV at CO
  simp only [] at CO
  have hl4 : (Pm.le 4 n ++ body.drop 4).length = body.length := by rw [List.length_append, Pm.le_len, List.length_drop]; omega
  have CB := Lib.hid (fun W => block_any id 1 tt (bs (Pm.le 4 n ++ body.drop 4)) W (by rw [Vs.bs_size, hl4]; omega))
  rw [Vs.by_bs, show Vs.blockR (id : Int) 1 (tt : Int) (Pm.le 4 n ++ body.drop 4) = (Vs.blk id 1 tt (Pm.le 4 n ++ body.drop 4), 0) from Vs.blockR_ok (ser := 1) h1 (by decide) h3 (by omega)] at CB
  simp only [] at CB
  rw [← Vs.mixB_4] at CB ⊢
  have HL4 := Lib.hid (Vs.mixB_len n body (i := 4) (Nat.le_refl _) h4)
  have hsz : ((bs body).size : Int) = body.length := by rw [Vs.bs_size]
  generalize bs (Vs.blk id 1 loc body) = s at *
  generalize bs (Vs.blk id 1 tt (Vs.mixB n body 4)) = res at *
  have HBS := Lib.hid (show (bs body).data.toList = body from rfl)
  have hlz : (body.length : Int) ≤ 2032 := by omega
  have hlq : 4 ≤ (body.length : Int) := by omega
  have hnz : (n : Int) < 256 := by omega
  clear hl4 h1 h2 h3
  go_enter Tryz.func30, Tryz.ntmps30
  go_wp2_with fail
  with_reducible refine (CO.out _).mono ?_
  rintro e w1 ⟨rfl, hb1⟩
  have HB1 := Lib.hid hb1
  have hsz1 := hb1.size
  have HBA := Lib.hid (hb1.trans (((Below.refl w1.heap.size w1).alloc (Nat.le_refl _) (.cells #[.int .i64 (id : Int), .int .i64 1, .int .i64 (body.length : Int), .int .i64 (loc : Int)] 104)).mono hb1.size))
  have HN1 := Lib.hid (heap_alloc_new w1 (.cells #[.int .i64 (id : Int), .int .i64 1, .int .i64 (body.length : Int), .int .i64 (loc : Int)] 104))
  clear hb1
  go_upto_region 2 with fail
  generalize w1.alloc (.cells #[.int .i64 (id : Int), .int .i64 1, .int .i64 (body.length : Int), .int .i64 (loc : Int)] 104) = w2 at *
  obtain ⟨cap, W1, hcv, hbW, hcap, hcells⟩ := Vs.bytes_w w2 (bs body)
  have hw2 : w1.heap.size < w2.heap.size := (Array.getElem?_eq_some_iff.1 HN1.out).1
  have HM0 := Lib.hid (show Vs.MixW w2.heap.size n body 0 W1 from fun j hj => by
    have := hcells j (by rw [Vs.bs_size]; exact hj)
    rw [HBS.out] at this
    rw [Vs.mixB_0]
    exact this)
  have HBW := Lib.hid (HBA.out.trans (hbW.mono HBA.out.size))
  have HNW := Lib.hid ((hbW.block w1.heap.size hw2).trans HN1.out)
  have d4 : decide (((bs body).size : Int) < 4) = false := decide_eq_false (by omega)
  have hbsz : (bs body).size = body.length := Vs.bs_size _
  clear hcells hbW hcap HN1 HBA
  go_upto_region 4 with fail
  go_wp2_with fail
  have HW2 := Lib.hid hw2
  have HS2 := Lib.hid (show w.heap.size ≤ w2.heap.size by omega)
  clear d4 hbsz hsz1
  go_loopw [14, 36] (fun _ iv wr => ∃ i : Nat, i ≤ 4 ∧ iv = .int .i64 i ∧ Hid (Vs.MixW w2.heap.size n body i wr) ∧ Hid (Below w.heap.size w wr) ∧ Hid (wr.heap[w1.heap.size]? = some (.cells #[.int .i64 (id : Int), .int .i64 1, .int .i64 (body.length : Int), .int .i64 (loc : Int)] 104 (0, 0)))) (fun _ iv _ => 4 - (intOf iv).toNat)
  case atStart => exact ⟨0, by omega, rfl, HM0, HBW, HNW⟩
  case round =>
    clear HM0 HBW HNW
    obtain ⟨i, hi, rfl, HM, HBR, HNR⟩ := hrel
    by_cases hlt : i < 4
    · obtain ⟨cc, ff⟩ := HM.out i (by omega)
      have hlt' : (i : Int) < (body.length : Int) := by omega
      have HBY := Lib.hid (show ((n : Int) / 2 ^ (8 * i) % 256) = (Pm.byteAt n i : Nat) by
        have := Pm.byte_shift n i
        rw [show (8 * (i : Int)).toNat = 8 * i by omega, IntKind.wrap_u8] at this
        exact this)
      have y1 : IntKind.i64.wrap (8 * (i : Int)) = 8 * (i : Int) := IntWalk.i64_in _ (by omega)
      go_wp2_with fail
      go_roundw
      case rel => exact ⟨i + 1, by omega, by go_num, Lib.hid (by rw [HBY.out]; exact HM.out.step hlt h4), Lib.hid (HBR.out.setCell (p := ⟨w2.heap.size, i, none⟩) HS2.out _), Lib.hid ((heap_setCell_other _ _ _ _ (by have := HW2.out; simp; omega)).trans HNR.out)⟩
      case measure => simp [intOf]; omega
    · obtain rfl : i = 4 := by omega
      have hcv := run_convert_bytes_back (P := Tryz.prog) wr 126 9 5 ⟨w2.heap.size, 0, none⟩ cap (Vs.mixB n body 4) Tryz.underlying126 Tryz.underlying5 Tryz.underlying9 (fun j hj => by
        rw [HL4.out] at hj
        rw [Addr.add_lit, Nat.zero_add, (HM.out j hj).1]
        congr 3
        have hj' : j < (Vs.mixB n body 4).length := by rw [HL4.out]; exact hj
        unfold Cs.byt
        simp [List.getD, hj'])
      rw [HL4.out] at hcv
      have c0 := cell_of_row _ _ 0 _ _ _ HNR.out
      have c1 := cell_of_row _ _ 1 _ _ _ HNR.out
      simp only [List.getElem?_toArray, List.getElem?_cons_zero, List.getElem?_cons_succ] at c0 c1
      rw [show (⟨(Vs.mixB n body 4).toArray⟩ : ByteArray) = bs (Vs.mixB n body 4) from rfl] at hcv
      go_wp2_with fail
      with_reducible refine (CB.out _).mono ?_
      rintro e w5 ⟨rfl, hb5⟩
      go_wp2_with fail
      go_ret2
      exact ⟨rfl, HBR.out.trans (hb5.mono HBR.out.size)⟩
end Go.Proofs.YthkppbimkjmbnaaGreatDoor
