/-
  lossmap.Lost.
-/
import Derived.Test.YtlhechlbmbjffaaDoorJw
import Derived.Test.YtlhechlbmbjffaaDoorJy
import Derived.Test.YtlhechlbmbjffaaDoorJz
namespace Go.Proofs.YtlhechlbmbjffaaDoor
open Go.RowKit Go.Maps
attribute [local go_sem] Oper.semAt_some
namespace Lm
theorem piecesR_len {img : List ByteArray} {fs : List F} (h : fs.all okF = true) (hl : fs.length ≤ 1024) : (piecesR img fs).length ≤ 4194304 := by
  have : ∀ j, j ≤ fs.length → (upTo img fs j).length ≤ 4096 * j := by
    intro j
    induction j with
    | zero => intro _; simp [upTo]
    | succ j ih =>
      intro hj
      have hf := (okF_iff _).1 (all_get (d := f0) h (show j < fs.length by omega))
      have := ih (by omega)
      rw [upTo_succ, List.length_append, Nat.mul_succ]
      have : (fileP img fs j).length ≤ 4096 := by
        unfold fileP
        rw [List.length_map, List.length_range]
        omega
      omega
  have := this fs.length (Nat.le_refl _)
  unfold piecesR
  omega
theorem unbox {p : Prop} (h : Hid p) : p := h.out
theorem chkR_zero {img : List ByteArray} {fs : List F} (h : chkR img fs = 0) : img.length ≤ 4096 ∧ fs.length ≤ 1024 ∧ fs.all okF = true := by
  unfold chkR at h
  split at h
  · cases h
  · split at h
    · cases h
    · split at h
      · rename_i h1 h2 h3
        have h1' : validI img = true := by simpa using h1
        unfold validI at h1'
        simp at h1'
        exact ⟨h1'.1, by omega, h3⟩
      · cases h
theorem Kp.alloc {n₀ B : Nat} (W : World) (o : Obj) (h : n₀ ≤ W.heap.size) : Kp n₀ B W (W.alloc o) :=
  ⟨(Below.refl _ W).alloc h _, by simp, fun k ob _ hk _ => (Below.heap_alloc W o k (Array.getElem?_eq_some_iff.1 hk).1).trans hk, fun k cs T _ hk => (Below.heap_alloc W o k (Array.getElem?_eq_some_iff.1 hk).1).trans hk⟩
theorem OwnL.base {W : World} {B B' : Nat} {v : Value} {l : List L} (h : OwnL W B v l) (hB : B' ≤ B) : OwnL W B' v l := by
  refine ⟨h.1, ?_⟩
  rcases h.2 with h | ⟨g, cap, cur, e, hb, rest⟩
  · exact .inl h
  · exact .inr ⟨g, cap, cur, e, Nat.le_trans hB hb, rest⟩
/-- Between two rounds of Lost. -/
structure LI (w : World) (mb : Nat) (pre : List PB) (W : World) : Prop where
  bel : Below w.heap.size w W
  size : mb + 4 ≤ W.heap.size
  box : W.heap[mb + 1]? = some (.cells #[.map (some mb)] 57 (0, 0))
  map : ∃ n D V, n ≤ pre.length ∧ LMap W mb (mb + 4) n D V (lossM (fun _ => []) (pre.map (·.1)))
theorem LMap.free {W : World} {mb B n r : Nat} {D : DataW Value} {V : ByteArray → Value} {G : ByteArray → List L} (h : LMap W mb B n D V G) {o : Obj} (ho : W.heap[r]? = some o) (hc : o.isCells = false) (p : ByteArray) : (V p).ownBlock = none ∨ (V p).ownBlock ≠ some r := by
  rcases (h.row p).2 with ⟨e, _⟩ | ⟨g2, cap, cur, e, _, hg, _⟩
  · exact .inl (by rw [e]; rfl)
  · refine .inr (fun e2 => ?_)
    rw [e] at e2
    have e' : g2 = r := Option.some.inj e2
    subst e'
    rw [hg] at ho
    cases ho
    cases hc
theorem LI.own (w : World) (mb : Nat) (hmb : w.heap.size ≤ mb) : OwnFrom (mb + 4) (LI w mb) := fun pre W W' row h hg hr => by
  have hne : ∀ k, k < mb + 4 → some k ≠ row := fun k hk e => by have := (hr k e.symm).1; omega
  obtain ⟨n, D, V, hn, hL⟩ := h.map
  refine ⟨h.bel.grown hg (by have := h.bel.size; exact this) (fun k e => by have := (hr k e).1; omega), Nat.le_trans h.size hg.size, (hg.block _ (Array.getElem?_eq_some_iff.1 h.box).1 (hne _ (by omega))).trans h.box, n, D, V, hn, hL.grown hg (hne _ (by omega)) (fun p => ?_)⟩
  cases hrow : row with
  | none => cases (V p).ownBlock <;> simp
  | some r =>
    obtain ⟨_, o, ho, hc⟩ := hr r hrow
    exact hL.free ho hc p
/-- What a round that stores leaves. -/
theorem LI.put {w W Wa W1 W2 : World} {mb n n' : Nat} {D D' : DataW Value} {V V' : ByteArray → Value} {G : ByteArray → List L} {pre : List PB} {x : PB} (pa : ByteArray) (hmb : w.heap.size ≤ mb) (hI : LI w mb pre W) (hL : LMap W mb (mb + 4) n D V G)
    (hA : Below W.heap.size W Wa) (hg1 : Wa.grownBy W1 (V pa).ownBlock) (hg2 : W1.grownBy W2 (some mb)) (hL2 : LMap W2 mb (mb + 4) n' D' V' (lossM (fun _ => []) ((pre ++ [x]).map (·.1)))) (hn : n' ≤ pre.length + 1) :
    KeepsFrom (mb + 4) W W2 ∧ Kp w.heap.size (mb + 4) W W2 ∧ LI w mb (pre ++ [x]) W2 := by
  have own : ∀ r, (V pa).ownBlock = some r → mb + 4 ≤ r ∧ ∃ cur, W.heap[r]? = some (.cells cur 35 (0, 0)) := fun r hr => by
    rcases (hL.row pa).2 with ⟨e, _⟩ | ⟨g2, cap, cur, e, hb, hg, _⟩
    · rw [e] at hr
      cases hr
    · rw [e] at hr
      have e' : g2 = r := Option.some.inj hr
      subst e'
      exact ⟨hb, cur, hg⟩
  have hsz := hI.size
  have keep : ∀ (k : Nat) (o : Obj), k ≠ mb → W.heap[k]? = some o → (∀ cur, o ≠ .cells cur 35 (0, 0)) → W2.heap[k]? = some o := fun k o hk ho hc => by
    have hkW := (Array.getElem?_eq_some_iff.1 ho).1
    have hka := (hA.block k hkW).trans ho
    have hk1 := (hg1.block k (Array.getElem?_eq_some_iff.1 hka).1 (fun e => by
      obtain ⟨_, cur, hcur⟩ := own k e.symm
      rw [ho] at hcur
      exact hc cur (Option.some.inj hcur))).trans hka
    exact (hg2.block k (Array.getElem?_eq_some_iff.1 hk1).1 (fun e => hk (Option.some.inj e))).trans hk1
  have hb : Below w.heap.size W W2 := ((hA.mono (by omega)).grown hg1 (by have := hA.size; omega) (fun r e => by have := (own r e).1; omega)).grown hg2 (by have := hA.size; have := hg1.size; omega) (fun r e => by cases e; exact hmb)
  have hs : W.heap.size ≤ W2.heap.size := hb.size
  refine ⟨⟨hs, fun k o hk ho hc => keep k o (by omega) ho (fun cur e => by rw [e] at hc; cases hc)⟩, ⟨hb, hs, fun k o hk ho hw => keep k o (by omega) ho (fun cur e => by rw [e] at hw; cases hw), fun k cs T hT ho => keep k _ (fun e => ?_) ho (fun cur e => ?_)⟩, hI.bel.trans hb, by omega, keep _ _ (by omega) hI.box (fun cur e => by cases e), n', D', V', by rw [List.length_append]; simpa using hn, hL2⟩
  · subst e
    obtain ⟨es, cl, h1, _⟩ := hL.own
    rw [ho] at h1
    cases h1
  · injection e with _ h2 _
    subst h2
    revert hT
    decide
/-- In a round of Lost, the piece in its box. -/
def LM (w : World) (mb : Nat) (T : Array Value) (pre : List PB) (x : PB) (b : Act) (W : World) : Prop :=
  LI w mb pre W ∧ ∃ g, mb + 4 ≤ g ∧ b = { tmps := (T.setIfInBounds 24 (pV x.1)).setIfInBounds 8 (.pointer (some ⟨g, 0, none⟩)), defers := [] } ∧ W.heap[g]? = some (.cells #[.string x.1.path, .int .i64 x.1.off, .int .i64 x.1.len, .string x.1.data, .bool x.1.ok] 61 (0, 0))
theorem LM.own (w : World) (mb : Nat) (hmb : w.heap.size ≤ mb) (T : Array Value) (pre : List PB) (x : PB) : OwnFrom (mb + 4) (LM w mb T pre x) := fun b W W' row h hg hr => by
  obtain ⟨hI, g, hgB, hb, hx⟩ := h
  refine ⟨LI.own w mb hmb pre W W' row hI hg hr, g, hgB, hb, (hg.block g (Array.getElem?_eq_some_iff.1 hx).1 (fun e => ?_)).trans hx⟩
  obtain ⟨_, o, ho, hc⟩ := hr g e.symm
  rw [hx] at ho
  cases ho
  cases hc
end Lm

/-- 'append(v, nil...)' in a fence's walk. -/
theorem pushLnoneIn {F : Fence} {n : Nat} {W : World} {ops : Array Oper} {rest : List Oper} {o : Oper} {a : Act} {Q : Exit → Act → World → Prop} (hgd : o.guard = none) (s x : Operand)
    (ho : o.op = .call { callee := .builtin .append, args := #[s, x], argTypes := #[27, 27] })
    (base : Nat) (v : Value) (l : List Lm.L) (hs : a.eval s = v) (hown : Lm.OwnL W base v l) (hx : a.eval x = .slice none 0 0)
    (h : wpListIn F n Tryd.prog ops Q rest (a.put o.dst v) W) : wpListIn F n Tryd.prog ops Q (o :: rest) a W := by
  obtain ⟨i, hi, hz0, hz1, hz2⟩ := info_parts lossInfo
  refine wpListIn_plain hgd fun K hK => ?_
  have hrun := run_append_owned_none (P := Tryd.prog) (w := W) base 27 o.type 35 i 3 lossElem hi v l.length (Lm.lsC l) hown
  unfold Oper.wpIn
  refine ⟨?_, ?_⟩
  · simp [Oper.about, ho, resolve, Target.leads, Sem.run_pure]
  · rw [Oper.semAt_plain F _ _ (by rw [ho]; intro c hc'; cases hc')]
    simp only [execOp, ho, resolve, invoke, builtin, Sem.run_bind, Sem.run_pure, Result.andThen_ok, List.map_toArray, List.map_cons, List.map_nil, hs, hx, hrun]
    exact hK _ _ h

set_option maxHeartbeats 12800000 in
set_option maxRecDepth 100000 in
/-- Lost. -/
theorem lost_any (v u : Value) (img : List ByteArray) (fs : List Lm.F) (w : World) (hm : Lm.Strs w v img) (hf : Lm.Files w u fs) (hps : ∀ j, j < fs.length → (fs.getD j Lm.f0).path.size ≤ 500) :
    Calls Tryd.prog 9 #[v, u] w fun e w' => ∃ r, e = .returned (.tuple #[r, .int .i64 (Lm.chkR img fs)]) ∧ Lm.OwnL w' w.heap.size r (if Lm.chkR img fs = 0 then Lm.lostR img fs else []) ∧ Below w.heap.size w w' := by
  have CK := Lib.hid (check_any v u img fs w hm hf)
  have HM := Lib.hid hm
  have HF := Lib.hid hf
  have HPS := Lib.hid hps
  obtain ⟨A, c, rfl, hlc, hcm, _⟩ := hm
  obtain ⟨B, d, rfl, hld, hdm, _⟩ := hf
  rw [Lm.strs_length] at *
  clear hps
  refine (callsIn_wide (n := 6)).1 ?_
  refine callsIn_of_wp_marks Tryd.func9 rfl trivial ?_ rfl
  simp only [Tryd.ntmps9, List.size_toArray, List.length_cons, List.length_nil, Nat.reduceAdd, Nat.reduceSub, Array.replicate_succ, Array.replicate_zero, List.push_toArray, List.append_toArray, List.nil_append, List.cons_append]
  by_cases hc : Lm.chkR img fs = 0
  · have HC := Lib.hid hc
    rw [hc] at CK ⊢
    rw [if_pos rfl]
    clear hc
    have hmm := @run_makeMap Tryd.prog
    gi_wp2
    refine ⟨trivial, ?_⟩
    refine (callsIn_wide.2 CK.out).mono ?_
    rintro e w2 ⟨rfl, hb2⟩
    gi_wp2
    refine ⟨trivial, ?_⟩
    refine (callsIn_wide.2 (pieces_any _ _ _ _ _ _ _)).mono ?_
    rintro e w3 ⟨rfl, hw3⟩
    have HW3 := Lib.hid hw3
    clear hw3
    gi_wp2
    have hw3 := HW3.out
    obtain ⟨h7, h50, hall⟩ := Lm.chkR_zero HC.out
    have hsz2 := hb2.size
    have hsz3 : w3.heap.size = w2.heap.size + 4 := by rw [hw3]; simp
    have hb3 : Below w2.heap.size w2 w3 := by
      rw [hw3]
      exact ((((Below.refl _ w2).alloc (Nat.le_refl _) _).alloc (by simp) _).alloc (by simp <;> omega) _).alloc (by simp <;> omega) _
    have hbw3 : Below w.heap.size w w3 := hb2.trans (hb3.mono hsz2)
    have hx1 : w3.heap[w2.heap.size + 1]? = some (.cells #[.map (some w2.heap.size)] 57 (0, 0)) := by
      rw [hw3]
      refine (Below.heap_alloc _ _ _ (by simp <;> omega)).trans ((Below.heap_alloc _ _ _ (by simp)).trans ?_)
      have := heap_alloc_new (w2.alloc (.map #[] 0)) (.cells #[.map (some w2.heap.size)] 57)
      rwa [World.size_alloc] at this
    have hx2 : w3.heap[w2.heap.size + 1 + 1]? = some (.cells #[.slice A img.length c] 23 (0, 0)) := by
      rw [hw3]
      refine (Below.heap_alloc _ _ _ (by simp)).trans ?_
      have := heap_alloc_new ((w2.alloc (.map #[] 0)).alloc (.cells #[.map (some w2.heap.size)] 57)) (.cells #[.slice A img.length c] 23)
      simpa using this
    have hx3 : w3.heap[w2.heap.size + 1 + 1 + 1]? = some (.cells #[.slice B fs.length d] 24 (0, 0)) := by
      rw [hw3]
      have := heap_alloc_new (((w2.alloc (.map #[] 0)).alloc (.cells #[.map (some w2.heap.size)] 57)).alloc (.cells #[.slice A img.length c] 23)) (.cells #[.slice B fs.length d] 24)
      simpa using this
    have hL0 : Lm.LMap w3 w2.heap.size (w2.heap.size + 4) 0 (.map []) (fun _ => Lm.nilS) (fun _ => []) := by
      rw [hw3]
      exact (((Lm.LMap.made w2 (w2.heap.size + 4) (by omega)).below ((Below.refl _ _).alloc (Nat.le_refl _) _)).below ((Below.refl _ _).alloc (Nat.le_refl _) _)).below ((Below.refl _ _).alloc (Nat.le_refl _) _)
    have hI0 : Lm.LI w w2.heap.size [] w3 := ⟨hbw3, by omega, hx1, 0, _, _, Nat.le_refl _, hL0⟩
    clear hL0
    generalize hmb : w2.heap.size = mb at *
    have hST := pieces_stops 5 (by omega) w.heap.size (mb + 1 + 1) (mb + 1 + 1 + 1) _ _ img fs w3 hbw3.size hx2 hx3 (fun W' h => HM.out.below (hbw3.trans h)) (fun W' h => HF.out.below (hbw3.trans h)) hall h50 h7 HPS.out
    refine Lm.rangeOn rfl (by omega) (gf := 49) (lb := #[.pointer (some ⟨mb + 1 + 1 + 1, 0, none⟩), .pointer (some ⟨mb + 1 + 1, 0, none⟩)]) (by simp [Act.eval]) trivial (enters_of Tryd.func49 (by kernel_rfl) rfl)
      hST (Below.refl _ _) (fun _ => rfl) Lm.Kp.trans (Lm.Kp.putObj hbw3.size) (Lm.LI w mb) (Lm.LM w mb) ?_ ?_ hI0 ?_ ?_ ?_
    · rw [hsz3]; exact Lm.LI.own w mb hsz2
    · rw [hsz3]; exact fun pre x => Lm.LM.own w mb hsz2 _ pre x
    · rintro l pre ⟨p, hp⟩ W hI hlt
      obtain ⟨pa, off, ln, da, ok⟩ := p
      have hbx := heap_alloc_new W (.cells #[.string pa, .int .i64 off, .int .i64 ln, .string da, .bool ok] 61)
      have hIa := (Lm.LI.own w mb hsz2).alloc (.cells #[.string pa, .int .i64 off, .int .i64 ln, .string da, .bool ok] 61) hI
      have hK := Lm.Kp.alloc (n₀ := w.heap.size) (B := w3.heap.size) W (.cells #[.string pa, .int .i64 off, .int .i64 ln, .string da, .bool ok] 61) (Nat.le_trans hsz2 (by have := hI.size; omega))
      dsimp only [Lm.pV]
      gi_wp2
      exact ⟨(KeepsOthers.alloc W _).from _, by first | exact hK | (rw [hsz3] at hK; exact hK) | (rw [← hsz3]; exact hK), hIa, W.heap.size, hI.size, rfl, hbx⟩
    · rintro l pre ⟨⟨pa, off, ln, da, ok⟩, hp⟩ b W ⟨hI, g, hgB, rfl, hx⟩ hlt
      have hplen := Lm.piecesR_len (img := img) hall h50
      dsimp only [Lm.pV]
      have c0 : W.cell? ⟨g, 0, none⟩ = some (.string pa) := Lm.box_cell hx 0
      have c1 : W.cell? ⟨g, 1, none⟩ = some (.int .i64 off) := Lm.box_cell hx 1
      have c2 : W.cell? ⟨g, 2, none⟩ = some (.int .i64 ln) := Lm.box_cell hx 2
      have c4 : W.cell? ⟨g, 4, none⟩ = some (.bool ok) := Lm.box_cell hx 4
      obtain ⟨n, D, V, hn, hL⟩ := hI.map
      cases ok with
      | true =>
        gi_wp2
        exact ⟨KeepsFrom.refl _ _, Lm.Kp.refl _ _ _, hI.bel, hI.size, hI.box, n, D, V, by simp; omega, by
          rw [List.map_append, List.map_cons, List.map_nil, Lm.lossM_snoc, if_pos rfl]
          exact hL⟩
      | false =>
        have cb : W.cell? ⟨mb + 1, 0, none⟩ = some (.map (some mb)) := Lm.box_cell hI.box 0
        obtain ⟨p1, p2, p3, p4, p5, p6⟩ := (Lm.okP_iff _).1 hp
        have hlk := hL.look pa (by have : pa.size ≤ 500 := p1; omega)
        have hrow := hL.row pa
        have HI := Lib.hid hI
        have HX := Lib.hid hx
        have HSN := Lib.hid (Lm.lossM_snoc (pre.map (·.1)) ⟨pa, off, ln, da, false⟩ (fun _ => []))
        have hgl := Lm.lossM_ok (pre.map (·.1)) (fun _ => []) (fun _ => rfl) (by
          rw [List.all_eq_true]
          intro p hp
          obtain ⟨y, _, rfl⟩ := List.mem_map.1 hp
          exact y.2) pa
        have HL := Lib.hid hL
        clear hI hx hL
        generalize hG : Lm.lossM (fun _ => []) (pre.map (·.1)) pa = G at *
        rcases List.eq_nil_or_concat G with rfl | ⟨G', x, rfl⟩
        · obtain ⟨AA, cc, hvv⟩ : ∃ AA cc, V pa = .slice AA 0 cc := by
            rcases hrow.shape with ⟨h, _⟩ | ⟨g2, cap, h, _⟩
            · exact ⟨_, _, h⟩
            · exact ⟨_, _, h⟩
          rw [hvv] at hlk
          have HRW := Lib.hid (hvv ▸ hrow)
          clear hrow
          gi_upto_region 12 with fail
          refine Rd.quiet rfl (by kernel_rfl) (by kernel_rfl) (by kernel_rfl) ?_
          repeat (gi_big_quiet_step (fail))
          refine wpQuietIn_nil ?_
          rintro _ ⟨nq, rfl⟩
          have hbq : Below W.heap.size W (W.drewN nq) := Kit.Below.drewN (Below.refl _ _) nq
          generalize W.drewN nq = Wq at *
          have c0q := (hbq.cell (p := ⟨g, 0, none⟩) (World.block_lt_of_cell? _ _ c0)).trans c0
          have c1q := (hbq.cell (p := ⟨g, 1, none⟩) (World.block_lt_of_cell? _ _ c1)).trans c1
          have c2q := (hbq.cell (p := ⟨g, 2, none⟩) (World.block_lt_of_cell? _ _ c2)).trans c2
          have hba := hbq.alloc hbq.size (.cells #[.string pa, .int .i64 off, .int .i64 ln] 35)
          have HLA := Lib.hid (HL.out.below hba)
          have HOW := Lib.hid (hvv ▸ HLA.out.row pa)
          have HCN := Lib.hid (Lm.newCells Wq #[.string pa, .int .i64 off, .int .i64 ln] 35)
          have HBX := Lib.hid ((hba.cell (p := ⟨mb + 1, 0, none⟩) (World.block_lt_of_cell? _ _ cb)).trans cb)
          have HC0 := Lib.hid ((hba.cell (p := ⟨g, 0, none⟩) (World.block_lt_of_cell? _ _ c0)).trans c0)
          have HBA := Lib.hid hba
          have hsz1 : mb + 4 ≤ (Wq.alloc (.cells #[.string pa, .int .i64 off, .int .i64 ln] 35)).heap.size := Nat.le_trans HI.out.size hba.size
          clear hba c0 c1 c2 c4 cb hlk
          gi_wp2_with (gi_at_builtin; refine Lm.unbox ?_)
          refine Lib.hid ?_
          rw [hG] at HOW
          refine pushLIn rfl _ _ rfl (mb + 4) _ [] [⟨pa, off, ln⟩] rfl HOW.out ⟨Wq.heap.size, 0, none⟩ 1 rfl ?_ (by simp) hsz1 ?_
          · intro j u hj
            rw [Addr.add_lit]
            simp only [Nat.zero_add]
            exact HCN.out j u (by simpa [Lm.lsC, Lm.lC] using hj)
          · intro v' W1 hown' hg1 hat'
            simp only [Nat.reduceSub]
            have hgg : (Wq.alloc (.cells #[.string pa, .int .i64 off, .int .i64 ln] 35)).grownBy W1 (V pa).ownBlock := by rw [hvv]; exact hg1
            have PUT := HLA.out.put pa (by omega) v' _ hgg hown' (by
              rw [hvv]
              rcases hat' with h | h
              · exact .inl h
              · exact .inr ⟨_, h, Nat.le_refl _⟩)
            have d1 := hgg.cell HBX.out (fun e => by have h : mb + 4 ≤ mb + 1 := ((HLA.out.row pa).lt _ e.symm).1; omega)
            have d0 := hgg.cell HC0.out (fun e => (HLA.out.row pa).ne ((HBA.out.block g (Array.getElem?_eq_some_iff.1 HX.out).1).trans HX.out) (by decide) e.symm)
            have HP1 := Lib.hid PUT.1
            have HP2 := Lib.hid PUT.2.1
            have HP3 := Lib.hid PUT.2.2
            have HGG := Lib.hid hgg
            clear PUT hg1 hat' hown' hgg c0q c1q c2q
            gi_wp2_with (gi_at_mapUpdate; refine Lm.unbox ?_)
            refine Lib.hid ?_
            refine wpListIn_mapUpdate_own _ rfl _ _ _ 57 rfl 9 27 (string_keyed Tryd.underlying9) Tryd.underlying57 _ mb n D rfl HP2.out (by unfold maxLen; omega) _ _ (.string pa.data.toList) rfl rfl HP1.out (.held v') [] rfl ?_
            intro W2 ho2 hg2
            simp only [Nat.reduceSub]
            gi_wp2
            have hfin := Lm.LI.put (x := ⟨⟨pa, off, ln, da, false⟩, hp⟩) pa hsz2 HI.out HL.out HBA.out HGG.out hg2 (by
              have h := HP3.out W2 ho2 hg2
              rw [List.map_append, List.map_cons, List.map_nil, HSN.out, if_neg (by decide)]
              exact h) (by omega)
            first | exact hfin | (rw [hsz3]; exact hfin) | (rw [← hsz3] at hfin; exact hfin)
        · rw [List.concat_eq_append] at *
          obtain ⟨xp, xo, xl⟩ := x
          obtain ⟨g2, cap, hvv, hgb, hgl2, hcap, hcm2, e1, e2, ef, eput⟩ := hrow.last
          rw [hvv] at hlk
          have hxok : Lm.okL ⟨xp, xo, xl⟩ = true := by
            have := hgl.1
            rw [List.all_append, Bool.and_eq_true] at this
            simpa using this.2
          obtain ⟨x1, x2, x3, x4⟩ := (Lm.okL_iff _).1 hxok
          have hgl3 : G'.length + 1 ≤ pre.length := by
            have := hgl.2
            simp only [List.length_append, List.length_cons, List.length_nil, List.length_map] at this
            omega
          simp only [] at e1 e2 eput x1 x2 x3 x4 p1 p2 p3 p4
          have HEP := Lib.hid eput
          have HRW := Lib.hid (hvv ▸ hrow)
          clear hrow hgl hxok eput
          by_cases hq : xo + xl = off
          · have q1 : (xo + xl == off) = true := by rw [hq]; exact beq_self_eq_true _
            gi_upto_region 12 with fail
            refine Rd.quiet rfl (by kernel_rfl) (by kernel_rfl) (by kernel_rfl) ?_
            repeat (gi_big_quiet_step (fail))
            refine wpQuietIn_nil ?_
            rintro _ ⟨nq, rfl⟩
            have hbq : Below W.heap.size W (W.drewN nq) := Kit.Below.drewN (Below.refl _ _) nq
            generalize W.drewN nq = Wq at *
            have c0q := (hbq.cell (p := ⟨g, 0, none⟩) (World.block_lt_of_cell? _ _ c0)).trans c0
            have e2q := (hbq.cell (p := ⟨g2, G'.length * 3 + 2, none⟩) hgl2).trans e2
            have efq := (hbq.frozen (p := ⟨g2, G'.length * 3 + 2, none⟩) hgl2).trans ef
            have c1q := (hbq.cell (p := ⟨g, 1, none⟩) (World.block_lt_of_cell? _ _ c1)).trans c1
            have c2q := (hbq.cell (p := ⟨g, 2, none⟩) (World.block_lt_of_cell? _ _ c2)).trans c2
            have HLA := Lib.hid (HL.out.below hbq)
            have HBX := Lib.hid ((hbq.cell (p := ⟨mb + 1, 0, none⟩) (World.block_lt_of_cell? _ _ cb)).trans cb)
            have HBQ := Lib.hid hbq
            clear c0 c1 c2 c4 cb hlk e1 e2 ef hbq
            gi_upto_region 12 with fail
            have hbr' : ∀ j, Below W.heap.size W (Wq.drewN j) := fun j => Kit.Below.drewN HBQ.out j
            have e1r := e2q
            refine Rd.tail (F := Fence.wide) 11 _ rfl rfl (by kernel_rfl) (by kernel_rfl) (by kernel_rfl) rfl (by kernel_rfl) (by kernel_rfl) ?_
            simp only [List.take_succ_cons, List.take_zero]
            repeat (gi_big_quiet_step (fail))
            refine wpQuietIn_nil ?_
            rintro _ ⟨nq2, rfl⟩
            have hbr := hbr' nq2
            clear hbr'
            generalize Wq.drewN nq2 = Wr at *
            have hLr := HL.out.below hbr
            obtain ⟨g3, cap3, hv3, hgb3, hgl3', _, _, _, f2, f3, hput3⟩ := (hG ▸ hLr.row pa).last
            obtain ⟨rfl, rfl⟩ : g2 = g3 ∧ cap = cap3 := by
              rw [hvv] at hv3
              simpa using hv3
            obtain ⟨hput, hgrw⟩ := hput3 (xl + ln)
            have HPU := Lib.hid hput
            have HGR := Lib.hid hgrw
            have HLR := Lib.hid hLr
            have d1 := hgrw.cell (((hbr.cell (p := ⟨mb + 1, 0, none⟩) (World.block_lt_of_cell? _ _ (Lm.box_cell HI.out.box 0))).trans (Lm.box_cell HI.out.box 0)) : Wr.cell? ⟨mb + 1, 0, none⟩ = some (.map (some mb))) (fun e => by have h : mb + 1 = g2 := Option.some.inj e; omega)
            have d0 := hgrw.cell (((hbr.cell (p := ⟨g, 0, none⟩) (World.block_lt_of_cell? _ _ (Lm.box_cell HX.out 0))).trans (Lm.box_cell HX.out 0)) : Wr.cell? ⟨g, 0, none⟩ = some (.string pa)) (fun e => by
              have h : g = g2 := Option.some.inj e
              exact (HL.out.row pa).ne HX.out (by decide) (by rw [hvv, h]; rfl))
            have HBR := Lib.hid hbr
            clear hput hgrw hLr hput3 hbr e2q efq e1r c0q c1q c2q
            have PUT := HLR.out.put pa (by omega) (.slice (some ⟨g2, 0, none⟩) (G'.length + 1) cap) _ (by rw [hvv]; exact HGR.out) HPU.out (by rw [hvv]; exact .inl rfl)
            have HP1 := Lib.hid PUT.1
            have HP2 := Lib.hid PUT.2.1
            have HP3 := Lib.hid PUT.2.2
            clear PUT
            gi_wp2_with (gi_at_mapUpdate; refine Lm.unbox ?_)
            refine Lib.hid ?_
            refine wpListIn_mapUpdate_own _ rfl _ _ _ 57 rfl 9 27 (string_keyed Tryd.underlying9) Tryd.underlying57 _ mb n D rfl HP2.out (by unfold maxLen; omega) _ _ (.string pa.data.toList) rfl rfl HP1.out (.held (.slice (some ⟨g2, 0, none⟩) (G'.length + 1) cap)) [] rfl ?_
            intro W2 ho2 hg2
            gi_wp2
            have hfin := Lm.LI.put (x := ⟨⟨pa, off, ln, da, false⟩, hp⟩) pa hsz2 HI.out HL.out HBR.out (W1 := Wr.setCell ⟨g2, G'.length * 3 + 2, none⟩ (.int .i64 (xl + ln))) (by rw [hvv]; exact HGR.out) hg2 (by
              have h := HP3.out W2 ho2 hg2
              rw [List.map_append, List.map_cons, List.map_nil, HSN.out, if_neg (by decide), Lm.addL_snoc, if_pos hq]
              exact h) (by omega)
            first | exact hfin | (rw [hsz3]; exact hfin) | (rw [← hsz3] at hfin; exact hfin)
          · have q1 : (xo + xl == off) = false := by rw [beq_eq_false_iff_ne]; exact hq
            gi_upto_region 12 with fail
            refine Rd.quiet rfl (by kernel_rfl) (by kernel_rfl) (by kernel_rfl) ?_
            repeat (gi_big_quiet_step (fail))
            refine wpQuietIn_nil ?_
            rintro _ ⟨nq, rfl⟩
            have hbq : Below W.heap.size W (W.drewN nq) := Kit.Below.drewN (Below.refl _ _) nq
            generalize W.drewN nq = Wq at *
            have c0q := (hbq.cell (p := ⟨g, 0, none⟩) (World.block_lt_of_cell? _ _ c0)).trans c0
            have c1q := (hbq.cell (p := ⟨g, 1, none⟩) (World.block_lt_of_cell? _ _ c1)).trans c1
            have c2q := (hbq.cell (p := ⟨g, 2, none⟩) (World.block_lt_of_cell? _ _ c2)).trans c2
            have hba := hbq.alloc hbq.size (.cells #[.string pa, .int .i64 off, .int .i64 ln] 35)
            have HLA := Lib.hid (HL.out.below hba)
            have HOW := Lib.hid (hvv ▸ HLA.out.row pa)
            have HCN := Lib.hid (Lm.newCells Wq #[.string pa, .int .i64 off, .int .i64 ln] 35)
            have HBX := Lib.hid ((hba.cell (p := ⟨mb + 1, 0, none⟩) (World.block_lt_of_cell? _ _ cb)).trans cb)
            have HC0 := Lib.hid ((hba.cell (p := ⟨g, 0, none⟩) (World.block_lt_of_cell? _ _ c0)).trans c0)
            have HBA := Lib.hid hba
            have hsz1 : mb + 4 ≤ (Wq.alloc (.cells #[.string pa, .int .i64 off, .int .i64 ln] 35)).heap.size := Nat.le_trans HI.out.size hba.size
            clear hba c0 c1 c2 c4 cb hlk
            gi_wp2_with (gi_at_builtin; refine Lm.unbox ?_)
            refine Lib.hid ?_
            rw [hG] at HOW
            refine pushLIn rfl _ _ rfl (mb + 4) _ (G' ++ [⟨xp, xo, xl⟩]) [⟨pa, off, ln⟩] (by simp [Act.eval]) HOW.out ⟨Wq.heap.size, 0, none⟩ 1 rfl ?_ (by simp; omega) hsz1 ?_
            · intro j u hj
              rw [Addr.add_lit]
              simp only [Nat.zero_add]
              exact HCN.out j u (by simpa [Lm.lsC, Lm.lC] using hj)
            · intro v' W1 hown' hg1 hat'
              simp only [Nat.reduceSub]
              have hgg : (Wq.alloc (.cells #[.string pa, .int .i64 off, .int .i64 ln] 35)).grownBy W1 (V pa).ownBlock := by rw [hvv]; exact hg1
              have PUT := HLA.out.put pa (by omega) v' _ hgg hown' (by
                rw [hvv]
                rcases hat' with h | h
                · exact .inl h
                · exact .inr ⟨_, h, Nat.le_refl _⟩)
              have d1 := hgg.cell HBX.out (fun e => by have h : mb + 4 ≤ mb + 1 := ((HLA.out.row pa).lt _ e.symm).1; omega)
              have d0 := hgg.cell HC0.out (fun e => (HLA.out.row pa).ne ((HBA.out.block g (Array.getElem?_eq_some_iff.1 HX.out).1).trans HX.out) (by decide) e.symm)
              have HP1 := Lib.hid PUT.1
              have HP2 := Lib.hid PUT.2.1
              have HP3 := Lib.hid PUT.2.2
              have HGG := Lib.hid hgg
              clear PUT hg1 hat' hown' hgg c0q c1q c2q
              gi_wp2_with (gi_at_mapUpdate; refine Lm.unbox ?_)
              refine Lib.hid ?_
              refine wpListIn_mapUpdate_own _ rfl _ _ _ 57 rfl 9 27 (string_keyed Tryd.underlying9) Tryd.underlying57 _ mb n D rfl HP2.out (by unfold maxLen; omega) _ _ (.string pa.data.toList) rfl rfl HP1.out (.held v') [] rfl ?_
              intro W2 ho2 hg2
              simp only [Nat.reduceSub]
              gi_wp2
              have hfin := Lm.LI.put (x := ⟨⟨pa, off, ln, da, false⟩, hp⟩) pa hsz2 HI.out HL.out HBA.out HGG.out hg2 (by
                have h := HP3.out W2 ho2 hg2
                rw [List.map_append, List.map_cons, List.map_nil, HSN.out, if_neg (by decide), Lm.addL_snoc, if_neg hq]
                exact h) (by omega)
              first | exact hfin | (rw [hsz3]; exact hfin) | (rw [← hsz3] at hfin; exact hfin)
    · rintro D ys W hD hys hI hK
      obtain ⟨n, E, V, hn, hL⟩ := hI.map
      rw [hys] at hL
      have hok : ∀ q, (Lm.lossesR img fs q).all Lm.okL = true ∧ (Lm.lossesR img fs q).length ≤ 4194304 := fun q => by
        have h := Lm.lossM_ok (Lm.piecesR img fs) (fun _ => []) (fun _ => rfl) (by
          rw [← hys, List.all_eq_true]
          intro p hp
          obtain ⟨y, _, rfl⟩ := List.mem_map.1 hp
          exact y.2) q
        have h2 := Lm.piecesR_len (img := img) hall h50
        refine ⟨h.1, ?_⟩
        have h3 := h.2
        simp only [List.length_nil, Nat.zero_add] at h3
        exact Nat.le_trans h3 h2
      have HOL := Lib.hid (fun i => Lm.outR_len (fun q => (hok q).2) fs i)
      have HL := Lib.hid (show Lm.LMap W mb (mb + 4) n E V (Lm.lossesR img fs) from hL)
      have HK := Lib.hid hK
      have HI := Lib.hid hI
      have hDW : D < W.heap.size := (Array.getElem?_eq_some_iff.1 hK).1
      have cb : W.cell? ⟨mb + 1, 0, none⟩ = some (.map (some mb)) := Lm.box_cell hI.box 0
      have hszW := hI.size
      obtain ⟨M, hM⟩ : ∃ M, M = Lm.lossesR img fs := ⟨_, rfl⟩
      have HLR := Lib.hid (show Lm.lostR img fs = Lm.outR M fs fs.length by rw [hM]; rfl)
      have HML := Lib.hid (fun q => hM ▸ (hok q).2)
      rw [← hM] at HL HOL
      clear hL hok hI hK hys hST hI0 hx1 hx2 hx3 hb3 hM
      gi_wp2
      gi_loopw [11, 12, 13, 80] (fun ov _ _ iv wr => ∃ i : Nat, i ≤ fs.length ∧ iv = .int .i64 i ∧ Hid (Lm.OwnL wr W.heap.size ov (Lm.outR M fs i)) ∧ Below W.heap.size W wr) (fun _ _ _ iv _ => fs.length - (intOf iv).toNat)
      case atStart => exact ⟨0, Nat.zero_le _, rfl, Lib.hid (Lm.OwnL.nil _ _), Below.refl _ _⟩
      case round =>
        obtain ⟨i, hi, rfl, HOW, hbr⟩ := hrel
        by_cases hlt : i < fs.length
        · obtain ⟨B', d', hv', _, _, hcells⟩ := HF.out.below (HI.out.bel.trans (hbr.mono HI.out.bel.size))
          obtain ⟨bg, bo, rfl, hbl, hc⟩ := hcells (by omega)
          obtain ⟨rfl, _, rfl⟩ : B = some ⟨bg, bo, none⟩ ∧ fs.length = fs.length ∧ d = d' := by simpa using hv'
          clear hv' hcells
          have q0 := hc i hlt 0 _ rfl
          have q1 := hc i hlt 1 _ rfl
          have q2 := hc i hlt 2 _ rfl
          have hwa := (Below.refl wr.heap.size wr).alloc (Nat.le_refl _) (.cells #[.string (fs.getD i Lm.f0).path, .int .i64 (fs.getD i Lm.f0).start, .int .i64 (fs.getD i Lm.f0).len] 41)
          have CI := Lib.hid (indexL_any (.slice (some ⟨bg, bo, none⟩) fs.length d) fs wr.heap.size (fs.getD i Lm.f0).path _ ((HF.out.below (HI.out.bel.trans (hbr.mono HI.out.bel.size))).below hwa) (fun _ => Lm.newCells wr #[.string (fs.getD i Lm.f0).path, .int .i64 (fs.getD i Lm.f0).start, .int .i64 (fs.getD i Lm.f0).len] 41 0 _ rfl))
          have HFI := Lib.hid (fun r h => Lm.first_iff hlt (r := r) h)
          have HOS := Lib.hid (Lm.outR_succ M fs i)
          have hpl := HPS.out i hlt
          have hc0 := Lm.newCells wr #[.string (fs.getD i Lm.f0).path, .int .i64 (fs.getD i Lm.f0).start, .int .i64 (fs.getD i Lm.f0).len] 41 0 _ rfl
          have HW := Lib.hid (show Below W.heap.size W _ from hbr.trans (hwa.mono hbr.size))
          have HOA := Lib.hid (HOW.out.kept (Kit.grown_of_below hwa) (by cases Value.ownBlock _ <;> simp))
          have hol := HOL.out i
          clear hc hwa
          simp only [Nat.add_zero] at q0
          generalize hx : fs.getD i Lm.f0 = x at *
          clear hx
          obtain ⟨pa, st, ln⟩ := x
          simp only [Lm.fC] at *
          gi_wp2
          refine ⟨trivial, ?_⟩
          refine (callsIn_wide.2 CI.out).mono ?_
          rintro e w4 ⟨r, rfl, hr, hb4⟩
          have hri := HFI.out r hr
          have hW4 := HW.out.trans (hb4.mono HW.out.size)
          have hL4 := HL.out.below hW4
          have hlk := hL4.look pa (by omega)
          have c4 := (hW4.cell (p := ⟨mb + 1, 0, none⟩) (World.block_lt_of_cell? _ _ cb)).trans cb
          have c5 := (hb4.cell (p := ⟨wr.heap.size, 0, none⟩) (World.block_lt_of_cell? _ _ hc0)).trans hc0
          have HO4 := Lib.hid (HOA.out.kept (Kit.grown_of_below hb4) (by cases Value.ownBlock _ <;> simp))
          have hrow := hL4.row pa
          have HB4 := Lib.hid hW4
          have hsz4 := hW4.size
          have hmpa := HML.out pa
          clear hr hb4 hL4 hW4 hc0 q0 q1 q2 HOA
          cases hfi : Lm.firstAt fs i with
          | false =>
            have d1 : (r == (i : Int)) = false := by rw [beq_eq_false_iff_ne]; intro e; rw [hfi] at hri; exact absurd (hri ▸ e) (by decide)
            have HN := Lib.hid (show Lm.outR M fs (i + 1) = Lm.outR M fs i by rw [HOS.out, hfi]; simp)
            gi_wp2
            go_roundw
            case rel => exact ⟨i + 1, by omega, by go_num, Lib.hid (by rw [HN.out]; exact HO4.out), HB4.out⟩
            case measure => simp [intOf]; omega
          | true =>
            have d1 : (r == (i : Int)) = true := by rw [beq_iff_eq, hri]; exact hfi
            have HN := Lib.hid (show Lm.outR M fs (i + 1) = Lm.outR M fs i ++ M pa by rw [HOS.out, hfi]; simp)
            clear hri
            rcases hrow.shape with ⟨hv, hmm⟩ | ⟨gp, cp, hv, hgb, hgl, hcp, _⟩
            · rw [hv] at hlk
              gi_wp2_with (gi_at_builtin; refine pushLnoneIn rfl _ _ rfl W.heap.size _ _ rfl HO4.out rfl ?_)
              go_roundw
              case rel => exact ⟨i + 1, by omega, by go_num, Lib.hid (by rw [HN.out, hmm, List.append_nil]; exact HO4.out), HB4.out⟩
              case measure => simp [intOf]; omega
            · rw [hv] at hlk
              have HCL := Lib.hid ((hv ▸ hrow : Lm.OwnL w4 (mb + 4) (.slice (some ⟨gp, 0, none⟩) (M pa).length cp) (M pa)).cells (g := gp) rfl)
              gi_wp2_with (gi_at_builtin; refine Lm.unbox ?_)
              refine Lib.hid ?_
              refine pushLIn rfl _ _ rfl W.heap.size _ _ (M pa) rfl HO4.out ⟨gp, 0, none⟩ cp rfl HCL.out ?_ hsz4 ?_
              · have : 4194304 * i ≤ 4194304 * 1024 := Nat.mul_le_mul_left _ (by omega)
                omega
              · intro v' W1 hown' hg1 hat'
                have HB5 := Lib.hid (HB4.out.grown hg1 hsz4 (fun k hk => (HO4.out.lt k hk).1))
                have HO5 := Lib.hid hown'
                clear hg1 hat' hown'
                gi_wp2
                go_roundw
                case rel => exact ⟨i + 1, by omega, by go_num, Lib.hid (by rw [HN.out]; exact HO5.out), HB5.out⟩
                case measure => simp [intOf]; omega
        · obtain rfl : i = fs.length := by omega
          gi_wp2
          have hK' := (hbr.block D hDW).trans HK.out
          have hput := grownBy_putObj' wr D (.deferred none)
          refine ⟨by simp, .inl ⟨_, _, rfl, run_takeDeferred hK', ?_⟩⟩
          refine ⟨_, results_tmp2 rfl _ _ _, _, rfl, ?_, ?_⟩
          · rw [HLR.out]
            exact Lm.OwnL.base (HOW.out.kept hput (.inr (fun e => by
              have h1 := (HOW.out.lt D e).1
              omega))) HI.out.bel.size
          · exact (HI.out.bel.trans (hbr.mono HI.out.bel.size)).grown hput (Nat.le_trans HI.out.bel.size hbr.size) (fun k e => by cases e; omega)
  · have hne : (Lm.chkR img fs == 0) = false := by rw [beq_eq_false_iff_ne]; exact hc
    rw [if_neg hc]
    clear hc
    generalize Lm.chkR img fs = e0 at *
    gi_wp2
    refine ⟨trivial, ?_⟩
    refine (callsIn_wide.2 CK.out).mono ?_
    rintro e w2 ⟨rfl, hb2⟩
    gi_wp2
    exact ⟨_, results_tmp2 rfl _ _ _, _, rfl, Lm.OwnL.nil _ _, hb2⟩
end Go.Proofs.YtlhechlbmbjffaaDoor
