/-
  Plain: what the statement PartitionmapOrder asks of spans.
-/
import Derived.Test.YtlcdhlfkffkifaaGreatDoorZX
import Derived.Test.YtlcdhlfkffkifaaGreatDoorZS
import Derived.Test.YtlcdhlfkffkifaaGreatDoorZN
import Derived.Test.YtlcdhlfkffkifaaGreatDoorZT
import Derived.Test.YtlcdhlfkffkifaaGreatDoorZM
import Derived.Carry
import Derived.Test.YtlcdhlfkffkifaaGreatDoorZV
namespace Go.Proofs.YtlcdhlfkffkifaaGreatDoor
namespace Pm
theorem Sp.off0 {t : Nat → Int} {l : List (Int × Int)} {n : Nat} (h : Sp t l n) : ∀ k, k ≤ l.length → 0 ≤ off l k := by
  intro k
  induction k with
  | zero => intro _; exact Int.le_refl _
  | succ k ih =>
    intro hk
    have h1 := ih (by omega)
    have h2 := h.cnt k (by omega)
    rw [off_succ (by omega)]
    omega
theorem Sp.le {t : Nat → Int} {l : List (Int × Int)} {n : Nat} (h : Sp t l n) (k : Nat) (hk : k < l.length) : (l.getD k (0, 0)).2 ≤ n := by
  have h1 := h.cnt k hk
  obtain ⟨j, hj, hjn, _⟩ := h.at' k hk ((l.getD k (0, 0)).2 - 1).toNat (by omega)
  have h2 := h.off0 k (by omega)
  omega
theorem Sp.offle {t : Nat → Int} {l : List (Int × Int)} {n : Nat} (h : Sp t l n) (k : Nat) (hk : k < l.length) : off l k + (l.getD k (0, 0)).2 ≤ n := by
  have h1 := h.cnt k hk
  obtain ⟨j, hj, hjn, _⟩ := h.at' k hk ((l.getD k (0, 0)).2 - 1).toNat (by omega)
  omega
theorem spansR_err {m : Mp} {x : X} (h : (spansR m x).2 ≠ 0 ∨ x.kind = 2) : (spansR m x).1 = [] := by
  unfold spansR at h ⊢
  by_cases h0 : ¬ formed1 x = true ∨ x.kind = 3
  · rw [if_pos h0]
  rw [if_neg h0] at h ⊢
  by_cases h2 : x.kind = 2
  · rw [if_pos h2]
  rw [if_neg h2] at h ⊢
  by_cases h7 : 4096 < cnt x.length
  · rw [if_pos h7]
  rw [if_neg h7] at h ⊢
  rcases h with h | h
  · exact spanN_err m x _ 0 [] h
  · exact absurd h h2
theorem order_of {m : Mp} {x : X} {L : List (Int × Int)} (h : spansR m x = (L, 0)) (h2 : ¬ x.kind = 2) (hlen : x.length ≤ 204800) :
    ∃ N : Nat, (N : Int) = cnt x.length ∧ N ≤ 100 ∧ Sp (fun j => (transR m (x.block + j) x.part).1) L N ∧ (∀ j, j < N → (transR m (x.block + j) x.part).2 = 0) ∧ formed1 x = true := by
  unfold spansR at h
  by_cases h0 : ¬ formed1 x = true ∨ x.kind = 3
  · rw [if_pos h0] at h
    simp at h
  rw [if_neg h0, if_neg h2] at h
  have hf : formed1 x = true := by
    by_cases hf : formed1 x = true
    · exact hf
    · exact absurd (Or.inl hf) h0
  have hx := (formed1_iff x).1 hf
  by_cases h7 : 4096 < cnt x.length
  · rw [if_pos h7] at h
    simp at h
  rw [if_neg h7] at h
  have hc : 0 ≤ cnt x.length ∧ cnt x.length ≤ 100 := by unfold cnt; omega
  obtain ⟨a, b⟩ := spanN_sp m x _ 0 [] L h (Sp.nil _)
  rw [Nat.zero_add] at a
  exact ⟨(cnt x.length).toNat, by omega, by omega, a, fun j hj => b j (Nat.zero_le _) (by omega), hf⟩
end Pm
end Go.Proofs.YtlcdhlfkffkifaaGreatDoor

/-
  The walk through the statement PartitionmapOrder: it returns true.
-/
namespace Go.Proofs.YtlcdhlfkffkifaaGreatDoor
open Go.RowKit

set_option maxHeartbeats 25600000 in
set_option maxRecDepth 100000 in
/-- PartitionmapOrder. -/
theorem lawOrder_any (v : Value) (m : Pm.Mp) (v0 v1 v2 v3 v4 : Value) (n4 : Nat) (T : Nat → Value) (x : Pm.X) (w : World) (h : Frame.MapIn w v m v0 v1 v2 v3 v4 n4 T)
    (_ : -9223372036854775808 ≤ x.kind ∧ x.kind ≤ 9223372036854775807) (_ : -9223372036854775808 ≤ x.length ∧ x.length ≤ 9223372036854775807) (_ : -9223372036854775808 ≤ x.block ∧ x.block ≤ 9223372036854775807) (_ : -9223372036854775808 ≤ x.part ∧ x.part ≤ 9223372036854775807)
    (hM : ∃ m : Int, w.cell? ⟨0, 0, none⟩ = some (.int .i64 m)) :
    Calls Tryz.prog 7 #[v, Pm.exV x] w fun e w' => e = .returned (.bool true) ∧ Below w.heap.size w w' := by
  obtain ⟨m0, hM⟩ := hM
  have hval := h.val
  subst hval
  have HI := Lib.hid h
  have hb0 : Below w.heap.size w ((w.alloc (.cells #[v0, .int .i64 m.start, .int .i64 m.count, v1, v2, v3, v4] 41)).alloc (.cells #[.int .i64 x.kind, .int .i64 x.length, .int .i64 x.block, .int .i64 x.part] 49)) := ((Below.refl _ w).alloc (Nat.le_refl _) _).alloc (by simp) _
  have CA := Lib.hid (awake_any _ m0 ((hb0.cell (p := ⟨0, 0, none⟩) (World.block_lt_of_cell? _ _ hM)).trans hM))
  have CF := Lib.hid (fun W hW => few_any (Pm.mpV m v0 v1 v2 v3 v4) m v0 v1 v2 v3 v4 n4 T W hW)
  have CS := Lib.hid (fun W hW ho => spans_any (Pm.mpV m v0 v1 v2 v3 v4) m v0 v1 v2 v3 v4 n4 T x W hW ho)
  have hE := Lib.hid (fun hh => Pm.spansR_err (m := m) (x := x) hh)
  have hOr := Lib.hid (fun L hh h2 h3 => Pm.order_of (m := m) (x := x) (L := L) hh h2 h3)
  obtain ⟨A4, c4, hv4, _⟩ := h.mirror
  subst hv4
  have CT := Lib.hid (fun W (hW : Frame.MapIn W (Pm.mpV m v0 v1 v2 v3 (.slice A4 n4 c4)) m v0 v1 v2 v3 (.slice A4 n4 c4) n4 T) (ho : FewOk m) b h0 h1 => translate_all m v0 v1 v2 v3 A4 n4 c4 T b x.part W ho.few ⟨hW.vat.1, hW.spares⟩ hW.maps ho.maps hW.mdat h0 h1)
  have HBD := Lib.hid (fun (ho : FewOk m) b => Pm.transR_bd m b x.part ho.few.s0 ho.few.s1 ho.few.c1 ho.few.sp)
  obtain ⟨TR, hTR⟩ : ∃ TR : Int → Int × Int, ∀ b, Pm.transR m b x.part = TR b := ⟨fun b => _, fun _ => rfl⟩
  simp only [hTR] at CT HBD hOr
  clear hTR
  obtain ⟨A0, c0, hv0, _⟩ := h.maps.row
  obtain ⟨A1, c1, hv1, _⟩ := h.vat.1
  obtain ⟨A2, c2, hv2, _⟩ := h.spares
  obtain ⟨A3, c3, hv3, _⟩ := h.mdat.row
  subst hv0 hv1 hv2 hv3
  rw [Kit.izs_length] at *
  have HB0 := Lib.hid hb0
  generalize Pm.spansR m x = R at *
  obtain ⟨L, er⟩ := R
  have HFX := Lib.hid (fun hh => (Pm.formed1_iff x).1 hh)
  generalize hfq : Pm.formed1 x = fq at *
  clear hfq
  clear hM h hb0
  unfold Pm.exV at *
  unfold Pm.mpV at *
  obtain ⟨maps, s, n, vat, sps, me⟩ := m
  obtain ⟨k, len, bb, pp⟩ := x
  simp only [] at *
  go_enter Tryz.func7, Tryz.ntmps7
  go_wp2_with fail
  refine CA.out.mono ?_
  rintro e w1 ⟨rfl, hb1⟩
  have h1 := TwoB.of hb1
  have HI1 := Lib.hid ((HI.out.below HB0.out).below hb1)
  have HT1 := Lib.hid h1
  have x0 := h1.c 0 _ rfl
  have x1 := h1.c 1 _ rfl
  have x2 := h1.c 2 _ rfl
  have x3 := h1.c 3 _ rfl
  have x4 := h1.c 4 _ rfl
  have x5 := h1.c 5 _ rfl
  have x6 := h1.c 6 _ rfl
  have a0 := h1.d 0 _ rfl
  have a1 := h1.d 1 _ rfl
  have a2 := h1.d 2 _ rfl
  have a3 := h1.d 3 _ rfl
  clear h1 hb1
  go_wp2_with fail
  refine (CF.out _ HI1.out).mono ?_
  rintro e w2 ⟨bb2, rfl, hf, hb2⟩
  have h2 := HT1.out.below hb2
  have HI2 := Lib.hid (HI1.out.below hb2)
  have HT2 := Lib.hid h2
  clear x0 x1 x2 x3 x4 x5 x6 a0 a1 a2 a3
  have x0 := h2.c 0 _ rfl
  have x1 := h2.c 1 _ rfl
  have x2 := h2.c 2 _ rfl
  have x3 := h2.c 3 _ rfl
  have x4 := h2.c 4 _ rfl
  have x5 := h2.c 5 _ rfl
  have x6 := h2.c 6 _ rfl
  have a0 := h2.d 0 _ rfl
  have a1 := h2.d 1 _ rfl
  have a2 := h2.d 2 _ rfl
  have a3 := h2.d 3 _ rfl
  clear h2 hb2 HI1 HT1 HI HB0
  cases bb2 with
  | false =>
    clear hf
    go_wp2_with fail
    go_ret
    exact ⟨rfl, HT2.out.old⟩
  | true =>
  have HO := Lib.hid (hf rfl)
  clear hf
  by_cases hg : 204800 < len
  · have d0 : decide (204800 < len) = true := decide_eq_true hg
    clear hg
    go_wp2_with fail
    go_ret
    exact ⟨rfl, HT2.out.old⟩
  have d0 : decide (204800 < len) = false := decide_eq_false hg
  go_wp2_with fail
  refine (CS.out _ HI2.out HO.out).mono ?_
  rintro e w3 ⟨u1, rfl, ho1, hb3⟩
  have h3 := HT2.out.below hb3
  have HI3 := Lib.hid (HI2.out.below hb3)
  have HT3 := Lib.hid h3
  have hr1 := ho1.row
  have HRW := Lib.hid hr1
  obtain ⟨AU, cU, rfl, hlU, hcU, hce⟩ := hr1
  have HCE := Lib.hid hce
  unfold maxLen at hcU
  clear x0 x1 x2 x3 x4 x5 x6 a0 a1 a2 a3
  have x0 := h3.c 0 _ rfl
  have x1 := h3.c 1 _ rfl
  have x2 := h3.c 2 _ rfl
  have x3 := h3.c 3 _ rfl
  have x4 := h3.c 4 _ rfl
  have x5 := h3.c 5 _ rfl
  have x6 := h3.c 6 _ rfl
  have a0 := h3.d 0 _ rfl
  have a1 := h3.d 1 _ rfl
  have a2 := h3.d 2 _ rfl
  have a3 := h3.d 3 _ rfl
  clear h3 hb3 ho1 HI2 HT2 hce CS CF CA
  by_cases he : er = 0
  case neg =>
    have hL := hE.out (Or.inl he)
    have de : (er != 0) = true := by rw [bne_iff_ne]; exact he
    subst hL
    clear he hE hOr
    go_wp2_with fail
    go_ret
    exact ⟨rfl, HT3.out.old⟩
  by_cases h2 : k = 2
  case pos =>
    have hL := hE.out (Or.inr h2)
    subst hL
    subst he h2
    clear hE hOr
    go_wp2_with fail
    go_ret
    exact ⟨rfl, HT3.out.old⟩
  subst he
  obtain ⟨N, hN, hN1, hS, hz, hfx⟩ := hOr.out L rfl h2 (by omega)
  have e2 : (k == 2) = false := by rw [beq_eq_false_iff_ne]; exact h2
  obtain ⟨y1, y2, y3, y4, y5, y6, y7, y8⟩ := HFX.out hfx
  have HS := Lib.hid hS
  have HST := Lib.hid (fun (q : Nat) (hq : q < L.length) (d : Nat) (hd : (d : Int) < (L.getD q (0, 0)).2) => (show TR (bb + (Pm.off L q + d)) = ((L.getD q (0, 0)).1 + d, 0) by
    obtain ⟨j, hj, hjn, ht⟩ := hS.at' q hq d hd
    have h1 := hz j hjn
    rw [← hj]
    exact Prod.ext ht h1))
  have HN := Lib.hid hN
  clear hS hz hE hOr HFX h2 hfx
  have CN := Lib.hid (fun W => count_any len (by omega) (by omega) W)
  rw [← HN.out] at CN
  have HBO := Lib.hid (HBD.out HO.out)
  have CTO := Lib.hid (fun W hW b h0 h1 => CT.out W hW HO.out b h0 h1)
  clear HBD CT
  go_wp2_with fail
  clear x0 x1 x2 x3 x4 x5 x6 a0 a1 a2 a3
  go_loopw [7, 8, 9, 10, 11, 12, 41] (fun iv _ _ _ _ _ qv wr => ∃ q : Nat, q ≤ L.length ∧ qv = .int .i64 q ∧ iv = .int .i64 (Pm.off L q) ∧ Below w3.heap.size w3 wr) (fun _ _ _ _ _ _ qv _ => L.length - (intOf qv).toNat)
  case atStart => exact ⟨0, Nat.zero_le _, rfl, rfl, Below.refl _ _⟩
  case round =>
    obtain ⟨q, hq, rfl, rfl, hbw⟩ := hrel
    by_cases hlt : q < L.length
    · have b1 := HS.out.cnt q hlt
      have b2 := HS.out.le q hlt
      have b3 := HS.out.off0 q (by omega)
      have b4 := HS.out.offle q hlt
      have HSTq := Lib.hid (HST.out q hlt)
      have HOFF := Lib.hid (Pm.off_succ hlt)
      have b5 := HBO.out (bb + (Pm.off L q + ((0 : Nat) : Int)))
      rw [HSTq.out 0 (by simp only [Int.natCast_zero]; omega)] at b5
      simp only [Int.natCast_zero, Int.add_zero] at b5
      have hprev : q = 0 ∨ ∃ q1, q = q1 + 1 ∧ q1 < L.length ∧ (L.getD q1 (0, 0)).1 + (L.getD q1 (0, 0)).2 ≠ (L.getD q (0, 0)).1 ∧ (-4398046511104 ≤ (L.getD q1 (0, 0)).1 ∧ (L.getD q1 (0, 0)).1 ≤ 4398046511104) ∧ 1 ≤ (L.getD q1 (0, 0)).2 ∧ (L.getD q1 (0, 0)).2 ≤ N := by
        rcases Nat.eq_zero_or_pos q with h | h
        · exact Or.inl h
        · refine Or.inr ⟨q - 1, by omega, by omega, ?_, ?_, HS.out.cnt _ (by omega), HS.out.le _ (by omega)⟩
          · have := HS.out.gap (q - 1) (by omega)
            rwa [show q - 1 + 1 = q by omega] at this
          · have h1 := HBO.out (bb + (Pm.off L (q - 1) + ((0 : Nat) : Int)))
            have h2 := HS.out.cnt (q - 1) (by omega)
            rw [HST.out (q - 1) (by omega) 0 (by simp only [Int.natCast_zero]; omega)] at h1
            simpa using h1
      obtain ⟨bl, o, rfl, hbl, hc⟩ := HCE.out (by omega)
      have s0' := (hbw.cell (p := ⟨bl, o + q * 2, none⟩) hbl).trans (hc q hlt 0 _ rfl)
      have s1' := (hbw.cell (p := ⟨bl, o + q * 2 + 1, none⟩) hbl).trans (hc q hlt 1 _ rfl)
      have hcp := Lib.hid (fun (q1 : Nat) (h : q1 < L.length) => (⟨(hbw.cell (p := ⟨bl, o + q1 * 2, none⟩) hbl).trans (hc q1 h 0 _ rfl), (hbw.cell (p := ⟨bl, o + q1 * 2 + 1, none⟩) hbl).trans (hc q1 h 1 _ rfl)⟩ : wr.cell? ⟨bl, o + q1 * 2, none⟩ = some (.int .i64 (L.getD q1 (0, 0)).1) ∧ wr.cell? ⟨bl, o + q1 * 2 + 1, none⟩ = some (.int .i64 (L.getD q1 (0, 0)).2)))
      have hq0 : (0 : Int) ≤ (q : Int) := by omega
      have hq1 : (q : Int) < (L.length : Int) := by omega
      have HBW := Lib.hid hbw
      clear hc hbw
      generalize hp : L.getD q (0, 0) = p at *
      clear hp
      generalize Pm.off L q = oq at *
      obtain ⟨p1, p2⟩ := p
      simp only [] at *
      have dc1 : decide (p2 < 1) = false := decide_eq_false (by omega)
      have dc2 : decide (100 < p2) = false := decide_eq_false (by omega)
      rcases hprev with hz | ⟨q1, hqe, hql, hgp, hb1, hb2', hb3'⟩
      · have dq0 : decide (0 < q) = false := decide_eq_false (by omega)
        have e0 : True := trivial
        have e1 : True := trivial
        have dgap : True := trivial
        have hwp : True := trivial
        have hwq : True := trivial
        have g0 : True := trivial
        have g1 : True := trivial
        have e4 : True := trivial
        have e3 : True := trivial
        clear hz hcp
        have n0 : (wr.alloc (.cells #[.int .i64 p1, .int .i64 p2] 37)).cell? ⟨wr.heap.size, 0, none⟩ = some (.int .i64 p1) := by
          rw [World.cell?_alloc_at _ _ _ _ (by simp)]
          rfl
        have n1 : (wr.alloc (.cells #[.int .i64 p1, .int .i64 p2] 37)).cell? ⟨wr.heap.size, 1, none⟩ = some (.int .i64 p2) := by
          rw [World.cell?_alloc_at _ _ _ _ (by simp)]
          rfl
        go_wp2_with fail
        go_quiet (fail)
        clear n0 n1
        have s0 : ((wr.alloc (.cells #[.int .i64 p1, .int .i64 p2] 37)).drewN nq).cell? ⟨wr.heap.size, 0, none⟩ = some (.int .i64 p1) := by
          show (wr.alloc (.cells #[.int .i64 p1, .int .i64 p2] 37)).cell? ⟨wr.heap.size, 0, none⟩ = _
          rw [World.cell?_alloc_at _ _ _ _ (by simp)]
          rfl
        have s1 : ((wr.alloc (.cells #[.int .i64 p1, .int .i64 p2] 37)).drewN nq).cell? ⟨wr.heap.size, 1, none⟩ = some (.int .i64 p2) := by
          show (wr.alloc (.cells #[.int .i64 p1, .int .i64 p2] 37)).cell? ⟨wr.heap.size, 1, none⟩ = _
          rw [World.cell?_alloc_at _ _ _ _ (by simp)]
          rfl
        have hgb : wr.heap.size < ((wr.alloc (.cells #[.int .i64 p1, .int .i64 p2] 37)).drewN nq).heap.size := by show wr.heap.size < (wr.alloc (.cells #[.int .i64 p1, .int .i64 p2] 37)).heap.size; simp
        have HB := Lib.hid (Kit.Below.drewN (HBW.out.alloc HBW.out.size (.cells #[.int .i64 p1, .int .i64 p2] 37)) nq)
        clear HBW e0 e1 e4 e3 dgap hwp hwq dq0 g0 g1
        generalize (wr.alloc (.cells #[.int .i64 p1, .int .i64 p2] 37)).drewN nq = wB at *
        generalize wr.heap.size = gb at *
        go_wp2_with fail
        clear s0' s1'
        go_loopw [7, 10, 11, 12] (fun iv lv _ _ wr2 => ∃ d : Nat, (d : Int) ≤ p2 ∧ lv = .int .i64 (p1 + (d : Int)) ∧ iv = .int .i64 (oq + (d : Int)) ∧ Below wB.heap.size wB wr2) (fun _ lv _ _ _ => (p1 + p2 - intOf lv).toNat)
        case atStart => exact ⟨0, by omega, by simp, by simp, Below.refl _ _⟩
        case round =>
          obtain ⟨d, hd, rfl, rfl, hb2⟩ := hrel
          have t0 := (hb2.cell (p := ⟨gb, 0, none⟩) hgb).trans s0
          have t1 := (hb2.cell (p := ⟨gb, 1, none⟩) hgb).trans s1
          have hbb := HB.out.trans (hb2.mono HB.out.size)
          by_cases hdl : (d : Int) < p2
          · have C := CTO.out wr (HI3.out.below hbb) (bb + (oq + (d : Int))) (by omega) (by omega)
            rw [HSTq.out d hdl] at C
            have CC := Lib.hid C
            have hT := HT3.out.below hbb
            have x0 := hT.c 0 _ rfl
            have x1 := hT.c 1 _ rfl
            have x2 := hT.c 2 _ rfl
            have x3 := hT.c 3 _ rfl
            have x4 := hT.c 4 _ rfl
            have x5 := hT.c 5 _ rfl
            have x6 := hT.c 6 _ rfl
            have a2 := hT.d 2 _ rfl
            have a3 := hT.d 3 _ rfl
            have dA : decide ((d : Int) < p2) = true := decide_eq_true hdl
            have dB : decide (p1 + (d : Int) < p1 + p2) = true := decide_eq_true (by omega)
            have HB2 := Lib.hid hb2
            clear hT C hbb hb2
            go_wp2_with fail
            refine CC.out.mono ?_
            rintro e w5 ⟨rfl, hb5⟩
            go_wp2_with fail
            go_roundw
            case rel => exact ⟨d + 1, by omega, by go_num, by go_num, HB2.out.trans (hb5.mono HB2.out.size)⟩
            case measure => simp [intOf]; omega
          · have hde : (d : Int) = p2 := by omega
            have dA : decide ((d : Int) < p2) = false := decide_eq_false hdl
            have dB : decide (p1 + (d : Int) < p1 + p2) = false := decide_eq_false (by omega)
            have HDE := Lib.hid hde
            have HBB := Lib.hid hbb
            clear hde hbb hb2
            go_wp2_with fail
            go_roundw
            case rel => exact ⟨q + 1, by omega, by go_num, by rw [HOFF.out, HDE.out], HBB.out⟩
            case measure => simp [intOf]; omega
      · have dq0 : decide (0 < q) = true := decide_eq_true (by omega)
        obtain ⟨e0, e1⟩ := hcp.out q1 hql
        have g0 : (0 : Int) ≤ (q1 : Int) := by omega
        have g1 : (q1 : Int) < (L.length : Int) := by omega
        have hwq0 := IntWalk.i64_in ((q : Int) - 1) (by omega)
        have hwq : IntKind.i64.wrap ((q : Int) - 1) = (q1 : Int) := by rw [hwq0]; omega
        clear hwq0
        generalize L.getD q1 (0, 0) = pp1 at *
        obtain ⟨r1, r2⟩ := pp1
        simp only [] at *
        have hwp : IntKind.i64.wrap (r1 + r2) = r1 + r2 := IntWalk.i64_in _ (by omega)
        have dgap : (r1 + r2 == p1) = false := by rw [beq_eq_false_iff_ne]; exact hgp
        have hblw : bl < wr.heap.size := Nat.lt_of_lt_of_le hbl HBW.out.size
        have e4 := (((Below.refl wr.heap.size wr).alloc (Nat.le_refl _) (.cells #[.int .i64 p1, .int .i64 p2] 37)).cell (p := ⟨bl, o + q1 * 2, none⟩) hblw).trans e0
        have e3 := (((Below.refl wr.heap.size wr).alloc (Nat.le_refl _) (.cells #[.int .i64 p1, .int .i64 p2] 37)).cell (p := ⟨bl, o + q1 * 2 + 1, none⟩) hblw).trans e1
        clear hcp hgp hqe hql
        have n0 : (wr.alloc (.cells #[.int .i64 p1, .int .i64 p2] 37)).cell? ⟨wr.heap.size, 0, none⟩ = some (.int .i64 p1) := by
          rw [World.cell?_alloc_at _ _ _ _ (by simp)]
          rfl
        have n1 : (wr.alloc (.cells #[.int .i64 p1, .int .i64 p2] 37)).cell? ⟨wr.heap.size, 1, none⟩ = some (.int .i64 p2) := by
          rw [World.cell?_alloc_at _ _ _ _ (by simp)]
          rfl
        go_wp2_with fail
        go_quiet (fail)
        clear n0 n1
        have s0 : ((wr.alloc (.cells #[.int .i64 p1, .int .i64 p2] 37)).drewN nq).cell? ⟨wr.heap.size, 0, none⟩ = some (.int .i64 p1) := by
          show (wr.alloc (.cells #[.int .i64 p1, .int .i64 p2] 37)).cell? ⟨wr.heap.size, 0, none⟩ = _
          rw [World.cell?_alloc_at _ _ _ _ (by simp)]
          rfl
        have s1 : ((wr.alloc (.cells #[.int .i64 p1, .int .i64 p2] 37)).drewN nq).cell? ⟨wr.heap.size, 1, none⟩ = some (.int .i64 p2) := by
          show (wr.alloc (.cells #[.int .i64 p1, .int .i64 p2] 37)).cell? ⟨wr.heap.size, 1, none⟩ = _
          rw [World.cell?_alloc_at _ _ _ _ (by simp)]
          rfl
        have hgb : wr.heap.size < ((wr.alloc (.cells #[.int .i64 p1, .int .i64 p2] 37)).drewN nq).heap.size := by show wr.heap.size < (wr.alloc (.cells #[.int .i64 p1, .int .i64 p2] 37)).heap.size; simp
        have HB := Lib.hid (Kit.Below.drewN (HBW.out.alloc HBW.out.size (.cells #[.int .i64 p1, .int .i64 p2] 37)) nq)
        clear HBW e0 e1 e4 e3 dgap hwp hwq dq0 g0 g1
        generalize (wr.alloc (.cells #[.int .i64 p1, .int .i64 p2] 37)).drewN nq = wB at *
        generalize wr.heap.size = gb at *
        go_wp2_with fail
        clear s0' s1'
        go_loopw [7, 10, 11, 12] (fun iv lv _ _ wr2 => ∃ d : Nat, (d : Int) ≤ p2 ∧ lv = .int .i64 (p1 + (d : Int)) ∧ iv = .int .i64 (oq + (d : Int)) ∧ Below wB.heap.size wB wr2) (fun _ lv _ _ _ => (p1 + p2 - intOf lv).toNat)
        case atStart => exact ⟨0, by omega, by simp, by simp, Below.refl _ _⟩
        case round =>
          obtain ⟨d, hd, rfl, rfl, hb2⟩ := hrel
          have t0 := (hb2.cell (p := ⟨gb, 0, none⟩) hgb).trans s0
          have t1 := (hb2.cell (p := ⟨gb, 1, none⟩) hgb).trans s1
          have hbb := HB.out.trans (hb2.mono HB.out.size)
          by_cases hdl : (d : Int) < p2
          · have C := CTO.out wr (HI3.out.below hbb) (bb + (oq + (d : Int))) (by omega) (by omega)
            rw [HSTq.out d hdl] at C
            have CC := Lib.hid C
            have hT := HT3.out.below hbb
            have x0 := hT.c 0 _ rfl
            have x1 := hT.c 1 _ rfl
            have x2 := hT.c 2 _ rfl
            have x3 := hT.c 3 _ rfl
            have x4 := hT.c 4 _ rfl
            have x5 := hT.c 5 _ rfl
            have x6 := hT.c 6 _ rfl
            have a2 := hT.d 2 _ rfl
            have a3 := hT.d 3 _ rfl
            have dA : decide ((d : Int) < p2) = true := decide_eq_true hdl
            have dB : decide (p1 + (d : Int) < p1 + p2) = true := decide_eq_true (by omega)
            have HB2 := Lib.hid hb2
            clear hT C hbb hb2
            go_wp2_with fail
            refine CC.out.mono ?_
            rintro e w5 ⟨rfl, hb5⟩
            go_wp2_with fail
            go_roundw
            case rel => exact ⟨d + 1, by omega, by go_num, by go_num, HB2.out.trans (hb5.mono HB2.out.size)⟩
            case measure => simp [intOf]; omega
          · have hde : (d : Int) = p2 := by omega
            have dA : decide ((d : Int) < p2) = false := decide_eq_false hdl
            have dB : decide (p1 + (d : Int) < p1 + p2) = false := decide_eq_false (by omega)
            have HDE := Lib.hid hde
            have HBB := Lib.hid hbb
            clear hde hbb hb2
            go_wp2_with fail
            go_roundw
            case rel => exact ⟨q + 1, by omega, by go_num, by rw [HOFF.out, HDE.out], HBB.out⟩
            case measure => simp [intOf]; omega
    · obtain rfl : q = L.length := by omega
      have hT := HT3.out.below hbw
      have a1 := hT.d 1 _ rfl
      have HTE := Lib.hid hT
      clear hT
      rw [HS.out.sum]
      go_wp2_with fail
      refine (CN.out _).mono ?_
      rintro e w4 ⟨rfl, rfl⟩
      go_wp2_with fail
      go_ret
      exact ⟨by simp, HTE.out.old⟩
end Go.Proofs.YtlcdhlfkffkifaaGreatDoor

/-
  YtlcdhlfkffkifaaGreatDoor: the statement PartitionmapOrder: for every input the law returns true. No condition beside the row's own.
-/
namespace Go.Proofs.YtlcdhlfkffkifaaGreatDoor.partitionmapOrder
open Go.ChangeShapes Go.WideShapes Go.ChangeAt Go.RowKit
open Go.ChangeMaps (open_string shut_string)
set_option linter.unusedVariables false

set_option maxRecDepth 100000 in
theorem contract (H : Type) (enc : TypeId × Value → H) (W : World) (base : Nat) (args : Array Value) (ds gs : List (DataW H)) (before : List MemPlace)
    (hval : ∀ (j : Nat) t v, Tryz.f7.params[j]? = some t → args[j]? = some v → Value.okWide Tryz.prog W .any base t v)
    (hW : DataW.Whole enc Tryz.prog Tryz.f7.params.toList Rows.partitionmapOrderSpec.vars false W args.toList ds gs before) (hL : laidMetH Tryz.prog Rows.partitionmapOrderRow.laid W) (hSh : W.ShapedOpen Tryz.prog) :
    Calls Tryz.prog 7 args W fun e W' => ∃ v, e = .returned v ∧ Rows.partitionmapOrderSpec.post enc Tryz.prog Tryz.f7 false true false false W args v W' := by
  have hW' := hW
  obtain ⟨p, q, hA0, hV, rfl, hfz, hnd⟩ := hW
  have hA : DataW.TrodAll enc Tryz.prog W 0 (fun _ => true) true Tryz.f7.params.toList args.toList ds p := hA0
  rw [Tryz.params7] at hA hval
  obtain ⟨v0, vs0, d0, ds0, p0, q0, hargs, rfl, rfl, h0, r0⟩ := trodAll_cons hA
  obtain ⟨v1, vs1, d1, ds1, p1, q1, rfl, rfl, rfl, h1, r1⟩ := trodAll_cons r0
  obtain ⟨rfl, rfl, rfl⟩ := trodAll_nil r1
  obtain rfl : args = #[v0, v1] := by cases args; simp_all
  obtain ⟨rfl, rfl⟩ := trodVars_none hV
  have h0k := h0
  obtain ⟨m0, u0_0, u1_0, u2_0, u3_0, u4_0, n4_0, T0, hm0⟩ := Frame.open_mapping W v0 d0 p0 (hval 0 41 v0 rfl rfl) h0
  have hlt0 : ∀ x ∈ p0, x.block < W.heap.size := fun x hx => by simpa using hW'.lt x (by simp [hx])
  have h1k := h1
  obtain ⟨x1, rfl, hk1, hl1, hb1, hp1⟩ := Frame.open_extent W v1 d1 p1 (hval 1 49 v1 rfl rfl) h1
  have hlt1 : ∀ x ∈ p1, x.block < W.heap.size := fun x hx => by simpa using hW'.lt x (by simp [hx])
  clear hA0
  refine (lawOrder_any v0 m0 u0_0 u1_0 u2_0 u3_0 u4_0 n4_0 T0 x1 W hm0 hk1 hl1 hb1 hp1 (Frame.maxlen hSh)).mono fun e W' ⟨he, bel⟩ => ?_
  subst he
  exact ⟨_, rfl, _, _, _, [], _, [], hW', trodAll_mk1 (shut_bool Tryz.underlying4 _), (trodAll_cons_mk (Below.trod Frame.laidOut (by kernel_rfl) (of_decide_eq_true (by kernel_rfl)) h0k bel hlt0) (trodAll_cons_mk (Below.trod Frame.laidOut (by kernel_rfl) (of_decide_eq_true (by kernel_rfl)) h1k bel hlt1) trodAll_mk0)), rfl, bel.frame _, fun h => by cases h⟩

theorem laid_met (os : Os) : laidMet Tryz.prog Rows.partitionmapOrderRow.laid ((Frame.world os).forCall (fun _ _ => 0) ⟨#[], #[.agg #[.slice none 0 0, .int .i64 0, .int .i64 0, .slice none 0 0, .slice none 0 0, .slice none 0 0, .slice none 0 0], .agg #[.int .i64 0, .int .i64 0, .int .i64 0, .int .i64 0]], []⟩).memory :=
  laidMet_of_run' 8 (by kernel_rfl) (by kernel_rfl)
theorem reads (os : Os) {H : Type} (enc : TypeId × Value → H) : ∃ places, DataW.whole enc Tryz.prog ((Frame.world os).forCall (fun _ _ => 0) ⟨#[], #[.agg #[.slice none 0 0, .int .i64 0, .int .i64 0, .slice none 0 0, .slice none 0 0, .slice none 0 0, .slice none 0 0], .agg #[.int .i64 0, .int .i64 0, .int .i64 0, .int .i64 0]], []⟩).memory Tryz.f7.params.toList Rows.partitionmapOrderSpec.vars false (#[.agg #[.slice none 0 0, .int .i64 0, .int .i64 0, .slice none 0 0, .slice none 0 0, .slice none 0 0, .slice none 0 0], .agg #[.int .i64 0, .int .i64 0, .int .i64 0, .int .i64 0]] : Array Value).toList 8 = some ([.agg [.nil, .agg [.lit (.int .i64 0), .lit (.int .i64 0)], .nil, .nil, .nil, .nil], .agg [.lit (.int .i64 0), .lit (.int .i64 0), .agg [.lit (.int .i64 0), .lit (.int .i64 0)]]], [], places) :=
  ⟨[], by kernel_rfl⟩

set_option maxRecDepth 100000 in
theorem lifted (os : Os) (started : os.Started) (H : Type) (enc : TypeId × Value → H) (F : Stop.Interp) :
    ReturnsInHanded {} Tryz.checked os 7 .any ((OpenSpec.ofChange Rows.partitionmapOrderSpec).preRow enc Tryz.prog Tryz.f7 Rows.partitionmapOrderRow.domain false Rows.partitionmapOrderRow.laid) (((OpenSpec.ofChange Rows.partitionmapOrderSpec).at F).post enc Tryz.prog Tryz.f7 false true false false) := by
  obtain ⟨places, hx⟩ := reads os enc
  refine returnsInHanded_of_row (C := Tryz.checked) (s := OpenSpec.ofChange Rows.partitionmapOrderSpec) Frame.own started (by kernel_rfl) Tryz.func7
    (witness_row_at (enc := enc) (C := Tryz.checked) false (Frame.world os) #[.agg #[.slice none 0 0, .int .i64 0, .int .i64 0, .slice none 0 0, .slice none 0 0, .slice none 0 0, .slice none 0 0], .agg #[.int .i64 0, .int .i64 0, .int .i64 0, .int .i64 0]] rfl (by kernel_rfl) (by kernel_rfl) (by kernel_rfl)
      (OpenSpec.preRow_of_cond 8 hx (by kernel_rfl) (fun k hk => by cases hk) (by kernel_rfl) (laid_met os))) ?_
  intro W base args ds gs before hval hW _ _ _ hL hSh _
  exact contract H enc W base args ds gs before hval hW hL hSh

theorem said : Rows.PartitionmapOrderSaid :=
  OpenClaim.holds_of_cond 7 Tryz.f7 rfl rfl rfl rfl rfl rfl rfl ⟨rfl, rfl, rfl, rfl, rfl⟩ rfl rfl rfl rfl rfl (by kernel_rfl) Tryz.func7 (by kernel_rfl)
    (of_decide_eq_true (by kernel_rfl)) (by unfold Func.isWrapper; first | (rw [if_pos (by decide +kernel)]; kernel_rfl) | (rw [if_neg (by decide +kernel)]; exact ⟨rfl, rfl⟩))
    (fun os started H enc _ F => by rw [OpenClaim.pre_eq_preRow]; exact lifted os started H enc F)

/-- No parameter wants a stand-in; the program's own looks are off: what the card asks. -/
theorem plain (f : FuncId) (fn : Func) (hf : Tryz.pinned.checked.prog.funcNamed "masterdisc/masterdisclaw37.PartitionmapOrder" = some f) (hfn : Tryz.pinned.checked.prog.funcs[f]? = some fn) :
    false = Tryz.pinned.checked.prog.looks [] ∧ ∀ (j : Nat) t, fn.params[j]? = some t → Tryz.pinned.checked.prog.wantsStandIn t = false := by
  obtain rfl : f = 7 := Option.some.inj ((show Tryz.prog.funcNamed "masterdisc/masterdisclaw37.PartitionmapOrder" = some 7 by kernel_rfl).symm.trans hf) |>.symm
  obtain rfl : fn = Tryz.f7 := (Option.some.inj (Tryz.func7.symm.trans hfn)).symm
  refine ⟨by kernel_rfl, fun j t ht => ?_⟩
  rw [Tryz.params7] at ht
  have hm := Array.mem_of_getElem? ht
  simp only [List.mem_toArray, List.mem_cons, List.not_mem_nil, or_false] at hm
  rcases hm with rfl | rfl
  · exact (show Tryz.prog.wantsStandIn 41 = false by kernel_rfl)
  · exact (show Tryz.prog.wantsStandIn 49 = false by kernel_rfl)

/-- ████ THE CARD ████ -/
theorem card : Rows.PartitionmapOrderCardSaid :=
  Claim7.holds_tied_plain_at .later [] _ _ _ _ said (fun _ h => by cases h) (by kernel_rfl) (fun _ h => by cases h) partitionmapOrder_row_tie rfl ⟨rfl, rfl⟩ (by kernel_rfl) rfl plain (by kernel_rfl)
#print axioms card
end Go.Proofs.YtlcdhlfkffkifaaGreatDoor.partitionmapOrder
