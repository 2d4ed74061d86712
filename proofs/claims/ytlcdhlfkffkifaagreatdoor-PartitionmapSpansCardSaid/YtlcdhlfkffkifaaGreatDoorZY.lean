/-
  The walk through masterdiscref37.Spans.
-/
import Derived.Test.YtlcdhlfkffkifaaGreatDoorZX
import Derived.Test.YtlcdhlfkffkifaaGreatDoorZT
import Derived.Test.YtlcdhlfkffkifaaGreatDoorZI
namespace Go.Proofs.YtlcdhlfkffkifaaGreatDoor
open Go.RowKit
attribute [local go_sem ↓] Go.wp_at_zero Go.wp_at_succ
theorem ownS_empty (W : World) (g : Nat) (hg : g = W.heap.size) : Pm.OwnS (W.alloc (.cells #[] 37)) W.heap.size (.slice (some ⟨g, 0, none⟩) 0 0) [] := by
  subst hg
  exact ⟨rfl, Or.inr ⟨W.heap.size, 0, #[], rfl, Nat.le_refl _, heap_alloc_new W _, Nat.le_refl _, by unfold maxLen; omega, rfl, rfl⟩⟩

set_option maxHeartbeats 25600000 in
set_option maxRecDepth 100000 in
/-- masterdiscref37.Spans. -/
theorem rSpans_any (v : Value) (m : Pm.Mp) (v0 v1 v2 v3 v4 : Value) (n4 : Nat) (T : Nat → Value) (x : Pm.X) (w : World) (h : Frame.MapIn w v m v0 v1 v2 v3 v4 n4 T) (ho : FewOk m) :
    Calls Tryz.prog 25 #[v, Pm.exV x] w (SpanP w (Pm.spansR m x)) := by
  have hval := h.val
  subst hval
  have HI := Lib.hid h
  have HO := Lib.hid ho
  obtain ⟨A4, c4, hv4, _⟩ := h.mirror
  subst hv4
  have CT := Lib.hid (fun W (hW : Frame.MapIn W (Pm.mpV m v0 v1 v2 v3 (.slice A4 n4 c4)) m v0 v1 v2 v3 (.slice A4 n4 c4) n4 T) b h0 h1 => rTranslate_any m v0 v1 v2 v3 A4 n4 c4 T b x.part W ho.few ⟨hW.vat.1, hW.spares⟩ hW.maps ho.maps hW.mdat h0 h1)
  have HBD := Lib.hid (fun b => Pm.transR_bd m b x.part ho.few.s0 ho.few.s1 ho.few.c1 ho.few.sp)
  obtain ⟨A0, c0, hv0, _⟩ := h.maps.row
  obtain ⟨A1, c1, hv1, _⟩ := h.vat.1
  obtain ⟨A2, c2, hv2, _⟩ := h.spares
  obtain ⟨A3, c3, hv3, _⟩ := h.mdat.row
  subst hv0 hv1 hv2 hv3
  rw [Kit.izs_length] at *
  have hfm : Pm.formed [x] = Pm.formed1 x := by simp [Pm.formed]
  have CE := Lib.hid (fun W v h => rFormed_any v [x] W h)
  rw [hfm] at CE
  clear hfm
  have HEX := Lib.hid (fun W g hg => extOne W x g hg)
  have HR := Lib.hid (show Pm.spansR m x = if ¬ Pm.formed1 x = true ∨ x.kind = 3 then ([], 1) else if x.kind = 2 then ([], 0) else if 4096 < Pm.cnt x.length then ([], 7) else Pm.spanN m x (Pm.cnt x.length).toNat 0 [] from rfl)
  have hT0 := fun (T U : TypeId) => TwoB.new w #[.slice A0 m.maps.length c0, .int .i64 m.start, .int .i64 m.count, .slice A1 m.vat.length c1, .slice A2 m.spares.length c2, .slice A3 m.mdat.length c3, .slice A4 n4 c4] #[.int .i64 x.kind, .int .i64 x.length, .int .i64 x.block, .int .i64 x.part] T U
  have HT0 := Lib.hid (hT0 41 49)
  clear h ho hT0
  cases hfx : Pm.formed1 x with
  | false =>
    have HQ := Lib.hid (HR.out.trans (if_pos (Or.inl (by rw [hfx]; decide))))
    rw [hfx] at CE
    clear HR CT HBD hfx HO
    generalize Pm.spansR m x = R at *
    unfold Pm.exV
    unfold Pm.mpV at *
    obtain ⟨k, n, bb, pp⟩ := x
    obtain ⟨maps, s, c, vat, sps, me⟩ := m
    simp only [] at *
    go_enter Tryz.func25, Tryz.ntmps25
    go_wp2_with fail
    with_reducible refine (CE.out _ _ (HEX.out _ _ (by simp))).mono ?_
    rintro e w2 ⟨rfl, hb2⟩
    have HT2 := Lib.hid ((HT0.out.below ((Below.refl _ _).alloc (Nat.le_refl _) _)).below hb2)
    clear hb2
    go_wp2_with fail
    go_ret2
    exact SpanP.mk' _ [] 1 rfl HQ.out (Pm.OwnS.nil _ _) HT2.out.old
  | true =>
  have hx := (Pm.formed1_iff x).1 hfx
  rw [hfx] at CE
  have HR1 := Lib.hid (fun (h3 : ¬ x.kind = 3) => HR.out.trans (if_neg (by rw [hfx]; simp [h3])))
  have HR3 := Lib.hid (fun (h3 : x.kind = 3) => HR.out.trans (if_pos (Or.inr h3)))
  clear HR hfx
  by_cases k3 : x.kind = 3
  · have HQ := Lib.hid (HR3.out k3)
    clear HR1 HR3 CT HBD HO
    generalize Pm.spansR m x = R at *
    unfold Pm.exV
    unfold Pm.mpV at *
    obtain ⟨k, n, bb, pp⟩ := x
    obtain ⟨maps, s, c, vat, sps, me⟩ := m
    simp only [] at *
    subst k3
    clear hx
    go_enter Tryz.func25, Tryz.ntmps25
    go_wp2_with fail
    with_reducible refine (CE.out _ _ (HEX.out _ _ (by simp))).mono ?_
    rintro e w2 ⟨rfl, hb2⟩
    have hT := (HT0.out.below ((Below.refl _ _).alloc (Nat.le_refl _) _)).below hb2
    have a0 := hT.d 0 _ rfl
    have HT2 := Lib.hid hT
    clear hb2 hT
    go_wp2_with fail
    go_ret2
    exact SpanP.mk' _ [] 1 rfl HQ.out (Pm.OwnS.nil _ _) HT2.out.old
  have HR := Lib.hid (HR1.out k3)
  clear HR1 HR3
  have e3 : (x.kind == 3) = false := by rw [beq_eq_false_iff_ne]; exact k3
  by_cases k2 : x.kind = 2
  · have HQ := Lib.hid (HR.out.trans (if_pos k2))
    clear HR CT HBD HO k3
    generalize Pm.spansR m x = R at *
    unfold Pm.exV
    unfold Pm.mpV at *
    obtain ⟨k, n, bb, pp⟩ := x
    obtain ⟨maps, s, c, vat, sps, me⟩ := m
    simp only [] at *
    subst k2
    clear hx e3
    go_enter Tryz.func25, Tryz.ntmps25
    go_wp2_with fail
    with_reducible refine (CE.out _ _ (HEX.out _ _ (by simp))).mono ?_
    rintro e w2 ⟨rfl, hb2⟩
    have hT := (HT0.out.below ((Below.refl _ _).alloc (Nat.le_refl _) _)).below hb2
    have a0 := hT.d 0 _ rfl
    have HT2 := Lib.hid hT
    clear hb2 hT
    go_wp2_with fail
    go_ret2
    exact SpanP.mk' _ [] 0 rfl HQ.out (Pm.OwnS.nil _ _) HT2.out.old
  have HRb := Lib.hid (HR.out.trans (if_neg k2))
  clear HR
  have e2 : (x.kind == 2) = false := by rw [beq_eq_false_iff_ne]; exact k2
  clear k2 k3
  have CN := Lib.hid (fun W => count_any x.length (by omega) (by omega) W)
  have hcb : 1 ≤ Pm.cnt x.length ∧ Pm.cnt x.length ≤ 524288 := by unfold Pm.cnt; omega
  by_cases hbig : 4096 < Pm.cnt x.length
  · have HQ := Lib.hid (HRb.out.trans (if_pos hbig))
    have d0 : decide (4096 < Pm.cnt x.length) = true := decide_eq_true hbig
    clear HRb CT HBD HO hcb hbig
    generalize Pm.spansR m x = R at *
    unfold Pm.exV
    unfold Pm.mpV at *
    obtain ⟨k, n, bb, pp⟩ := x
    obtain ⟨maps, s, c, vat, sps, me⟩ := m
    simp only [] at *
    go_enter Tryz.func25, Tryz.ntmps25
    go_wp2_with fail
    with_reducible refine (CE.out _ _ (HEX.out _ _ (by simp))).mono ?_
    rintro e w2 ⟨rfl, hb2⟩
    have hT := (HT0.out.below ((Below.refl _ _).alloc (Nat.le_refl _) _)).below hb2
    have a0 := hT.d 0 _ rfl
    have a1 := hT.d 1 _ rfl
    have HT2 := Lib.hid hT
    clear hb2 hT
    go_wp2_with fail
    refine (CN.out _).mono ?_
    rintro e w3 ⟨rfl, rfl⟩
    go_wp2_with fail
    go_ret2
    exact SpanP.mk' _ [] 7 rfl HQ.out (Pm.OwnS.nil _ _) HT2.out.old
  have HQ := Lib.hid (HRb.out.trans (if_neg hbig))
  clear HRb
  obtain ⟨N, hN, hN4⟩ : ∃ N : Nat, (N : Int) = Pm.cnt x.length ∧ N ≤ 4096 := ⟨(Pm.cnt x.length).toNat, by omega, by omega⟩
  have hNn : (Pm.cnt x.length).toNat = N := by omega
  rw [hNn] at HQ
  rw [← hN] at CN
  clear hcb hbig hN hNn
  have KB := Lib.hid (fun n i out h => Pm.spanN_bad (m := m) (x := x) (n := n) (i := i) (out := out) h)
  have KO := Lib.hid (fun n i out h => Pm.spanN_ok (m := m) (x := x) (n := n) (i := i) (out := out) h)
  have KZ := Lib.hid (show ∀ i out, Pm.spanN m x 0 i out = (out, 0) from fun _ _ => rfl)
  generalize Pm.spanN m x = SN at *
  obtain ⟨TR, hTR⟩ : ∃ TR : Int → Int × Int, ∀ b, Pm.transR m b x.part = TR b := ⟨fun b => _, fun _ => rfl⟩
  simp only [hTR] at KB KO CT HBD
  clear hTR HO
  generalize Pm.spansR m x = R0 at *
  unfold Pm.exV
  unfold Pm.mpV at *
  obtain ⟨k, n, bb, pp⟩ := x
  obtain ⟨maps, s, c, vat, sps, me⟩ := m
  simp only [] at *
  obtain ⟨x1, x2, x3, x4, x5, x6, x7, x8⟩ := hx
  go_enter Tryz.func25, Tryz.ntmps25
  go_wp2_with fail
  with_reducible refine (CE.out _ _ (HEX.out _ _ (by simp))).mono ?_
  rintro e w2 ⟨rfl, hb2⟩
  have hT := (HT0.out.below ((Below.refl _ _).alloc (Nat.le_refl _) _)).below hb2
  have a0 := hT.d 0 _ rfl
  have a1 := hT.d 1 _ rfl
  have hsz2 := hT.size
  have HT2 := Lib.hid hT
  clear hb2 hT HT0 CE HEX
  go_wp2_with fail
  refine (CN.out _).mono ?_
  rintro e w3 ⟨rfl, rfl⟩
  have HTE := Lib.hid (HT2.out.below ((Below.refl _ w2).alloc (Nat.le_refl _) (.cells #[] 37)))
  have hsE : w2.heap.size ≤ (w2.alloc (.cells #[] 37)).heap.size := by simp
  go_wp2_with fail
  clear a0 a1 e2 e3
  go_loopw [7, 8, 9, 10, 11] (fun ov iv _ _ _ wr => ∃ (i : Nat) (L : List (Int × Int)), i ≤ N ∧ iv = .int .i64 i ∧ Pm.SpBd L i ∧ Pm.OwnS wr w2.heap.size ov L ∧ Hid (SN N 0 [] = SN (N - i) i L) ∧ w2.heap.size ≤ wr.heap.size ∧ TwoB w wr #[.slice A0 maps.length c0, .int .i64 s, .int .i64 c, .slice A1 vat.length c1, .slice A2 sps.length c2, .slice A3 me.length c3, .slice A4 n4 c4] #[.int .i64 k, .int .i64 n, .int .i64 bb, .int .i64 pp]) (fun _ iv _ _ _ _ => N - (intOf iv).toNat)
  case atStart => exact ⟨0, [], Nat.zero_le _, rfl, Pm.SpBd.nil 0, ownS_empty _ _ rfl, Lib.hid rfl, hsE, HTE.out⟩
  case round =>
    obtain ⟨i, L, hi, rfl, hbd, hown, HS, hsz, hT⟩ := hrel
    by_cases hlt : i < N
    · have hlt' : (i : Int) < (N : Int) := by omega
      have y0 := hT.c 0 _ rfl
      have y1 := hT.c 1 _ rfl
      have y2 := hT.c 2 _ rfl
      have y3 := hT.c 3 _ rfl
      have y4 := hT.c 4 _ rfl
      have y5 := hT.c 5 _ rfl
      have y6 := hT.c 6 _ rfl
      have a2 := hT.d 2 _ rfl
      have a3 := hT.d 3 _ rfl
      have C := Lib.hid (CT.out wr (HI.out.below hT.old) (bb + (i : Int)) (by omega) (by omega))
      have hbR := HBD.out (bb + (i : Int))
      have hNi : N - i = N - (i + 1) + 1 := by omega
      have HS1 := HS.out
      rw [hNi] at HS1
      have KBi := Lib.hid (fun h => HS1.trans (KB.out (N - (i + 1)) i L h))
      have KOi := Lib.hid (fun h => HS1.trans (KO.out (N - (i + 1)) i L h))
      have HTr := Lib.hid hT
      clear hT HS1 hNi
      generalize TR (bb + (i : Int)) = R at *
      obtain ⟨R1, R2⟩ := R
      simp only [] at *
      by_cases he : R2 = 0
      case neg =>
        have HE := Lib.hid (KBi.out he)
        have de : (R2 != 0) = true := by rw [bne_iff_ne]; exact he
        have hrow := hown.row
        obtain ⟨AO, cO, rfl, _, _, _⟩ := hrow
        clear KOi KBi he hbR hown hbd
        go_wp2_with fail
        refine C.out.mono ?_
        rintro e w3 ⟨rfl, hb3⟩
        go_wp2_with fail
        go_ret2
        exact SpanP.mk' _ [] R2 rfl (HQ.out.trans HE.out) (Pm.OwnS.nil _ _) (HTr.out.below hb3).old
      case pos =>
      subst he
      have HK := Lib.hid (KOi.out rfl)
      clear KBi KOi
      have hL8 : L.length ≤ 100000 := by have := hbd.1; omega
      rcases List.eq_nil_or_concat L with rfl | ⟨L', pq, hLe⟩
      · have HN := Lib.hid (HK.out.trans (by rw [Pm.push_nil]))
        have HBN := Lib.hid (Pm.SpBd.new hbd ⟨hbR.1, hbR.2⟩)
        have hrow := hown.row
        obtain ⟨AO, cO, rfl, hcO, hcOm, _⟩ := hrow
        simp only [List.length_nil] at hcO hown hL8
        have HOW := Lib.hid hown
        unfold maxLen at hcOm
        clear hown hbd HK HS
        go_wp2_with fail
        refine C.out.mono ?_
        rintro e w3 ⟨rfl, hb3⟩
        have HO3 := Lib.hid (Kit.own_below HOW.out hb3)
        have HT3 := Lib.hid (HTr.out.below hb3)
        have hsz3 := Nat.le_trans hsz hb3.size
        clear hb3 HOW HTr y0 y1 y2 y3 y4 y5 y6 a2 a3
        go_wp2_with fail
        go_quiet (fail)
        have HOq := Lib.hid (show Pm.OwnS (w3.drewN nq) w2.heap.size (.slice AO 0 cO) [] from HO3.out)
        have HTq := Lib.hid (HT3.out.below (Kit.below_drewN nq))
        have hszq : w2.heap.size ≤ (w3.drewN nq).heap.size := hsz3
        clear HO3 HT3 hsz3
        generalize w3.drewN nq = wq at *
        go_wp2_with (at_builtin; refine pushS rfl (.tmp 82) (.tmp 85) rfl w2.heap.size _ [] rfl HOq.out R1 1 1 _ rfl ?q1 hL8 hszq ?_)
        case q1 => rfl
        intro v' w' ho' hb'
        have HOn := Lib.hid ho'
        have HTn := Lib.hid (HTq.out.later (hb'.mono hsz2))
        have hszn := Nat.le_trans hszq (hb'.size)
        clear ho' hb' HOq HTq hszq
        go_wp2_with fail
        go_roundw
        case rel => exact ⟨i + 1, [] ++ [(R1, 1)], by omega, by go_num, HBN.out, HOn.out, HN, hszn, HTn.out⟩
        case measure => simp [intOf]; omega
      · obtain ⟨p, q⟩ := pq
        rw [List.concat_eq_append] at hLe
        subst hLe
        have hlb := hbd.last
        obtain ⟨g, cap, rfl, hbg, _, hkc, hcm, _, _, _, _⟩ := lastS hown
        have hLl : (L' ++ [(p, q)]).length = L'.length + 1 := by simp
        rw [hLl] at hL8
        have HOW := Lib.hid hown
        have HJ := Lib.hid (fun (h : p + q = R1) => (⟨HK.out.trans (by rw [Pm.push_join h]), hbd.join⟩ : SN N 0 [] = SN (N - (i + 1)) (i + 1) (L' ++ [(p, q + 1)]) ∧ Pm.SpBd (L' ++ [(p, q + 1)]) (i + 1)))
        have HW := Lib.hid (fun (h : ¬ p + q = R1) => (⟨HK.out.trans (by rw [Pm.push_new h]), Pm.SpBd.new hbd ⟨hbR.1, hbR.2⟩⟩ : SN N 0 [] = SN (N - (i + 1)) (i + 1) (L' ++ [(p, q)] ++ [(R1, 1)]) ∧ Pm.SpBd (L' ++ [(p, q)] ++ [(R1, 1)]) (i + 1)))
        unfold maxLen at hcm
        clear hown hbd HK HS hLl
        obtain ⟨hl1, hp1, hp2, hq1, hq2⟩ := hlb
        have hk0 : (0 : Int) ≤ (L'.length : Int) := by omega
        have hk1 : (L'.length : Int) < ((L'.length + 1 : Nat) : Int) := by omega
        have dk : decide ((0 : Int) < ((L'.length + 1 : Nat) : Int)) = true := decide_eq_true (by omega)
        have hwk : IntKind.i64.wrap (((L'.length + 1 : Nat) : Int) - 1) = (L'.length : Int) := by rw [IntWalk.i64_in _ (by omega)]; omega
        have hwp : IntKind.i64.wrap (p + q) = p + q := IntWalk.i64_in _ (by omega)
        go_wp2_with fail
        refine C.out.mono ?_
        rintro e w3 ⟨rfl, hb3⟩
        have HO3 := Lib.hid (Kit.own_below HOW.out hb3)
        have HT3 := Lib.hid (HTr.out.below hb3)
        have hsz3 := Nat.le_trans hsz hb3.size
        clear hb3 HOW HTr y0 y1 y2 y3 y4 y5 y6 a2 a3
        obtain ⟨g', cap', hv', _, _, _, _, c0', c1', f1', _⟩ := lastS HO3.out
        obtain ⟨rfl, rfl⟩ : g = g' ∧ cap = cap' := by simpa using hv'
        clear hv'
        by_cases hj : p + q = R1
        · have HN := Lib.hid (HJ.out hj)
          have dq : (p + q == R1) = true := by rw [beq_iff_eq]; exact hj
          clear HJ HW hj
          go_wp2_with fail
          go_quiet (fail)
          have HOq := Lib.hid (show Pm.OwnS (w3.drewN nq) w2.heap.size (.slice (some ⟨g, 0, none⟩) (L'.length + 1) cap) (L' ++ [(p, q)]) from HO3.out)
          have HTq := Lib.hid (HT3.out.below (Kit.below_drewN nq))
          have hszq : w2.heap.size ≤ (w3.drewN nq).heap.size := hsz3
          clear HO3 HT3 hsz3 c0' c1' f1'
          generalize w3.drewN nq = wq at *
          obtain ⟨g', cap', hv', _, _, _, _, c0', c1', f1', hset⟩ := lastS HOq.out
          obtain ⟨rfl, rfl⟩ : g = g' ∧ cap = cap' := by simpa using hv'
          clear hv'
          have HSET := Lib.hid (hset (q + 1))
          clear hset
          go_wp2_with fail
          have HOn := Lib.hid HSET.out.1
          have hb' := HSET.out.2 hbg
          have HTn := Lib.hid (HTq.out.later (hb'.mono hsz2))
          have hszn := Nat.le_trans hszq (hb'.size)
          clear hb' HOq HTq hszq
          go_roundw
          case rel => exact ⟨i + 1, L' ++ [(p, q + 1)], by omega, by go_num, HN.out.2, HOn.out, Lib.hid HN.out.1, hszn, HTn.out⟩
          case measure => simp [intOf]; omega
        · have HN := Lib.hid (HW.out hj)
          have dq : (p + q == R1) = false := by rw [beq_eq_false_iff_ne]; exact hj
          clear HJ HW hj
          go_wp2_with fail
          go_quiet (fail)
          have HOq := Lib.hid (show Pm.OwnS (w3.drewN nq) w2.heap.size (.slice (some ⟨g, 0, none⟩) (L'.length + 1) cap) (L' ++ [(p, q)]) from HO3.out)
          have HTq := Lib.hid (HT3.out.below (Kit.below_drewN nq))
          have hszq : w2.heap.size ≤ (w3.drewN nq).heap.size := hsz3
          clear HO3 HT3 hsz3 c0' c1' f1'
          generalize w3.drewN nq = wq at *
          have hL9 : (L' ++ [(p, q)]).length ≤ 100000 := by simpa using hL8
          go_wp2_with (at_builtin; refine pushS rfl (.tmp 82) (.tmp 85) rfl w2.heap.size _ (L' ++ [(p, q)]) rfl HOq.out R1 1 1 _ rfl ?q2 hL9 hszq ?_)
          case q2 => rfl
          intro v' w' ho' hb'
          have HOn := Lib.hid (show Pm.OwnS w' w2.heap.size v' (L' ++ [(p, q)] ++ [(R1, 1)]) by rw [List.append_assoc]; exact ho')
          have HTn := Lib.hid (HTq.out.later (hb'.mono hsz2))
          have hszn := Nat.le_trans hszq (hb'.size)
          clear ho' hb' HOq HTq hszq
          go_wp2_with fail
          go_roundw
          case rel => exact ⟨i + 1, L' ++ [(p, q)] ++ [(R1, 1)], by omega, by go_num, HN.out.2, HOn.out, Lib.hid HN.out.1, hszn, HTn.out⟩
          case measure => simp [intOf]; omega
    · obtain rfl : i = N := by omega
      have HF := Lib.hid (show SN i 0 [] = (L, 0) by rw [HS.out, Nat.sub_self]; exact KZ.out _ _)
      have hrow := hown.row
      obtain ⟨AO, cO, rfl, _, _, _⟩ := hrow
      have HOW := Lib.hid hown
      clear hown
      go_wp2_with fail
      go_ret2
      exact SpanP.mk' _ L 0 rfl (HQ.out.trans HF.out) (Kit.own_base HOW.out (by omega)) hT.old
end Go.Proofs.YtlcdhlfkffkifaaGreatDoor

/-
  slices.Equal at spans, of two rows that read alike.
-/
namespace Go.Proofs.YtlcdhlfkffkifaaGreatDoor
open Go.RowKit

set_option maxHeartbeats 3200000 in
set_option maxRecDepth 100000 in
/-- slices.Equal at spans. -/
theorem equalS_same (v1 v2 : Value) (L : List (Int × Int)) (w : World) (h1 : Kit.RowN w v1 2 L.length (fun j => Pm.spC (L.getD j (0, 0)))) (h2 : Kit.RowN w v2 2 L.length (fun j => Pm.spC (L.getD j (0, 0)))) :
    Calls Tryz.prog 26 #[v1, v2] w fun e w' => e = .returned (.bool true) ∧ Below w.heap.size w w' := by
  obtain ⟨A, c, rfl, hlc, hcm, hcell⟩ := h1
  obtain ⟨B, d, rfl, hld, hdm, hdell⟩ := h2
  unfold maxLen at hcm hdm
  have HC := Lib.hid hcell
  have HD := Lib.hid hdell
  clear hcell hdell
  go_enter Tryz.func26, Tryz.ntmps26
  go_wp2_with fail
  go_loopw [5, 13] (fun _ iv wr => ∃ j : Nat, j ≤ L.length ∧ iv = .int .i64 j ∧ Below w.heap.size w wr) (fun _ iv _ => L.length - (intOf iv).toNat)
  case atStart => exact ⟨0, by omega, rfl, Below.refl _ _⟩
  case round =>
    obtain ⟨j, hj, rfl, hbw⟩ := hrel
    by_cases hlt : j < L.length
    · obtain ⟨b, o, rfl, hbl, hce⟩ := HC.out (by omega)
      obtain ⟨b', o', rfl, hbl', hde⟩ := HD.out (by omega)
      have c0 := (hbw.cell (p := ⟨b, o + j * 2, none⟩) hbl).trans (hce j hlt 0 _ rfl)
      have c1 := (hbw.cell (p := ⟨b, o + j * 2 + 1, none⟩) hbl).trans (hce j hlt 1 _ rfl)
      have d0 := (hbw.cell (p := ⟨b', o' + j * 2, none⟩) hbl').trans (hde j hlt 0 _ rfl)
      have d1 := (hbw.cell (p := ⟨b', o' + j * 2 + 1, none⟩) hbl').trans (hde j hlt 1 _ rfl)
      clear hce hde
      generalize L.getD j (0, 0) = x at *
      obtain ⟨p, q⟩ := x
      simp only [] at *
      have hj0 : (0 : Int) ≤ (j : Int) := by omega
      have hj1 : (j : Int) < (L.length : Int) := by omega
      have HBW := Lib.hid hbw
      clear hbw
      go_wp2_with fail
      go_quiet (fail)
      go_wp2_with fail
      go_roundw
      case rel => exact ⟨j + 1, by omega, by go_num, Kit.Below.drewN HBW.out _⟩
      case measure => simp [intOf]; omega
    · obtain rfl : j = L.length := by omega
      go_wp2_with fail
      go_ret
      exact ⟨rfl, hbw⟩
end Go.Proofs.YtlcdhlfkffkifaaGreatDoor
