/-
  The program's decode of a map: the second kind, sparable.
-/
import Derived.Test.YtlcdhlfkffkifaaGreatDoorZD
import Derived.Test.YtlcdhlfkffkifaaGreatDoorZA
import Derived.Deep.RegionHeld3
import Derived.Deep.DrawnRows
import Derived.Outline
import Derived.Maps.StringElems
namespace Go.Proofs.YtlcdhlfkffkifaaGreatDoor
open Go.RowKit Go.Maps
attribute [local go_sem ↓] Go.wp_at_zero Go.wp_at_succ
theorem tabs_snoc (d : List UInt8) (j : Nat) : Pm.tabs d (j + 1) = Pm.tabs d j ++ [(Pm.at_ d (48 + 4 * j) 4 : Int)] := by
  unfold Pm.tabs
  rw [List.range_succ, List.map_append]
  rfl
theorem tabs_len (d : List UInt8) (j : Nat) : (Pm.tabs d j).length = j := by simp [Pm.tabs]
theorem intInfo2 : (Tryz.prog.info? 3).map (fun i => (i.zero, i.size, i.bytes)) = some (some (.int .i64 0), 1, 8) := by kernel_rfl
theorem grownSet (w : World) (b i : Nat) (v : Value) : w.grownBy (w.setCell ⟨b, i, none⟩ v) (some b) :=
  ⟨rfl, rfl, rfl, by simp [World.setCell], fun k _ hk => Below.heap_setCell _ _ _ _ (fun e => hk (by simp [e]))⟩
/-- The cells of the sparable map under way. -/
structure XTab (W : World) (g : Nat) (nm : Int) (tv : Value) : Prop where
  cells : ∀ (q : Nat) v, (#[.int .i64 2, .int .i64 nm, tv, .int .i64 0, .int .i64 0, .int .i64 0] : Array Value)[q]? = some v → W.cell? ⟨g, q, none⟩ = some v
  free : ∀ (q : Nat), W.frozen? ⟨g, q, none⟩ = false
  lt : g < W.heap.size
theorem XTab.put {W W' : World} {g : Nat} {nm : Int} {tv : Value} (h : XTab W g nm tv) (hb : Below (g + 1) W W') (u : Value) : XTab (W'.setCell ⟨g, 2, none⟩ u) g nm u := by
  have hc := fun q v hv => (hb.cell (p := ⟨g, q, none⟩) (Nat.lt_succ_self _)).trans (h.cells q v hv)
  refine ⟨fun q v hv => ?_, fun q => by rw [World.frozen?_setCell]; exact (hb.frozen (p := ⟨g, q, none⟩) (Nat.lt_succ_self _)).trans (h.free q), by have := h.lt; have := hb.size; simp; omega⟩
  by_cases h2 : q = 2
  · subst h2
    have hv' : u = v := by simpa using hv
    rw [World.cell?_setCell_same _ _ _ (hc 2 tv rfl), hv']
  · rw [World.cell?_setCell_other _ _ _ _ (by simp <;> omega)]
    refine hc q v ?_
    rcases q with _ | _ | _ | q
    · simpa using hv
    · simpa using hv
    · exact absurd rfl h2
    · simpa using hv
theorem slice_of_own {w : World} {base e n : Nat} {v : Value} {xs : List Value} (h : w.ownsRow base e 1 v n xs) : ∃ A c, v = .slice A n c := by
  have hl : xs.length = n := by simpa using h.1
  obtain ⟨A, c, rfl, _⟩ := Kit.Row.of_own h
  exact ⟨A, c, by rw [hl]⟩
theorem own_set1 {w : World} {g n i : Nat} {v : Value} {xs : List Value} (h : w.ownsRow (g + 1) 3 1 v n xs) (u : Value) : (w.setCell ⟨g, i, none⟩ u).ownsRow (g + 1) 3 1 v n xs := by
  refine h.kept (grownSet _ _ _ _) ?_
  cases ho : v.ownBlock with
  | none => exact .inl rfl
  | some k => exact .inr (fun e => by have := (h.lt k ho).1; have := Option.some.inj e; omega)
theorem own_sets {w : World} {base n b : Nat} {v : Value} {xs : List Value} (h : w.ownsRow base 3 1 v n xs) (hb : b < base) (u0 u1 u2 u3 u4 u5 : Value) :
    ((((((w.setCell ⟨b, 0, none⟩ u0).setCell ⟨b, 1, none⟩ u1).setCell ⟨b, 2, none⟩ u2).setCell ⟨b, 3, none⟩ u3).setCell ⟨b, 4, none⟩ u4).setCell ⟨b, 5, none⟩ u5).ownsRow 0 3 1 v n xs := by
  have hne : v.ownBlock = none ∨ v.ownBlock ≠ some b := by
    cases ho : v.ownBlock with
    | none => exact .inl rfl
    | some k => exact .inr (fun e => by have := (h.lt k ho).1; have := Option.some.inj e; omega)
  exact Kit.own_base ((((((h.kept (grownSet _ _ _ _) hne).kept (grownSet _ _ _ _) hne).kept (grownSet _ _ _ _) hne).kept (grownSet _ _ _ _) hne).kept (grownSet _ _ _ _) hne).kept (grownSet _ _ _ _) hne) (Nat.zero_le _)

set_option maxHeartbeats 6400000 in
set_option maxRecDepth 100000 in
/-- partitionmap.decode: the second kind, sparable. -/
theorem decode_two_2 (d : ByteArray) (w : World) (m : Int) (hM : w.cell? ⟨0, 0, none⟩ = some (.int .i64 m)) (h2 : 2 ≤ d.size) (h1 : Cs.byt d.data.toList 1 ≤ d.size) (h0 : Cs.byt d.data.toList 0 = 2) (h6 : Cs.byt d.data.toList 1 = 64) (he : (Cs.pentR ((d.data.toList.drop 4).take 32)).2 = 0) (hk : Hid (Pm.kindOf (Cs.pentR ((d.data.toList.drop 4).take 32)).1.1 = 2)) (h8 : Pm.at_ d.data.toList 40 2 = 8) (hn : ¬ (Pm.at_ d.data.toList 42 1 < 1 ∨ 4 < Pm.at_ d.data.toList 42 1)) (hs : d.size ≤ 4096) :
    Calls Tryz.prog 31 #[.string d] w fun e w' => ∃ tv, e = .returned (.tuple #[Pm.pmV ⟨2, (Pm.at_ d.data.toList 38 2 : Int), Pm.tabs d.data.toList (Pm.at_ d.data.toList 42 1), 0, 0, 0⟩ tv, .int .i64 64, .int .i64 0]) ∧ Pm.Tab w' tv (Pm.tabs d.data.toList (Pm.at_ d.data.toList 42 1)) ∧ Below w.heap.size w w' := by
  have hi1 : 1 < d.size := by omega
  have hi0 : 0 < d.size := by omega
  have hy0 := Kit.byt_get d 0 hi0
  have hy1 := Kit.byt_get d 1 hi1
  have hl0 := Cs.byt_lt d.data.toList 0
  have hl1 := Cs.byt_lt d.data.toList 1
  have hw1 := IntWalk.wrap64_in (Cs.byt d.data.toList 1 : Int) (by omega)
  have d2 : decide ((d.size : Int) < 2) = false := decide_eq_false (by omega)
  have d3 : decide ((d.size : Int) < (Cs.byt d.data.toList 1 : Int)) = false := decide_eq_false (by omega)
  have hwk : (Lit.int .u8 (Cs.byt d.data.toList 0 : Int)).wf = true := by
    show (decide (IntKind.min .u8 ≤ (Cs.byt d.data.toList 0 : Int)) && decide ((Cs.byt d.data.toList 0 : Int) ≤ IntKind.max .u8)) = true
    rw [show IntKind.min .u8 = 0 from rfl, show IntKind.max .u8 = 255 from rfl, Bool.and_eq_true, decide_eq_true_eq, decide_eq_true_eq]
    omega
  have hmm := @run_makeMap Tryz.prog
  have H0 : Hid (∀ nq, BMap ((((decW w d).alloc (.cells #[.int .i64 0, .int .i64 0, .slice none 0 0, .int .i64 0, .int .i64 0, .int .i64 0] 59)).drewN nq).alloc (.map #[] 0)) (w.heap.size + 1 + 1 + 1) 0 (.map [])) := Lib.hid fun nq => by
    have h := World.ownsMap_made (((decW w d).alloc (.cells #[.int .i64 0, .int .i64 0, .slice none 0 0, .int .i64 0, .int .i64 0, .int .i64 0] 59)).drewN nq) Tryz.prog 5 asIs
    rw [show (((decW w d).alloc (.cells #[.int .i64 0, .int .i64 0, .slice none 0 0, .int .i64 0, .int .i64 0, .int .i64 0] 59)).drewN nq).heap.size = w.heap.size + 1 + 1 + 1 by simp] at h
    exact h
  go_enter Tryz.func31, Tryz.ntmps31
  go_wp2_with fail
  go_quiet (fail)
  go_wp2_with (refine Kit.wpList_insert_own _ rfl (.tmp 30) _ _ _ rfl 5 3 keyedU8 (by kernel_rfl) _ (w.heap.size + 1 + 1 + 1) 0 _ rfl (H0.out nq) (by unfold maxLen; omega) (.int .u8 1) _ (.int .u8 1) rfl rfl (keyOf_int_mk Tryz.underlying5 (by decide)) _ [] rfl ?_)
  intro w1 hown1 hg1
  have H1 := Lib.hid hown1
  clear hown1
  go_wp2_with (refine Kit.wpList_insert_own _ rfl (.tmp 30) _ _ _ rfl 5 3 keyedU8 (by kernel_rfl) _ (w.heap.size + 1 + 1 + 1) 1 _ rfl H1.out (by unfold maxLen; omega) (.int .u8 2) _ (.int .u8 2) rfl rfl (keyOf_int_mk Tryz.underlying5 (by decide)) _ [] rfl ?_)
  intro w2 hown2 hg2
  have hlk := two_look (Cs.byt d.data.toList 0 : Int) w2 (w.heap.size + 1 + 1 + 1) 2 hown2 hwk
  have hgg := hg1.trans hg2
  have hD : DecAt w d w2 := DecAt.start w d nq (((Below.refl _ _).alloc (by simp) _).grown hgg (by simp) (fun q hq => by cases hq; exact Nat.le_refl _))
  clear hown2 hgg hg1 hg2 H0 H1 hwk
  rw [if_neg (by omega), if_pos (by omega)] at hlk
  clear h0
  have d6 : ((Cs.byt d.data.toList 1 : Int) != 64) = false := by rw [bne_eq_false_iff_eq]; omega
  have h64s : 64 ≤ d.size := by omega
  clear h6
  have hbw2 : Below w.heap.size w w2 := (((Below.refl _ w).alloc (Nat.le_refl _) _).alloc (by simp) _).trans (hD.below.mono (by omega))
  have hM2 := (hbw2.cell (p := ⟨0, 0, none⟩) (World.block_lt_of_cell? _ _ hM)).trans hM
  have cp := pent_any (d.extract 4 36) w2 m hM2 (by simp <;> omega)
  rw [show (d.extract 4 36).data.toList = (d.data.toList.drop 4).take 32 by rw [Lib.extract_data]] at cp
  generalize Cs.pentR ((d.data.toList.drop 4).take 32) = P at *
  obtain ⟨⟨P1, P2⟩, P3⟩ := P
  simp only [] at *
  have CP := Lib.hid cp
  have hstr := hD.str
  have HD2 := Lib.hid hD
  clear cp hM hM2 hD hbw2
  go_wp2_with fail
  refine CP.out.mono ?_
  rintro e w3 ⟨rfl, hb3⟩
  have hD := HD2.out.later hb3
  clear hstr hlk CP
  have d7 : (P3 != 0) = false := by rw [bne_eq_false_iff_eq]; exact he
  have hstr := hD.str
  have HD := Lib.hid hD
  clear hb3 hD he HD2 d2 d3 d6 hy0 hy1 hl0 hl1 hw1
  have CN1 := Lib.hid (number_any d 38 2 38 2 rfl rfl w.heap.size w3 (by unfold Pm.Sz; omega) (by omega) (by omega) (by omega) hstr)
  go_wp2_with fail
  refine CN1.out.mono ?_
  rintro e wn ⟨rfl, rfl⟩
  clear CN1
  go_wp2_with fail
  refine (identifiers_any _).mono ?_
  rintro e w4 ⟨bm, rfl, hbm, hS, hb4⟩
  have hX4 : XAt w4 w3.heap.size 0 (Pm.at_ d.data.toList 38 2 : Int) := (XAt.new w3 _ 59).below hb4
  have hsz4 : w3.heap.size + 1 ≤ w4.heap.size := by have := hb4.size; simp at this; exact this
  have hbm' : w3.heap.size + 1 ≤ bm := by simpa using hbm
  have hb34 : Below w3.heap.size w3 w4 := ((Below.refl _ w3).alloc (Nat.le_refl _) _).trans (hb4.mono (by simp))
  clear hb4 hbm hstr d7
  go_wp2_with (at_range; refine wpList_range_own _ rfl _ 85 rfl 3 9 keyedInt (by kernel_rfl) (plainElem Tryz.prog 9) bm 3 _ rfl hS ?_; intro w5 hrg5 hg5 hs5)
  go_frame
  have hX5 := hX4.grown hg5 (by simp)
  have hb35 : Below w3.heap.size w3 w5 := hb34.grown hg5 hb34.size (fun j hj => by cases hj)
  have H5 := Lib.hid (And.intro hX5 hb35)
  clear hX4 hX5 hb34 hb35 hg5 hs5 hS
  go_loopw [12, 13] (fun _ _ wr => ∃ left cnt, wr.ranges Tryz.prog 3 (plainElem Tryz.prog 9) bm w4.heap.size 3 idD left cnt ∧ XAt wr w3.heap.size (if (2 : Int) ≠ 0 ∧ left (.int .i64 2) = false then 2 else 0) (Pm.at_ d.data.toList 38 2 : Int) ∧ Below w3.heap.size w3 wr) (fun _ _ wr => wr.rangeLeft bm w4.heap.size)
  case atStart =>
    refine ⟨_, _, hrg5, ?_, H5.out.2⟩
    rw [if_neg]
    · exact H5.out.1
    · rintro ⟨h0, h⟩
      first | exact absurd (show true = false from h) (by decide) | exact h0 rfl
  case round =>
    obtain ⟨left, cnt, hrg, hX, hbr⟩ := hrel
    go_wp2_with (at_next; refine wpList_next_ranges_is _ rfl _ rfl 3 9 .i64 keyedInt Tryz.underlying3 Tryz.underlying9 bm w4.heap.size 3 _ _ _ rfl hrg ?_ ?_)
    · intro hc0 hl0
      have hXK : XAt wr w3.heap.size 2 (Pm.at_ d.data.toList 38 2 : Int) := by
        have h := hX
        first | (rw [if_pos ⟨by decide, hl0 _⟩] at h; exact h) | (rw [if_neg (by simp)] at h; exact h)
      have hD := HD.out.later hbr
      clear hX hrg hc0 hl0 H5
      have hD3 := hD
      have x0 := hXK.cells 0 _ rfl
      have HD3 := Lib.hid hD
      clear hD
      have hstr := HD3.out.str
      have CN2 := Lib.hid (number_any d 40 2 40 2 rfl rfl w.heap.size wr (by unfold Pm.Sz; omega) (by omega) (by omega) (by omega) hstr)
      go_wp2_with fail
      refine CN2.out.mono ?_
      rintro e wn ⟨rfl, rfl⟩
      clear CN2
      rw [h8]
      have CN3 := Lib.hid (number_any d 42 1 42 1 rfl rfl w.heap.size wr (by unfold Pm.Sz; omega) (by omega) (by omega) (by omega) hstr)
      go_wp2_with fail
      refine CN3.out.mono ?_
      rintro e wn ⟨rfl, rfl⟩
      clear CN3
      have CT := Lib.hid (fun (W : World) (j : Nat) (A : Int) (hA : A = 48 + 4 * (j : Int)) (hj : j < 4) h => number_any d (48 + 4 * j) 4 A 4 (by omega) rfl w.heap.size W (by unfold Pm.Sz; omega) (by omega) (by omega) (by omega) h)
      have e1 : decide ((Pm.at_ d.data.toList 42 1 : Int) < 1) = false := decide_eq_false (by omega)
      have e2 : decide (4 < (Pm.at_ d.data.toList 42 1 : Int)) = false := decide_eq_false (by omega)
      generalize hnq : Pm.at_ d.data.toList 42 1 = n at *
      have HNQ := Lib.hid hnq
      clear hnq
      have HX := Lib.hid hXK
      have HBR := Lib.hid hbr
      clear hXK hbr hD3
      go_wp2_with fail
      obtain ⟨i0, hi, hz0, hz1, hz2⟩ := info_parts intInfo2
      go_loopw [15, 99] (fun _ iv wq => ∃ j : Nat, j ≤ n ∧ iv = .int .i64 j ∧ (∃ tv, XTab wq w3.heap.size (Pm.at_ d.data.toList 38 2 : Int) tv ∧ wq.ownsRow (w3.heap.size + 1) 3 1 tv j (Kit.izs (Pm.tabs d.data.toList j))) ∧ Below w3.heap.size w3 wq) (fun _ iv _ => n - (intOf iv).toNat)
      case atStart => exact ⟨0, by omega, rfl, ⟨_, ⟨HX.out.cells, HX.out.free, HX.out.lt⟩, ⟨rfl, Or.inl ⟨rfl, rfl⟩⟩⟩, HBR.out⟩
      case round =>
        obtain ⟨j, hj, rfl, ⟨tv, hxt, hown⟩, hbq⟩ := hrel
        by_cases hlt : j < n
        · have t2 := hxt.cells 2 _ rfl
          have f2 := hxt.free 2
          have hD4 := HD.out.later hbq
          have HSTR := Lib.hid (show wr.drew.cell? ⟨w.heap.size, 0, none⟩ = some (.string d) from hD4.str)
          have HOWN := Lib.hid hown.drew
          have t2a := fun o => (((Below.refl _ wr).alloc (Nat.le_refl _) o).cell (p := ⟨w3.heap.size, 2, none⟩) hxt.lt).trans t2
          have T2 := Lib.hid (show wr.drew.cell? ⟨w3.heap.size, 2, none⟩ = some tv from t2)
          have F2 := Lib.hid (show wr.drew.frozen? ⟨w3.heap.size, 2, none⟩ = false from f2)
          have HXT := Lib.hid hxt
          have hle := tabs_len d.data.toList j
          have hsn := tabs_snoc d.data.toList j
          have HSN := Lib.hid hsn
          have HCT := Lib.hid (fun W A hA h => CT.out W j A hA (by omega) h)
          have HB2' : Hid ((j + 1) * 8 ≤ 140737488355328) := Lib.hid (by omega)
          have HB3 : Hid (w3.heap.size + 1 ≤ wr.drew.heap.size) := Lib.hid hxt.lt
          have HBQ := Lib.hid hbq
          obtain ⟨At, ct, rfl, _⟩ := Kit.Row.of_own hown
          rw [Kit.izs_length] at *
          simp only [hle] at *
          clear hown hxt hsn hD4 hle hbq
          generalize hq4 : (Pm.at_ d.data.toList (48 + 4 * j) 4 : Int) = qv at *
          clear hq4
          generalize Pm.tabs d.data.toList j = tj at *
          have w4j : IntKind.i64.wrap (4 * (j : Int)) = 4 * (j : Int) := IntWalk.i64_in _ (by omega)
          have w48 : IntKind.i64.wrap (48 + 4 * (j : Int)) = 48 + 4 * (j : Int) := IntWalk.i64_in _ (by omega)
          go_wp2_with fail
          go_region_law (first | ((refine Kit.step_app intInfo2 (by rfl) (by decide) (by rfl) (.tmp 103) (.tmp 109) 32 (by rfl) Tryz.underlying32 (w3.heap.size + 1) _ _ _ (by rfl) (by exact HOWN.out) [.int .i64 qv] 1 1 (by rfl) (by rfl) (by exact Kit.one_izs [qv]) (by rfl) HB2'.out HB3.out ?_; intro v' w' ho' hb'; have HO' := Lib.hid ho'; have HB' := Lib.hid hb'; have hc2 := (hb'.cell (p := ⟨w3.heap.size, 2, none⟩) (Nat.lt_succ_self _)).trans T2.out; have hf2 := (hb'.frozen (p := ⟨w3.heap.size, 2, none⟩) (Nat.lt_succ_self _)).trans F2.out; obtain ⟨A', c', rfl⟩ := slice_of_own ho'; clear ho' hb')) | ((go_simp; go_at_call 59; refine (HCT.out _ _ rfl HSTR.out).mono ?_; rintro e wn ⟨rfl, rfl⟩)))
          all_goals
            have hbn : Below (w3.heap.size + 1) wr w' := ((Below.refl (w3.heap.size + 1) wr).drew).trans HB'.out
            have hxp := HXT.out.put hbn (.slice A' (j + 1) c')
            have hop := own_set1 (i := 2) HO'.out (.slice A' (j + 1) c')
            have hbp := HBQ.out.trans ((hbn.mono (Nat.le_succ _)).setCell (p := ⟨w3.heap.size, 2, none⟩) (Nat.le_refl _) (.slice A' (j + 1) c'))
            have HXP := Lib.hid hxp
            have HOP := Lib.hid hop
            have HBP := Lib.hid hbp
            clear hbn hxp hop hbp
            go_wp2_with fail
            go_roundw
            case rel => exact ⟨j + 1, by omega, by go_num, ⟨_, HXP.out, by rw [HSN.out, Kit.izs_append]; exact HOP.out⟩, HBP.out⟩
            case measure => simp [intOf]; omega
        · obtain rfl : j = n := by omega
          have hD := HD.out.later hbq
          have r0 := hD.res 0 _ rfl
          have n0 := hD.non 0 _ rfl
          have f0 := hD.free 0
          have r1 := hD.res 1 _ rfl
          have n1 := hD.non 1 _ rfl
          have f1 := hD.free 1
          have r2 := hD.res 2 _ rfl
          have n2 := hD.non 2 _ rfl
          have f2 := hD.free 2
          have r3 := hD.res 3 _ rfl
          have n3 := hD.non 3 _ rfl
          have f3 := hD.free 3
          have r4 := hD.res 4 _ rfl
          have n4 := hD.non 4 _ rfl
          have f4 := hD.free 4
          have r5 := hD.res 5 _ rfl
          have n5 := hD.non 5 _ rfl
          have f5 := hD.free 5
          have hstr := hD.str
          have x0 := hxt.cells 0 _ rfl
          have x1 := hxt.cells 1 _ rfl
          have x2 := hxt.cells 2 _ rfl
          have x3 := hxt.cells 3 _ rfl
          have x4 := hxt.cells 4 _ rfl
          have x5 := hxt.cells 5 _ rfl
          have HD3 := Lib.hid hD
          have HOWN := Lib.hid hown
          have hle := tabs_len d.data.toList j
          have hsz := HD.out.size
          have HSZ := Lib.hid (show w.heap.size + 1 < w3.heap.size + 1 by omega)
          obtain ⟨At, ct, rfl, _⟩ := Kit.Row.of_own hown
          rw [Kit.izs_length] at *
          simp only [hle] at *
          have HLE := Lib.hid (tabs_len d.data.toList j)
          clear hown hxt hD hle hbq hsz
          generalize htj : Pm.tabs d.data.toList j = tj at *
          have HTJ := Lib.hid htj
          clear htj
          go_wp2_with fail
          have hf := dec_fin w d _ HD3.out.below (.int .i64 2) (.int .i64 (Pm.at_ d.data.toList 38 2 : Int)) (.slice At j ct) (.int .i64 0) (.int .i64 0) (.int .i64 0)
          have ho := own_sets HOWN.out HSZ.out (.int .i64 2) (.int .i64 (Pm.at_ d.data.toList 38 2 : Int)) (.slice At j ct) (.int .i64 0) (.int .i64 0) (.int .i64 0)
          exact bodyPost_ret (dec_results _ _ (w.heap.size + 1) [.int .i64 2, .int .i64 (Pm.at_ d.data.toList 38 2 : Int), .slice At j ct, .int .i64 0, .int .i64 0, .int .i64 0] (.int .i64 64) (.int .i64 0) rfl rfl rfl rfl hf.1) rfl ⟨_, rfl, by unfold Pm.Tab; rw [HNQ.out, HTJ.out, HLE.out]; exact ho, hf.2⟩
    · intro x c w6 cnt6 hwx hwc hlx hat hrg6 hlt hg6 hs6 hen
      obtain ⟨hx, hc⟩ := idD_step hat
      have hX6 := hX.grown hg6 (fun e => by have := Option.some.inj e; omega)
      have hb6 : Below w3.heap.size w3 w6 := hbr.grown hg6 hbr.size (fun j hj => by cases hj; omega)
      have hcq : c = ⟨(nameK x).toArray⟩ := by rw [← hc]
      have hko := kindOf_name (s := P1) hx
      have HKX := Lib.hid hx
      clear hx hc hat hg6 hs6 hlx H5
      subst hcq
      by_cases hq : nameK x = P1
      · have hKx : (2 : Int) = x := by rw [← hk.out]; exact hko.1 hq
        rw [hq] at hen
        have x0 := hX6.cells 0 _ rfl
        have f0 := hX6.free 0
        have HX6 := Lib.hid hX6
        clear hX6 hko hq
        subst hKx
        go_wp2_with fail
        have hgS := grownBy_setCell' w6 w3.heap.size (.int .i64 2)
        have hrg7 := hrg6.kept hgS (fun e => by have := Option.some.inj e; omega) (fun e => by have := Option.some.inj e; omega)
        go_roundw
        case rel =>
          refine ⟨_, cnt6, hrg7, ?_, hb6.setCell (Nat.le_refl _) _⟩
          first
            | (rw [if_pos ⟨by decide, by simp [Lit.sameKey]⟩]; exact HX6.out.set _)
            | (exfalso; have := HKX.out; omega)
        case measure => rw [hrg7.left_eq, hrg.left_eq]; exact hlt
      · have hKx : ¬ (2 : Int) = x := fun e => hq (hko.2 (hk.out.trans e))
        have hne : (nameK x == P1) = false := by rw [beq_eq_false_iff_ne]; exact hq
        have HX6 := Lib.hid hX6
        clear hX6 hko hq
        go_wp2_with fail
        go_roundw
        case rel =>
          refine ⟨_, cnt6, hrg6, ?_, hb6⟩
          have hs : (left (.int .i64 2) && !(Lit.int .i64 2).sameKey (.int .i64 x)) = left (.int .i64 2) := by simp [Lit.sameKey, hKx]
          rw [hs]
          exact HX6.out
        case measure => rw [hrg6.left_eq, hrg.left_eq]; exact hlt
end Go.Proofs.YtlcdhlfkffkifaaGreatDoor
