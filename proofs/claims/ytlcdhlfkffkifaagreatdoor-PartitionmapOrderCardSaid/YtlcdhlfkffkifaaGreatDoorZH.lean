/-
  The program's decode of a map, whole: what it hands back is the plain step.
-/
import Derived.Test.YtlcdhlfkffkifaaGreatDoorZE
import Derived.Test.YtlcdhlfkffkifaaGreatDoorZF
import Derived.Test.YtlcdhlfkffkifaaGreatDoorZG
import Derived.Test.YtlcdhlfkffkifaaGreatDoorZD
import Derived.Deep.RegionLaw
import Derived.Deep.DrawnRows
import Derived.Test.YtlcdhlfkffkifaaGreatDoorZC
namespace Go.Proofs.YtlcdhlfkffkifaaGreatDoor
open Go.RowKit Go.Maps

/-- What decode hands back. -/
def DecOut (s : Pm.M × Nat × Int) (W : World) (e : Ending) (W' : World) : Prop :=
  ∃ tv, e = .returned (.tuple #[Pm.pmV s.1 tv, .int .i64 (s.2.1 : Int), .int .i64 s.2.2]) ∧ Pm.Tab W' tv s.1.tables ∧ Below W.heap.size W W'
theorem tab_nil (W : World) : Pm.Tab W (.slice none 0 0) [] := ⟨rfl, Or.inl ⟨rfl, rfl⟩⟩
theorem kindOf_range (s : List UInt8) : Pm.kindOf s = 0 ∨ Pm.kindOf s = 1 ∨ Pm.kindOf s = 2 ∨ Pm.kindOf s = 3 := by
  unfold Pm.kindOf
  split
  · exact Or.inr (Or.inl rfl)
  · split
    · exact Or.inr (Or.inr (Or.inl rfl))
    · split
      · exact Or.inr (Or.inr (Or.inr rfl))
      · exact Or.inl rfl
theorem decBad {s : Pm.M × Nat × Int} {W : World} {c : Int} (hs : s = (Pm.none, 0, c)) {f : FuncId} {args : Array Value} (h : Calls Tryz.prog f args W fun e W' => e = .returned (badV c) ∧ Below W.heap.size W W') :
    Calls Tryz.prog f args W (DecOut s W) := h.mono fun e W' ⟨he, hb⟩ => by subst hs; exact ⟨_, he, tab_nil W', hb⟩
theorem decGood {s : Pm.M × Nat × Int} {W : World} {x : Pm.M} {n : Nat} (hs : s = (x, n, 0)) (hx : x.tables = []) {f : FuncId} {args : Array Value}
    (h : Calls Tryz.prog f args W fun e W' => e = .returned (.tuple #[Pm.pmV x (.slice none 0 0), .int .i64 (n : Int), .int .i64 0]) ∧ Below W.heap.size W W') :
    Calls Tryz.prog f args W (DecOut s W) := h.mono fun e W' ⟨he, hb⟩ => by subst hs; exact ⟨_, he, by show Pm.Tab W' _ x.tables; rw [hx]; exact tab_nil W', hb⟩

/-- partitionmap.decode. -/
theorem decode_any (d : ByteArray) (w : World) (m : Int) (hM : w.cell? ⟨0, 0, none⟩ = some (.int .i64 m)) (hs : d.size ≤ 4096) :
    Calls Tryz.prog 31 #[.string d] w (DecOut (Pm.stepR d.data.toList) w) := by
  have hl : d.data.toList.length = d.size := by simp
  by_cases hsh : d.size < 2 ∨ d.size < Cs.byt d.data.toList 1
  · exact decBad (by unfold Pm.stepR; rw [hl, if_pos hsh]) (decode_short d w hsh hs)
  have h2 : 2 ≤ d.size := by omega
  have h1 : Cs.byt d.data.toList 1 ≤ d.size := by omega
  by_cases h01 : Cs.byt d.data.toList 0 = 1
  · by_cases h6 : Cs.byt d.data.toList 1 = 6
    · exact decGood (n := 6) (by unfold Pm.stepR; rw [hl, if_neg hsh, if_pos h01, if_pos h6]) rfl (decode_one d w h2 h1 h01 h6 hs)
    · exact decBad (by unfold Pm.stepR; rw [hl, if_neg hsh, if_pos h01, if_neg h6]) (decode_one_bad d w h2 h1 h01 h6 hs)
  by_cases h02 : Cs.byt d.data.toList 0 = 2
  case neg => exact decBad (by unfold Pm.stepR; rw [hl, if_neg hsh, if_neg h01, if_neg h02]) (decode_unknown d w h2 h1 h01 h02 hs)
  by_cases h64 : Cs.byt d.data.toList 1 = 64
  case neg => exact decBad (by unfold Pm.stepR; rw [hl, if_neg hsh, if_neg h01, if_pos h02, if_neg h64]) (decode_two_bad d w h2 h1 h02 h64 hs)
  have hst : Pm.stepR d.data.toList = Pm.stepB d.data.toList := by unfold Pm.stepR; rw [hl, if_neg hsh, if_neg h01, if_pos h02, if_pos h64]
  rw [hst]
  unfold Pm.stepB
  by_cases he : (Cs.pentR ((d.data.toList.drop 4).take 32)).2 = 0
  case neg => exact decBad (by rw [if_pos he]) (decode_two_err d w m hM h2 h1 h02 h64 he hs)
  have hne : ¬ (Cs.pentR ((d.data.toList.drop 4).take 32)).2 ≠ 0 := fun h => h he
  rw [if_neg hne]
  dsimp only
  rcases kindOf_range (Cs.pentR ((d.data.toList.drop 4).take 32)).1.1 with hk | hk | hk | hk
  · exact decBad (by rw [if_pos hk]) (decode_two_0 d w m hM h2 h1 h02 h64 he (Lib.hid hk) hs)
  · exact decGood (n := 64) (by rw [hk, if_neg (by decide), if_neg (by decide), if_neg (by decide)]) rfl (decode_two_1 d w m hM h2 h1 h02 h64 he (Lib.hid hk) hs)
  · rw [hk, if_neg (by decide), if_pos rfl]
    by_cases h8 : Pm.at_ d.data.toList 40 2 = 8
    case neg => exact decBad (by rw [if_pos h8]) (decode_two_2a d w m hM h2 h1 h02 h64 he (Lib.hid hk) h8 hs)
    rw [if_neg (fun h => h h8)]
    by_cases hn : Pm.at_ d.data.toList 42 1 < 1 ∨ 4 < Pm.at_ d.data.toList 42 1
    · exact decBad (by rw [if_pos hn]) (decode_two_2b d w m hM h2 h1 h02 h64 he (Lib.hid hk) h8 hn hs)
    · rw [if_neg hn]
      exact decode_two_2 d w m hM h2 h1 h02 h64 he (Lib.hid hk) h8 hn hs
  · exact decGood (n := 64) (by rw [hk, if_neg (by decide), if_neg (by decide), if_pos rfl]) rfl (decode_two_3 d w m hM h2 h1 h02 h64 he (Lib.hid hk) hs)
end Go.Proofs.YtlcdhlfkffkifaaGreatDoor

/-
  The program's Decode: the maps that bytes hold.
-/
namespace Go.Proofs.YtlcdhlfkffkifaaGreatDoor
open Go.RowKit Go.Maps
attribute [local go_sem ↓] Go.wp_at_zero Go.wp_at_succ

theorem at_i64 (d : List UInt8) (a k : Nat) (hk : k ≤ 4) : -9223372036854775808 ≤ (Pm.at_ d a k : Int) ∧ (Pm.at_ d a k : Int) ≤ 9223372036854775807 := by
  have h := Pm.at_lt d a k
  have h4 : 256 ^ k ≤ 256 ^ 4 := Nat.pow_le_pow_right (by decide) hk
  omega
theorem none_i64 : Pm.I64 Pm.none := ⟨by simp [Pm.none], by simp [Pm.none], by simp [Pm.none], by simp [Pm.none], by simp [Pm.none]⟩
/-- What the step hands out: its numbers are of the type int; what it has read lies there. -/
theorem step_fit (d : List UInt8) : Pm.I64 (Pm.stepR d).1 ∧ ((Pm.stepR d).2.2 = 0 → (Pm.stepR d).2.1 ≤ d.length) ∧ (Pm.stepR d).1.tables.length ≤ 4 ∧ ((Pm.stepR d).2.2 = 0 ∨ (Pm.stepR d).2.2 = 10 ∨ (Pm.stepR d).2.2 = 14) := by
  unfold Pm.stepR
  split
  · exact ⟨none_i64, (fun h => by cases h), by simp [Pm.none], by simp⟩
  rename_i hs
  split
  · split
    · rename_i h6
      exact ⟨⟨by simp, at_i64 _ _ _ (by decide), by simp, by simp, by simp⟩, (fun _ => by show 6 ≤ d.length; omega), by simp, by simp⟩
    · exact ⟨none_i64, (fun h => by cases h), by simp [Pm.none], by simp⟩
  split
  · split
    · rename_i h64
      unfold Pm.stepB
      split
      · exact ⟨none_i64, (fun h => by cases h), by simp [Pm.none], by simp⟩
      dsimp only
      split
      · exact ⟨none_i64, (fun h => by cases h), by simp [Pm.none], by simp⟩
      split
      · split
        · exact ⟨none_i64, (fun h => by cases h), by simp [Pm.none], by simp⟩
        split
        · exact ⟨none_i64, (fun h => by cases h), by simp [Pm.none], by simp⟩
        rename_i hn
        exact ⟨⟨by simp, at_i64 _ _ _ (by decide), by simp, by simp, by simp⟩, (fun _ => by show 64 ≤ d.length; omega), by simp [Pm.tabs]; omega, by simp⟩
      split
      · exact ⟨⟨by simp, at_i64 _ _ _ (by decide), at_i64 _ _ _ (by decide), at_i64 _ _ _ (by decide), at_i64 _ _ _ (by decide)⟩, (fun _ => by show 64 ≤ d.length; omega), by simp, by simp⟩
      · exact ⟨⟨by simp, at_i64 _ _ _ (by decide), by simp, by simp, by simp⟩, (fun _ => by show 64 ≤ d.length; omega), by simp, by simp⟩
    · exact ⟨none_i64, (fun h => by cases h), by simp [Pm.none], by simp⟩
  · exact ⟨none_i64, (fun h => by cases h), by simp [Pm.none], by simp⟩

/-- 'append(v, x)', one map more, as one step of a region that draws its order. -/
theorem stepM {w W : World} {ops : Array Oper} {o : Oper} {a : Act} {K : Act → World → Prop} {Q : Exit → Act → World → Prop} {E : Prop} (hgd : o.guard = none) (s x : Operand)
    (ho : o.op = .call { callee := .builtin .append, args := #[s, x], argTypes := #[22, 22] })
    (base : Nat) (v : Value) (L : List (Pm.M × Value)) (hs : a.eval s = v) (hown : Pm.OwnM W base v L) (p : Pm.M × Value) (hp : Pm.Tab W p.2 p.1.tables) (hi64 : Pm.I64 p.1)
    (c g : Nat) (hx : a.eval x = .slice (some ⟨g, 0, none⟩) 1 c) (hgs : g = W.heap.size) (hweq : w = W.alloc (.cells (Pm.pmC p.1 p.2).toArray 59)) (h8 : L.length ≤ 64) (hbase : base ≤ W.heap.size)
    (h : ∀ v' w', Pm.OwnM w' base v' (L ++ [p]) → Below base W w' → K (a.put o.dst v') w') :
    if Region.wanted o (yielded ops a.tmps) = true then Oper.wp Tryz.prog o a w K Q else E := by
  subst hweq
  subst hgs
  have hw : Region.wanted o (yielded ops a.tmps) = true := by simp [Region.wanted, hgd]
  rw [if_pos hw]
  have hinfo : (Tryz.prog.info? 59).map (fun i => (i.zero, i.size, i.bytes)) = some (some (Pm.pmV Pm.none (.slice none 0 0)), 6, 64) := by kernel_rfl
  obtain ⟨i, hi, hz0, hz1, hz2⟩ := info_parts hinfo
  have ht : Tryz.prog.underlying 22 = some (.slice 59) := by kernel_rfl
  have h1 : ∀ u ∈ Pm.pmC p.1 p.2, u.oneCell' = true := by
    obtain ⟨⟨A, c', he, _, _, _⟩, _⟩ := hp.rowS
    intro u hu
    simp only [Pm.pmC, he, List.mem_cons, List.not_mem_nil, or_false] at hu
    rcases hu with rfl | rfl | rfl | rfl | rfl | rfl <;> rfl
  obtain ⟨v', w', hrun, r1, r2, _⟩ := run_append_own (P := Tryz.prog) (W.alloc (.cells (Pm.pmC p.1 p.2).toArray 59)) base 22 o.type 59 i _ 6 64 ht hi hz0 hz1 hz2 rfl (by decide) v L.length (Pm.cellsL L) (hown.own.alloc _) ⟨W.heap.size, 0, none⟩ 1 c (Pm.pmC p.1 p.2) rfl
    (by
      intro j u hu
      rw [Addr.add_lit, World.cell?_alloc_at _ _ _ _ (by simp)]
      simpa [Pm.pmC] using hu) h1 (by unfold maxLen; omega) (by omega) (by simp; omega)
  unfold Oper.wp
  simp [execOp, ho, resolve, invoke, builtin, hs, hx, hrun, Result.andThen]
  have hg2 := (World.grownBy_alloc W (.cells (Pm.pmC p.1 p.2).toArray 59) v.ownBlock).trans r2
  refine h v' w' ⟨?_, ?_, ?_⟩ ((Below.refl base W).grown hg2 hbase (fun k hk => (hown.own.lt k hk).1))
  · have e : Pm.cellsL (L ++ [p]) = Pm.cellsL L ++ Pm.pmC p.1 p.2 := by simp [Pm.cellsL]
    rw [e, List.length_append]
    exact r1
  · intro q hq
    have hT : Pm.Tab W q.2 q.1.tables := by
      rcases List.mem_append.1 hq with h | h
      · exact hown.tabs q h
      · rw [List.mem_singleton.1 h]; exact hp
    refine hT.kept hg2 ?_
    rcases hT.far hown.own with h | h | h
    · rw [h]
      cases q.2.ownBlock <;> simp
    · exact Or.inl h
    · exact Or.inr h
  · intro q hq
    rcases List.mem_append.1 hq with h | h
    · exact hown.ints q h
    · rw [List.mem_singleton.1 h]; exact hi64

theorem Pm.OwnM.drew {w : World} {base : Nat} {v : Value} {L : List (Pm.M × Value)} (h : Pm.OwnM w base v L) : Pm.OwnM w.drew base v L := ⟨h.own.drew, fun p hp => (h.tabs p hp).drew, h.ints⟩
/-- What Decode hands back. -/
def DecodeOut (r : List Pm.M × Int) (W : World) (e : Ending) (W' : World) : Prop :=
  ∃ v L, e = .returned (.tuple #[v, .int .i64 r.2]) ∧ L.map Prod.fst = r.1 ∧ Pm.OwnM W' W.heap.size v L ∧ Below W.heap.size W W'
theorem decodeErr (c : Int) (W W' : World) (hb : Below W.heap.size W W') : DecodeOut ([], c) W (.returned (.tuple #[.slice none 0 0, .int .i64 c])) W' :=
  ⟨_, [], rfl, rfl, Pm.OwnM.nil _ _, hb⟩

set_option maxHeartbeats 3200000 in
set_option maxRecDepth 100000 in
/-- partitionmap.Decode. -/
theorem decode_all (d : ByteArray) (count : Int) (w : World) (m : Int) (hM : w.cell? ⟨0, 0, none⟩ = some (.int .i64 m)) (hs : d.size ≤ 4096) :
    Calls Tryz.prog 13 #[.string d, .int .i64 count] w (DecodeOut (Pm.decR d.data.toList count) w) := by
  by_cases h0 : count < 0
  · have e0 : decide (count < 0) = true := decide_eq_true h0
    have hr : Hid (Pm.decR d.data.toList count = ([], 1)) := Lib.hid (by unfold Pm.decR; rw [if_pos h0])
    go_enter Tryz.func13, Tryz.ntmps13
    go_wp2_with fail
    go_ret2
    rw [hr.out]
    exact decodeErr 1 _ _ (Below.refl _ _)
  by_cases h4 : 4 < count
  · have e0 : decide (count < 0) = false := decide_eq_false h0
    have e4 : decide (4 < count) = true := decide_eq_true h4
    have hr : Hid (Pm.decR d.data.toList count = ([], 7)) := Lib.hid (by unfold Pm.decR; rw [if_neg h0, if_pos h4])
    go_enter Tryz.func13, Tryz.ntmps13
    go_wp2_with fail
    go_ret2
    rw [hr.out]
    exact decodeErr 7 _ _ (Below.refl _ _)
  obtain ⟨n, rfl⟩ : ∃ n : Nat, count = (n : Int) := ⟨count.toNat, by omega⟩
  have hn4 : n ≤ 4 := by omega
  have hr : Hid (Pm.decR d.data.toList (n : Int) = Pm.decN n d.data.toList []) := Lib.hid (by unfold Pm.decR; rw [if_neg h0, if_neg h4]; rfl)
  have e0 : decide ((n : Int) < 0) = false := decide_eq_false h0
  have e4 : decide (4 < (n : Int)) = false := decide_eq_false h4
  have HM := Lib.hid hM
  have CD := Lib.hid (fun (s : ByteArray) (W : World) h hs => decode_any s W m h hs)
  clear h0 h4 hM
  go_enter Tryz.func13, Tryz.ntmps13
  go_wp2_with fail
  go_loopw [0, 6, 17] (fun ds v iv wr => ∃ (j : Nat) (s : ByteArray) (L : List (Pm.M × Value)), j ≤ n ∧ iv = .int .i64 j ∧ ds = .string s ∧ s.size ≤ 4096 ∧ L.length = j ∧ Pm.decN n d.data.toList [] = Pm.decN (n - j) s.data.toList (L.map Prod.fst) ∧ Pm.OwnM wr w.heap.size v L ∧ Below w.heap.size w wr) (fun _ _ iv _ => n - (intOf iv).toNat)
  case atStart => exact ⟨0, d, [], by omega, rfl, rfl, hs, rfl, rfl, Pm.OwnM.nil _ _, Below.refl _ _⟩
  case round =>
    obtain ⟨j, s, L, hj, rfl, rfl, hss, hL, heq, hown, hbr⟩ := hrel
    by_cases hlt : j < n
    · have hM' := (hbr.cell (p := ⟨0, 0, none⟩) (World.block_lt_of_cell? _ _ HM.out)).trans HM.out
      have HC := Lib.hid (CD.out s wr hM' hss)
      have hfit := step_fit s.data.toList
      have HFIT := Lib.hid hfit
      have hdn : Pm.decN (n - j) s.data.toList (L.map Prod.fst) = if (Pm.stepR s.data.toList).2.2 ≠ 0 then ([], (Pm.stepR s.data.toList).2.2) else Pm.decN (n - j - 1) (s.data.toList.drop (Pm.stepR s.data.toList).2.1) (L.map Prod.fst ++ [(Pm.stepR s.data.toList).1]) := by
        obtain ⟨q, hq⟩ : ∃ q, n - j = q + 1 := ⟨n - j - 1, by omega⟩
        rw [hq]
        rfl
      have HDN := Lib.hid (heq.trans hdn)
      have HOWN := Lib.hid hown
      have HBR := Lib.hid hbr
      have hlen : s.data.toList.length = s.size := by simp
      rw [hlen] at HFIT
      clear hfit hdn heq hown hbr hM' hlen
      generalize Pm.stepR s.data.toList = st at *
      obtain ⟨⟨k, nm, ts, f, mi, bm⟩, z, er⟩ := st
      simp only [] at *
      go_wp2_with fail
      refine HC.out.mono ?_
      rintro e w1 ⟨tv, rfl, ht1, hb1⟩
      simp only [Pm.pmV] at *
      by_cases hz : er = 0
      · subst hz
        have hzl : z ≤ s.size := HFIT.out.2.1 rfl
        have hI : Pm.I64 ⟨k, nm, ts, f, mi, bm⟩ := HFIT.out.1
        obtain ⟨TA, tc, htv, _⟩ := Kit.RowS.of_own ht1 |>.1
        subst htv
        rw [Kit.izs_length] at *
        have HI := Lib.hid hI
        have HT1 := Lib.hid (fun o => show Pm.Tab (w1.alloc o).drew _ ts from (Kit.own_below ht1 ((Below.refl _ w1).alloc (Nat.le_refl _) o)).drew)
        have HO1 := Lib.hid (fun o => ((HOWN.out.below hb1).below ((Below.refl _ w1).alloc (Nat.le_refl _) o)).drew)
        have HB0 := Lib.hid (fun o => HBR.out.trans ((hb1.mono HBR.out.size).trans (((Below.refl w.heap.size w1).alloc (Nat.le_trans HBR.out.size hb1.size) o).drew)))
        have HBS := Lib.hid (fun o => show w.heap.size ≤ (w1.alloc o).drew.heap.size from (Nat.le_trans (Nat.le_trans HBR.out.size hb1.size) (((Below.refl w.heap.size w1).alloc (Nat.le_trans HBR.out.size hb1.size) o).size)))
        have HGS := Lib.hid (fun o => show w1.heap.size + 1 = (w1.alloc o).drew.heap.size from by show _ = (w1.alloc o).heap.size; simp)
        have hz0 : (0 : Int) ≤ (z : Int) := Int.natCast_nonneg _
        have hz1 : (z : Int) ≤ (s.size : Int) := by omega
        have HL8 : Hid (L.length ≤ 64) := Lib.hid (by omega)
        have hrd : (s.extract z s.size).data.toList = s.data.toList.drop z := by
          rw [Lib.extract_data, List.take_of_length_le (by simp)]
        have hrs : (s.extract z s.size).size ≤ 4096 := by simp; omega
        have HRD := Lib.hid hrd
        have HRS := Lib.hid hrs
        clear ht1 hb1 hI hrd hrs
        go_wp2_with fail
        go_region_law (refine stepM (W := (w1.alloc (.cells #[.int .i64 k, .int .i64 nm, .slice TA ts.length tc, .int .i64 f, .int .i64 mi, .int .i64 bm] 59)).drew) (by rfl) (.tmp 28) (.tmp 30) (by rfl) w.heap.size _ L (by rfl) (by exact HO1.out _) (⟨k, nm, ts, f, mi, bm⟩, .slice TA ts.length tc) (by exact HT1.out _) HI.out 1 (w1.heap.size + 1) (by rfl) (by exact HGS.out _) (by rfl) HL8.out (by exact HBS.out _) ?_; intro v' w' ho' hb'; have HO' := Lib.hid ho'; have HB' := Lib.hid hb'; clear ho' hb')
        all_goals
          go_wp2_with fail
          go_roundw
          case rel =>
            refine ⟨j + 1, _, L ++ [(⟨k, nm, ts, f, mi, bm⟩, .slice TA ts.length tc)], by omega, by go_num, rfl, HRS.out, by simp [hL], ?_, HO'.out, (HB0.out _).trans HB'.out⟩
            rw [HDN.out, if_neg (fun h => h rfl), HRD.out, List.map_append]
            rfl
          case measure => simp [intOf]; omega
      · have dz : (er != 0) = true := by rw [bne_iff_ne]; exact hz
        have HB1 := Lib.hid hb1
        obtain ⟨TA, tc, htv, _⟩ := Kit.RowS.of_own ht1 |>.1
        subst htv
        rw [Kit.izs_length] at *
        clear ht1 hb1
        go_wp2_with fail
        go_ret2
        rw [hr.out, HDN.out, if_pos hz]
        exact decodeErr er _ _ ((HBR.out.trans (HB1.out.mono HBR.out.size)).trans ((Below.refl _ _).alloc (Nat.le_trans HBR.out.size HB1.out.size) _))
    · obtain rfl : j = n := by omega
      have HOWN := Lib.hid hown
      have HBR := Lib.hid hbr
      have HEQ := Lib.hid heq
      clear hown hbr heq
      by_cases hs0 : s.size = 0
      · have e1 := Kit.is_empty s hs0
        have e2 : s.toList = [] := List.isEmpty_iff.1 e1
        go_wp2_with fail
        go_ret2
        refine ⟨_, L, ?_, ?_, HOWN.out, HBR.out⟩
        · rw [hr.out, HEQ.out, Nat.sub_self]
          have : s.data.toList = [] := by rw [← Lib.toList_data]; exact e2
          unfold Pm.decN
          rw [if_pos this]
          rfl
        · rw [hr.out, HEQ.out, Nat.sub_self]
          have : s.data.toList = [] := by rw [← Lib.toList_data]; exact e2
          unfold Pm.decN
          rw [if_pos this]
      · have e1 := Kit.not_empty s (by omega)
        have e3 : (!s.toList.isEmpty) = true := by rw [e1]; rfl
        go_wp2_with fail
        go_ret2
        have : ¬ s.data.toList = [] := by rw [← Lib.toList_data]; intro h; rw [h] at e1; cases e1
        rw [hr.out, HEQ.out, Nat.sub_self]
        unfold Pm.decN
        rw [if_neg this]
        exact decodeErr 10 _ _ HBR.out
end Go.Proofs.YtlcdhlfkffkifaaGreatDoor

/-
  The walk through partitionmap.Maps.
-/
namespace Go.Proofs.YtlcdhlfkffkifaaGreatDoor
open Go.RowKit
namespace Pm
/-- One map of a kind. -/
def mapR (ts : List Int) (f m b k : Int) : M := if k = 2 then ⟨2, 0, ts, 0, 0, 0⟩ else if k = 3 then ⟨3, 0, [], f, m, b⟩ else ⟨k, 0, [], 0, 0, 0⟩
def kindsR (kind : Int) : List Int := if kind = 0 then [0] else if kind = 1 then [0, 1] else if kind = 2 then [2] else if kind = 3 then [0, 3] else []
/-- Maps. -/
def mapsR (kind : Int) (ts : List Int) (f m b : Int) : List M := (kindsR kind).map (mapR ts f m b)
end Pm

theorem clone_any (v : Value) (l : List Int) (w : World) (h : Kit.RowS w v (Kit.izs l)) (hl : l.length ≤ 64) :
    Calls Tryz.prog 35 #[v] w fun e w' => ∃ v', e = .returned v' ∧ w'.ownsRow w.heap.size 3 1 v' l.length (Kit.izs l) ∧ Below w.heap.size w w' := by
  obtain ⟨⟨A, c, rfl, hlc, hcm, hc⟩, hn⟩ := h
  rw [Kit.izs_length] at *
  cases A with
  | none =>
    have : l = [] := by
      rcases l with _ | ⟨a, t⟩
      · rfl
      · obtain ⟨b, o, h, _⟩ := hc (by simp)
        cases h
    subst this
    refine (Tryz.slices_Clone_int_nil _ _ w).mono ?_
    rintro e w' ⟨rfl, rfl⟩
    exact ⟨_, rfl, ⟨rfl, Or.inl ⟨rfl, rfl⟩⟩, Below.refl _ _⟩
  | some a =>
    by_cases h0 : l.length = 0
    · obtain rfl : l = [] := List.eq_nil_of_length_eq_zero h0
      refine (Tryz.slices_Clone_int_zero a c w).mono ?_
      rintro e w' ⟨v', rfl, ho, _, hb⟩
      exact ⟨v', rfl, ho, hb⟩
    · obtain ⟨b, o, he, hbl, hcell⟩ := hc (by omega)
      cases he
      refine (Tryz.slices_Clone_int b o l.length c l w (Nat.le_refl _) (by omega) (fun j hj => hcell j _ (by simp [Kit.izs, List.getD, hj]))).mono ?_
      rintro e w' ⟨v', rfl, ho, _, hb⟩
      rw [List.take_length] at ho
      exact ⟨v', rfl, ho, hb⟩

set_option maxHeartbeats 16000000 in
set_option maxRecDepth 100000 in
/-- partitionmap.Maps. -/
theorem maps_any (kind : Int) (tv : Value) (ts : List Int) (f m b : Int) (w : World) (hr : Kit.RowS w tv (Kit.izs ts)) (hl : ts.length ≤ 64) (hk : (Lit.int .i64 kind).wf = true) (hi : Pm.I64 ⟨3, 0, [], f, m, b⟩) :
    Calls Tryz.prog 16 #[.int .i64 kind, tv, .int .i64 f, .int .i64 m, .int .i64 b] w fun e w' => ∃ v L, e = .returned v ∧ L.map Prod.fst = Pm.mapsR kind ts f m b ∧ Pm.OwnM w' w.heap.size v L ∧ Below w.heap.size w w' := by
  have HR := Lib.hid hr
  have HI := Lib.hid hi
  obtain ⟨⟨A0, c0, rfl, _, _, _⟩, _⟩ := hr
  rw [Kit.izs_length] at *
  clear hi
  have hmr : Pm.mapsR kind ts f m b = (Pm.kindsR kind).map (Pm.mapR ts f m b) := rfl
  rw [hmr]
  clear hmr
  go_enter Tryz.func16, Tryz.ntmps16
  go_wp2_with fail
  refine (kinds_any _).mono ?_
  rintro e w2 ⟨bm, b0, b1, b2, b3, rfl, hbm, g0, g1, g2, g3, hV, k0, k1, k2, k3, hb2⟩
  have hz : (zeroValue 32).run Tryz.prog w2 = .ok (.slice none 0 0) w2 := by kernel_rfl
  have hlk := four4_look (t := 66) (by kernel_rfl) _ _ _ _ _ kind w2 bm 4 hV hk hz
  have hks : ∃ A c, (if kind = 0 then slV b0 1 else if kind = 1 then slV b1 2 else if kind = 2 then slV b2 1 else if kind = 3 then slV b3 2 else Value.slice none 0 0) = .slice A (Pm.kindsR kind).length c ∧ Kit.Row w2 (.slice A (Pm.kindsR kind).length c) (Kit.izs (Pm.kindsR kind)) := by
    have hm : 2 ≤ maxLen := by unfold maxLen; omega
    unfold Pm.kindsR
    by_cases h0 : kind = 0
    · rw [if_pos h0, if_pos h0]; exact ⟨_, _, rfl, k0.row (by simp; omega)⟩
    · rw [if_neg h0, if_neg h0]
      by_cases h1 : kind = 1
      · rw [if_pos h1, if_pos h1]; exact ⟨_, _, rfl, k1.row (by simp; omega)⟩
      · rw [if_neg h1, if_neg h1]
        by_cases h2 : kind = 2
        · rw [if_pos h2, if_pos h2]; exact ⟨_, _, rfl, k2.row (by simp; omega)⟩
        · rw [if_neg h2, if_neg h2]
          by_cases h3 : kind = 3
          · rw [if_pos h3, if_pos h3]; exact ⟨_, _, rfl, k3.row (by simp; omega)⟩
          · rw [if_neg h3, if_neg h3]; exact ⟨_, _, rfl, (Kit.RowS.nil _).1⟩
  obtain ⟨AK, cK, hK, hKR⟩ := hks
  have hkl : (Pm.kindsR kind).length ≤ 2 := by
    unfold Pm.kindsR
    split
    · decide
    · split
      · decide
      · split
        · decide
        · split <;> decide
  have hkm : ∀ k ∈ Pm.kindsR kind, k = 0 ∨ k = 1 ∨ k = 2 ∨ k = 3 := by
    intro k hk'
    unfold Pm.kindsR at hk'
    repeat' split at hk'
    all_goals (simp at hk' <;> omega)
  rw [hK] at hlk
  have HKR := Lib.hid hKR
  have HKM := Lib.hid hkm
  clear hK hKR hkm hV k0 k1 k2 k3 hz hbm g0 g1 g2 g3
  generalize hks : Pm.kindsR kind = ks at *
  have HKS := Lib.hid hks
  clear hks
  go_wp2_with fail
  go_loopw [11, 13, 14, 19, 26, 31] (fun ov _ _ iv _ _ wr => ∃ j : Nat, j ≤ ks.length ∧ iv = .int .i64 j ∧ (∃ L, L.map Prod.fst = (ks.take j).map (Pm.mapR ts f m b) ∧ Pm.OwnM wr w2.heap.size ov L) ∧ Below w2.heap.size w2 wr) (fun _ _ _ iv _ _ _ => ks.length - (intOf iv).toNat)
  case atStart => exact ⟨0, by omega, rfl, ⟨[], rfl, Pm.OwnM.nil _ _⟩, Below.refl _ _⟩
  case round =>
    obtain ⟨j, hj, rfl, ⟨L, hL, hO⟩, hbw⟩ := hrel
    by_cases hlt : j < ks.length
    · obtain ⟨b', o', c', hv', hbk, hcj⟩ := HKR.out.at_izs hlt
      obtain ⟨rfl, _, rfl⟩ : AK = some ⟨b', o', none⟩ ∧ ks.length = ks.length ∧ cK = c' := by simpa using hv'
      clear hv'
      have hsn : (ks.take (j + 1)).map (Pm.mapR ts f m b) = (ks.take j).map (Pm.mapR ts f m b) ++ [Pm.mapR ts f m b (ks.getD j 0)] := by
        rw [List.take_succ_eq_append_getElem hlt, List.map_append]
        simp [List.getD, hlt]
      have HSN := Lib.hid (fun (p : Pm.M × Value) (hp : p.1 = Pm.mapR ts f m b (ks.getD j 0)) => show (L ++ [p]).map Prod.fst = (ks.take (j + 1)).map (Pm.mapR ts f m b) by rw [hsn, List.map_append, hL, ← hp]; rfl)
      have hx := HKM.out (ks.getD j 0) (by simp [List.getD, hlt])
      have hLl : L.length ≤ 64 := by
        have := congrArg List.length hL
        rw [List.length_map, List.length_map, List.length_take] at this
        omega
      have hcx := (hbw.cell (p := ⟨b', o' + j, none⟩) hbk).trans hcj
      have hsw : w.heap.size ≤ wr.heap.size := Nat.le_trans hb2.size hbw.size
      have hO' := Lib.hid fun (o : Obj) => hO.below ((Below.refl _ _).alloc (Nat.le_refl _) o)
      clear hcj hbk hL hsn
      generalize ks.getD j 0 = k at *
      have hTn : Hid (∀ W : World, Pm.Tab W (.slice none 0 0) []) := Lib.hid fun W => ⟨rfl, Or.inl ⟨rfl, rfl⟩⟩
      by_cases h2 : k = 2
      · subst h2
        clear hx
        have HRr := Lib.hid (HR.out.below (hb2.trans (hbw.mono hb2.size)))
        have CC := Lib.hid (fun W h => clone_any (.slice A0 ts.length c0) ts W h hl)
        go_wp2_with fail
        have hba : Below wr.heap.size wr (wr.alloc (.cells #[.int .i64 2, .int .i64 0, .slice none 0 0, .int .i64 0, .int .i64 0, .int .i64 0] 59)) := (Below.refl _ _).alloc (Nat.le_refl _) _
        refine (CC.out _ (HRr.out.below hba)).mono ?_
        rintro e w3 ⟨v', rfl, hT, hb3⟩
        have hbS := fun (x : Value) => ((hba.trans (hb3.mono (B' := wr.heap.size) (by simp))).setCell (p := ⟨wr.heap.size, 2, none⟩) (Nat.le_refl _) x)
        have hT0 := hT
        obtain ⟨⟨A', c', rfl, _, _, _⟩, _⟩ := Kit.RowS.of_own hT0
        clear hT0
        rw [Kit.izs_length] at *
        have hTS := Lib.hid (ownsRow_setCell_other hT (a := ⟨wr.heap.size, 2, none⟩) (fun he => by have := (hT.lt _ he).1; simp at this; omega) (.slice A' ts.length c'))
        have hbx : ∀ k u, (#[.int .i64 2, .int .i64 0, .slice none 0 0, .int .i64 0, .int .i64 0, .int .i64 0] : Array Value)[k]? = some u → w3.cell? ⟨wr.heap.size, k, none⟩ = some u := fun k u hu => by
          refine (hb3.cell (p := ⟨wr.heap.size, k, none⟩) (by simp)).trans ?_
          rw [World.cell?_alloc_at _ _ _ _ (by simp)]
          simpa using hu
        have x0 := hbx 0 _ rfl
        have x1 := hbx 1 _ rfl
        have x2 := hbx 2 _ rfl
        have x3 := hbx 3 _ rfl
        have x4 := hbx 4 _ rfl
        have x5 := hbx 5 _ rfl
        have fz2 : w3.frozen? ⟨wr.heap.size, 2, none⟩ = false := (hb3.frozen (p := ⟨wr.heap.size, 2, none⟩) (by simp)).trans (by rw [World.frozen?_alloc_mark]; rfl)
        clear hbx
        have HO1 := Lib.hid (hO.below (hbS (.slice A' ts.length c')))
        have HTB := Lib.hid (Kit.own_base hTS.out (Nat.zero_le _))
        have hI2 : Hid (Pm.I64 ⟨2, 0, ts, 0, 0, 0⟩) := Lib.hid ⟨by simp, by simp, by simp, by simp, by simp⟩
        go_wp2_with (at_builtin; refine pushM rfl (.tmp 39) (.tmp 41) rfl w2.heap.size _ L rfl HO1.out (⟨2, 0, ts, 0, 0, 0⟩, .slice A' ts.length c') HTB.out hI2.out 1 _ rfl ?q1 hLl ?q2 ?_)
        try (case q1 => simp)
        case q2 => have h1 := hbw.size; have h2 := hb3.size; simp at h2 ⊢; omega
        intro v' w' hO2 hb4
        have HO2 := Lib.hid hO2
        clear hO2
        go_wp2_with fail
        go_roundw
        case rel => exact ⟨j + 1, by omega, by go_num, ⟨_, HSN.out _ (by simp [Pm.mapR]), HO2.out⟩, hbw.trans (((hbS _).mono hbw.size).trans hb4)⟩
        case measure => simp [intOf]; omega
      · by_cases h3 : k = 3
        · subst h3
          clear hx h2
          have HO1 := Lib.hid (hO'.out (.cells #[.int .i64 3, .int .i64 0, .slice none 0 0, .int .i64 f, .int .i64 m, .int .i64 b] 59))
          go_wp2_with (at_builtin; refine pushM rfl (.tmp 39) (.tmp 41) rfl w2.heap.size _ L rfl HO1.out (⟨3, 0, [], f, m, b⟩, .slice none 0 0) (hTn.out _) HI.out 1 _ rfl ?q3 hLl ?q4 ?_)
          try (case q3 => simp)
          case q4 => have := hbw.size; simp; omega
          intro v' w' hO2 hb3
          have HO2 := Lib.hid hO2
          clear hO2
          go_wp2_with fail
          go_roundw
          case rel => exact ⟨j + 1, by omega, by go_num, ⟨_, HSN.out _ (by simp [Pm.mapR]), HO2.out⟩, hbw.trans ((((Below.refl _ wr).alloc (Nat.le_refl _) _).mono hbw.size).trans hb3)⟩
          case measure => simp [intOf]; omega
        · have d2 : decide (k = 2) = false := decide_eq_false h2
          have d3 : decide (k = 3) = false := decide_eq_false h3
          have hIk : Hid (Pm.I64 ⟨k, 0, [], 0, 0, 0⟩) := Lib.hid ⟨by simp; omega, by simp, by simp, by simp, by simp⟩
          have HO1 := Lib.hid (hO'.out (.cells #[.int .i64 k, .int .i64 0, .slice none 0 0, .int .i64 0, .int .i64 0, .int .i64 0] 59))
          go_wp2_with (at_builtin; refine pushM rfl (.tmp 39) (.tmp 41) rfl w2.heap.size _ L rfl HO1.out (⟨k, 0, [], 0, 0, 0⟩, .slice none 0 0) (hTn.out _) hIk.out 1 _ rfl ?q5 hLl ?q6 ?_)
          try (case q5 => simp)
          case q6 => have := hbw.size; simp; omega
          intro v' w' hO2 hb3
          have HO2 := Lib.hid hO2
          clear hO2
          go_wp2_with fail
          go_roundw
          case rel => exact ⟨j + 1, by omega, by go_num, ⟨_, HSN.out _ (by simp [Pm.mapR, h2, h3]), HO2.out⟩, hbw.trans ((((Below.refl _ wr).alloc (Nat.le_refl _) _).mono hbw.size).trans hb3)⟩
          case measure => simp [intOf]; omega
    · obtain rfl : j = ks.length := by omega
      rw [List.take_length] at hL
      have HL := Lib.hid hL
      have HO := Lib.hid hO
      clear hL hO
      go_wp2_with fail
      go_ret
      exact ⟨_, L, rfl, by rw [HKS.out]; exact HL.out, HO.out.base hb2.size, hb2.trans (hbw.mono hb2.size)⟩
end Go.Proofs.YtlcdhlfkffkifaaGreatDoor
