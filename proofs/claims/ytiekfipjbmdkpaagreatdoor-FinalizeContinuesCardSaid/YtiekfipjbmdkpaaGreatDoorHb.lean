/-
  vat.Find at the example.
-/
import Derived.Test.YtiekfipjbmdkpaaGreatDoorHa
noncomputable section
namespace Go.Proofs.YtiekfipjbmdkpaaGreatDoor
open Go.RowKit Go.Shelf Go.Maps
attribute [local go_sem] Oper.semAt_some

/-- Its value, for a range over it. -/
theorem back_stops (n : Nat) (hn : 2 ≤ n) (b3 b2 : Nat) (w : World) (hx20 : w.cell? ⟨b2, 0, none⟩ = some (.int .i64 264)) (hx21 : w.cell? ⟨b2, 1, none⟩ = some (.int .i64 276)) (hx3 : w.cell? ⟨b3, 0, none⟩ = some (.int .i64 272)) :
    SeqStopsK Fence.wide n Tryz.prog 360 #[.pointer (some ⟨b3, 0, none⟩), .pointer (some ⟨b2, 0, none⟩)] (fun _ : Unit => #[.int .i64 271]) (Below w.heap.size) (fun ys => ys = [()]) (fun pre => pre = [()]) 1 w := fun l J Jx W hW hJ _ hY h0 => by
  have h2 := World.block_lt_of_cell? _ _ hx20
  have h3 := World.block_lt_of_cell? _ _ hx3
  exact back1_in n hn l b3 b2 w.heap.size J Jx W hW.size hJ hY h2 h3 ((hW.cell (p := ⟨b2, 0, none⟩) h2).trans hx20) ((hW.cell (p := ⟨b2, 1, none⟩) h2).trans hx21) ((hW.cell (p := ⟨b3, 0, none⟩) h3).trans hx3) h0

namespace Sx
open Go.Sx
set_option maxRecDepth 100000
-- the parts of Find's body
noncomputable def fdR0 : Code := match Tryz.f147.body with
  | some (.seq a _) => a
  | _ => .skip
noncomputable def fdC1 : Code := match Tryz.f147.body with
  | some (.seq _ (.seq a _)) => a
  | _ => .skip
noncomputable def fdR3 : Code := match Tryz.f147.body with
  | some (.seq _ (.seq _ (.seq (.seq a _) _))) => a
  | _ => .skip
noncomputable def fdAs : Code := match Tryz.f147.body with
  | some (.seq _ (.seq _ (.seq (.seq _ (.block _ (.rangeFunc _ _ a _))) _))) => a
  | _ => .skip
noncomputable def fdBd : Code := match Tryz.f147.body with
  | some (.seq _ (.seq _ (.seq (.seq _ (.block _ (.rangeFunc _ _ _ a))) _))) => a
  | _ => .skip
noncomputable def fdTl : Code := match Tryz.f147.body with
  | some (.seq _ (.seq _ (.seq _ a))) => a
  | _ => .skip
theorem fd_body : Tryz.f147.body = some (.seq fdR0 (.seq fdC1 (.seq (.seq fdR3 (.block 0 (.rangeFunc (.tmp 16) #[17] fdAs fdBd))) fdTl))) := by kernel_rfl
/-- The runner at this text. -/
noncomputable abbrev fdRun (c : Code) (S : PT AV) (H : Hp) : Res := run Tryz.prog fnK orcK noCuts 1000 38 c S H
noncomputable abbrev cF : Cut := c15
/-- The two results. -/
noncomputable def fdOut (p q : Nat) (e1 e2 : Nat) (l1 l2 : List AV) (nx : Nat) : Hp := ⟨ofM [(p, .row e1 l1 0 false), (q, .row e2 l2 0 false)], nx, nx, []⟩
/-- A slot that holds the address of a row that is known. -/
def ptrAt (S : PT AV) (t : Nat) : Option Nat := match S.get t with
  | some (.ptr p 0) => some p
  | _ => none
def rowAt (H : Hp) (p : Nat) : Option (Nat × List AV) := match H.m.get p with
  | some (.row e l 0 false) => some (e, l)
  | _ => none
def heads : List AV → List Nat → Bool
  | _, [] => true
  | l, n :: r => (match l with
    | .int .i64 (.ofNat m) :: l' => (match Nat.beq m n with | true => heads l' r | false => false)
    | _ => false)
/-- What stands behind the head of Find's body, and behind the first round. -/
def fresh (H : Hp) : Hp := ⟨H.m, H.next, H.next, []⟩
theorem beq_no {a b : Nat} (h : ¬ a = b) : Nat.beq a b = false := by
  cases hb : Nat.beq a b with
  | true => exact absurd (Nat.eq_of_beq_eq_true hb) h
  | false => rfl
def logIn (p q : Nat) : List Nat → Bool
  | [] => true
  | y :: l => (match Nat.beq y p, Nat.beq y q with
    | false, false => false
    | _, _ => logIn p q l)
theorem logIn_spec {p q : Nat} : ∀ {l : List Nat}, logIn p q l = true → ∀ y ∈ l, y = p ∨ y = q
  | [], _, _, h => by simp at h
  | z :: l, h, y, hy => by
    unfold logIn at h
    split at h
    · cases h
    · rename_i hh
      rcases List.mem_cons.1 hy with rfl | hy
      · by_cases h1 : y = p
        · exact .inl h1
        · by_cases h2 : y = q
          · exact .inr h2
          · exact (hh (beq_no h1) (beq_no h2)).elim
      · exact logIn_spec h y hy
noncomputable def fdEnd (S3 : PT AV) (H3 : Hp) (i j p q : Nat) (_ : PT AV) (H5 : Hp) : Bool := match rowAt H3 i, rowAt H3 j, rowAt H3 p, rowAt H3 q, rowAt H5 p, rowAt H5 q with
  | some (_, li), some (_, lj), some _, some _, some (e1, l1), some (e2, l2) => (match heads li [272], heads lj [264, 276], H3.log, logIn p q H5.log, resultsA Tryz.prog (fdOut p q e1 e2 l1 l2 H5.next).m.get S3 Tryz.f147.results.toList with
    | true, true, [], true, some l => (match eqL l [.int .i64 (.ofNat 271), .int .i64 (.ofNat 0)], Nat.blt p H3.next, Nat.blt q H3.next, Nat.ble cF.nx p, Nat.ble cF.nx q with
      | true, true, true, true, true => true
      | _, _, _, _, _ => false)
    | _, _, _, _, _ => false)
  | _, _, _, _, _, _ => false
noncomputable def fdChk : Bool := match fdRun fdR0 (fromArgs cF.args 0 .nil) cF.hin with
  | .ok .normal S1 H1 => (match fdRun fdC1 S1 H1 with
    | .ok .normal S2 H2 => (match fdRun fdR3 S2 H2 with
      | .ok .normal S3 H3 => (match S3.get 16, ptrAt S3 4, ptrAt S3 5 with
        | some (.fn g [] [.ptr i 0, .ptr j 0]), some p, some q => (match Nat.beq g 360, fdRun fdAs (S3.put 17 (some (.int .i64 (.ofNat 271)))) (fresh H3) with
          | true, .ok .normal S4 H4 => (match Nat.beq H4.next H3.next, H4.log, fdRun fdBd S4 (fresh H3) with
            | true, [], .ok .ret S5 H5 => fdEnd S3 H3 i j p q S5 H5
            | _, _, _ => false)
          | _, _ => false)
        | _, _, _ => false)
      | _ => false)
    | _ => false)
  | _ => false
theorem fd_chk : fdChk = true := by kernel_rfl
theorem fdEnd_spec {S3 S5 : PT AV} {H3 H5 : Hp} {i j p q : Nat} (h : fdEnd S3 H3 i j p q S5 H5 = true) : ∃ ei li ej lj ep lp eq lq e1 l1 e2 l2, H3.m.get i = some (.row ei li 0 false) ∧ H3.m.get j = some (.row ej lj 0 false) ∧ H3.m.get p = some (.row ep lp 0 false) ∧ H3.m.get q = some (.row eq lq 0 false) ∧
    H5.m.get p = some (.row e1 l1 0 false) ∧ H5.m.get q = some (.row e2 l2 0 false) ∧ heads li [272] = true ∧ heads lj [264, 276] = true ∧ H3.log = [] ∧ (∀ y ∈ H5.log, y = p ∨ y = q) ∧ resultsA Tryz.prog (fdOut p q e1 e2 l1 l2 H5.next).m.get S3 Tryz.f147.results.toList = some [.int .i64 (.ofNat 271), .int .i64 (.ofNat 0)] ∧ p < H3.next ∧ q < H3.next ∧ cF.nx ≤ p ∧ cF.nx ≤ q := by
  have row : ∀ (H : Hp) (p e : Nat) (l : List AV), rowAt H p = some (e, l) → H.m.get p = some (.row e l 0 false) := by
    intro H p e l h
    unfold rowAt at h
    split at h
    · rename_i hg
      injection h with h
      injection h with h1 h2
      subst h1 h2
      exact hg
    · cases h
  unfold fdEnd at h
  split at h
  · rename_i ei li ej lj ap aq e1 l1 e2 l2 g1 g2 g3 g4 g5 g6
    obtain ⟨ep, lp⟩ := ap
    obtain ⟨eq, lq⟩ := aq
    split at h
    · rename_i l k1 k2 k3 k4 k5
      split at h
      · rename_i m1 m2 m3 m4 m5
        rw [blt_eq, decide_eq_true_eq] at m2 m3
        exact ⟨ei, li, ej, lj, ep, lp, eq, lq, e1, l1, e2, l2, row _ _ _ _ g1, row _ _ _ _ g2, row _ _ _ _ g3, row _ _ _ _ g4, row _ _ _ _ g5, row _ _ _ _ g6, k1, k2, k3, logIn_spec k4, by rw [k5, eqL_eq _ _ m1], m2, m3, Nat.le_of_ble_eq_true m4, Nat.le_of_ble_eq_true m5⟩
      · cases h
    · cases h
  · cases h
/-- The first cells of a row whose head is known. -/
theorem heads_cells {P : Program} {E : Env} {nx : Nat} {w : World} {id e : Nat} {l : List AV} (h : ObjAt P E nx w id (.row e l 0 false)) : ∀ (r : List Nat), heads l r = true → ∀ (k m : Nat), r[k]? = some m → w.cell? ⟨(E.at_ id).1, k, none⟩ = some (.int .i64 m) := by
  obtain ⟨c, fr, r0, r1, r2, _, r4⟩ := h
  obtain ⟨r4, _⟩ := r4 rfl
  have gen : ∀ (r : List Nat) (l : List AV), heads l r = true → ∀ (k m : Nat), r[k]? = some m → nth l k = some (.int .i64 (.ofNat m)) := by
    intro r
    induction r with
    | nil => intro l _ k m hk; simp at hk
    | cons n r ih =>
      intro l hl k m hk
      unfold heads at hl
      split at hl
      · rename_i m' l'
        split at hl
        · rename_i hb
          have hb := Nat.eq_of_beq_eq_true hb
          subst hb
          cases k with
          | zero => simp only [List.getElem?_cons_zero, Option.some.injEq] at hk; subst hk; rfl
          | succ k => simp only [List.getElem?_cons_succ] at hk; exact ih l' hl k m hk
        · cases hl
      · cases hl
  intro r hr k m hk
  obtain ⟨x, hx, hv⟩ := r2 k _ (gen r l hr k m hk)
  simp only [VR] at hv
  subst hv
  rw [r4, Nat.zero_add] at hx
  simp [World.cell?, r0, hx]
theorem ofM2_get {p q e1 e2 : Nat} {l1 l2 : List AV} {nx i : Nat} {o : AObj} (h : (fdOut p q e1 e2 l1 l2 nx).m.get i = some o) : (i = p ∧ o = .row e1 l1 0 false) ∨ (i = q ∧ o = .row e2 l2 0 false) := by
  have := ofM_get_mem h
  simpa using this
/-- Find is told truly. -/
theorem cF_true : cF.True Tryz.prog := by
  refine Cut.true_plain rfl rfl rfl fun E w xs hr hx => ?_
  refine runs' Tryz.func147 (by kernel_rfl) (by kernel_rfl) _ _ _ ?_
  have hchk := fd_chk
  unfold fdChk at hchk
  split at hchk
  case h_2 => cases hchk
  rename_i S1 H1 hrun1
  split at hchk
  case h_2 => cases hchk
  rename_i S2 H2 hrun2
  split at hchk
  case h_2 => cases hchk
  rename_i S3 H3 hrun3
  split at hchk
  case h_2 => cases hchk
  rename_i g i j p q h16 hp4 hp5
  split at hchk
  case h_2 => cases hchk
  rename_i S4 H4 hg hrun4
  split at hchk
  case h_2 => cases hchk
  rename_i S5 H5 hn4 hlog4 hrun5
  have hg := Nat.eq_of_beq_eq_true hg
  subst hg
  obtain ⟨ei, li, ej, lj, ep, lp, eq, lq, e1, l1, e2, l2, g1, g2, g3, g4, g5, g6, k1, k2, k3, k4, k5, m2, m3, m4, m5⟩ := fdEnd_spec hchk
  have hn4 := Nat.eq_of_beq_eq_true hn4
  have hS := run_sound given0 1000
  have hlen := hx.length
  refine (callsIn_wide (n := 6)).1 ?_
  refine callsIn_of_wp_marks Tryz.func147 fd_body trivial ?_ rfl
  have hsz : xs.length = 2 := by rw [hlen]; rfl
  -- the head
  refine wpIn_seq (wpIn_mono (wpIn_wide.2 (hS.wp hrun1 E _ w hr (args_SR hx _) (by simp [hsz]) rfl)) ?_)
  rintro e a1 w1 ⟨rfl, z1, d1, E1, r1, t1, s1⟩
  have z1 : a1.tmps.size = 38 := by rw [z1]; simp [hsz]
  refine wpIn_seq (wpIn_mono (wpIn_wide.2 (hS.wp hrun2 E1 a1 w1 r1 s1 (by omega) d1)) ?_)
  rintro e a2 w2 ⟨rfl, z2, d2, E2, r2, t2, s2⟩
  refine wpIn_seq (wpIn_seq (wpIn_mono (wpIn_wide.2 (hS.wp hrun3 E2 a2 w2 r2 s2 (by omega) d2)) ?_))
  rintro e a3 w3 ⟨rfl, z3, d3, E3, r3, t3, s3⟩
  have z3 : a3.tmps.size = 38 := by omega
  have t03 := (t1.trans t2).trans t3
  show Code.wpIn _ _ _ _ _ _ _
  have b03 : Below w.heap.size w w3 := ⟨t03.calm.os, t03.calm.tape, t03.calm.output, t03.size, fun b hb => by
    rcases t03.frame b hb with h | ⟨y, o, y1, _, y3⟩
    · exact h
    · rcases y3 with y3 | y3
      · have := (hr.objs y o y1).1
        exact absurd y3 (by show ¬ cF.nx ≤ y; exact Nat.not_le.2 this)
      · rw [k3] at y3; cases y3⟩
  -- the iterator's value
  obtain ⟨x16, hx16, hv16⟩ := s3 16 _ h16
  simp only [VR] at hv16
  obtain ⟨ps, qs, hps, hqs, rfl⟩ := hv16
  simp only [VRs, VR] at hps hqs
  subst hps
  obtain ⟨_, _, ⟨hi, rfl⟩, ⟨_, _, ⟨hj, rfl⟩, rfl, rfl⟩, rfl⟩ := hqs
  have oi := (r3.objs i _ g1).2
  have oj := (r3.objs j _ g2).2
  have op := (r3.objs p _ g3).2
  have oq := (r3.objs q _ g4).2
  have ai : E3.addr i 0 = ⟨(E3.at_ i).1, 0, none⟩ := by
    obtain ⟨_, _, _, _, _, _, h⟩ := oi
    simp [Env.addr, (h rfl).1]
  have aj : E3.addr j 0 = ⟨(E3.at_ j).1, 0, none⟩ := by
    obtain ⟨_, _, _, _, _, _, h⟩ := oj
    simp [Env.addr, (h rfl).1]
  have e16 : a3.eval (.tmp 16) = .func (.func 360) #[] #[.pointer (some ⟨(E3.at_ i).1, 0, none⟩), .pointer (some ⟨(E3.at_ j).1, 0, none⟩)] := by
    rw [← ai, ← aj]
    simp [Act.eval, hx16]
  have hST := back_stops 5 (by omega) (E3.at_ i).1 (E3.at_ j).1 w3 (heads_cells oj _ k2 0 264 rfl) (heads_cells oj _ k2 1 276 rfl) (heads_cells oi _ k1 0 272 rfl)
  have bp := op.lt
  have bq := oq.lt
  have hpq : p ≠ q → (E3.at_ p).1 ≠ (E3.at_ q).1 := fun hne he => hne (r3.sep p q _ _ g3 g4 he)
  refine wpIn_block ?_
  have hnw : ∀ y, y < cF.nx → y ≠ p ∧ y ≠ q := fun y hy => ⟨by omega, by omega⟩
  have up : ∀ y, cF.nx ≤ y → ∀ o, H3.m.get y = some o → w.heap.size ≤ (E3.at_ y).1 := fun y hy o ho => by
    rcases t03.fresh y o ho hy with h | ⟨z, o', z1, _, z3⟩
    · exact h
    · have hz := (hr.objs z o' z1).1
      rcases z3 with z3 | z3
      · exact absurd z3 (Nat.not_le.2 hz)
      · rw [k3] at z3; cases z3
  have upp := up p m4 _ g3
  have upq := up q m5 _ g4
  have rep : ∀ W, Below w3.heap.size w3 W → Rep Tryz.prog E3 (fresh H3) W := fun W hb =>
    have h := r3.below hb
    ⟨h.objs, h.sep⟩
  refine wpIn_rangeFunc_ownH rfl (by omega) (gf := 360) (lb := #[.pointer (some ⟨(E3.at_ i).1, 0, none⟩), .pointer (some ⟨(E3.at_ j).1, 0, none⟩)]) e16 trivial (enters_of Tryz.func360 rfl (by rfl))
    hST (fun h k => h.trans k) (belowK_b (Nat.le_refl _)) (Below.refl _ _) (fun _ => rfl)
    (fun pre W => pre = [] ∧ Below w3.heap.size w3 W) (fun c pre W => c = .ret ∧ pre = [()] ∧ Below w.heap.size w W ∧ ∃ E5, Agree E3 E5 H3.next ∧ H3.next ≤ H5.next ∧ Rep Tryz.prog E5 (fdOut p q e1 e2 l1 l2 H5.next) W)
    ?_ ?_ ⟨rfl, Below.refl _ _⟩ (fun _ a' _ => a'.tmps.size = 38 ∧ a'.defers = [] ∧ SR E3 H3.next S4 a') ?_ ?_ ?_ ?_ ?_
  · -- what holds between the rounds
    rintro s W W' row ⟨h1, h2⟩ hg hrow
    exact ⟨h1, h2.grown hg h2.size (fun k hk => (hrow k hk).1)⟩
  · rintro c s W W' row ⟨h1, h2, h3, E5, n4, n5, n6⟩ hg hrow
    have hB : w.heap.size ≤ w3.heap.size := t03.size
    refine ⟨h1, h2, h3.grown hg h3.size (fun k hk => Nat.le_trans hB (hrow k hk).1), E5, n4, n5, ⟨fun id o ho => ?_, n6.sep⟩⟩
    have hob := n6.objs id o ho
    refine ⟨hob.1, hob.2.mono hob.1 (Agree.refl _ _) (Nat.le_refl _) ?_⟩
    refine hg.block _ hob.2.lt ?_
    intro he
    have hk := (hrow _ he.symm).1
    rcases ofM2_get ho with ⟨rfl, _⟩ | ⟨rfl, _⟩
    · rw [(n4 _ m2).1] at hk; omega
    · rw [(n4 _ m3).1] at hk; omega
  · intro x a'
    rintro s W W' row h _ _
    exact h
  · -- the assignment
    rintro l pre x W K ⟨h1, h2⟩ hK
    have hs : SR E3 (fresh H3).next (S3.put 17 (some (.int .i64 (.ofNat 271)))) { tmps := a3.tmps.setIfInBounds 17 (.int .i64 271), defers := [] } := by
      intro t v ht
      rw [PT.get_put] at ht
      split at ht
      · rename_i h17
        injection ht with ht
        subst h17 ht
        refine ⟨.int .i64 271, ?_, by simp [VR]⟩
        simp [z3]
      · rename_i h17
        obtain ⟨y, hy, hv⟩ := s3 t v ht
        refine ⟨y, ?_, hv⟩
        rw [Array.getElem?_setIfInBounds_ne (Ne.symm h17)]
        exact hy
    have hps : (#[17].zip #[Value.int .i64 271]).foldl (fun t (p, v) => t.setIfInBounds p v) a3.tmps = a3.tmps.setIfInBounds 17 (.int .i64 271) := by simp
    rw [hps]
    refine wpIn_mono (code_in given0 1000 (k := l) (n := 6 - 1 - 1) (by kernel_rfl) hrun4 E3 { tmps := a3.tmps.setIfInBounds 17 (.int .i64 271), defers := [] } W (rep W h2) hs (by simp [z3]) rfl) ?_
    rintro e a' W' ⟨rfl, q1, q2, E', q3, q4, q5⟩
    have hkeep : ∀ b, b < W.heap.size → W'.heap[b]? = W.heap[b]? := fun b hb => by
      rcases q4.frame b hb with h | ⟨y, o, y1, _, y3⟩
      · exact h
      · have := ((rep W h2).objs y o y1).1
        rcases y3 with y3 | y3
        · exact absurd y3 (by show ¬ H3.next ≤ y; exact Nat.not_le.2 this)
        · rw [hlog4] at y3; cases y3
    have hbl : Below W.heap.size W W' := ⟨q4.calm.os, q4.calm.tape, q4.calm.output, q4.size, hkeep⟩
    refine hK a' W' ⟨q4.size, fun b o _ hb _ => ?_⟩ (hbl.mono h2.size) ⟨h1, h2.trans (hbl.mono h2.size)⟩ ⟨by rw [q1]; simp [z3], q2, ?_⟩
    · rw [hkeep b (Array.getElem?_eq_some_iff.1 hb).1]; exact hb
    · intro t v ht
      obtain ⟨y, hy, hv⟩ := q5 t v ht
      refine ⟨y, hy, ?_⟩
      rw [hn4] at hv
      exact VR.mono (fun i hi => ⟨((q4.agree i hi).1).symm, ((q4.agree i hi).2).symm⟩) (Nat.le_refl _) v y hv
  · -- the round
    rintro l pre x a' W hl _ ⟨h1, h2⟩ ⟨p1, p2, p3⟩ hlen
    subst h1
    refine wpIn_mono (code_in given0 1000 (k := l) (n := 6 - 1 - 1) (by kernel_rfl) hrun5 E3 a' W (rep W h2) p3 (by omega) p2) ?_
    rintro e b W' ⟨rfl, q1, q2, E5, q3, q4, q5⟩
    have hfr : ∀ b, b < W.heap.size → W'.heap[b]? = W.heap[b]? ∨ b = (E3.at_ p).1 ∨ b = (E3.at_ q).1 := fun b hb => by
      rcases q4.frame b hb with h | ⟨y, o, y1, y2, y3⟩
      · exact .inl h
      · have := ((rep W h2).objs y o y1).1
        rcases y3 with y3 | y3
        · exact absurd y3 (by show ¬ H3.next ≤ y; exact Nat.not_le.2 this)
        · rcases k4 y y3 with rfl | rfl
          · exact .inr (.inl y2.symm)
          · exact .inr (.inr y2.symm)
    have hW := h2.size
    refine ⟨⟨q4.size, fun b o hb1 hb _ => ?_⟩, rfl, rfl, ⟨q4.calm.os.trans (h2.os.trans b03.os), q4.calm.tape.trans (h2.tape.trans b03.tape), q4.calm.output.trans (h2.output.trans b03.output), Nat.le_trans b03.size (Nat.le_trans hW q4.size), fun b hb => ?_⟩, E5, q4.agree, q4.next, ?_⟩
    · rcases hfr b (Array.getElem?_eq_some_iff.1 hb).1 with h | h | h
      · rw [h]; exact hb
      · omega
      · omega
    · rcases hfr b (by have := b03.size; omega) with h | h | h
      · rw [h, h2.block b (by have := b03.size; omega), b03.block b hb]
      · omega
      · omega
    · refine ⟨fun id o ho => ?_, fun a b oa ob ha hb he => ?_⟩
      · rcases ofM2_get ho with ⟨rfl, rfl⟩ | ⟨rfl, rfl⟩
        · exact q3.objs _ _ g5
        · exact q3.objs _ _ g6
      · have key : ∀ a oa, (fdOut p q e1 e2 l1 l2 H5.next).m.get a = some oa → H5.m.get a = some oa := fun a oa ha => by
          rcases ofM2_get ha with ⟨rfl, rfl⟩ | ⟨rfl, rfl⟩
          · exact g5
          · exact g6
        exact q3.sep a b oa ob (key a oa ha) (key b ob hb) he
  · -- the iterator does not end by itself
    rintro D ys W hD hys ⟨h1, _⟩ _
    rw [h1] at hys
    cases hys
  · -- behind the range
    rintro D c pre W hD hpre ⟨rfl, h1, h2, E5, h4, h5, h6⟩ hdef
    refine wpIn_ret ?_
    unfold Exit.inBlock Exit.then
    simp only []
    have hput := grownBy_putObj' W D (.deferred none)
    rw [d3]
    refine ⟨by simp, .inl ⟨_, _, rfl, run_takeDeferred hdef, ?_⟩⟩
    have hblk : ∀ id o, (fdOut p q e1 e2 l1 l2 H5.next).m.get id = some o → (W.putObj D (.deferred none)).heap[(E5.at_ id).1]? = W.heap[(E5.at_ id).1]? := fun id o ho => by
      refine hput.block _ (h6.objs id o ho).2.lt ?_
      intro he
      have he := Option.some.inj he
      rcases ofM2_get ho with ⟨rfl, _⟩ | ⟨rfl, _⟩
      · rw [(h4 _ m2).1] at he; omega
      · rw [(h4 _ m3).1] at he; omega
    have h7 : Rep Tryz.prog E5 (fdOut p q e1 e2 l1 l2 H5.next) (W.putObj D (.deferred none)) := ⟨fun id o ho => ⟨(h6.objs id o ho).1, (h6.objs id o ho).2.mono (h6.objs id o ho).1 (Agree.refl _ _) (Nat.le_refl _) (hblk id o ho)⟩, h6.sep⟩
    have hS3 : SR E5 (fdOut p q e1 e2 l1 l2 H5.next).next S3 a3 := fun t v ht => by
      obtain ⟨y, hy, hv⟩ := s3 t v ht
      exact ⟨y, hy, VR.mono h4 h5 v y hv⟩
    obtain ⟨ys, y1, y2⟩ := resultsA_run h7 hS3 k5
    refine ⟨_, results_run y1, ?_, ?_⟩
    · exact h2.grown hput h2.size (fun k hk => by cases hk; exact Nat.le_trans t03.size hD)
    have := oneOf_VR y2
    exact plain_VR _ _ rfl this
end Sx
end Go.Proofs.YtiekfipjbmdkpaaGreatDoor
end
