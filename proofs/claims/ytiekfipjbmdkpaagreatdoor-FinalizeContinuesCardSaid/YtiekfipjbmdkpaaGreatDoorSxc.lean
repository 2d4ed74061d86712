/-
  The runner's regions, bodies, calls are sound; cuts.
-/
import Derived.Test.YtiekfipjbmdkpaaGreatDoorSxb
noncomputable section
set_option linter.unusedVariables false
set_option linter.unusedSimpArgs false
namespace Go.Sx
open Go.RowKit

-- ------------------------------------------------------------------ edges
theorem bitN_eq (m j : Nat) : bitN m j = m.testBit j := by
  rw [Nat.testBit_eq_decide_div_mod_eq]
  show Nat.beq (m / 2 ^ j % 2) 1 = _
  rw [Bool.eq_iff_iff, Nat.beq_eq, decide_eq_true_eq]
theorem bindsA_eq (e : Edge) : bindsA e = Region.binds .any e := by
  unfold bindsA Region.binds
  cases e.ground <;> rfl
theorem maskOf_bit {done : List Nat} {j : Nat} : ∀ {es : List Edge}, bitN (maskOf done es) j = true → ∃ e ∈ es, bindsA e = true ∧ (j = e.on ∨ bitN ((nth done e.on).getD 0) j = true)
  | [], h => by simp [maskOf, bitN_eq] at h
  | e :: es, h => by
    unfold maskOf at h
    split at h
    · rename_i hb
      rw [bitN_eq] at h
      show _
      have h' : (((2 ^ e.on ||| (nth done e.on).getD 0) ||| maskOf done es) : Nat).testBit j = true := h
      rw [Nat.testBit_or, Nat.testBit_or, Bool.or_eq_true, Bool.or_eq_true, Nat.testBit_two_pow] at h'
      rcases h' with (h' | h') | h'
      · exact ⟨e, by simp, hb, .inl (of_decide_eq_true h').symm⟩
      · exact ⟨e, by simp, hb, .inr (by rw [bitN_eq]; exact h')⟩
      · obtain ⟨e', q1, q2, q3⟩ := maskOf_bit (es := es) (by rw [bitN_eq]; exact h')
        exact ⟨e', by simp [q1], q2, q3⟩
    · obtain ⟨e', q1, q2, q3⟩ := maskOf_bit h
      exact ⟨e', by simp [q1], q2, q3⟩
theorem masksFrom_spec : ∀ (os : List Oper) (done : List Nat), (masksFrom os done).length = done.length + os.length ∧ (masksFrom os done).take done.length = done ∧
    ∀ k o, os[k]? = some o → (masksFrom os done)[done.length + k]? = some (maskOf ((masksFrom os done).take (done.length + k)) o.after.toList)
  | [], done => ⟨rfl, by simp [masksFrom], by simp⟩
  | o :: os, done => by
    obtain ⟨h1, h2, h3⟩ := masksFrom_spec os (done ++ [maskOf done o.after.toList])
    simp only [masksFrom]
    simp only [List.length_append, List.length_cons, List.length_nil] at h1 h2 h3
    have h4 : (masksFrom os (done ++ [maskOf done o.after.toList])).take done.length = done := by
      have := congrArg (List.take done.length) h2
      rw [List.take_take, Nat.min_eq_left (by omega)] at this
      simpa using this
    refine ⟨by simp; omega, h4, fun k p hk => ?_⟩
    cases k with
    | zero =>
      simp at hk
      subst hk
      rw [Nat.add_zero, h4]
      have := congrArg (fun l => l[done.length]?) h2
      simp only [List.getElem?_take] at this
      rw [if_pos (by omega)] at this
      simpa using this
    | succ k =>
      have := h3 k p (by simpa using hk)
      rwa [show done.length + (0 + 1) + k = done.length + (k + 1) by omega] at this
section
variable (ops : Array Oper)
/-- What an operation stands behind. -/
def mkAt (i : Nat) : Nat := (nth (masksOf ops.toList) i).getD 0
/-- The operation j is bound to come before the operation i. -/
def ord (j i : Nat) : Prop := bitN (mkAt ops i) j = true
theorem mkAt_bit {i j : Nat} {o : Oper} (ho : ops[i]? = some o) (h : ord ops j i) : ∃ e ∈ o.after, Region.binds .any e = true ∧ (j = e.on ∨ (e.on < i ∧ ord ops j e.on)) := by
  unfold ord mkAt at h
  obtain ⟨h1, h2, h3⟩ := masksFrom_spec ops.toList []
  have h4 := h3 i o (by simpa using ho)
  simp only [List.length_nil, Nat.zero_add] at h4
  rw [nth_eq] at h
  have h4' : (masksOf ops.toList)[i]? = some (maskOf ((masksOf ops.toList).take i) o.after.toList) := h4
  rw [h4'] at h
  obtain ⟨e, q1, q2, q3⟩ := maskOf_bit h
  refine ⟨e, by simpa using q1, by rw [← bindsA_eq]; exact q2, ?_⟩
  rcases q3 with q3 | q3
  · exact .inl q3
  · right
    rw [nth_eq] at q3
    rcases Nat.lt_or_ge e.on i with hlt | hge
    · refine ⟨hlt, ?_⟩
      unfold ord mkAt
      rw [nth_eq]
      rwa [List.getElem?_take, if_pos hlt] at q3
    · rw [List.getElem?_take, if_neg (by omega)] at q3
      simp [bitN_eq] at q3
/-- Closed under what binds. -/
def Closed (D : Nat → Prop) : Prop := ∀ i o, D i → ops[i]? = some o → ∀ e ∈ o.after, Region.binds .any e = true → D e.on
theorem ord_closed {D : Nat → Prop} (hD : Closed ops D) : ∀ (i : Nat) (o : Oper), ops[i]? = some o → (∀ e ∈ o.after, Region.binds .any e = true → D e.on) → ∀ j, ord ops j i → D j := by
  intro i
  induction i using Nat.strongRecOn with
  | _ i ih =>
    intro o ho hr j hj
    obtain ⟨e, q1, q2, q3⟩ := mkAt_bit ops ho hj
    rcases q3 with rfl | ⟨q3, q4⟩
    · exact hr e q1 q2
    · have hlt : i < ops.size := (Array.getElem?_eq_some_iff.1 ho).1
      have he : ops[e.on]? = some ops[e.on] := Array.getElem?_eq_getElem (by omega)
      exact ih e.on q3 ops[e.on] he (hD e.on _ (hr e q1 q2) he) j q4

-- ------------------------------------------------------------------ slots
theorem writersOk_spec {rs : List Nat} {mask : Nat} : ∀ {os : List Oper} {j : Nat}, writersOk rs mask os j = true → ∀ k o, os[k]? = some o → ∀ d, o.dst = some d → d ∈ rs → bitN mask (j + k) = true
  | [], _, _, k, o, hk, _, _, _ => by simp at hk
  | o :: os, j, h, k, p, hk, d, hd, hm => by
    unfold writersOk at h
    cases k with
    | zero =>
      simp at hk
      subst hk
      rw [hd] at h
      simp only [(memN_eq rs d).2 hm] at h
      split at h
      · rename_i hb; simpa using hb
      · cases h
    | succ k =>
      have h' : writersOk rs mask os (j + 1) = true := by
        split at h
        · exact h
        · split at h
          · exact h
          · split at h
            · exact h
            · cases h
      have := writersOk_spec h' k p (by simpa using hk) d hd hm
      rwa [show j + 1 + k = j + (k + 1) by omega] at this
theorem laterOk_spec {rs : List Nat} {i : Nat} {masks : List Nat} : ∀ {os : List Oper} {j : Nat}, laterOk rs i masks os j = true → ∀ k o, os[k]? = some o → ∀ d, o.dst = some d → d ∈ rs → bitN ((nth masks (j + k)).getD 0) i = true
  | [], _, _, k, o, hk, _, _, _ => by simp at hk
  | o :: os, j, h, k, p, hk, d, hd, hm => by
    unfold laterOk at h
    cases k with
    | zero =>
      simp at hk
      subst hk
      rw [hd] at h
      simp only [(memN_eq rs d).2 hm] at h
      split at h
      · rename_i hb; simpa using hb
      · cases h
    | succ k =>
      have h' : laterOk rs i masks os (j + 1) = true := by
        split at h
        · exact h
        · split at h
          · exact h
          · split at h
            · exact h
            · cases h
      have := laterOk_spec h' k p (by simpa using hk) d hd hm
      rwa [show j + 1 + k = j + (k + 1) by omega] at this
theorem slotsOkFrom_spec {all : List Oper} {masks : List Nat} : ∀ {os : List Oper} {i : Nat}, slotsOkFrom all masks os i = true → ∀ k o, os[k]? = some o → slotsOkAt all masks o (i + k) = true
  | [], _, _, k, o, hk => by simp at hk
  | o :: os, i, h, k, p, hk => by
    unfold slotsOkFrom at h
    split at h
    · rename_i h0
      cases k with
      | zero => simp at hk; subst hk; simpa using h0
      | succ k =>
        have := slotsOkFrom_spec h k p (by simpa using hk)
        rwa [show i + 1 + k = i + (k + 1) by omega] at this
    · cases h
theorem edgesBack_spec {i : Nat} : ∀ {es : List Edge}, edgesBack i es = true → ∀ e ∈ es, bindsA e = true → e.on < i
  | [], _, e, he, _ => by simp at he
  | u :: es, h, e, he, hb => by
    unfold edgesBack at h
    rcases List.mem_cons.1 he with rfl | he
    · rw [hb] at h
      simp only [] at h
      split at h
      · rename_i hlt
        rw [blt_eq] at hlt
        exact of_decide_eq_true hlt
      · cases h
    · refine edgesBack_spec (es := es) ?_ e he hb
      split at h
      · split at h
        · exact h
        · cases h
      · exact h
theorem slotsOk_back (h : slotsOk ops.toList = true) {i : Nat} {o : Oper} (ho : ops[i]? = some o) : ∀ e ∈ o.after, Region.binds .any e = true → e.on < i := by
  intro e he hb
  have h0 := slotsOkFrom_spec h i o (by simpa using ho)
  rw [Nat.zero_add] at h0
  unfold slotsOkAt at h0
  simp only [] at h0
  split at h0
  · cases h0
  · rename_i hw
    exact edgesBack_spec hw e (by simpa using he) (by rw [bindsA_eq]; exact hb)
theorem ord_lt (h : slotsOk ops.toList = true) : ∀ (i : Nat) (o : Oper), ops[i]? = some o → ∀ j, ord ops j i → j < i := by
  intro i
  induction i using Nat.strongRecOn with
  | _ i ih =>
    intro o ho j hj
    obtain ⟨e, q1, q2, q3⟩ := mkAt_bit ops ho hj
    have hlt := slotsOk_back ops h ho e q1 q2
    rcases q3 with rfl | ⟨q3, q4⟩
    · exact hlt
    · have hs : i < ops.size := (Array.getElem?_eq_some_iff.1 ho).1
      have := ih e.on q3 ops[e.on] (Array.getElem?_eq_getElem (by omega)) j q4
      omega
/-- The slots that an operation reads or writes. -/
def ios (o : Oper) : List Nat := readsOf ops.toList o ++ o.dst.toList
theorem slotsOk_spec (h : slotsOk ops.toList = true) {i j : Nat} {o p : Oper} (ho : ops[i]? = some o) (hp : ops[j]? = some p) {d : Nat} (hd : p.dst = some d) (hm : d ∈ ios ops o) (hne : j ≠ i) :
    (j < i ∧ ord ops j i) ∨ (i < j ∧ ord ops i j) := by
  have h0 := slotsOkFrom_spec h i o (by simpa using ho)
  rw [Nat.zero_add] at h0
  unfold slotsOkAt at h0
  simp only [] at h0
  split at h0
  · cases h0
  split at h0
  · rename_i hw
    rcases Nat.lt_or_gt_of_ne hne with hlt | hgt
    · left
      refine ⟨hlt, ?_⟩
      have := writersOk_spec hw j p (by rw [List.getElem?_take, if_pos hlt]; simpa using hp) d hd hm
      rw [Nat.zero_add] at this
      exact this
    · right
      refine ⟨hgt, ?_⟩
      have := laterOk_spec h0 (j - (i + 1)) p (by rw [List.getElem?_drop]; rw [show i + 1 + (j - (i + 1)) = j by omega]; simpa using hp) d hd hm
      rw [show i + 1 + (j - (i + 1)) = j by omega] at this
      exact this
  · cases h0
end

-- ------------------------------------------------------------------ names that values mention
section
variable {E E' : Env} {nx nx' : Nat} {bad : List Nat}
/-- Two places of names agree below a name, but for some. -/
def AgreeBut (E E' : Env) (nx : Nat) (bad : List Nat) : Prop := ∀ i, i < nx → i ∉ bad → E'.at_ i = E.at_ i ∧ E'.cap i = E.cap i
theorem notMem {l : List Nat} {i : Nat} (h : notB (memN l i) = true) : i ∉ l := by
  rw [memN_dec, notB_eq] at h
  simpa using h
mutual
theorem VR.monoC (h : AgreeBut E E' nx bad) (hn : nx ≤ nx') : ∀ (v : AV) (x : Value), cleanV bad v = true → VR E nx v x → VR E' nx' v x
  | .bool _, _, _, hv | .int _ _, _, _, hv | .str _ _, _, _, hv | .nilp, _, _, hv | .nilsl, _, _, hv | .nilmap, _, _, hv | .nilfn, _, _, hv | .nilifc, _, _, hv => by simpa [VR] using hv
  | .ptr i o, x, hc, hv => by
    simp only [VR] at hv ⊢
    simp only [cleanV] at hc
    obtain ⟨q1, q2⟩ := h i hv.1 (notMem hc)
    exact ⟨Nat.lt_of_lt_of_le hv.1 hn, by simp only [Env.addr, q1]; exact hv.2⟩
  | .slice i o l (.k n), x, hc, hv => by
    simp only [VR] at hv ⊢
    simp only [cleanV] at hc
    obtain ⟨q1, q2⟩ := h i hv.1 (notMem hc)
    exact ⟨Nat.lt_of_lt_of_le hv.1 hn, by simp only [Env.addr, q1]; exact hv.2⟩
  | .slice i o l (.u j), x, hc, hv => by
    simp only [VR] at hv ⊢
    simp only [cleanV] at hc
    obtain ⟨q1, q2⟩ := h i hv.1 (notMem hc)
    refine ⟨Nat.lt_of_lt_of_le hv.1 hn, ?_⟩
    simp only [Env.addr, q1, q2]; exact hv.2
  | .emp i o j a, x, hc, hv => by
    simp only [VR] at hv ⊢
    simp only [cleanV] at hc
    obtain ⟨q1, q2⟩ := h i hv.1 (notMem hc)
    refine ⟨Nat.lt_of_lt_of_le hv.1 hn, ?_⟩
    simp only [Env.addr, q1, q2]; exact hv.2
  | .map i, x, hc, hv => by
    simp only [VR] at hv ⊢
    simp only [cleanV] at hc
    obtain ⟨q1, q2⟩ := h i hv.1 (notMem hc)
    exact ⟨Nat.lt_of_lt_of_le hv.1 hn, by rw [q1]; exact hv.2⟩
  | .fn f a b, x, hc, hv => by
    simp only [VR] at hv ⊢
    simp only [cleanV] at hc
    split at hc
    · rename_i hca
      obtain ⟨xs, ys, h1, h2, h3⟩ := hv
      exact ⟨xs, ys, VRs.monoC h hn a xs hca h1, VRs.monoC h hn b ys hc h2, h3⟩
    · cases hc
  | .ifc t v, x, hc, hv => by
    simp only [VR] at hv ⊢
    simp only [cleanV] at hc
    obtain ⟨y, h1, h2⟩ := hv
    exact ⟨y, VR.monoC h hn v y hc h1, h2⟩
  | .agg l, x, hc, hv => by
    simp only [VR] at hv ⊢
    simp only [cleanV] at hc
    obtain ⟨y, h1, h2⟩ := hv
    exact ⟨y, VRs.monoC h hn l y hc h1, h2⟩
  | .tup l, x, hc, hv => by
    simp only [VR] at hv ⊢
    simp only [cleanV] at hc
    obtain ⟨y, h1, h2⟩ := hv
    exact ⟨y, VRs.monoC h hn l y hc h1, h2⟩
theorem VRs.monoC (h : AgreeBut E E' nx bad) (hn : nx ≤ nx') : ∀ (v : List AV) (x : List Value), cleanL bad v = true → VRs E nx v x → VRs E' nx' v x
  | [], _, _, hv => by simpa [VRs] using hv
  | a :: l, x, hc, hv => by
    simp only [VRs] at hv ⊢
    simp only [cleanL] at hc
    split at hc
    · rename_i hca
      obtain ⟨y, r, h1, h2, h3⟩ := hv
      exact ⟨y, r, VR.monoC h hn a y hca h1, VRs.monoC h hn l r hc h2, h3⟩
    · cases hc
end
theorem ERs.monoC (h : AgreeBut E E' nx bad) (hn : nx ≤ nx') : ∀ (v : List (AV × AV × Nat)) (x : List MapEntry), cleanM bad v = true → ERs E nx v x → ERs E' nx' v x
  | [], _, _, hv => hv
  | (k, v, b) :: l, x, hc, hv => by
    simp only [cleanM] at hc
    split at hc
    · rename_i hk hv'
      obtain ⟨y, z, r, h1, h2, h3, h4⟩ := hv
      exact ⟨y, z, r, VR.monoC h hn k y hk h1, VR.monoC h hn v z hv' h2, ERs.monoC h hn l r hc h3, h4⟩
    · cases hc
theorem cleanL_nth : ∀ {l : List AV} {i : Nat} {v : AV}, cleanL bad l = true → l[i]? = some v → cleanV bad v = true
  | [], i, v, _, h => by simp at h
  | a :: l, i, v, hc, h => by
    simp only [cleanL] at hc
    split at hc
    · rename_i hca
      cases i with
      | zero => simp at h; subst h; exact hca
      | succ i => exact cleanL_nth hc (by simpa using h)
    · cases hc
theorem ObjAt.monoC {P : Program} {w w' : World} {id : Nat} {o : AObj} (h : ObjAt P E nx w id o) (hc : cleanO bad o = true) (ha : AgreeBut E E' nx bad) (hn : nx ≤ nx') (hid : E'.at_ id = E.at_ id ∧ E'.cap id = E.cap id)
    (hb : w'.heap[(E.at_ id).1]? = w.heap[(E.at_ id).1]?) : ObjAt P E' nx' w' id o := by
  cases o with
  | row e cs fz mk =>
    obtain ⟨c, fr, h0, h1, h2, h3, h4⟩ := h
    simp only [cleanO] at hc
    simp only [ObjAt, hid.1, hid.2]
    exact ⟨c, fr, hb.trans h0, h1, fun i v hv => let ⟨x, hx, hr⟩ := h2 i v hv; ⟨x, hx, VR.monoC ha hn v x (cleanL_nth hc (by rw [← nth_eq]; exact hv)) hr⟩, h3, h4⟩
  | map es clock =>
    obtain ⟨l, h0, h1⟩ := h
    simp only [cleanO] at hc
    simp only [ObjAt, hid.1]
    exact ⟨l, hb.trans h0, ERs.monoC ha hn es l hc h1⟩
  | iter => exact h.elim
end

-- ------------------------------------------------------------------ operations at some slots alone
section
variable {S S' : PT AV}
theorem ev_congr {x : Operand} (h : ∀ t, x = .tmp t → S.get t = S'.get t) : ev S x = ev S' x := by
  cases x with
  | tmp t => exact h t rfl
  | _ => rfl
theorem tmpsOf_mem : ∀ {l : List Operand} {t : Nat}, .tmp t ∈ l → t ∈ tmpsOf l
  | x :: l, t, h => by
    rcases List.mem_cons.1 h with h | h
    · subst h; simp [tmpsOf]
    · have := tmpsOf_mem h
      cases x <;> simp [tmpsOf, this]
/-- The operands of an operation give the same at both slots. -/
def Same (S S' : PT AV) (o : Op) : Prop := ∀ x ∈ o.operands, ev S x = ev S' x
theorem Same.of {o : Op} (h : ∀ t ∈ tmpsOf o.operands.toList, S.get t = S'.get t) : Same S S' o := fun x hx => ev_congr fun t ht => h t (tmpsOf_mem (by subst ht; simpa using hx))
theorem evs_congr : ∀ {l : List Operand}, (∀ x ∈ l, ev S x = ev S' x) → evs S l = evs S' l
  | [], _ => rfl
  | x :: l, h => by simp only [evs]; rw [h x (by simp), evs_congr fun y hy => h y (by simp [hy])]
theorem evP_congr : ∀ {l : List (Nat × Operand)}, (∀ p ∈ l, ev S p.2 = ev S' p.2) → evP S l = evP S' l
  | [], _ => rfl
  | (i, x) :: l, h => by simp only [evP]; rw [h (i, x) (by simp), evP_congr fun y hy => h y (by simp [hy])]
theorem evO_congr {o : Option Operand} (h : ∀ x, o = some x → ev S x = ev S' x) : evO S o = evO S' o := by
  cases o with
  | none => rfl
  | some x => simp only [evO]; rw [h x rfl]
theorem callOf_congr {o : Op} (h : Same S S' o) : callOf o S = callOf o S' := by
  unfold callOf
  cases o <;> try rfl
  rename_i k
  simp only []
  cases hc : k.callee with
  | value f =>
    simp only []
    have h1 : ev S f = ev S' f := h f (by simp [Op.operands, Call.operands, hc])
    have h2 : evs S k.args.toList = evs S' k.args.toList := evs_congr fun x hx => h x (by
      simp only [Op.operands, Call.operands]
      exact Array.mem_append.2 (.inr (by simpa using hx)))
    rw [h1, h2]
  | _ => rfl
theorem aop_congr {P : Program} {get : Nat → Option AObj} {nx : Nat} {o : Op} (h : Same S S' o) : aop P get nx o S = aop P get nx o S' := by
  unfold Same at h
  cases o <;> simp only [Op.operands] at h <;> simp only [aop]
  case build t ps => rw [evP_congr fun p hp => h p.2 (by simp; exact ⟨p.1, by simpa using hp⟩)]
  case buildSlice t n ps => rw [evP_congr fun p hp => h p.2 (by simp; exact ⟨p.1, by simpa using hp⟩)]
  case makeFunc fn first caps =>
    cases fn <;> try rfl
    simp only []
    rw [evs_congr (l := first.toList) fun x hx => h x (Array.mem_append.2 (.inl (by simpa using hx))), evs_congr (l := caps.toList) fun x hx => h x (Array.mem_append.2 (.inr (by simpa using hx)))]
  case makeMap t r => cases r <;> rfl
  case slice t x lo hi mx =>
    rw [h x (by simp), evO_congr (o := lo) fun y hy => h y (by subst hy; simp), evO_congr (o := hi) fun y hy => h y (by subst hy; simp), evO_congr (o := mx) fun y hy => h y (by subst hy; simp)]
  case call k =>
    rw [evs_congr (l := k.args.toList) fun x hx => h x (by simp only [Call.operands]; exact Array.mem_append.2 (.inr (by simpa using hx)))]
  all_goals (first | rfl | (simp_all; done))
/-- Some slots alone. -/
def pickT (S : PT AV) : List Nat → PT AV
  | [] => .nil
  | t :: l => (pickT S l).put t (S.get t)
theorem pickT_get (S : PT AV) : ∀ (l : List Nat) (t : Nat), (pickT S l).get t = if t ∈ l then S.get t else none
  | [], t => by simp [pickT, PT.get]
  | u :: l, t => by
    simp only [pickT, PT.get_put, pickT_get S l t]
    by_cases h : t = u
    · subst h; simp
    · simp [h]
end
end Go.Sx

namespace Go.Sx
open Go.RowKit

structure St where
  S : PT AV
  H : Hp
  T : List Tch
  R : List (Nat × Option (List Nat))
/-- An operation's record: its value, the blocks that it was run on, those behind it, the elder names that it touched. -/
structure Rc where
  v : AV
  hin : Hp
  out : Hp
  wr : List Nat
def hinS (H : Hp) (ids : List Nat) : Hp := ⟨subT H.m ids, H.next, H.next, []⟩
def hinC (H : Hp) (ls : List Nat) : Hp := ⟨dropT H.m ls, H.next, H.next, []⟩

section
variable (P : Program) (fnAt : Nat → Option Func) (orc : Orc) (big : Big) (ih : Run) (nt : Nat) (ops : Array Oper)
inductive Step1 (i : Nat) (o : Oper) (s s' : St) (r : Rc) : Prop where
  | skip (hw : wantedA ops.toList o.guard s.S = some false) (hp : putS nt o.dst (.tup []) s.S = some s'.S) (hH : s'.H = s.H) (hT : s'.T = s.T) (hR : s'.R = s.R) (hr : r = ⟨.tup [], hinS s.H [], hinS s.H [], []⟩)
  | simple (e : Eff) (hw : wantedA ops.toList o.guard s.S = some true) (hc : callOf o.op s.S = some none) (ha : aop P (subT s.H.m (foot o.op s.S)).get s.H.next o.op s.S = some e)
      (hf : freeOf (mkAt ops i) (foot o.op s.S) s.T = true) (hu : unreadBy (mkAt ops i) e.u.on.toList s.R = true) (hcl : cleanE (newLoose (mkAt ops i) s.T) e = true) (hp : putS nt o.dst e.v s.S = some s'.S)
      (hH : s'.H = e.u.onto s.H) (hT : s'.T = ⟨i, s.H.next, (e.u.onto s.H).next, e.u.on.toList⟩ :: s.T) (hR : s'.R = (i, some (foot o.op s.S)) :: s.R)
      (hr : r = ⟨e.v, hinS s.H (foot o.op s.S), e.u.onto (hinS s.H (foot o.op s.S)), e.u.on.toList⟩)
  | call (f : Nat) (args : List AV) (v : AV) (Ho : Hp) (hw : wantedA ops.toList o.guard s.S = some true) (hc : callOf o.op s.S = some (some (f, args)))
      (ha : callR P fnAt orc big ih f args (hinC s.H (looseOf (mkAt ops i) s.T)) = some (v, Ho)) (hu : unreadBy (mkAt ops i) Ho.log s.R = true) (hcl : cleanC (newLoose (mkAt ops i) s.T) v Ho.m s.H.next Ho.next Ho.log = true)
      (hp : putS nt o.dst v s.S = some s'.S) (hH : s'.H = ⟨backT s.H.m Ho.m (looseOf (mkAt ops i) s.T), Ho.next, s.H.lim, logOf s.H.lim s.H.log Ho.log⟩)
      (hT : s'.T = ⟨i, s.H.next, Ho.next, Ho.log⟩ :: s.T) (hR : s'.R = (i, none) :: s.R) (hr : r = ⟨v, hinC s.H (looseOf (mkAt ops i) s.T), Ho, Ho.log⟩)

/-- The way through a region, step by step. -/
theorem trace {S' : PT AV} {H' : Hp} : ∀ (k : Nat) (s : St), drawR P fnAt orc big ih nt ops.toList (masksOf ops.toList) (ops.toList.drop k) k s.S s.H s.T s.R = some (S', H') → k ≤ ops.size →
    ∃ (st : Nat → St) (rc : Nat → Rc), st k = s ∧ (∀ i o, k ≤ i → ops[i]? = some o → Step1 P fnAt orc big ih nt ops i o (st i) (st (i + 1)) (rc i)) ∧ (st ops.size).S = S' ∧ (st ops.size).H = H' := by
  intro k
  induction hn : ops.size - k generalizing k with
  | zero =>
    intro s h hk
    have : k = ops.size := by omega
    subst this
    rw [List.drop_eq_nil_of_le (by simp)] at h
    simp only [drawR, Option.some.injEq, Prod.mk.injEq] at h
    exact ⟨fun _ => s, fun _ => ⟨.tup [], s.H, s.H, []⟩, rfl, fun i o hi ho => absurd (Array.getElem?_eq_some_iff.1 ho).1 (by omega), h.1, h.2⟩
  | succ n ihn =>
    intro s h hk
    have hlt : k < ops.size := by omega
    rw [List.drop_eq_getElem_cons (by simpa using hlt)] at h
    simp only [Array.getElem_toList] at h
    have fin : ∀ (s1 : St) (r : Rc), Step1 P fnAt orc big ih nt ops k ops[k] s s1 r → drawR P fnAt orc big ih nt ops.toList (masksOf ops.toList) (ops.toList.drop (k + 1)) (k + 1) s1.S s1.H s1.T s1.R = some (S', H') →
        ∃ (st : Nat → St) (rc : Nat → Rc), st k = s ∧ (∀ i o, k ≤ i → ops[i]? = some o → Step1 P fnAt orc big ih nt ops i o (st i) (st (i + 1)) (rc i)) ∧ (st ops.size).S = S' ∧ (st ops.size).H = H' := by
      intro s1 r hstep hd
      obtain ⟨st, rc, q1, q2, q3, q4⟩ := ihn (k + 1) (by omega) s1 hd (by omega)
      refine ⟨fun i => if i = k then s else st i, fun i => if i = k then r else rc i, by simp, fun i o hi ho => ?_, by simp only [if_neg (show ¬ ops.size = k by omega)]; exact q3, by simp only [if_neg (show ¬ ops.size = k by omega)]; exact q4⟩
      by_cases hik : i = k
      · subst hik
        have : o = ops[i] := by rw [Array.getElem?_eq_getElem hlt] at ho; injection ho with ho; exact ho.symm
        subst this
        simp only [if_true]
        rw [if_neg (by omega), q1]
        exact hstep
      · simp only [if_neg hik]
        rw [if_neg (by omega)]
        exact q2 i o (by omega) ho
    unfold drawR at h
    split at h
    · cases h
    · rename_i hw
      split at h
      · rename_i S1 hp
        exact fin ⟨S1, s.H, s.T, s.R⟩ _ (.skip hw hp rfl rfl rfl rfl) h
      · cases h
    · rename_i hw
      split at h
      · cases h
      · rename_i hc
        simp only [] at h
        split at h
        · cases h
        · rename_i e ha
          split at h
          · rename_i S1 hf hu hcl hp
            rw [openH_eq] at h
            exact fin ⟨S1, e.u.onto s.H, ⟨k, s.H.next, (e.u.onto s.H).next, e.u.on.toList⟩ :: s.T, (k, some (foot ops[k].op s.S)) :: s.R⟩ _ (.simple e hw hc ha hf hu hcl hp rfl rfl rfl rfl) h
          · cases h
      · rename_i f args hc
        simp only [] at h
        split at h
        · cases h
        · rename_i v Ho ha
          split at h
          · rename_i S1 hu hcl hp
            exact fin ⟨S1, ⟨backT s.H.m Ho.m (looseOf (mkAt ops k) s.T), Ho.next, s.H.lim, logOf s.H.lim s.H.log Ho.log⟩, ⟨k, s.H.next, Ho.next, Ho.log⟩ :: s.T, (k, none) :: s.R⟩ _ (.call f args v Ho hw hc ha hu hcl hp rfl rfl rfl rfl) h
          · cases h
end

-- ------------------------------------------------------------------ parts of trees
theorem subT_get (m : PT AObj) : ∀ (l : List Nat) (id : Nat), (subT m l).get id = if id ∈ l then m.get id else none
  | [], id => by simp [subT, PT.get]
  | u :: l, id => by
    simp only [subT, PT.get_put, subT_get m l id]
    by_cases h : id = u
    · subst h; simp
    · simp [h]
theorem dropT_get (m : PT AObj) : ∀ (l : List Nat) (id : Nat), (dropT m l).get id = if id ∈ l then none else m.get id
  | [], id => by simp [dropT]
  | u :: l, id => by
    simp only [dropT, PT.get_put, dropT_get m l id]
    by_cases h : id = u
    · subst h; simp
    · simp [h]
theorem backT_get (m0 m : PT AObj) : ∀ (l : List Nat) (id : Nat), (backT m0 m l).get id = if id ∈ l then m0.get id else m.get id
  | [], id => by simp [backT]
  | u :: l, id => by
    simp only [backT, PT.get_put, backT_get m0 m l id]
    by_cases h : id = u
    · subst h; simp
    · simp [h]
theorem logOf_mem (lim : Nat) (log : List Nat) : ∀ (l : List Nat) (id : Nat), id ∈ logOf lim log l ↔ id ∈ log ∨ (id ∈ l ∧ id < lim)
  | [], id => by simp [logOf]
  | u :: l, id => by
    simp only [logOf]
    split
    · rename_i h
      rw [List.mem_cons, logOf_mem lim log l id, List.mem_cons]
      constructor
      · rintro (rfl | h1 | ⟨h1, h2⟩)
        · exact .inr ⟨.inl rfl, h⟩
        · exact .inl h1
        · exact .inr ⟨.inr h1, h2⟩
      · rintro (h1 | ⟨rfl | h1, h2⟩)
        · exact .inr (.inl h1)
        · exact .inl rfl
        · exact .inr (.inr ⟨h1, h2⟩)
    · rename_i h
      rw [logOf_mem lim log l id, List.mem_cons]
      constructor
      · rintro (h1 | ⟨h1, h2⟩)
        · exact .inl h1
        · exact .inr ⟨.inr h1, h2⟩
      · rintro (h1 | ⟨rfl | h1, h2⟩)
        · exact .inl h1
        · exact absurd h2 h
        · exact .inr ⟨h1, h2⟩
mutual
theorem cleanV_nil : ∀ v, cleanV [] v = true
  | .ptr .. | .slice .. | .emp .. | .map .. => by simp [cleanV, memN, notB]
  | .bool .. | .int .. | .str .. | .nilp | .nilsl | .nilmap | .nilfn | .nilifc => by simp [cleanV]
  | .fn _ a b => by simp [cleanV, cleanL_nil a, cleanL_nil b]
  | .ifc _ v => by simp [cleanV, cleanV_nil v]
  | .agg l => by simp [cleanV, cleanL_nil l]
  | .tup l => by simp [cleanV, cleanL_nil l]
theorem cleanL_nil : ∀ l, cleanL [] l = true
  | [] => by simp [cleanL]
  | v :: l => by simp [cleanL, cleanV_nil v, cleanL_nil l]
end
theorem cleanM_nil : ∀ l, cleanM [] l = true
  | [] => rfl
  | (k, v, b) :: l => by simp [cleanM, cleanV_nil k, cleanV_nil v, cleanM_nil l]
theorem cleanO_nil (o : AObj) : cleanO [] o = true := by cases o <;> simp [cleanO, cleanL_nil, cleanM_nil]
theorem cleanT_spec {bad : List Nat} {m : PT AObj} : ∀ {l : List Nat}, cleanT bad m l = true → ∀ id ∈ l, ∀ o, m.get id = some o → cleanO bad o = true
  | [], _, id, h, _, _ => by simp at h
  | u :: l, hc, id, h, o, ho => by
    unfold cleanT at hc
    split at hc
    · rename_i p hp
      split at hc
      · rename_i hcp
        rcases List.mem_cons.1 h with rfl | h
        · rw [hp] at ho; injection ho with ho; subst ho; exact hcp
        · exact cleanT_spec hc id h o ho
      · cases hc
    · rename_i hp
      rcases List.mem_cons.1 h with rfl | h
      · rw [hp] at ho; cases ho
      · exact cleanT_spec hc id h o ho
theorem newLoose_mem {mask : Nat} : ∀ {ts : List Tch} {t : Tch}, t ∈ ts → bitN mask t.j = false → ∀ id, t.lo ≤ id → id < t.hi → id ∈ newLoose mask ts
  | [], t, h, _, _, _, _ => by simp at h
  | u :: ts, t, h, hb, id, h1, h2 => by
    unfold newLoose
    rcases List.mem_cons.1 h with rfl | h
    · rw [hb]
      simp only [List.mem_append, List.mem_range'_1]
      left; omega
    · split
      · exact newLoose_mem h hb id h1 h2
      · exact List.mem_append.2 (.inr (newLoose_mem h hb id h1 h2))
theorem looseOf_mem {mask : Nat} : ∀ {ts : List Tch} {t : Tch}, t ∈ ts → bitN mask t.j = false → ∀ id, ((t.lo ≤ id ∧ id < t.hi) ∨ id ∈ t.wr) → id ∈ looseOf mask ts
  | [], t, h, _, _, _ => by simp at h
  | u :: ts, t, h, hb, id, h1 => by
    unfold looseOf
    rcases List.mem_cons.1 h with rfl | h
    · rw [hb]
      simp only [List.mem_append, List.mem_range'_1]
      rcases h1 with h1 | h1
      · left; omega
      · exact .inr (.inl h1)
    · split
      · exact looseOf_mem h hb id h1
      · exact List.mem_append.2 (.inr (List.mem_append.2 (.inr (looseOf_mem h hb id h1))))
theorem tmem_eq (t : Tch) (id : Nat) : tmem t id = true ↔ ((t.lo ≤ id ∧ id < t.hi) ∨ id ∈ t.wr) := by
  unfold tmem
  rw [blt_eq, memN_dec]
  cases h : Nat.ble t.lo id with
  | true =>
    have h1 : t.lo ≤ id := Nat.le_of_ble_eq_true h
    by_cases h2 : id < t.hi
    · simp [h1, h2]
    · simp [h2]
  | false =>
    have h1 : ¬ t.lo ≤ id := fun h' => by rw [Nat.ble_eq_true_of_le h'] at h; cases h
    simp [h1]
theorem freeOf_spec {mask : Nat} {ids : List Nat} : ∀ {ts : List Tch}, freeOf mask ids ts = true → ∀ t ∈ ts, bitN mask t.j = false → ∀ id ∈ ids, tmem t id = false
  | [], _, t, h, _, _, _ => by simp at h
  | u :: ts, hf, t, h, hb, id, hi => by
    unfold freeOf at hf
    rcases List.mem_cons.1 h with rfl | h
    · rw [hb] at hf
      simp only [] at hf
      split at hf
      · cases hf
      · rename_i ha
        cases hc : tmem t id with
        | false => rfl
        | true => rw [List.any_eq_true.2 ⟨id, hi, hc⟩] at ha; cases ha
    · refine freeOf_spec (ts := ts) ?_ t h hb id hi
      split at hf
      · exact hf
      · split at hf
        · cases hf
        · exact hf
theorem unreadBy_spec {mask : Nat} {wr : List Nat} : ∀ {rs : List (Nat × Option (List Nat))}, unreadBy mask wr rs = true → ∀ p ∈ rs, bitN mask p.1 = false → (p.2 = none → wr = []) ∧ ∀ ids, p.2 = some ids → ∀ id ∈ wr, id ∉ ids
  | [], _, p, h, _ => by simp at h
  | (k, r) :: rs, hf, p, h, hb => by
    unfold unreadBy at hf
    rcases List.mem_cons.1 h with rfl | h
    · simp only [] at hb
      rw [hb] at hf
      simp only [] at hf
      split at hf
      · refine ⟨fun _ => ?_, fun ids he => by cases he⟩
        split at hf
        · rfl
        · cases hf
      · rename_i ids'
        refine ⟨fun he => (by cases he), fun ids he id hi hin => ?_⟩
        injection he with he
        subst he
        split at hf
        · cases hf
        · rename_i ha
          rw [List.any_eq_true.2 ⟨id, hi, (memN_eq _ _).2 hin⟩] at ha
          cases ha
    · refine unreadBy_spec (rs := rs) ?_ p h hb
      split at hf
      · exact hf
      · split at hf
        · split at hf
          · exact hf
          · cases hf
        · split at hf
          · cases hf
          · exact hf

-- ------------------------------------------------------------------ what a step says of the blocks
/-- What an operation touches. -/
def touched (st : Nat → St) (rc : Nat → Rc) (j id : Nat) : Prop := ((st j).H.next ≤ id ∧ id < (st (j + 1)).H.next) ∨ id ∈ (rc j).wr
structure SF (nt : Nat) (o : Oper) (s s' : St) (r : Rc) : Prop where
  slot : ∀ t, s'.S.get t = if o.dst = some t then some r.v else s.S.get t
  dst : ∀ d, o.dst = some d → d < nt
  hn : r.hin.next = s.H.next
  hl : r.hin.lim = s.H.next
  hg : r.hin.log = []
  on : r.out.next = s'.H.next
  le : s.H.next ≤ s'.H.next
  heapT : ∀ id, ((s.H.next ≤ id ∧ id < s'.H.next) ∨ id ∈ r.wr) → s'.H.m.get id = r.out.m.get id
  heapN : ∀ id, ¬ ((s.H.next ≤ id ∧ id < s'.H.next) ∨ id ∈ r.wr) → s'.H.m.get id = s.H.m.get id
  sub : ∀ id p, r.hin.m.get id = some p → s.H.m.get id = some p
  lim : s'.H.lim = s.H.lim
  log : ∀ id, id ∈ s.H.log → id ∈ s'.H.log
  log' : ∀ id, id ∈ r.wr → id < s.H.lim → id ∈ s'.H.log
  logd : ∀ id, id ∈ s'.H.log → id ∈ s.H.log ∨ (id < s.H.lim ∧ ∃ p, r.hin.m.get id = some p)
  wrd : ∀ id, id ∈ r.wr → ∃ p, r.hin.m.get id = some p
  wro : ∀ id, id ∈ r.out.log → id ∈ r.wr
theorem putS_get {nt : Nat} {dst : Option Nat} {v : AV} {S S' : PT AV} (h : putS nt dst v S = some S') : (∀ t, S'.get t = if dst = some t then some v else S.get t) ∧ ∀ d, dst = some d → d < nt := by
  unfold putS at h
  split at h
  · injection h with h; subst h; exact ⟨fun t => by simp, fun d hd => by cases hd⟩
  · rename_i d
    split at h
    · rename_i hd
      injection h with h
      subst h
      refine ⟨fun t => ?_, fun d' hd' => by injection hd' with hd'; omega⟩
      rw [PT.get_put]
      by_cases ht : t = d
      · subst ht; simp
      · rw [if_neg ht, if_neg (by simp; exact fun h => ht h.symm)]
    · cases h
section
variable {P : Program} {fnAt : Nat → Option Func} {orc : Orc} {big : Big} {ih : Run} {nt : Nat} {ops : Array Oper}
theorem SF.of_skip {o : Oper} {s s' : St} (hp : putS nt o.dst (.tup []) s.S = some s'.S) (hH : s'.H = s.H) : SF nt o s s' ⟨.tup [], hinS s.H [], hinS s.H [], []⟩ := by
  obtain ⟨h1, h2⟩ := putS_get hp
  refine ⟨h1, h2, rfl, rfl, rfl, by rw [hH]; rfl, by rw [hH]; exact Nat.le_refl _, fun id h => ?_, fun id h => by rw [hH], fun id p h => ?_, by rw [hH], fun id h => by rw [hH]; exact h, fun id h => by simp at h, fun id h => by rw [hH] at h; exact .inl h, fun id h => by simp at h, fun id h => h⟩
  · rw [hH] at h
    rcases h with ⟨q1, q2⟩ | q
    · omega
    · simp at q
  · simp [hinS, subT, PT.get] at h
theorem SF.of_simple {o : Oper} {s s' : St} {e : Eff} (ha : aop P (subT s.H.m (foot o.op s.S)).get s.H.next o.op s.S = some e) (hp : putS nt o.dst e.v s.S = some s'.S) (hH : s'.H = e.u.onto s.H)
    (hlt : ∀ id p, s.H.m.get id = some p → id < s.H.next) : SF nt o s s' ⟨e.v, hinS s.H (foot o.op s.S), e.u.onto (hinS s.H (foot o.op s.S)), e.u.on.toList⟩ := by
  obtain ⟨h1, h2⟩ := putS_get hp
  have hon := aop_on ha
  have hsub : ∀ id p, (hinS s.H (foot o.op s.S)).m.get id = some p → s.H.m.get id = some p := fun id p h => by
    have h' : (subT s.H.m (foot o.op s.S)).get id = some p := h
    rw [subT_get] at h'
    split at h'
    · exact h'
    · cases h'
  have hnew : ∀ id, s.H.next ≤ id → s.H.m.get id = none := fun id h => by
    cases hq : s.H.m.get id with
    | none => rfl
    | some p => exact absurd (hlt id p hq) (by omega)
  refine ⟨h1, h2, rfl, rfl, rfl, by rw [hH, Upd.onto_next, Upd.onto_next]; rfl, ?_, ?_, ?_, hsub, by rw [hH, Upd.onto_lim], ?_, ?_, ?_, ?_, ?_⟩
  · rw [hH, Upd.onto_next]; cases e.u <;> simp [Upd.nx]
  · intro id ht
    rw [hH] at ht ⊢
    rw [Upd.onto_next] at ht
    obtain ⟨ev, u⟩ := e
    cases u with
    | non =>
      rcases ht with ⟨q1, q2⟩ | q
      · have : id < s.H.next := q2
        omega
      · simp [Upd.on] at q
    | new ob =>
      have hi : id = s.H.next := by
        rcases ht with ⟨q1, q2⟩ | q
        · have : id < s.H.next + 1 := q2
          omega
        · simp [Upd.on] at q
      subst hi
      simp [Upd.onto, newH, hinS, PT.get_put]
    | set j ob =>
      have hi : id = j := by
        rcases ht with ⟨q1, q2⟩ | q
        · have : id < s.H.next := q2
          omega
        · simpa [Upd.on] using q
      subst hi
      simp [Upd.onto, layH, hinS, PT.get_put]
    | app j ob =>
      by_cases hi : id = s.H.next
      · subst hi
        simp [Upd.onto, layH, newH, hinS, PT.get_put]
      · have hj : id = j := by
          rcases ht with ⟨q1, q2⟩ | q
          · have : id < s.H.next + 1 := q2
            omega
          · simpa [Upd.on] using q
        subst hj
        simp [Upd.onto, layH, newH, hinS, PT.get_put, hi]
  · intro id ht
    rw [hH] at ht ⊢
    rw [Upd.onto_next] at ht
    obtain ⟨ev, u⟩ := e
    cases u with
    | non => rfl
    | new ob =>
      have hi : id ≠ s.H.next := fun h => ht (.inl ⟨by omega, by show id < s.H.next + 1; omega⟩)
      simp [Upd.onto, newH, PT.get_put, hi]
    | set j ob =>
      have hi : id ≠ j := fun h => ht (.inr (by simp [Upd.on, h]))
      simp [Upd.onto, layH, PT.get_put, hi]
    | app j ob =>
      have hi : id ≠ s.H.next := fun h => ht (.inl ⟨by omega, by show id < s.H.next + 1; omega⟩)
      have hj : id ≠ j := fun h => ht (.inr (by simp [Upd.on, h]))
      simp [Upd.onto, layH, newH, PT.get_put, hi, hj]
  · intro id h
    rw [hH]
    obtain ⟨ev, u⟩ := e
    cases u <;> simp only [Upd.onto, newH] <;> first | exact h | exact layH_log id h
  · intro id h hl
    rw [hH]
    obtain ⟨ev, u⟩ := e
    have key : ∀ (j : Nat) (oo : Option AObj), j < s.H.lim → j ∈ (layH j oo s.H).log := fun j oo hj => by
      rcases layH_hit (id := j) (o := oo) (H := s.H) with q | q
      · omega
      · exact q
    cases u <;> simp [Upd.on] at h <;> subst h <;> simp only [Upd.onto, newH] <;> exact key _ _ hl
  · intro id h
    rw [hH] at h
    obtain ⟨ev, u⟩ := e
    have key : ∀ (j : Nat) (oo : Option AObj), (∃ p, (hinS s.H (foot o.op s.S)).m.get j = some p) → id ∈ (layH j oo s.H).log → id ∈ s.H.log ∨ (id < s.H.lim ∧ ∃ p, (hinS s.H (foot o.op s.S)).m.get id = some p) := by
      intro j oo hj hi
      simp only [layH] at hi
      split at hi
      · rename_i hc
        rcases List.mem_cons.1 hi with rfl | hi
        · exact .inr ⟨hc.1, hj⟩
        · exact .inl hi
      · exact .inl hi
    cases u with
    | non => exact .inl h
    | new ob => exact .inl h
    | set j ob => exact key j _ (hon j rfl) h
    | app j ob => exact key j none (hon j rfl) h
  · intro id h
    have : e.u.on = some id := by
      cases hq : e.u.on with
      | none => rw [hq] at h; simp at h
      | some j => rw [hq] at h; simp at h; rw [h]
    exact hon id this
  · intro id h
    obtain ⟨ev, u⟩ := e
    have key : ∀ (j : Nat) (oo : Option AObj), id ∈ (layH j oo (hinS s.H (foot o.op s.S))).log → id = j := by
      intro j oo hi
      by_cases hc : j < s.H.next
      · simpa [layH, hinS, hc] using hi
      · simp [layH, hinS, hc] at hi
    cases u with
    | non => simp [Upd.onto, hinS] at h
    | new ob => simp [Upd.onto, newH, hinS] at h
    | set j ob => rw [key j _ h]; simp [Upd.on]
    | app j ob => rw [key j none h]; simp [Upd.on]
theorem SF.of_call {o : Oper} {s s' : St} {v : AV} {Ho : Hp} {ls : List Nat} (hp : putS nt o.dst v s.S = some s'.S) (hH : s'.H = ⟨backT s.H.m Ho.m ls, Ho.next, s.H.lim, logOf s.H.lim s.H.log Ho.log⟩)
    {E E' : Env} {w w' : World} (ht : Tr E (hinC s.H ls) w E' Ho w') (hr : Rep P E' Ho w') (hlt : ∀ id p, s.H.m.get id = some p → id < s.H.next) (hls : ∀ id, id ∈ ls → id < s.H.next) : SF nt o s s' ⟨v, hinC s.H ls, Ho, Ho.log⟩ := by
  obtain ⟨h1, h2⟩ := putS_get hp
  have hin : ∀ id, (hinC s.H ls).m.get id = if id ∈ ls then none else s.H.m.get id := fun id => dropT_get _ _ _
  have hlog : ∀ id, id ∈ Ho.log → ∃ p, (hinC s.H ls).m.get id = some p := fun id h => by
    rcases ht.logd id h with q | ⟨q1, q2⟩
    · simp [hinC] at q
    · rcases q2 with q2 | q2
      · exact q2
      · have e1 : id < s.H.next := q1
        have e2 : s.H.next ≤ id := q2
        omega
  refine ⟨h1, h2, rfl, rfl, rfl, by rw [hH], by rw [hH]; exact ht.next, fun id hc => ?_, fun id hc => ?_, fun id p h => ?_, by rw [hH], fun id h => ?_, fun id h hl => ?_, fun id h => ?_, hlog, fun id h => h⟩
  · rw [hH] at hc ⊢
    simp only [backT_get]
    by_cases hls' : id ∈ ls
    · rcases hc with hc | hc
      · have := hls id hls'
        omega
      · obtain ⟨p, hp⟩ := hlog id hc
        rw [hin, if_pos hls'] at hp
        cases hp
    · rw [if_neg hls']
  · rw [hH] at hc ⊢
    simp only [backT_get]
    by_cases hls' : id ∈ ls
    · rw [if_pos hls']
    · rw [if_neg hls']
      by_cases hlt' : id < s.H.next
      · have := ht.same id hlt' (by
          rintro (q | q)
          · have e1 : s.H.next ≤ id := q
            omega
          · exact hc (.inr q))
        rw [this, hin, if_neg hls']
      · have h3 : s.H.m.get id = none := by
          cases hq : s.H.m.get id with
          | none => rfl
          | some p => exact absurd (hlt id p hq) hlt'
        rw [h3]
        cases hq : Ho.m.get id with
        | none => rfl
        | some p =>
          have := (hr.objs id p hq).1
          exact absurd (.inl ⟨by omega, this⟩) hc
  · rw [hin] at h
    split at h
    · cases h
    · exact h
  · rw [hH]; exact (logOf_mem _ _ _ _).2 (.inl h)
  · rw [hH]; exact (logOf_mem _ _ _ _).2 (.inr ⟨h, hl⟩)
  · rw [hH] at h
    rcases (logOf_mem _ _ _ _).1 h with q | ⟨q1, q2⟩
    · exact .inl q
    · exact .inr ⟨q2, hlog id q1⟩
end
end Go.Sx

namespace Go.Sx
open Go.RowKit

section
variable {P : Program} {fnAt : Nat → Option Func} {orc : Orc} {big : Big} {ih : Run} {nt : Nat} {ops : Array Oper}

/-- What the lists of the way hold at i. -/
structure TI (st : Nat → St) (rc : Nat → Rc) (i : Nat) : Prop where
  tin : ∀ t ∈ (st i).T, t.j < i ∧ t.lo = (st t.j).H.next ∧ t.hi = (st (t.j + 1)).H.next ∧ t.wr = (rc t.j).wr
  tall : ∀ j, j < i → (∃ t ∈ (st i).T, t.j = j) ∨ ((st (j + 1)).H.next = (st j).H.next ∧ (rc j).wr = [])
  rall : ∀ j, j < i → (∃ r, (j, r) ∈ (st i).R ∧ ∀ ids, r = some ids → ∀ id p, (rc j).hin.m.get id = some p → id ∈ ids) ∨ ∀ id, (rc j).hin.m.get id = none
theorem TI.mk0 {st : Nat → St} {rc : Nat → Rc} (hT : (st 0).T = []) : TI st rc 0 :=
  ⟨fun t h => by rw [hT] at h; simp at h, fun j h => by omega, fun j h => by omega⟩
theorem TI.step {st : Nat → St} {rc : Nat → Rc} {i : Nat} {o : Oper} (h : TI st rc i) (hs : Step1 P fnAt orc big ih nt ops i o (st i) (st (i + 1)) (rc i)) : TI st rc (i + 1) := by
  have lift : ∀ {j}, j < i + 1 → j ≠ i → j < i := fun h1 h2 => by omega
  cases hs with
  | skip hw hp hH hT hR hr =>
    refine ⟨fun t ht => ?_, fun j hj => ?_, fun j hj => ?_⟩
    · rw [hT] at ht
      obtain ⟨q1, q2⟩ := h.tin t ht
      exact ⟨by omega, q2⟩
    · by_cases hji : j = i
      · subst hji; right; rw [hH, hr]; exact ⟨rfl, rfl⟩
      · rw [hT]; exact h.tall j (lift hj hji)
    · by_cases hji : j = i
      · subst hji; right; intro id; rw [hr]; simp [hinS, subT, PT.get]
      · rw [hR]; exact h.rall j (lift hj hji)
  | simple e hw hc ha hf hu hcl hp hH hT hR hr =>
    refine ⟨fun t ht => ?_, fun j hj => ?_, fun j hj => ?_⟩
    · rw [hT] at ht
      rcases List.mem_cons.1 ht with rfl | ht
      · refine ⟨by simp, rfl, by rw [← hH], by rw [hr]⟩
      · obtain ⟨q1, q2⟩ := h.tin t ht
        exact ⟨by omega, q2⟩
    · rw [hT]
      by_cases hji : j = i
      · exact .inl ⟨_, List.mem_cons_self .., hji.symm⟩
      · rcases h.tall j (lift hj hji) with ⟨t, q1, q2⟩ | q
        · exact .inl ⟨t, List.mem_cons_of_mem _ q1, q2⟩
        · exact .inr q
    · rw [hR]
      by_cases hji : j = i
      · left
        subst hji
        refine ⟨_, List.mem_cons_self .., fun ids he id p hp => ?_⟩
        injection he with he
        subst he
        rw [hr] at hp
        have hp' : (subT (st j).H.m (foot o.op (st j).S)).get id = some p := hp
        rw [subT_get] at hp'
        split at hp'
        · assumption
        · cases hp'
      · rcases h.rall j (lift hj hji) with ⟨r, q1, q2⟩ | q
        · exact .inl ⟨r, List.mem_cons_of_mem _ q1, q2⟩
        · exact .inr q
  | call f args v Ho hw hc ha hu hcl hp hH hT hR hr =>
    refine ⟨fun t ht => ?_, fun j hj => ?_, fun j hj => ?_⟩
    · rw [hT] at ht
      rcases List.mem_cons.1 ht with rfl | ht
      · refine ⟨by simp, rfl, by simp [hH], by rw [hr]⟩
      · obtain ⟨q1, q2⟩ := h.tin t ht
        exact ⟨by omega, q2⟩
    · rw [hT]
      by_cases hji : j = i
      · exact .inl ⟨_, List.mem_cons_self .., hji.symm⟩
      · rcases h.tall j (lift hj hji) with ⟨t, q1, q2⟩ | q
        · exact .inl ⟨t, List.mem_cons_of_mem _ q1, q2⟩
        · exact .inr q
    · rw [hR]
      by_cases hji : j = i
      · left
        subst hji
        exact ⟨_, List.mem_cons_self .., fun ids he => by cases he⟩
      · rcases h.rall j (lift hj hji) with ⟨r, q1, q2⟩ | q
        · exact .inl ⟨r, List.mem_cons_of_mem _ q1, q2⟩
        · exact .inr q

/-- What is told of an operation that is not bound to come behind an earlier one. -/
structure Apart (st : Nat → St) (rc : Nat → Rc) (i : Nat) : Prop where
  free : ∀ j, j < i → ¬ ord ops j i → ∀ id, touched st rc j id → (rc i).hin.m.get id = none
  unread : ∀ j, j < i → ¬ ord ops j i → ∀ id, id ∈ (rc i).wr → (rc j).hin.m.get id = none
  clean : ∃ bad, (∀ j, j < i → ¬ ord ops j i → ∀ id, (st j).H.next ≤ id → id < (st (j + 1)).H.next → id ∈ bad) ∧ cleanV bad (rc i).v = true ∧ ∀ id, touched st rc i id → ∀ p, (rc i).out.m.get id = some p → cleanO bad p = true
theorem Apart.of {st : Nat → St} {rc : Nat → Rc} {i : Nat} {o : Oper} (h : TI st rc i) (hs : Step1 P fnAt orc big ih nt ops i o (st i) (st (i + 1)) (rc i)) : Apart (ops := ops) st rc i := by
  have nb : ∀ {j}, ¬ ord ops j i → bitN (mkAt ops i) j = false := fun hj => by
    cases hb : bitN (mkAt ops i) _ with
    | false => rfl
    | true => exact absurd hb hj
  -- a toucher that is no skip stands in the list
  have inT : ∀ j, j < i → ∀ id, touched st rc j id → ∃ t ∈ (st i).T, t.j = j ∧ ((t.lo ≤ id ∧ id < t.hi) ∨ id ∈ t.wr) := fun j hj id ht => by
    rcases h.tall j hj with ⟨t, q1, q2⟩ | ⟨q1, q2⟩
    · obtain ⟨_, e1, e2, e3⟩ := h.tin t q1
      subst q2
      exact ⟨t, q1, rfl, by rw [e1, e2, e3]; exact ht⟩
    · rcases ht with ht | ht
      · omega
      · rw [q2] at ht; simp at ht
  have inN : ∀ j, j < i → ¬ ord ops j i → ∀ id, (st j).H.next ≤ id → id < (st (j + 1)).H.next → id ∈ newLoose (mkAt ops i) (st i).T := fun j hj ho id h1 h2 => by
    rcases h.tall j hj with ⟨t, q1, q2⟩ | ⟨q1, q2⟩
    · obtain ⟨_, e1, e2, e3⟩ := h.tin t q1
      subst q2
      exact newLoose_mem q1 (nb ho) id (by omega) (by omega)
    · omega
  cases hs with
  | skip hw hp hH hT hR hr =>
    refine ⟨fun j _ _ id _ => by rw [hr]; simp [hinS, subT, PT.get], fun j _ _ id hid => by rw [hr] at hid; simp at hid, _, inN, by rw [hr]; simp [cleanV, cleanL], fun id _ p hp => by rw [hr] at hp; simp [hinS, subT, PT.get] at hp⟩
  | simple e hw hc ha hf hu hcl hp hH hT hR hr =>
    have hnx : (st (i + 1)).H.next = e.u.nx (st i).H.next := by rw [hH, Upd.onto_next]
    have hwr : (rc i).wr = e.u.on.toList := by rw [hr]
    refine ⟨fun j hj ho id ht => ?_, fun j hj ho id hid => ?_, _, inN, ?_⟩
    · obtain ⟨t, q1, q2, q3⟩ := inT j hj id ht
      rw [hr]
      show (subT _ _).get id = none
      rw [subT_get]
      split
      · rename_i hm
        have := freeOf_spec hf t q1 (by rw [q2]; exact nb ho) id hm
        rw [(tmem_eq t id).2 q3] at this
        cases this
      · rfl
    · rw [hwr] at hid
      rcases h.rall j hj with ⟨r, q1, q2⟩ | q
      · obtain ⟨k1, k2⟩ := unreadBy_spec hu (j, r) q1 (nb ho)
        cases hrr : r with
        | none => rw [k1 hrr] at hid; simp at hid
        | some ids =>
          cases hg : (rc j).hin.m.get id with
          | none => rfl
          | some p => exact absurd (q2 ids hrr id p hg) (k2 ids hrr id hid)
      · exact q id
    · rw [hr]
      simp only []
      revert hcl
      generalize newLoose (mkAt ops i) (st i).T = bad
      intro hcl
      have hcv : cleanV bad e.v = true ∧ cleanU bad e.u = true := by
        unfold cleanE at hcl
        split at hcl
        · refine ⟨cleanV_nil _, ?_⟩
          cases e.u <;> simp [cleanU, cleanO_nil]
        · split at hcl
          · exact ⟨by assumption, hcl⟩
          · cases hcl
      refine ⟨hcv.1, fun id ht p hp => ?_⟩
      have hu' := hcv.2
      unfold touched at ht
      rw [hnx, hwr] at ht
      obtain ⟨ev, u⟩ := e
      simp only [] at *
      cases u with
      | non =>
        simp only [Upd.nx, Upd.on] at ht
        rcases ht with ht | ht
        · omega
        · simp at ht
      | new ob =>
        have hid : id = (st i).H.next := by
          simp only [Upd.nx, Upd.on] at ht
          rcases ht with ht | ht
          · omega
          · simp at ht
        subst hid
        simp [Upd.onto, newH, hinS, PT.get_put] at hp
        subst hp
        exact hu'
      | set k ob =>
        have hid : id = k := by
          simp only [Upd.nx, Upd.on] at ht
          rcases ht with ht | ht
          · omega
          · simpa using ht
        subst hid
        simp [Upd.onto, layH, hinS, PT.get_put] at hp
        subst hp
        exact hu'
      | app k ob =>
        by_cases hid : id = (st i).H.next
        · subst hid
          simp [Upd.onto, newH, layH, hinS, PT.get_put] at hp
          subst hp
          exact hu'
        · have hid' : id = k := by
            simp only [Upd.nx, Upd.on] at ht
            rcases ht with ht | ht
            · omega
            · simpa using ht
          subst hid'
          simp [Upd.onto, newH, layH, hinS, PT.get_put, hid] at hp
  | call f args v Ho hw hc ha hu hcl hp hH hT hR hr =>
    have hnx : (st (i + 1)).H.next = Ho.next := by rw [hH]
    have hwr : (rc i).wr = Ho.log := by rw [hr]
    refine ⟨fun j hj ho id ht => ?_, fun j hj ho id hid => ?_, _, inN, ?_⟩
    · obtain ⟨t, q1, q2, q3⟩ := inT j hj id ht
      rw [hr]
      show (dropT _ _).get id = none
      rw [dropT_get, if_pos (looseOf_mem q1 (by rw [q2]; exact nb ho) id q3)]
    · rw [hwr] at hid
      rcases h.rall j hj with ⟨r, q1, q2⟩ | q
      · obtain ⟨k1, k2⟩ := unreadBy_spec hu (j, r) q1 (nb ho)
        cases hrr : r with
        | none => rw [k1 hrr] at hid; simp at hid
        | some ids =>
          cases hg : (rc j).hin.m.get id with
          | none => rfl
          | some p => exact absurd (q2 ids hrr id p hg) (k2 ids hrr id hid)
      · exact q id
    · rw [hr]
      simp only []
      revert hcl
      generalize newLoose (mkAt ops i) (st i).T = bad
      intro hcl
      unfold cleanC at hcl
      split at hcl
      · exact ⟨cleanV_nil _, fun id _ p _ => cleanO_nil p⟩
      · split at hcl
        · refine ⟨by assumption, fun id ht p hp => ?_⟩
          unfold touched at ht
          rw [hnx, hwr] at ht
          refine cleanT_spec hcl id ?_ p hp
          rw [List.mem_append, List.mem_range'_1]
          rcases ht with ht | ht
          · left; omega
          · exact .inr ht
        · cases hcl
end
end Go.Sx

namespace Go.Sx
open Go.RowKit

section
variable {P : Program} {fnAt : Nat → Option Func} {orc : Orc} {big : Big} {ih : Run} {nt : Nat} {ops : Array Oper} {st : Nat → St} {rc : Nat → Rc}

structure HinOk (s : St) (r : Rc) : Prop where
  next : r.hin.next = s.H.next
  lim : r.hin.lim = s.H.next
  log : r.hin.log = []
  sub : ∀ id p, r.hin.m.get id = some p → s.H.m.get id = some p
theorem HinOk.of {i : Nat} {o : Oper} {s s' : St} {r : Rc} (h : Step1 P fnAt orc big ih nt ops i o s s' r) : HinOk s r := by
  have hS : ∀ l id p, (hinS s.H l).m.get id = some p → s.H.m.get id = some p := fun l id p h => by
    have h' : (subT s.H.m l).get id = some p := h
    rw [subT_get] at h'
    split at h'
    · exact h'
    · cases h'
  cases h with
  | skip hw hp hH hT hR hr => subst hr; exact ⟨rfl, rfl, rfl, hS _⟩
  | simple e hw hc ha hf hu hcl hp hH hT hR hr => subst hr; exact ⟨rfl, rfl, rfl, hS _⟩
  | call f args v Ho hw hc ha hu hcl hp hH hT hR hr =>
    subst hr
    refine ⟨rfl, rfl, rfl, fun id p h => ?_⟩
    have h' : (dropT s.H.m (looseOf (mkAt ops i) s.T)).get id = some p := h
    rw [dropT_get] at h'
    split at h'
    · cases h'
    · exact h'

/-- The way through a region, its blocks told up to N. -/
structure Way (nt : Nat) (ops : Array Oper) (st : Nat → St) (rc : Nat → Rc) (N : Nat) : Prop where
  hN : N ≤ ops.size
  ok : slotsOk ops.toList = true
  sf : ∀ j o, j < N → ops[j]? = some o → SF nt o (st j) (st (j + 1)) (rc j)
  ap : ∀ j, j < ops.size → Apart (ops := ops) st rc j
  hin : ∀ j, j < ops.size → HinOk (st j) (rc j)
  slot : ∀ j o, j < ops.size → ops[j]? = some o → (∀ t, (st (j + 1)).S.get t = if o.dst = some t then some (rc j).v else (st j).S.get t) ∧ ∀ d, o.dst = some d → d < nt
  lt0 : ∀ id p, (st 0).H.m.get id = some p → id < (st 0).H.next

namespace Way
variable {N : Nat}
theorem SFat (W : Way nt ops st rc N) {j : Nat} (hj : j < N) : ∃ o, ops[j]? = some o ∧ SF nt o (st j) (st (j + 1)) (rc j) := by
  have := W.hN
  have ho : ops[j]? = some ops[j] := Array.getElem?_eq_getElem (by omega)
  exact ⟨_, ho, W.sf j _ hj ho⟩
theorem mono (W : Way nt ops st rc N) : ∀ {j k : Nat}, j ≤ k → k ≤ N → (st j).H.next ≤ (st k).H.next
  | j, 0, h, _ => by have : j = 0 := by omega
                     subst this; exact Nat.le_refl _
  | j, k + 1, h, hk => by
    by_cases hjk : j = k + 1
    · subst hjk; exact Nat.le_refl _
    · obtain ⟨o, _, hs⟩ := W.SFat (j := k) (by omega)
      exact Nat.le_trans (W.mono (by omega) (by omega)) hs.le
theorem lt (W : Way nt ops st rc N) : ∀ {j : Nat}, j ≤ N → ∀ id p, (st j).H.m.get id = some p → id < (st j).H.next
  | 0, _, id, p, h => W.lt0 id p h
  | j + 1, hj, id, p, h => by
    obtain ⟨o, _, hs⟩ := W.SFat (j := j) (by omega)
    by_cases ht : (((st j).H.next ≤ id ∧ id < (st (j + 1)).H.next) ∨ id ∈ (rc j).wr)
    · rcases ht with ht | ht
      · exact ht.2
      · obtain ⟨q, hq⟩ := hs.wrd id ht
        have := W.lt (by omega) id q (hs.sub id q hq)
        have := hs.le
        omega
    · rw [hs.heapN id ht] at h
      have := W.lt (by omega) id p h
      have := hs.le
      omega
theorem wrlt (W : Way nt ops st rc N) {j : Nat} (hj : j < N) {id : Nat} (h : id ∈ (rc j).wr) : id < (st j).H.next := by
  obtain ⟨o, _, hs⟩ := W.SFat hj
  obtain ⟨q, hq⟩ := hs.wrd id h
  exact W.lt (by omega) id q (hs.sub id q hq)
theorem tlt (W : Way nt ops st rc N) {j : Nat} (hj : j < N) {id : Nat} (h : touched st rc j id) : id < (st (j + 1)).H.next := by
  rcases h with h | h
  · exact h.2
  · have := W.wrlt hj h
    have := W.mono (j := j) (k := j + 1) (by omega) (by omega)
    omega
/-- Two that touch one name are bound. -/
theorem touch2 (W : Way nt ops st rc N) {j k : Nat} (hjk : j < k) (hk : k < N) {id : Nat} (hj : touched st rc j id) (hk' : touched st rc k id) : ord ops j k := by
  have hN := W.hN
  by_cases ho : ord ops j k
  · exact ho
  · have h1 := W.tlt (by omega) hj
    have h2 := W.mono (j := j + 1) (k := k) (by omega) (by omega)
    rcases hk' with h | h
    · omega
    · obtain ⟨o, _, hs⟩ := W.SFat hk
      obtain ⟨q, hq⟩ := hs.wrd id h
      rw [(W.ap k (by omega)).free j hjk ho id hj] at hq
      cases hq
theorem keep (W : Way nt ops st rc N) : ∀ {j : Nat}, j ≤ N → ∀ id p, (st j).H.m.get id = some p → id < (st 0).H.next → ∃ p', (st 0).H.m.get id = some p'
  | 0, _, id, p, h, _ => ⟨p, h⟩
  | j + 1, hj, id, p, h, hlt => by
    obtain ⟨o, _, hs⟩ := W.SFat (j := j) (by omega)
    by_cases ht : (((st j).H.next ≤ id ∧ id < (st (j + 1)).H.next) ∨ id ∈ (rc j).wr)
    · rcases ht with ht | ht
      · have := W.mono (j := 0) (k := j) (by omega) (by omega)
        omega
      · obtain ⟨q, hq⟩ := hs.wrd id ht
        exact W.keep (by omega) id q (hs.sub id q hq) hlt
    · rw [hs.heapN id ht] at h
      exact W.keep (by omega) id p h hlt
theorem last (W : Way nt ops st rc N) : ∀ {i : Nat}, i ≤ N → ∀ id p, (st i).H.m.get id = some p →
    (∃ j, j < i ∧ touched st rc j id ∧ (∀ k, j < k → k < i → ¬ touched st rc k id) ∧ (rc j).out.m.get id = some p) ∨ ((∀ j, j < i → ¬ touched st rc j id) ∧ (st 0).H.m.get id = some p)
  | 0, _, id, p, h => .inr ⟨fun j hj => by omega, h⟩
  | i + 1, hi, id, p, h => by
    obtain ⟨o, _, hs⟩ := W.SFat (j := i) (by omega)
    by_cases ht : touched st rc i id
    · left
      rw [hs.heapT id ht] at h
      exact ⟨i, by omega, ht, fun k h1 h2 => by omega, h⟩
    · rw [hs.heapN id ht] at h
      rcases W.last (by omega) id p h with ⟨j, h1, h2, h3, h4⟩ | ⟨h1, h2⟩
      · refine .inl ⟨j, by omega, h2, fun k q1 q2 => ?_, h4⟩
        by_cases hk : k = i
        · subst hk; exact ht
        · exact h3 k q1 (by omega)
      · refine .inr ⟨fun j hj => ?_, h2⟩
        by_cases hk : j = i
        · subst hk; exact ht
        · exact h1 j (by omega)
theorem lastS (W : Way nt ops st rc N) : ∀ {i : Nat}, i ≤ ops.size → ∀ t v, (st i).S.get t = some v →
    (∃ j o, j < i ∧ ops[j]? = some o ∧ o.dst = some t ∧ (∀ k p, j < k → k < i → ops[k]? = some p → p.dst ≠ some t) ∧ v = (rc j).v) ∨ ((∀ j o, j < i → ops[j]? = some o → o.dst ≠ some t) ∧ (st 0).S.get t = some v)
  | 0, _, t, v, h => .inr ⟨fun j o hj => by omega, h⟩
  | i + 1, hi, t, v, h => by
    have ho : ops[i]? = some ops[i] := Array.getElem?_eq_getElem (by omega)
    obtain ⟨hs, _⟩ := W.slot i _ (by omega) ho
    rw [hs] at h
    split at h
    · rename_i hd
      injection h with h
      exact .inl ⟨i, _, by omega, ho, hd, fun k p h1 h2 => by omega, h.symm⟩
    · rename_i hd
      rcases W.lastS (by omega) t v h with ⟨j, o, h1, h2, h3, h4, h5⟩ | ⟨h1, h2⟩
      · refine .inl ⟨j, o, by omega, h2, h3, fun k p q1 q2 q3 => ?_, h5⟩
        by_cases hk : k = i
        · subst hk
          rw [ho] at q3
          injection q3 with q3
          subst q3
          exact hd
        · exact h4 k p q1 (by omega) q3
      · refine .inr ⟨fun j o hj q3 => ?_, h2⟩
        by_cases hk : j = i
        · subst hk
          rw [ho] at q3
          injection q3 with q3
          subst q3
          exact hd
        · exact h1 j o (by omega) q3
theorem lim (W : Way nt ops st rc N) : ∀ {j : Nat}, j ≤ N → (st j).H.lim = (st 0).H.lim
  | 0, _ => rfl
  | j + 1, hj => by
    obtain ⟨o, _, hs⟩ := W.SFat (j := j) (by omega)
    rw [hs.lim, W.lim (by omega)]
theorem log (W : Way nt ops st rc N) : ∀ {j k : Nat}, j ≤ k → k ≤ N → ∀ id, id ∈ (st j).H.log → id ∈ (st k).H.log
  | j, 0, h, _, id, hi => by have : j = 0 := by omega
                             subst this; exact hi
  | j, k + 1, h, hk, id, hi => by
    by_cases hjk : j = k + 1
    · subst hjk; exact hi
    · obtain ⟨o, _, hs⟩ := W.SFat (j := k) (by omega)
      exact hs.log id (W.log (by omega) (by omega) id hi)
theorem logd (W : Way nt ops st rc N) : ∀ {j : Nat}, j ≤ N → ∀ id, id ∈ (st j).H.log → id ∈ (st 0).H.log ∨ (id < (st 0).H.lim ∧ ((∃ p, (st 0).H.m.get id = some p) ∨ (st 0).H.next ≤ id))
  | 0, _, id, hi => .inl hi
  | j + 1, hj, id, hi => by
    obtain ⟨o, _, hs⟩ := W.SFat (j := j) (by omega)
    rcases hs.logd id hi with h | ⟨h1, p, h2⟩
    · exact W.logd (by omega) id h
    · right
      refine ⟨by rw [← W.lim (j := j) (by omega)]; exact h1, ?_⟩
      rcases Nat.lt_or_ge id (st 0).H.next with h | h
      · exact .inl (W.keep (by omega) id p (hs.sub id p h2) h)
      · exact .inr h
end Way

/-- The block of a name when the operations of D are done, and the bound of its names. -/
def Pres (st : Nat → St) (rc : Nat → Rc) (D : Nat → Prop) (id : Nat) (p : AObj) (k : Nat) : Prop :=
  (∃ j, D j ∧ touched st rc j id ∧ (∀ j', D j' → j < j' → ¬ touched st rc j' id) ∧ (rc j).out.m.get id = some p ∧ k = (st (j + 1)).H.next) ∨
  ((∀ j, D j → ¬ touched st rc j id) ∧ (st 0).H.m.get id = some p ∧ k = (st 0).H.next)
def PresS (ops : Array Oper) (st : Nat → St) (rc : Nat → Rc) (D : Nat → Prop) (t : Nat) (v : AV) (k : Nat) : Prop :=
  (∃ j o, D j ∧ ops[j]? = some o ∧ o.dst = some t ∧ (∀ j' p, D j' → j < j' → ops[j']? = some p → p.dst ≠ some t) ∧ v = (rc j).v ∧ k = (st (j + 1)).H.next) ∨
  ((∀ j p, D j → ops[j]? = some p → p.dst ≠ some t) ∧ (st 0).S.get t = some v ∧ k = (st 0).H.next)
def HitD (st : Nat → St) (rc : Nat → Rc) (D : Nat → Prop) (y : Nat) : Prop := (st 0).H.lim ≤ y ∨ ∃ j, D j ∧ y ∈ (rc j).wr
structure Inv (P : Program) (ops : Array Oper) (st : Nat → St) (rc : Nat → Rc) (E0 : Env) (a0 : Act) (w0 : World) (D : Nat → Prop) (E : Env) (a : Act) (w : World) : Prop where
  objs : ∀ id p k, Pres st rc D id p k → ObjAt P E k w id p
  sep : ∀ i j oi oj ki kj, Pres st rc D i oi ki → Pres st rc D j oj kj → (E.at_ i).1 = (E.at_ j).1 → i = j
  slots : ∀ t v k, PresS ops st rc D t v k → ∃ x, a.tmps[t]? = some x ∧ VR E k v x
  agree : Agree E0 E (st 0).H.next
  fresh : ∀ i p k, Pres st rc D i p k → (st 0).H.next ≤ i → w0.heap.size ≤ (E.at_ i).1 ∨ ∃ y p', (st 0).H.m.get y = some p' ∧ (E0.at_ y).1 = (E.at_ i).1 ∧ HitD st rc D y
  frame : ∀ b, b < w0.heap.size → w.heap[b]? = w0.heap[b]? ∨ ∃ y p', (st 0).H.m.get y = some p' ∧ (E0.at_ y).1 = b ∧ HitD st rc D y
  size : w0.heap.size ≤ w.heap.size
  calm : Calm w0 w
  tsz : a.tmps.size = a0.tmps.size
  dfr : a.defers = a0.defers

/-- The done ones: all below N, and closed. -/
structure Done (ops : Array Oper) (N : Nat) (D : Nat → Prop) : Prop where
  lt : ∀ j, D j → j < N
  cl : Closed ops D
theorem Done.ord {N : Nat} {D : Nat → Prop} (hD : Done ops N D) (hN : N ≤ ops.size) {j k : Nat} (hk : D k) (h : ord ops j k) : D j := by
  have hlt := hD.lt k hk
  have ho : ops[k]? = some ops[k] := Array.getElem?_eq_getElem (by omega)
  exact ord_closed ops hD.cl k _ ho (hD.cl k _ hk ho) j h

section
variable {N : Nat} {D : Nat → Prop} {E0 E : Env} {a0 a : Act} {w0 w : World} {i : Nat}
theorem Pres.lt (W : Way nt ops st rc N) (hD : Done ops N D) {id k : Nat} {p : AObj} (h : Pres st rc D id p k) : id < k := by
  rcases h with ⟨j, h1, h2, _, _, rfl⟩ | ⟨_, h2, rfl⟩
  · exact W.tlt (hD.lt j h1) h2
  · exact W.lt0 id p h2
/-- What an operation is given stands in the world, among the elder names. -/
theorem pres_of_hin (W : Way nt ops st rc N) (hD : Done ops N D) (hiN : i ≤ N) (hi : i < ops.size) (hni : ¬ D i) (hor : ∀ j, ord ops j i → D j) {id : Nat} {p : AObj} (h : (rc i).hin.m.get id = some p) : ∃ k, Pres st rc D id p k ∧ k ≤ (st i).H.next := by
  have hN := W.hN
  have hsub := (W.hin i hi).sub id p h
  have hidlt := W.lt hiN id p hsub
  -- no done operation behind i touches it
  have hlater : ∀ k, D k → i < k → ¬ touched st rc k id := fun k hk hik ht => by
    have hkN := hD.lt k hk
    rcases ht with ht | ht
    · have := W.mono (j := i) (k := k) (by omega) (by omega)
      omega
    · have ho : ¬ ord ops i k := fun ho => hni (hD.ord hN hk ho)
      rw [(W.ap k (by omega)).unread i hik ho id ht] at h
      cases h
  have hbef : ∀ j, j < i → touched st rc j id → D j := fun j hj ht => by
    by_cases ho : ord ops j i
    · exact hor j ho
    · rw [(W.ap i hi).free j hj ho id ht] at h
      cases h
  rcases W.last hiN id p hsub with ⟨j, h1, h2, h3, h4⟩ | ⟨h1, h2⟩
  · refine ⟨_, .inl ⟨j, hbef j h1 h2, h2, fun j' hj' hlt ht => ?_, h4, rfl⟩, W.mono (by omega) hiN⟩
    rcases Nat.lt_trichotomy j' i with q | q | q
    · exact h3 j' hlt q ht
    · subst q; exact hni hj'
    · exact hlater j' hj' q ht
  · refine ⟨_, .inr ⟨fun j' hj' ht => ?_, h2, rfl⟩, W.mono (by omega) hiN⟩
    rcases Nat.lt_trichotomy j' i with q | q | q
    · exact h1 j' q ht
    · subst q; exact hni hj'
    · exact hlater j' hj' q ht
theorem rep_in (W : Way nt ops st rc N) (hD : Done ops N D) (hiN : i ≤ N) (hi : i < ops.size) (hni : ¬ D i) (hor : ∀ j, ord ops j i → D j) (hI : Inv P ops st rc E0 a0 w0 D E a w) : Rep P E (rc i).hin w := by
  have hh := W.hin i hi
  refine ⟨fun id p h => ?_, fun x y ox oy hx hy he => ?_⟩
  · obtain ⟨k, h1, h2⟩ := pres_of_hin W hD hiN hi hni hor h
    rw [hh.next]
    refine ⟨W.lt hiN id p (hh.sub id p h), ?_⟩
    exact (hI.objs id p k h1).mono (h1.lt W hD) (Agree.refl _ _) h2 rfl
  · obtain ⟨k, h1, _⟩ := pres_of_hin W hD hiN hi hni hor hx
    obtain ⟨k', h2, _⟩ := pres_of_hin W hD hiN hi hni hor hy
    exact hI.sep _ _ _ _ _ _ h1 h2 he
theorem slots_in (W : Way nt ops st rc N) (hD : Done ops N D) (hiN : i ≤ N) {o : Oper} (ho : ops[i]? = some o) (hni : ¬ D i) (hor : ∀ j, ord ops j i → D j) (hI : Inv P ops st rc E0 a0 w0 D E a w) {t : Nat} (ht : t ∈ ios ops o) {v : AV} (h : (st i).S.get t = some v) :
    ∃ x, a.tmps[t]? = some x ∧ VR E (st i).H.next v x := by
  have hN := W.hN
  have hi : i < ops.size := (Array.getElem?_eq_some_iff.1 ho).1
  have hlater : ∀ k p, D k → i < k → ops[k]? = some p → p.dst ≠ some t := fun k p hk hik hp hd => by
    rcases slotsOk_spec ops W.ok ho hp hd ht (by omega) with ⟨q, _⟩ | ⟨_, q⟩
    · omega
    · exact hni (hD.ord hN hk q)
  have hbef : ∀ j p, j < i → ops[j]? = some p → p.dst = some t → D j := fun j p hj hp hd => by
    rcases slotsOk_spec ops W.ok ho hp hd ht (by omega) with ⟨_, q⟩ | ⟨q, _⟩
    · exact hor j q
    · omega
  have done : ∀ k, PresS ops st rc D t v k → k ≤ (st i).H.next → ∃ x, a.tmps[t]? = some x ∧ VR E (st i).H.next v x := fun k h1 h2 => by
    obtain ⟨x, q1, q2⟩ := hI.slots t v k h1
    exact ⟨x, q1, VR.mono (Agree.refl _ _) h2 v x q2⟩
  rcases W.lastS (by omega) t v h with ⟨j, p, h1, h2, h3, h4, h5⟩ | ⟨h1, h2⟩
  · refine done _ (.inl ⟨j, p, hbef j p h1 h2 h3, h2, h3, fun j' p' hj' hlt hp' => ?_, h5, rfl⟩) (W.mono (by omega) hiN)
    rcases Nat.lt_trichotomy j' i with q | q | q
    · exact h4 j' p' hlt q hp'
    · subst q; exact absurd hj' hni
    · exact hlater j' p' hj' q hp'
  · refine done _ (.inr ⟨fun j' p' hj' hp' => ?_, h2, rfl⟩) (W.mono (by omega) hiN)
    rcases Nat.lt_trichotomy j' i with q | q | q
    · exact h1 j' p' q hp'
    · subst q; exact absurd hj' hni
    · exact hlater j' p' hj' q hp'
end
end
end Go.Sx

namespace Go.Sx
open Go.RowKit

section
variable {P : Program} {nt : Nat} {ops : Array Oper} {st : Nat → St} {rc : Nat → Rc} {N : Nat} {D : Nat → Prop} {E0 E E' : Env} {a0 a : Act} {w0 w w' : World} {i : Nat}

/-- The places of an operation's new names, the others' as they were. -/
def mixE (st : Nat → St) (i : Nat) (E E' : Env) : Env where
  at_ id := if (st i).H.next ≤ id ∧ id < (st (i + 1)).H.next then E'.at_ id else E.at_ id
  cap id := if (st i).H.next ≤ id ∧ id < (st (i + 1)).H.next then E'.cap id else E.cap id
theorem mixE_new {id : Nat} (h : (st i).H.next ≤ id ∧ id < (st (i + 1)).H.next) : (mixE st i E E').at_ id = E'.at_ id ∧ (mixE st i E E').cap id = E'.cap id := by simp [mixE, h]
theorem mixE_old {id : Nat} (h : ¬ ((st i).H.next ≤ id ∧ id < (st (i + 1)).H.next)) : (mixE st i E E').at_ id = E.at_ id ∧ (mixE st i E E').cap id = E.cap id := by
  simp only [mixE, if_neg h, and_self]

theorem Inv.step (W : Way nt ops st rc N) (hD : Done ops N D) (hiN : i < N) {o : Oper} (ho : ops[i]? = some o) (hni : ¬ D i) (hor : ∀ j, ord ops j i → D j) (hI : Inv P ops st rc E0 a0 w0 D E a w) (hnt : nt ≤ a0.tmps.size) {x : Value}
    (hr : Rep P E' (rc i).out w') (ht : Tr E (rc i).hin w E' (rc i).out w') (hv : VR E' (rc i).out.next (rc i).v x) :
    Inv P ops st rc E0 a0 w0 (fun j => D j ∨ j = i) (mixE st i E E') (a.put o.dst x) w' := by
  have hN := W.hN
  have hio : i < ops.size := by omega
  have hs := W.sf i o hiN ho
  have hh := W.hin i hio
  have hag : Agree E E' (st i).H.next := by have := ht.agree; rwa [hh.next] at this
  have honext : (rc i).out.next = (st (i + 1)).H.next := hs.on
  -- the new places against E' and E
  have hE' : Agree E' (mixE st i E E') (st (i + 1)).H.next := fun id hid => by
    by_cases hc : (st i).H.next ≤ id ∧ id < (st (i + 1)).H.next
    · exact mixE_new hc
    · obtain ⟨q1, q2⟩ := mixE_old (E := E) (E' := E') hc
      obtain ⟨q3, q4⟩ := hag id (by omega)
      exact ⟨q1.trans q3.symm, q2.trans q4.symm⟩
  have hE : Agree E (mixE st i E E') (st i).H.next := fun id hid => mixE_old (by omega)
  -- what stands before
  have hpin : ∀ {id p}, (rc i).hin.m.get id = some p → ∃ k, Pres st rc D id p k ∧ k ≤ (st i).H.next := fun h => pres_of_hin W hD (by omega) hio hni hor h
  have hhit : ∀ y p, (rc i).hin.m.get y = some p → Hit (rc i).hin (rc i).out y → y ∈ (rc i).wr := fun y p hy hh' => by
    rcases hh' with q | q
    · rw [hh.lim] at q
      have := W.lt (by omega) y p (hh.sub y p hy)
      omega
    · exact hs.wro y q
  have hframe : ∀ b, b < w.heap.size → w'.heap[b]? = w.heap[b]? ∨ ∃ y p, (rc i).hin.m.get y = some p ∧ (E.at_ y).1 = b ∧ y ∈ (rc i).wr := fun b hb => by
    rcases ht.frame b hb with q | ⟨y, p, q1, q2, q3⟩
    · exact .inl q
    · exact .inr ⟨y, p, q1, q2, hhit y p q1 q3⟩
  -- a done one behind i is not bound
  have hord : ∀ j, D j → ¬ ord ops i j := fun j hj ho => hni (hD.ord hN hj ho)
  have hnot : ∀ {j id}, D j → touched st rc j id → (∀ j', D j' ∨ j' = i → j < j' → ¬ touched st rc j' id) → ¬ touched st rc i id := fun {j id} hj htj hl hti => by
    rcases Nat.lt_trichotomy i j with q | q | q
    · exact hord j hj (W.touch2 q (hD.lt j hj) hti htj)
    · subst q; exact hni hj
    · exact hl i (.inr rfl) q hti
  -- what stands behind: an old one that i does not touch, or one that i touched
  have split : ∀ {id p k}, Pres st rc (fun j => D j ∨ j = i) id p k → (Pres st rc D id p k ∧ ¬ touched st rc i id) ∨ (touched st rc i id ∧ (rc i).out.m.get id = some p ∧ k = (st (i + 1)).H.next) := by
    rintro id p k (⟨j, hj, h2, h3, h4, h5⟩ | ⟨h1, h2, h3⟩)
    · rcases hj with hj | rfl
      · exact .inl ⟨.inl ⟨j, hj, h2, fun j' hj' => h3 j' (.inl hj'), h4, h5⟩, hnot hj h2 h3⟩
      · exact .inr ⟨h2, h4, h5⟩
    · exact .inl ⟨.inr ⟨fun j hj => h1 j (.inl hj), h2, h3⟩, h1 i (.inr rfl)⟩
  -- the block of an untouched one is as it was
  have hsame : ∀ {id p k}, Pres st rc D id p k → ¬ touched st rc i id → w'.heap[(E.at_ id).1]? = w.heap[(E.at_ id).1]? := fun {id p k} hp hn => by
    rcases hframe _ (hI.objs id p k hp).lt with q | ⟨y, oy, q1, q2, q3⟩
    · exact q
    · obtain ⟨ky, q4, _⟩ := hpin q1
      have := hI.sep _ _ _ _ _ _ q4 hp q2
      subst this
      exact absurd (.inr q3) hn
  have hold : ∀ {id}, ¬ touched st rc i id → (mixE st i E E').at_ id = E.at_ id ∧ (mixE st i E E').cap id = E.cap id := fun hn => mixE_old fun hc => hn (.inl hc)
  -- the new block of a touched one
  have hwrin : ∀ id, id ∈ (rc i).wr → (∃ p, (rc i).hin.m.get id = some p) ∧ (mixE st i E E').at_ id = E.at_ id := fun id hid => by
    have := W.wrlt hiN hid
    exact ⟨hs.wrd id hid, (mixE_old (by omega)).1⟩
  -- the values of a done one behind i
  have hbut : ∀ j, D j → i < j → ∃ bad, AgreeBut E (mixE st i E E') (st (j + 1)).H.next bad ∧ cleanV bad (rc j).v = true ∧ ∀ id, touched st rc j id → ∀ p, (rc j).out.m.get id = some p → cleanO bad p = true := fun j hj hij => by
    have := hD.lt j hj
    obtain ⟨bad, q1, q2, q3⟩ := (W.ap j (by omega)).clean
    exact ⟨bad, fun id _ hb => mixE_old fun hc => hb (q1 i hij (hord j hj) id hc.1 hc.2), q2, q3⟩
  have hbound : ∀ j, D j → ¬ i < j → (st (j + 1)).H.next ≤ (st i).H.next := fun j hj hij => by
    have : j ≠ i := fun h => by subst h; exact hni hj
    exact W.mono (by omega) (by omega)
  have hb0 : (st 0).H.next ≤ (st i).H.next := W.mono (by omega) (by omega)
  -- where an elder written one leads
  have back : ∀ y p, (rc i).hin.m.get y = some p → y ∈ (rc i).wr → w0.heap.size ≤ (E.at_ y).1 ∨ ∃ z p', (st 0).H.m.get z = some p' ∧ (E0.at_ z).1 = (E.at_ y).1 ∧ HitD st rc (fun j => D j ∨ j = i) z := fun y p hy hyw => by
    obtain ⟨ky, q4, _⟩ := hpin hy
    rcases Nat.lt_or_ge y (st 0).H.next with q | q
    · obtain ⟨p', hp'⟩ := W.keep (by omega) y p (hh.sub y p hy) q
      exact .inr ⟨y, p', hp', by rw [(hI.agree y q).1], .inr ⟨i, .inr rfl, hyw⟩⟩
    · rcases hI.fresh y p ky q4 q with q5 | ⟨z, p', q5, q6, q7⟩
      · exact .inl q5
      · refine .inr ⟨z, p', q5, q6, ?_⟩
        rcases q7 with q7 | ⟨j, q7, q8⟩
        · exact .inl q7
        · exact .inr ⟨j, .inl q7, q8⟩
  have lift : ∀ {y}, HitD st rc D y → HitD st rc (fun j => D j ∨ j = i) y := fun h => by
    rcases h with q | ⟨j, q1, q2⟩
    · exact .inl q
    · exact .inr ⟨j, .inl q1, q2⟩
  refine ⟨?_, ?_, ?_, ?_, ?_, ?_, ?_, ?_, ?_, ?_⟩
  · -- blocks
    intro id p k hp
    rcases split hp with ⟨h1, h2⟩ | ⟨h1, h2, rfl⟩
    · have hob := hI.objs id p k h1
      rcases h1 with ⟨j, hj, j2, j3, j4, rfl⟩ | ⟨j1, j2, rfl⟩
      · by_cases hij : i < j
        · obtain ⟨bad, q1, q2, q3⟩ := hbut j hj hij
          exact hob.monoC (q3 id j2 p j4) q1 (Nat.le_refl _) (hold h2) (hsame (.inl ⟨j, hj, j2, j3, j4, rfl⟩) h2)
        · exact hob.mono (W.tlt (hD.lt j hj) j2) (fun id' hid' => hE id' (Nat.lt_of_lt_of_le hid' (hbound j hj hij))) (Nat.le_refl _) (hsame (.inl ⟨j, hj, j2, j3, j4, rfl⟩) h2)
      · exact hob.mono (W.lt0 id p j2) (fun id' hid' => hE id' (Nat.lt_of_lt_of_le hid' hb0)) (Nat.le_refl _) (hsame (.inr ⟨j1, j2, rfl⟩) h2)
    · obtain ⟨q1, q2⟩ := hr.objs id p h2
      rw [honext] at q1 q2
      exact q2.mono q1 hE' (Nat.le_refl _) rfl
  · -- blocks stand apart
    have cross : ∀ x y ox oy ky, touched st rc i x → (rc i).out.m.get x = some ox → Pres st rc D y oy ky → ¬ touched st rc i y → (E'.at_ x).1 ≠ (E.at_ y).1 := by
      intro x y ox oy ky hx hox hy hny he
      have hyb := (hI.objs y oy ky hy).lt
      rcases hx with hx | hx
      · rcases ht.fresh x ox hox (by rw [hh.next]; exact hx.1) with q | ⟨z, oz, q1, q2, q3⟩
        · omega
        · obtain ⟨kz, q4, _⟩ := hpin q1
          have := hI.sep _ _ _ _ _ _ q4 hy (q2.trans he)
          subst this
          exact hny (.inr (hhit z oz q1 q3))
      · obtain ⟨p, hp⟩ := hs.wrd x hx
        obtain ⟨kx, q4, _⟩ := hpin hp
        rw [(hag x (W.wrlt hiN hx)).1] at he
        have := hI.sep _ _ _ _ _ _ q4 hy he
        subst this
        exact hny (.inr hx)
    have hat : ∀ x, touched st rc i x → (mixE st i E E').at_ x = E'.at_ x := fun x hx => (hE' x (W.tlt hiN hx)).1
    intro x y ox oy kx ky hx hy he
    rcases split hx with ⟨h1, h2⟩ | ⟨h1, h2, _⟩ <;> rcases split hy with ⟨h3, h4⟩ | ⟨h3, h4, _⟩
    · rw [(hold h2).1, (hold h4).1] at he
      exact hI.sep _ _ _ _ _ _ h1 h3 he
    · rw [(hold h2).1, hat y h3] at he
      exact absurd he.symm (cross y x oy ox kx h3 h4 h1 h2)
    · rw [hat x h1, (hold h4).1] at he
      exact absurd he (cross x y ox oy ky h1 h2 h3 h4)
    · rw [hat x h1, hat y h3] at he
      exact hr.sep x y ox oy h2 h4 he
  · -- slots
    intro t v k hp
    have hput : ∀ {t}, o.dst ≠ some t → (a.put o.dst x).tmps[t]? = a.tmps[t]? := fun {t} h => by
      cases hd : o.dst with
      | none => rfl
      | some d =>
        have : d ≠ t := fun e => h (by rw [hd, e])
        simp only [Act.put]
        rw [Array.getElem?_setIfInBounds_ne this]
    -- as an old one
    have old : PresS ops st rc D t v k → o.dst ≠ some t → ∃ y, (a.put o.dst x).tmps[t]? = some y ∧ VR (mixE st i E E') k v y := fun hq hne => by
      obtain ⟨y, q1, q2⟩ := hI.slots t v k hq
      refine ⟨y, by rw [hput hne]; exact q1, ?_⟩
      rcases hq with ⟨j, p, hj, _, _, _, rfl, rfl⟩ | ⟨_, _, rfl⟩
      · by_cases hij : i < j
        · obtain ⟨bad, q3, q4, _⟩ := hbut j hj hij
          exact VR.monoC q3 (Nat.le_refl _) _ _ q4 q2
        · exact VR.mono (fun id' hid' => hE id' (Nat.lt_of_lt_of_le hid' (hbound j hj hij))) (Nat.le_refl _) _ _ q2
      · exact VR.mono (fun id' hid' => hE id' (Nat.lt_of_lt_of_le hid' hb0)) (Nat.le_refl _) _ _ q2
    rcases hp with ⟨j, p, hj, j2, j3, j4, j5, j6⟩ | ⟨h1, h2, h3⟩
    · rcases hj with hj | rfl
      · refine old (.inl ⟨j, p, hj, j2, j3, fun j' p' hj' => j4 j' p' (.inl hj'), j5, j6⟩) fun hd => ?_
        have hjN := hD.lt j hj
        have hne : j ≠ i := fun h => by subst h; exact hni hj
        rcases slotsOk_spec ops W.ok ho j2 j3 (List.mem_append.2 (.inr (by simp [hd]))) hne with ⟨q, _⟩ | ⟨_, q⟩
        · exact j4 i o (.inr rfl) q ho hd
        · exact hord j hj q
      · rw [ho] at j2
        injection j2 with j2
        subst j2 j5 j6
        obtain ⟨_, hd⟩ := W.slot j o hio ho
        have hlt : t < nt := hd t j3
        refine ⟨x, ?_, ?_⟩
        · rw [j3]
          simp only [Act.put]
          have hsz : t < a.tmps.size := by have := hI.tsz; omega
          simp [hsz]
        · rw [honext] at hv
          exact VR.mono hE' (Nat.le_refl _) _ _ hv
    · exact old (.inr ⟨fun j p hj => h1 j p (.inl hj), h2, h3⟩) (h1 i o (.inr rfl) ho)
  · -- the elder places
    exact fun id hid => by
      obtain ⟨q1, q2⟩ := hI.agree id hid
      obtain ⟨q3, q4⟩ := hE id (by omega)
      exact ⟨q3.trans q1, q4.trans q2⟩
  · -- new blocks
    intro id p k hp hid
    rcases split hp with ⟨h1, h2⟩ | ⟨h1, h2, rfl⟩
    · rw [(hold h2).1]
      rcases hI.fresh id p k h1 hid with q | ⟨y, p', q1, q2, q3⟩
      · exact .inl q
      · exact .inr ⟨y, p', q1, q2, lift q3⟩
    · rcases h1 with h1 | h1
      · rw [(mixE_new h1).1]
        rcases ht.fresh id p h2 (by rw [hh.next]; exact h1.1) with q | ⟨y, oy, q1, q2, q3⟩
        · exact .inl (Nat.le_trans hI.size q)
        · rw [← q2]
          exact back y oy q1 (hhit y oy q1 q3)
      · obtain ⟨⟨q, hq⟩, he⟩ := hwrin id h1
        rw [he]
        exact back id q hq h1
  · -- the rest of the world
    intro b hb
    rcases hframe b (Nat.lt_of_lt_of_le hb hI.size) with q | ⟨y, oy, q1, q2, q3⟩
    · rcases hI.frame b hb with q' | ⟨y, p', q1, q2, q3⟩
      · exact .inl (q.trans q')
      · exact .inr ⟨y, p', q1, q2, lift q3⟩
    · rcases back y oy q1 q3 with q4 | ⟨z, p', q4, q5, q6⟩
      · omega
      · exact .inr ⟨z, p', q4, q5.trans q2, q6⟩
  · exact Nat.le_trans hI.size ht.size
  · exact hI.calm.trans ht.calm
  · rw [Act.put_size]; exact hI.tsz
  · rw [Act.put_defers']; exact hI.dfr

theorem Done.step (hD : Done ops N D) (hiN : i < N) {o : Oper} (ho : ops[i]? = some o) (hb : ∀ e ∈ o.after, Region.binds .any e = true → D e.on) : Done ops N (fun j => D j ∨ j = i) := by
  refine ⟨fun j hj => ?_, fun j p hj hp e he hbe => ?_⟩
  · rcases hj with hj | rfl
    · exact hD.lt j hj
    · exact hiN
  · rcases hj with hj | rfl
    · exact .inl (hD.cl j p hj hp e he hbe)
    · rw [ho] at hp
      injection hp with hp
      subst hp
      exact .inl (hb e he hbe)
end
end Go.Sx

namespace Go.Sx
open Go.RowKit

theorem CallsF.ex {P : Program} {f : Nat} {xs : Array Value} {w : World} {R : Value → World → Prop} (h : CallsF P f xs w R) : ∃ v w', R v w' := by
  unfold CallsF at h
  split at h
  · exact ⟨_, _, h⟩
  · obtain ⟨e, w', fr, hR, _⟩ := h []
    cases e with
    | returned v => exact ⟨v, w', hR⟩
    | panicked c => exact hR.elim
    | outgrown => exact hR.elim
  · exact h.elim

section
variable {P : Program} {fnAt : Nat → Option Func} {orc : Orc} {big : Big} {ih : Run} {nt : Nat} {ops : Array Oper} {st : Nat → St} {rc : Nat → Rc} {E : Env} {a : Act} {w : World} {i : Nat}

theorem runOp (hG : Given P fnAt orc big) (hS : Sound P ih) {o : Oper} (ho : ops[i]? = some o) (hst : Step1 P fnAt orc big ih nt ops i o (st i) (st (i + 1)) (rc i)) (hrep : Rep P E (rc i).hin w)
    (hsl : ∀ t ∈ readsOf ops.toList o, ∀ v, (st i).S.get t = some v → ∃ x, a.tmps[t]? = some x ∧ VR E (st i).H.next v x) :
    (∃ x w' E', Rep P E' (rc i).out w' ∧ Tr E (rc i).hin w E' (rc i).out w' ∧ VR E' (rc i).out.next (rc i).v x) ∧
    ∀ (K : Act → World → Prop) (Q : Exit → Act → World → Prop), (∀ x w' E', Rep P E' (rc i).out w' → Tr E (rc i).hin w E' (rc i).out w' → VR E' (rc i).out.next (rc i).v x → K (a.put o.dst x) w') → wpOp P ops Q i K a w := by
  have hwant : ∀ b, wantedA ops.toList o.guard (st i).S = some b → Region.wanted o (yielded ops a.tmps) = b := fun b hb =>
    wantedA_sound (E := E) (nx := (st i).H.next) hb (a := a) fun j want t hg hd v hv => hsl t (by
      unfold readsOf
      rw [hg]
      exact List.mem_append.2 (.inr (by simp [hd]))) v hv
  have hSR : SR E (st i).H.next (pickT (st i).S (readsOf ops.toList o)) a := fun t v h => by
    rw [pickT_get] at h
    split at h
    · exact hsl t (by assumption) v h
    · cases h
  have hsame : Same (st i).S (pickT (st i).S (readsOf ops.toList o)) o.op := Same.of fun t ht => by
    rw [pickT_get, if_pos]
    exact List.mem_append.2 (.inl ht)
  cases hst with
  | skip hw hp hH hT hR hr =>
    rw [hr] at hrep ⊢
    have hrf := Tr.refl E _ w fun id p h => (hrep.objs id p h).1
    refine ⟨⟨undef, w, E, hrep, hrf, undef_VR⟩, fun K Q hK => ?_⟩
    unfold wpOp
    rw [ho]
    simp only [hwant false hw, Bool.false_eq_true, if_false]
    exact hK undef w E hrep hrf undef_VR
  | simple e hw hc ha hf hu hcl hp hH hT hR hr =>
    rw [hr] at hrep ⊢
    simp only [] at hrep ⊢
    rw [aop_congr hsame] at ha
    obtain ⟨x, w', E', q1, q2, q3⟩ := aop_sound hrep.objs hSR o ha
    obtain ⟨p1, p2⟩ := eff_step hrep q2 (aop_on ha)
    have q3' : VR E' (e.u.onto (hinS (st i).H (foot o.op (st i).S))).next e.v x := by rw [Upd.onto_next]; exact q3
    refine ⟨⟨x, w', E', p1, p2, q3'⟩, fun K Q hK => ?_⟩
    unfold wpOp
    rw [ho]
    simp only [hwant true hw, if_true]
    left
    have := hK x w' E' p1 p2 q3'
    unfold Oper.wp
    rcases q1 with q1 | ⟨q1, rfl⟩
    · rw [q1]; exact this
    · rw [q1]; exact this
  | call f args v Ho hw hc ha hu hcl hp hH hT hR hr =>
    rw [hr] at hrep ⊢
    simp only [] at hrep ⊢
    rw [callOf_congr hsame] at hc
    obtain ⟨xs, hx, he⟩ := callOf_spec hc hSR
    have hcall := callR_sound hG hS ha hrep hx
    refine ⟨?_, fun K Q hK => ?_⟩
    · obtain ⟨x, w', E', h⟩ := hcall.ex
      exact ⟨x, w', E', h⟩
    · unfold wpOp
      rw [ho]
      simp only [hwant true hw, if_true]
      left
      unfold Oper.wp
      rw [he]
      unfold CallsF at hcall
      split at hcall
      · rename_i y w' hrun
        rw [hrun]
        obtain ⟨E', q1, q2, q3⟩ := hcall
        exact hK y w' E' q1 q2 q3
      · rename_i g ys w' hrun
        rw [hrun]
        refine Calls.mono hcall fun e w'' he => ?_
        cases e with
        | returned y =>
          obtain ⟨E', q1, q2, q3⟩ := he
          exact hK y w'' E' q1 q2 q3
        | panicked c => exact he.elim
        | outgrown => exact he.elim
      · exact hcall.elim
end

section
variable {P : Program} {fnAt : Nat → Option Func} {orc : Orc} {big : Big} {ih : Run} {nt : Nat} {ops : Array Oper} {st : Nat → St} {rc : Nat → Rc} {E0 : Env} {a0 : Act} {w0 : World}

theorem Inv.init (hr : Rep P E0 (st 0).H w0) (hs : SR E0 (st 0).H.next (st 0).S a0) {D : Nat → Prop} (hD : ∀ j, ¬ D j) : Inv P ops st rc E0 a0 w0 D E0 a0 w0 := by
  have hp : ∀ {id p k}, Pres st rc D id p k → (st 0).H.m.get id = some p ∧ k = (st 0).H.next := fun h => by
    rcases h with ⟨j, h, _⟩ | ⟨_, h⟩
    · exact absurd h (hD j)
    · exact h
  refine ⟨fun id p k h => ?_, fun i j oi oj ki kj hi hj => hr.sep i j oi oj (hp hi).1 (hp hj).1, fun t v k h => ?_, Agree.refl _ _, fun i p k h hi => ?_, fun b _ => .inl rfl, Nat.le_refl _, Calm.refl _, rfl, rfl⟩
  · obtain ⟨h1, rfl⟩ := hp h
    exact (hr.objs id p h1).2
  · rcases h with ⟨j, o, h, _⟩ | ⟨_, h, rfl⟩
    · exact absurd h (hD j)
    · exact hs t v h
  · have := (hr.objs i p (hp h).1).1
    omega

/-- All done. -/
theorem Inv.fin (W : Way nt ops st rc ops.size) {D : Nat → Prop} (hD : ∀ j, D j ↔ j < ops.size) {E : Env} {a : Act} {w : World} (hI : Inv P ops st rc E0 a0 w0 D E a w) :
    Rep P E (st ops.size).H w ∧ Tr E0 (st 0).H w0 E (st ops.size).H w ∧ SR E (st ops.size).H.next (st ops.size).S a := by
  have hpres : ∀ {id p}, (st ops.size).H.m.get id = some p → ∃ k, Pres st rc D id p k ∧ k ≤ (st ops.size).H.next := fun {id p} h => by
    rcases W.last (Nat.le_refl _) id p h with ⟨j, h1, h2, h3, h4⟩ | ⟨h1, h2⟩
    · exact ⟨_, .inl ⟨j, (hD j).2 h1, h2, fun j' hj' hlt => h3 j' hlt ((hD j').1 hj'), h4, rfl⟩, W.mono (by omega) (Nat.le_refl _)⟩
    · exact ⟨_, .inr ⟨fun j hj => h1 j ((hD j).1 hj), h2, rfl⟩, W.mono (by omega) (Nat.le_refl _)⟩
  have hdone : Done ops ops.size D := ⟨fun j hj => (hD j).1 hj, fun j o hj ho e he hb => (hD _).2 (by have := slotsOk_back ops W.ok ho e he hb; have := (hD j).1 hj; omega)⟩
  have hhit : ∀ y, HitD st rc D y → Hit (st 0).H (st ops.size).H y := fun y hy => by
    rcases hy with q | ⟨j, q1, q2⟩
    · exact .inl q
    · have hj := (hD j).1 q1
      rcases Nat.lt_or_ge y (st 0).H.lim with q3 | q3
      · obtain ⟨o, _, hs⟩ := W.SFat hj
        exact .inr (W.log (j := j + 1) (by omega) (Nat.le_refl _) y (hs.log' y q2 (by rw [W.lim (by omega)]; exact q3)))
      · exact .inl q3
  refine ⟨⟨fun id p h => ?_, fun x y ox oy hx hy he => ?_⟩, ⟨hI.agree, W.mono (by omega) (Nat.le_refl _), W.lim (Nat.le_refl _), W.log (by omega) (Nat.le_refl _), W.logd (Nat.le_refl _), W.keep (Nat.le_refl _), fun id hid hn => ?_, fun id p h hid => ?_, fun b hb => ?_, hI.size, hI.calm⟩, fun t v h => ?_⟩
  · obtain ⟨k, h1, h2⟩ := hpres h
    exact ⟨W.lt (Nat.le_refl _) id p h, (hI.objs id p k h1).mono (h1.lt W hdone) (Agree.refl _ _) h2 rfl⟩
  · obtain ⟨kx, h1, _⟩ := hpres hx
    obtain ⟨ky, h2, _⟩ := hpres hy
    exact hI.sep _ _ _ _ _ _ h1 h2 he
  · -- what is not hit is as it was
    have : ∀ j, j ≤ ops.size → (st j).H.m.get id = (st 0).H.m.get id := by
      intro j
      induction j with
      | zero => intro _; rfl
      | succ j ihj =>
        intro hj
        obtain ⟨o, _, hs⟩ := W.SFat (j := j) (by omega)
        rw [hs.heapN id, ihj (by omega)]
        rintro (q | q)
        · have := W.mono (j := 0) (k := j) (by omega) (by omega)
          omega
        · exact hn (hhit id (.inr ⟨j, (hD j).2 (by omega), q⟩))
    exact this _ (Nat.le_refl _)
  · obtain ⟨k, h1, h2⟩ := hpres h
    rcases hI.fresh id p k h1 hid with q | ⟨y, p', q1, q2, q3⟩
    · exact .inl q
    · exact .inr ⟨y, p', q1, q2, hhit y q3⟩
  · rcases hI.frame b hb with q | ⟨y, p', q1, q2, q3⟩
    · exact .inl q
    · exact .inr ⟨y, p', q1, q2, hhit y q3⟩
  · have done : ∀ k, PresS ops st rc D t v k → k ≤ (st ops.size).H.next → ∃ x, a.tmps[t]? = some x ∧ VR E (st ops.size).H.next v x := fun k h1 h2 => by
      obtain ⟨x, q1, q2⟩ := hI.slots t v k h1
      exact ⟨x, q1, VR.mono (Agree.refl _ _) h2 v x q2⟩
    rcases W.lastS (Nat.le_refl _) t v h with ⟨j, p, h1, h2, h3, h4, h5⟩ | ⟨h1, h2⟩
    · exact done _ (.inl ⟨j, p, (hD j).2 h1, h2, h3, fun j' p' hj' hlt hp' => h4 j' p' hlt ((hD j').1 hj') hp', h5, rfl⟩) (W.mono (by omega) (Nat.le_refl _))
    · exact done _ (.inr ⟨fun j' p' hj' hp' => h1 j' p' ((hD j').1 hj') hp', h2, rfl⟩) (W.mono (by omega) (Nat.le_refl _))

/-- The way is told to its end. -/
theorem way_all (hG : Given P fnAt orc big) (hS : Sound P ih) (hok : slotsOk ops.toList = true) (hT0 : (st 0).T = []) (hstep : ∀ i o, ops[i]? = some o → Step1 P fnAt orc big ih nt ops i o (st i) (st (i + 1)) (rc i))
    (hr : Rep P E0 (st 0).H w0) (hs : SR E0 (st 0).H.next (st 0).S a0) (hnt : nt ≤ a0.tmps.size) : ∀ N, N ≤ ops.size → Way nt ops st rc N ∧ ∃ E a w, Inv P ops st rc E0 a0 w0 (fun j => j < N) E a w := by
  have hget : ∀ {j}, j < ops.size → ops[j]? = some ops[j]! := fun {j} h => by rw [getElem!_pos ops j h]; exact Array.getElem?_eq_getElem h
  have hTI : ∀ N, N ≤ ops.size → TI st rc N := by
    intro N
    induction N with
    | zero => intro _; exact TI.mk0 hT0
    | succ N ihN => intro h; exact (ihN (by omega)).step (hstep N _ (hget (by omega)))
  have hslot : ∀ j o, j < ops.size → ops[j]? = some o → (∀ t, (st (j + 1)).S.get t = if o.dst = some t then some (rc j).v else (st j).S.get t) ∧ ∀ d, o.dst = some d → d < nt := fun j o _ ho => by
    cases hstep j o ho with
    | skip hw hp hH hT hR hr => rw [hr]; exact putS_get hp
    | simple e hw hc ha hf hu hcl hp hH hT hR hr => rw [hr]; exact putS_get hp
    | call f args v Ho hw hc ha hu hcl hp hH hT hR hr => rw [hr]; exact putS_get hp
  intro N
  induction N with
  | zero =>
    intro _
    exact ⟨⟨Nat.zero_le _, hok, fun j o h => by omega, fun j hj => Apart.of (hTI j (by omega)) (hstep j _ (hget hj)), fun j hj => HinOk.of (hstep j _ (hget hj)), hslot, fun id p h => (hr.objs id p h).1⟩,
      E0, a0, w0, Inv.init hr hs fun j h => by omega⟩
  | succ N ihN =>
    intro hN
    obtain ⟨W, E, a, w, hI⟩ := ihN (by omega)
    have ho := hget (j := N) (by omega)
    have hst := hstep N _ ho
    have hD : Done ops N (fun j => j < N) := ⟨fun _ h => h, fun j o hj ho e he hb => by have := slotsOk_back ops hok ho e he hb; omega⟩
    have hor : ∀ j, ord ops j N → j < N := fun j h => ord_lt ops hok N _ ho j h
    have hrep := rep_in W hD (Nat.le_refl N) (by omega) (by omega) hor hI
    obtain ⟨⟨x, w', E', q1, q2, q3⟩, _⟩ := runOp hG hS ho hst hrep (fun t ht v hv => slots_in W hD (Nat.le_refl N) ho (by omega) hor hI (List.mem_append.2 (.inl ht)) hv)
    have hSF : SF nt ops[N]! (st N) (st (N + 1)) (rc N) := by
      cases hst with
      | skip hw hp hH hT hR hr => rw [hr]; exact SF.of_skip hp hH
      | simple e hw hc ha hf hu hcl hp hH hT hR hr => rw [hr]; exact SF.of_simple ha hp hH (W.lt (Nat.le_refl N))
      | call f args v Ho hw hc ha hu hcl hp hH hT hR hr =>
        rw [hr] at q1 q2 ⊢
        refine SF.of_call hp hH q2 q1 (W.lt (Nat.le_refl N)) fun id hid => ?_
        have : ∀ l : List Tch, (∀ t ∈ l, t ∈ (st N).T) → id ∈ looseOf (mkAt ops N) l → id < (st N).H.next := by
          intro l
          induction l with
          | nil => intro _ h; simp [looseOf] at h
          | cons t l ihl =>
            intro hl h
            unfold looseOf at h
            split at h
            · exact ihl (fun t ht => hl t (List.mem_cons_of_mem _ ht)) h
            · obtain ⟨e0, e1, e2, e3⟩ := (hTI N (by omega)).tin t (hl t (List.mem_cons_self ..))
              rcases List.mem_append.1 h with h | h
              · rw [List.mem_range'_1] at h
                have := W.mono (j := t.j + 1) (k := N) (by omega) (Nat.le_refl _)
                omega
              · rcases List.mem_append.1 h with h | h
                · rw [e3] at h
                  have := W.wrlt e0 h
                  have := W.mono (j := t.j) (k := N) (by omega) (Nat.le_refl _)
                  omega
                · exact ihl (fun t ht => hl t (List.mem_cons_of_mem _ ht)) h
        exact this _ (fun _ h => h) hid
    have W' : Way nt ops st rc (N + 1) := ⟨hN, hok, fun j o hj hjo => by
      by_cases hjN : j = N
      · subst hjN
        rw [ho] at hjo
        injection hjo with hjo
        subst hjo
        exact hSF
      · exact W.sf j o (by omega) hjo, W.ap, W.hin, W.slot, W.lt0⟩
    refine ⟨W', mixE st N E E', a.put ops[N]!.dst x, w', ?_⟩
    have hD' : Done ops (N + 1) (fun j => j < N) := ⟨fun _ h => by omega, hD.cl⟩
    have := Inv.step W' hD' (by omega) ho (by omega) hor hI hnt q1 q2 q3
    have he : (fun j => j < N ∨ j = N) = fun j => j < N + 1 := by funext j; apply propext; omega
    rw [he] at this
    exact this

theorem ready_nil (hok : slotsOk ops.toList = true) {listed : Array Bool} (hsz : listed.size = ops.size) (h : Region.ready .any ops listed = []) : ∀ j, j < ops.size → listed.getD j false = true := by
  intro j
  induction j using Nat.strongRecOn with
  | _ j ihj =>
    intro hj
    cases hl : listed.getD j false with
    | true => rfl
    | false =>
      have ho : ops[j]? = some ops[j] := Array.getElem?_eq_getElem hj
      have : j ∈ Region.ready .any ops listed := by
        rw [mem_ready]
        refine ⟨?_, ops[j], ho, fun e he hb => ihj e.on (slotsOk_back ops hok ho e he hb) (by have := slotsOk_back ops hok ho e he hb; omega)⟩
        have hlt : j < listed.size := by omega
        simpa [Array.getD, hlt] using hl
      rw [h] at this
      simp at this

theorem draw_any (hG : Given P fnAt orc big) (hS : Sound P ih) (W : Way nt ops st rc ops.size) (hstep : ∀ i o, ops[i]? = some o → Step1 P fnAt orc big ih nt ops i o (st i) (st (i + 1)) (rc i)) (hnt : nt ≤ a0.tmps.size) {Q : Exit → Act → World → Prop}
    (hQ : ∀ a' w' E', Rep P E' (st ops.size).H w' → Tr E0 (st 0).H w0 E' (st ops.size).H w' → SR E' (st ops.size).H.next (st ops.size).S a' → a'.tmps.size = a0.tmps.size → a'.defers = a0.defers → Q .normal a' w') :
    ∀ (fuel : Nat) (listed : Array Bool) (E : Env) (a : Act) (w : World), listed.size = ops.size → listed.count false = fuel → Done ops ops.size (fun j => listed.getD j false = true) → Inv P ops st rc E0 a0 w0 (fun j => listed.getD j false = true) E a w →
    wpAny P .any ops Q fuel listed a w := by
  have fin : ∀ (listed : Array Bool) (E : Env) (a : Act) (w : World), Done ops ops.size (fun j => listed.getD j false = true) → Inv P ops st rc E0 a0 w0 (fun j => listed.getD j false = true) E a w → (∀ j, j < ops.size → listed.getD j false = true) → Q .normal a w := by
    intro listed E a w hD hI hall
    obtain ⟨q1, q2, q3⟩ := hI.fin W fun j => ⟨hD.lt j, hall j⟩
    exact hQ a w E q1 q2 q3 hI.tsz hI.dfr
  intro fuel
  induction fuel with
  | zero =>
    intro listed E a w hsz hc hD hI
    have hall : ∀ j, j < ops.size → listed.getD j false = true := fun j hj => by
      have hlt : j < listed.size := by omega
      have hmem : listed[j] ∈ listed := Array.getElem_mem hlt
      cases hb : listed[j] with
      | true => simp [Array.getD, hlt, hb]
      | false =>
        rw [hb] at hmem
        have := Array.count_pos_iff.2 hmem
        omega
    refine ⟨?_, fin listed E a w hD hI hall⟩
    cases hrd : Region.ready .any ops listed with
    | nil => rfl
    | cons j l =>
      have : j ∈ Region.ready .any ops listed := by rw [hrd]; simp
      rw [mem_ready] at this
      obtain ⟨h0, o, ho, _⟩ := this
      have hj : j < ops.size := (Array.getElem?_eq_some_iff.1 ho).1
      have h1 := hall j hj
      have hlt : j < listed.size := by omega
      simp [Array.getD, hlt] at h0 h1
      rw [h0] at h1
      cases h1
  | succ fuel ihf =>
    intro listed E a w hsz hc hD hI
    refine ⟨fun hrd => fin listed E a w hD hI (ready_nil W.ok hsz hrd), fun i hi => ?_⟩
    rw [mem_ready] at hi
    obtain ⟨h0, o, ho, hb⟩ := hi
    have hio : i < ops.size := (Array.getElem?_eq_some_iff.1 ho).1
    have hlt : i < listed.size := by omega
    have hfl : listed[i] = false := by simpa [Array.getD, hlt] using h0
    have hni : ¬ listed.getD i false = true := by simp [Array.getD, hlt, hfl]
    have hor : ∀ j, ord ops j i → listed.getD j false = true := fun j hj => ord_closed ops hD.cl i o ho hb j hj
    have hrep := rep_in W hD (by omega) hio hni hor hI
    have hst := hstep i o ho
    refine (runOp hG hS ho hst hrep (fun t ht v hv => slots_in W hD (by omega) ho hni hor hI (List.mem_append.2 (.inl ht)) hv)).2 _ Q fun x w' E' q1 q2 q3 => ?_
    have hDs : (fun j => (listed.setIfInBounds i true).getD j false = true) = fun j => listed.getD j false = true ∨ j = i := by
      funext j
      apply propext
      by_cases hj : j = i
      · subst hj; simp [Array.getD, hlt]
      · rw [getD_set_ne false (Ne.symm hj)]
        simp [hj]
    refine ihf _ (mixE st i E E') _ w' (by simpa using hsz) ?_ ?_ ?_
    · have : (listed.setIfInBounds i true).count false = listed.count false - 1 := by
        rw [Array.setIfInBounds, dif_pos hlt, Array.count_set]
        simp [hfl]
      omega
    · rw [hDs]; exact hD.step hio ho hb
    · rw [hDs]; exact Inv.step W hD hio ho hni hor hI hnt q1 q2 q3

theorem draw_sound (hG : Given P fnAt orc big) (hS : Sound P ih) : DrawSound P fnAt orc big ih := by
  intro nt ops S H S' H' hok hd E a w hr hs hnt id Q hQ
  obtain ⟨st, rc, h0, hstep, hSn, hHn⟩ := trace P fnAt orc big ih nt ops 0 ⟨S, H, [], []⟩ (by simpa using hd) (Nat.zero_le _)
  have hstep' : ∀ i o, ops[i]? = some o → Step1 P fnAt orc big ih nt ops i o (st i) (st (i + 1)) (rc i) := fun i o ho => hstep i o (Nat.zero_le _) ho
  have hr' : Rep P E (st 0).H { w with drawn := w.drawn + 1 } := by rw [h0]; exact ⟨hr.objs, hr.sep⟩
  have hs' : SR E (st 0).H.next (st 0).S a := by rw [h0]; exact hs
  obtain ⟨W, _⟩ := way_all hG hS hok (by rw [h0]) hstep' hr' hs' hnt ops.size (Nat.le_refl _)
  refine wp_region_any hG.mixed (draw_any hG hS W hstep' (E0 := E) (a0 := a) (w0 := { w with drawn := w.drawn + 1 }) hnt (fun a' w' E' q1 q2 q3 q4 q5 => ?_) ops.size _ E a _ (by simp) (by simp) ?_ ?_)
  · rw [hHn, h0] at q2
    rw [hHn] at q1 q3
    rw [hSn] at q3
    exact hQ a' w' E' q1 ⟨q2.agree, q2.next, q2.lim, q2.log, q2.logd, q2.keep, q2.same, q2.fresh, q2.frame, q2.size, ⟨q2.calm.os, q2.calm.tape, q2.calm.output⟩⟩ q3 q4 q5
  · refine ⟨fun j h => ?_, fun j o h => ?_⟩ <;> (exfalso; by_cases hj : j < ops.size <;> simp [Array.getD, hj] at h)
  · exact Inv.init hr' hs' fun j h => by by_cases hj : j < ops.size <;> simp [Array.getD, hj] at h

/-- The runner tells the truth. -/
theorem run_sound (hG : Given P fnAt orc big) : ∀ n, Sound P (run P fnAt orc big n)
  | 0 => fun nt c S H x S' H' h => by cases h
  | n + 1 => codeR_sound hG (run_sound hG n) (draw_sound hG (run_sound hG n))

/-- A call that the runner has run. -/
theorem call_sound (hG : Given P fnAt orc big) {n f : Nat} {args : List AV} {H H' : Hp} {v : AV} (h : call P fnAt orc big n f args H = some (v, H')) {E : Env} {w : World} (hr : Rep P E H w) {xs : List Value} (hx : VRs E H.next args xs) :
    CallsF P f xs.toArray w fun x w' => ∃ E', Rep P E' H' w' ∧ Tr E H w E' H' w' ∧ VR E' H'.next v x := callR_sound hG (run_sound hG n) h hr hx
end
end Go.Sx

namespace Go.Sx
open Go.RowKit

mutual
/-- A value that mentions no name. -/
def plainV : AV → Bool
  | .bool _ => true
  | .int _ _ => true
  | .str _ _ => true
  | .nilp => true
  | .nilsl => true
  | .nilmap => true
  | .nilfn => true
  | .nilifc => true
  | .fn _ a b => (match plainL a with
    | true => plainL b
    | false => false)
  | .ifc _ v => plainV v
  | .agg l => plainL l
  | .tup l => plainL l
  | _ => false
def plainL : List AV → Bool
  | [] => true
  | a :: l => match plainV a with
    | true => plainL l
    | false => false
end
mutual
theorem plain_VR {E E' : Env} {nx nx' : Nat} : ∀ (v : AV) (x : Value), plainV v = true → VR E nx v x → VR E' nx' v x
  | .bool _, _, _, hv | .int _ _, _, _, hv | .str _ _, _, _, hv | .nilp, _, _, hv | .nilsl, _, _, hv | .nilmap, _, _, hv | .nilfn, _, _, hv | .nilifc, _, _, hv => by simpa [VR] using hv
  | .ptr _ _, _, hp, _ | .slice _ _ _ _, _, hp, _ | .emp _ _ _ _, _, hp, _ | .map _, _, hp, _ => by simp [plainV] at hp
  | .fn f a b, x, hp, hv => by
    simp only [VR] at hv ⊢
    simp only [plainV] at hp
    split at hp
    · rename_i hpa
      obtain ⟨xs, ys, h1, h2, h3⟩ := hv
      exact ⟨xs, ys, plain_VRs a xs hpa h1, plain_VRs b ys hp h2, h3⟩
    · cases hp
  | .ifc t v, x, hp, hv => by
    simp only [VR] at hv ⊢
    simp only [plainV] at hp
    obtain ⟨y, h1, h2⟩ := hv
    exact ⟨y, plain_VR v y hp h1, h2⟩
  | .agg l, x, hp, hv => by
    simp only [VR] at hv ⊢
    simp only [plainV] at hp
    obtain ⟨y, h1, h2⟩ := hv
    exact ⟨y, plain_VRs l y hp h1, h2⟩
  | .tup l, x, hp, hv => by
    simp only [VR] at hv ⊢
    simp only [plainV] at hp
    obtain ⟨y, h1, h2⟩ := hv
    exact ⟨y, plain_VRs l y hp h1, h2⟩
theorem plain_VRs {E E' : Env} {nx nx' : Nat} : ∀ (v : List AV) (x : List Value), plainL v = true → VRs E nx v x → VRs E' nx' v x
  | [], _, _, hv => by simpa [VRs] using hv
  | a :: l, x, hp, hv => by
    simp only [VRs] at hv ⊢
    simp only [plainL] at hp
    split at hp
    · rename_i hpa
      obtain ⟨y, r, h1, h2, h3⟩ := hv
      exact ⟨y, r, plain_VR a y hpa h1, plain_VRs l r hp h2, h3⟩
    · cases hp
end

/-- What is told of a function at some arguments: it answers so, wherever it is called, and turns nothing that has a name. -/
def Told (P : Program) (f : Nat) (args : List AV) (v : AV) : Prop := ∀ E nx w xs, VRs E nx args xs → CallsF P f xs.toArray w fun x w' => ∃ E', GPost P E nx w E' w' .non ∧ VR E' nx v x
def empH : Hp := ⟨.nil, 0, 0, []⟩
/-- A run without names, and its answer. -/
def answers (r : Option (AV × Hp)) (v : AV) : Prop := ∃ H, r = some (v, H)
theorem told_plain {P : Program} {fnAt : Nat → Option Func} {orc : Orc} {big : Big} (hG : Given P fnAt orc big) {n f : Nat} {args : List AV} {v : AV} (h : answers (call P fnAt orc big n f args empH) v) (ha : plainL args = true) (hv : plainV v = true) : Told P f args v := by
  obtain ⟨H', h⟩ := h
  intro E nx w xs hx
  have hr : Rep P E empH w := ⟨fun id p h => by simp [empH, PT.get] at h, fun i j oi oj h => by simp [empH, PT.get] at h⟩
  refine (call_sound hG h hr (plain_VRs args xs ha hx)).mono ?_
  rintro x w' ⟨E', q1, q2, q3⟩
  refine ⟨E, ⟨rfl, q2.size, fun k hk => ?_, q2.calm⟩, plain_VR v x hv q3⟩
  rcases q2.frame k hk with q | ⟨y, p, q, _⟩
  · exact q
  · simp [empH, PT.get] at q

mutual
/-- The same value, of those that mention no name. -/
def sameV : AV → AV → Bool
  | .bool a, y => (match y with | .bool b => (match a, b with | true, true => true | false, false => true | _, _ => false) | _ => false)
  | .int k a, y => (match y with | .int j b => (match decide (k = j) with | true => decide (a = b) | false => false) | _ => false)
  | .str l a, y => (match y with | .str m b => (match Nat.beq l m with | true => Nat.beq a b | false => false) | _ => false)
  | .agg l, y => (match y with | .agg m => sameL l m | _ => false)
  | .tup l, y => (match y with | .tup m => sameL l m | _ => false)
  | .nilp, y => (match y with | .nilp => true | _ => false)
  | .nilsl, y => (match y with | .nilsl => true | _ => false)
  | .nilifc, y => (match y with | .nilifc => true | _ => false)
  | _, _ => false
def sameL : List AV → List AV → Bool
  | [], y => (match y with | [] => true | _ => false)
  | a :: l, y => (match y with
    | b :: m => (match sameV a b with
      | true => sameL l m
      | false => false)
    | [] => false)
end
mutual
theorem sameV_eq : ∀ a b, sameV a b = true → a = b
  | .bool a, b, h => by cases b <;> simp [sameV] at h ; rename_i b; cases a <;> cases b <;> simp at h ⊢
  | .int k a, b, h => by
    cases b <;> simp only [sameV, Bool.false_eq_true] at h
    split at h
    · rename_i hk; rw [of_decide_eq_true hk, of_decide_eq_true h]
    · cases h
  | .str l a, b, h => by
    cases b <;> simp only [sameV, Bool.false_eq_true] at h
    split at h
    · rename_i hk; rw [Nat.eq_of_beq_eq_true hk, Nat.eq_of_beq_eq_true h]
    · cases h
  | .agg l, b, h => by
    cases b <;> simp only [sameV, Bool.false_eq_true] at h
    rw [sameL_eq l _ h]
  | .tup l, b, h => by
    cases b <;> simp only [sameV, Bool.false_eq_true] at h
    rw [sameL_eq l _ h]
  | .nilp, b, h => by cases b <;> simp [sameV] at h ⊢
  | .nilsl, b, h => by cases b <;> simp [sameV] at h ⊢
  | .nilifc, b, h => by cases b <;> simp [sameV] at h ⊢
  | .ptr .., b, h | .slice .., b, h | .emp .., b, h | .map .., b, h | .nilmap, b, h | .fn .., b, h | .nilfn, b, h | .ifc .., b, h => by simp [sameV] at h
theorem sameL_eq : ∀ a b, sameL a b = true → a = b
  | [], b, h => by cases b <;> simp [sameL] at h ⊢
  | a :: l, b, h => by
    cases b with
    | nil => simp [sameL] at h
    | cons b m =>
      simp only [sameL] at h
      split at h
      · rename_i hk; rw [sameV_eq a b hk, sameL_eq l m h]
      · cases h
end
/-- A table of answers. -/
def seek : List (Nat × List AV × AV) → Nat → List AV → Option AV
  | [], _, _ => none
  | (g, bs, v) :: l, f, xa => match Nat.beq g f with
    | true => (match sameL bs xa with
      | true => some v
      | false => seek l f xa)
    | false => seek l f xa
theorem seek_mem : ∀ {l : List (Nat × List AV × AV)} {f : Nat} {xa : List AV} {v : AV}, seek l f xa = some v → (f, xa, v) ∈ l
  | [], _, _, _, h => by simp [seek] at h
  | (g, bs, u) :: l, f, xa, v, h => by
    unfold seek at h
    split at h
    · rename_i hg
      split at h
      · rename_i hb
        injection h with h
        subst h
        rw [Nat.eq_of_beq_eq_true hg, sameL_eq _ _ hb]
        exact List.mem_cons_self ..
      · exact List.mem_cons_of_mem _ (seek_mem h)
    · exact List.mem_cons_of_mem _ (seek_mem h)
/-- What is told, and a table's answers. -/
def withTab (orc : Orc) (tab : List (Nat × List AV × AV)) : Orc := fun f xa get nx => match seek tab f xa with
  | some v => some ⟨v, .non⟩
  | none => orc f xa get nx
theorem Given.withTab {P : Program} {fnAt : Nat → Option Func} {orc : Orc} {big : Big} (hG : Given P fnAt orc big) {tab : List (Nat × List AV × AV)} (ht : ∀ e ∈ tab, Told P e.1 e.2.1 e.2.2) : Given P fnAt (withTab orc tab) big := by
  refine ⟨hG.mixed, hG.fn, fun f xa get nx e h => ?_, hG.big⟩
  unfold Go.Sx.withTab at h
  split at h
  · rename_i v hv
    injection h with h
    subst h
    refine ⟨On.none rfl, fun E w xs hx _ => ?_⟩
    exact ht _ (seek_mem hv) E nx w xs hx
  · exact hG.orc f xa get nx e h
end Go.Sx

namespace Go.Sx
open Go.RowKit

-- ------------------------------------------------------------------ equality of what is written
def eqCap : Cap → Cap → Bool
  | .k a, y => (match y with | .k b => Nat.beq a b | _ => false)
  | .u a, y => (match y with | .u b => Nat.beq a b | _ => false)
def eqB : Bool → Bool → Bool
  | true, b => b
  | false, b => notB b
def kNo : IntKind → Nat
  | .i8 => 0 | .i16 => 1 | .i32 => 2 | .i64 => 3 | .u8 => 4 | .u16 => 5 | .u32 => 6 | .u64 => 7
mutual
/-- The same value. -/
def eqV : AV → AV → Bool
  | .bool a, y => (match y with | .bool b => eqB a b | _ => false)
  | .int k a, y => (match y with | .int j b => (match Nat.beq (kNo k) (kNo j) with | true => eqI a b | false => false) | _ => false)
  | .str l a, y => (match y with | .str m b => (match Nat.beq l m with | true => Nat.beq a b | false => false) | _ => false)
  | .ptr i o, y => (match y with | .ptr j p => (match Nat.beq i j with | true => Nat.beq o p | false => false) | _ => false)
  | .slice i o l c, y => (match y with | .slice j p m d => (match Nat.beq i j, Nat.beq o p, Nat.beq l m with | true, true, true => eqCap c d | _, _, _ => false) | _ => false)
  | .emp i o l c, y => (match y with | .emp j p m d => (match Nat.beq i j, Nat.beq o p, Nat.beq l m with | true, true, true => Nat.beq c d | _, _, _ => false) | _ => false)
  | .map i, y => (match y with | .map j => Nat.beq i j | _ => false)
  | .fn f a b, y => (match y with | .fn g c d => (match Nat.beq f g with | true => (match eqL a c with | true => eqL b d | false => false) | false => false) | _ => false)
  | .ifc t v, y => (match y with | .ifc u x => (match Nat.beq t u with | true => eqV v x | false => false) | _ => false)
  | .agg l, y => (match y with | .agg m => eqL l m | _ => false)
  | .tup l, y => (match y with | .tup m => eqL l m | _ => false)
  | .nilp, y => (match y with | .nilp => true | _ => false)
  | .nilsl, y => (match y with | .nilsl => true | _ => false)
  | .nilmap, y => (match y with | .nilmap => true | _ => false)
  | .nilfn, y => (match y with | .nilfn => true | _ => false)
  | .nilifc, y => (match y with | .nilifc => true | _ => false)
def eqL : List AV → List AV → Bool
  | [], y => (match y with | [] => true | _ => false)
  | a :: l, y => (match y with
    | b :: m => (match eqV a b with
      | true => eqL l m
      | false => false)
    | [] => false)
end
theorem eqB_eq : ∀ a b, eqB a b = true → a = b := by
  intro a b h; cases a <;> cases b <;> simp [eqB, notB] at h ⊢
theorem kNo_inj : ∀ a b : IntKind, Nat.beq (kNo a) (kNo b) = true → a = b := by
  intro a b h; cases a <;> cases b <;> first | rfl | (exact absurd h (by decide))
theorem eqI_to : ∀ a b : Int, eqI a b = true → a = b := by
  intro a b h
  cases a <;> cases b <;> simp only [eqI, Bool.false_eq_true] at h
  · rw [Nat.eq_of_beq_eq_true h]
  · rw [Nat.eq_of_beq_eq_true h]
theorem eqCap_eq : ∀ a b, eqCap a b = true → a = b := by
  intro a b h
  cases a <;> cases b <;> simp only [eqCap, Bool.false_eq_true] at h
  · rw [Nat.eq_of_beq_eq_true h]
  · rw [Nat.eq_of_beq_eq_true h]
mutual
theorem eqV_eq : ∀ a b, eqV a b = true → a = b
  | .bool a, b, h => by
    cases b <;> simp only [eqV, Bool.false_eq_true] at h
    rw [eqB_eq _ _ h]
  | .int k a, b, h => by
    cases b <;> simp only [eqV, Bool.false_eq_true] at h
    split at h
    · rename_i hk; rw [kNo_inj _ _ hk, eqI_to _ _ h]
    · cases h
  | .str l a, b, h => by
    cases b <;> simp only [eqV, Bool.false_eq_true] at h
    split at h
    · rename_i hk; rw [Nat.eq_of_beq_eq_true hk, Nat.eq_of_beq_eq_true h]
    · cases h
  | .ptr l a, b, h => by
    cases b <;> simp only [eqV, Bool.false_eq_true] at h
    split at h
    · rename_i hk; rw [Nat.eq_of_beq_eq_true hk, Nat.eq_of_beq_eq_true h]
    · cases h
  | .slice i o l c, b, h => by
    cases b <;> simp only [eqV, Bool.false_eq_true] at h
    split at h
    · rename_i h1 h2 h3; rw [Nat.eq_of_beq_eq_true h1, Nat.eq_of_beq_eq_true h2, Nat.eq_of_beq_eq_true h3, eqCap_eq _ _ h]
    · cases h
  | .emp i o l c, b, h => by
    cases b <;> simp only [eqV, Bool.false_eq_true] at h
    split at h
    · rename_i h1 h2 h3; rw [Nat.eq_of_beq_eq_true h1, Nat.eq_of_beq_eq_true h2, Nat.eq_of_beq_eq_true h3, Nat.eq_of_beq_eq_true h]
    · cases h
  | .map i, b, h => by
    cases b <;> simp only [eqV, Bool.false_eq_true] at h
    rw [Nat.eq_of_beq_eq_true h]
  | .fn f a c, b, h => by
    cases b <;> simp only [eqV, Bool.false_eq_true] at h
    split at h
    · rename_i h1
      split at h
      · rename_i h2; rw [Nat.eq_of_beq_eq_true h1, eqL_eq _ _ h2, eqL_eq _ _ h]
      · cases h
    · cases h
  | .ifc t v, b, h => by
    cases b <;> simp only [eqV, Bool.false_eq_true] at h
    split at h
    · rename_i h1; rw [Nat.eq_of_beq_eq_true h1, eqV_eq _ _ h]
    · cases h
  | .agg l, b, h => by
    cases b <;> simp only [eqV, Bool.false_eq_true] at h
    rw [eqL_eq l _ h]
  | .tup l, b, h => by
    cases b <;> simp only [eqV, Bool.false_eq_true] at h
    rw [eqL_eq l _ h]
  | .nilp, b, h => by cases b <;> simp [eqV] at h ⊢
  | .nilsl, b, h => by cases b <;> simp [eqV] at h ⊢
  | .nilmap, b, h => by cases b <;> simp [eqV] at h ⊢
  | .nilfn, b, h => by cases b <;> simp [eqV] at h ⊢
  | .nilifc, b, h => by cases b <;> simp [eqV] at h ⊢
theorem eqL_eq : ∀ a b, eqL a b = true → a = b
  | [], b, h => by cases b <;> simp [eqL] at h ⊢
  | a :: l, b, h => by
    cases b with
    | nil => simp [eqL] at h
    | cons b m =>
      simp only [eqL] at h
      split at h
      · rename_i hk; rw [eqV_eq a b hk, eqL_eq l m h]
      · cases h
end
def eqM : List (AV × AV × Nat) → List (AV × AV × Nat) → Bool
  | [], y => (match y with | [] => true | _ => false)
  | (a, b, n) :: l, y => (match y with
    | (c, d, m) :: r => (match eqV a c, eqV b d, Nat.beq n m with
      | true, true, true => eqM l r
      | _, _, _ => false)
    | [] => false)
theorem eqM_eq : ∀ a b, eqM a b = true → a = b
  | [], b, h => by cases b <;> simp [eqM] at h ⊢
  | (a, b, n) :: l, y, h => by
    cases y with
    | nil => simp [eqM] at h
    | cons y m =>
      obtain ⟨c, d, k⟩ := y
      simp only [eqM] at h
      split at h
      · rename_i h1 h2 h3; rw [eqV_eq _ _ h1, eqV_eq _ _ h2, Nat.eq_of_beq_eq_true h3, eqM_eq l m h]
      · cases h
def eqO : AObj → AObj → Bool
  | .row e l z b, y => (match y with | .row f m z' c => (match Nat.beq e f, Nat.beq z z', eqB b c with | true, true, true => eqL l m | _, _, _ => false) | _ => false)
  | .map l n, y => (match y with | .map r k => (match Nat.beq n k with | true => eqM l r | false => false) | _ => false)
  | .iter a b c, y => (match y with | .iter d e f => (match Nat.beq a d, Nat.beq b e with | true, true => Nat.beq c f | _, _ => false) | _ => false)
theorem eqO_eq : ∀ a b, eqO a b = true → a = b := by
  intro a b h
  cases a <;> cases b <;> simp only [eqO, Bool.false_eq_true] at h
  · split at h
    · rename_i h1 h2 h3; rw [Nat.eq_of_beq_eq_true h1, Nat.eq_of_beq_eq_true h2, eqB_eq _ _ h3, eqL_eq _ _ h]
    · cases h
  · split at h
    · rename_i h1; rw [Nat.eq_of_beq_eq_true h1, eqM_eq _ _ h]
    · cases h
  · split at h
    · rename_i h1 h2; rw [Nat.eq_of_beq_eq_true h1, Nat.eq_of_beq_eq_true h2, Nat.eq_of_beq_eq_true h]
    · cases h

-- ------------------------------------------------------------------ blocks laid over others
/-- Blocks laid over others, by their names; none takes a name away. -/
def overT (m : PT AObj) : List (Nat × Option AObj) → PT AObj
  | [] => m
  | (id, o) :: l => (overT m l).put id o
/-- What a list has at a name. -/
def seekO : List (Nat × Option AObj) → Nat → Option (Option AObj)
  | [], _ => none
  | (j, o) :: l, i => if i = j then some o else seekO l i
theorem overT_get (m : PT AObj) : ∀ (l : List (Nat × Option AObj)) (i : Nat), (overT m l).get i = (seekO l i).getD (m.get i)
  | [], i => rfl
  | (j, o) :: l, i => by
    rw [overT, PT.get_put, seekO]
    by_cases h : i = j
    · rw [if_pos h, if_pos h]; rfl
    · rw [if_neg h, if_neg h, overT_get m l i]
theorem seekO_mem : ∀ {l : List (Nat × Option AObj)} {i : Nat} {o : Option AObj}, seekO l i = some o → (i, o) ∈ l
  | [], _, _, h => by simp [seekO] at h
  | (j, p) :: l, i, o, h => by
    unfold seekO at h
    split at h
    · rename_i hj
      injection h with h
      subst h hj
      exact List.mem_cons_self ..
    · exact List.mem_cons_of_mem _ (seekO_mem h)
theorem seekO_some : ∀ {l : List (Nat × Option AObj)} {i : Nat}, i ∈ l.map Prod.fst → ∃ o, seekO l i = some o
  | [], _, h => by simp at h
  | (j, p) :: l, i, h => by
    unfold seekO
    split
    · exact ⟨_, rfl⟩
    · rename_i hj
      refine seekO_some ?_
      simp only [List.map_cons, List.mem_cons] at h
      exact h.resolve_left hj
/-- Blocks by their names alone. -/
def ofM : List (Nat × AObj) → PT AObj
  | [] => .nil
  | (id, o) :: l => (ofM l).put id (some o)
theorem ofM_get_mem : ∀ {l : List (Nat × AObj)} {i : Nat} {o : AObj}, (ofM l).get i = some o → (i, o) ∈ l
  | [], _, _, h => by cases h
  | (j, p) :: l, i, o, h => by
    rw [ofM, PT.get_put] at h
    split at h
    · rename_i hj
      injection h with h
      subst h hj
      exact List.mem_cons_self ..
    · exact List.mem_cons_of_mem _ (ofM_get_mem h)

/-- A call and its answer: the function, the arguments, the next free name, the blocks that it needs; the value, the next free name behind it, the elder names that were turned, what lies behind. -/
structure Cut where
  f : Nat
  args : List AV
  nx : Nat
  m : List (Nat × AObj)
  v : AV
  nx' : Nat
  log : List Nat
  out : List (Nat × Option AObj)
def Cut.hin (c : Cut) : Hp := ⟨ofM c.m, c.nx, c.nx, []⟩
def Cut.hout (c : Cut) : Hp := ⟨overT (ofM c.m) c.out, c.nx', c.nx, c.log⟩
/-- The elder names of what lies behind are those that were turned. -/
def outOk (nx : Nat) (log : List Nat) : List (Nat × Option AObj) → Bool
  | [] => true
  | (id, _) :: l => match Nat.blt id nx with
    | true => (match memN log id with
      | true => outOk nx log l
      | false => false)
    | false => outOk nx log l
def hasK : List (Nat × Option AObj) → Nat → Bool
  | [], _ => false
  | (j, _) :: l, i => match Nat.beq j i with
    | true => true
    | false => hasK l i
def allK (out : List (Nat × Option AObj)) : List Nat → Bool
  | [] => true
  | i :: l => match hasK out i with
    | true => allK out l
    | false => false
def Cut.ok (c : Cut) : Bool := match outOk c.nx c.log c.out with
  | true => allK c.out c.log
  | false => false
theorem outOk_spec {nx : Nat} {log : List Nat} : ∀ {l : List (Nat × Option AObj)}, outOk nx log l = true → ∀ i o, (i, o) ∈ l → i < nx → i ∈ log
  | [], _, _, _, h, _ => by simp at h
  | (j, p) :: l, h, i, o, hm, hi => by
    unfold outOk at h
    rcases List.mem_cons.1 hm with hm | hm
    · injection hm with h1 h2
      subst h1
      rw [blt_eq, decide_eq_true hi] at h
      simp only [] at h
      split at h
      · rename_i hq; exact (memN_eq _ _).1 hq
      · cases h
    · split at h
      · split at h
        · exact outOk_spec h i o hm hi
        · cases h
      · exact outOk_spec h i o hm hi
theorem hasK_spec : ∀ {l : List (Nat × Option AObj)} {i : Nat}, hasK l i = true → i ∈ l.map Prod.fst
  | [], _, h => by simp [hasK] at h
  | (j, p) :: l, i, h => by
    unfold hasK at h
    split at h
    · rename_i hj
      simp [Nat.eq_of_beq_eq_true hj]
    · simp only [List.map_cons, List.mem_cons]; exact .inr (hasK_spec h)
theorem allK_spec {out : List (Nat × Option AObj)} : ∀ {l : List Nat}, allK out l = true → ∀ i ∈ l, i ∈ out.map Prod.fst
  | [], _, _, h => by simp at h
  | j :: l, h, i, hm => by
    unfold allK at h
    split at h
    · rename_i hj
      rcases List.mem_cons.1 hm with rfl | hm
      · exact hasK_spec hj
      · exact allK_spec h i hm
    · cases h

/-- The answer is true, wherever the blocks stand. -/
def Cut.True (P : Program) (c : Cut) : Prop := c.ok = true ∧ ∀ E w xs, Rep P E c.hin w → VRs E c.nx c.args xs →
  CallsF P c.f xs.toArray w fun x w' => ∃ E', Rep P E' c.hout w' ∧ Tr E c.hin w E' c.hout w' ∧ VR E' c.nx' c.v x

-- ------------------------------------------------------------------ from a run
/-- What a run left contains what is told of it. -/
def hasAll (get : Nat → Option AObj) : List (Nat × Option AObj) → Bool
  | [] => true
  | (id, o) :: l => (match o with
    | none => hasAll get l
    | some o => (match get id with
      | some p => (match eqO o p with
        | true => hasAll get l
        | false => false)
      | none => false))
theorem hasAll_spec {get : Nat → Option AObj} : ∀ {l : List (Nat × Option AObj)}, hasAll get l = true → ∀ i o, (i, some o) ∈ l → get i = some o
  | [], _, _, _, h => by simp at h
  | (j, p) :: l, h, i, o, hm => by
    unfold hasAll at h
    rcases List.mem_cons.1 hm with hq | hq
    · injection hq with h1 h2
      subst h1 h2
      simp only [] at h
      split at h
      · rename_i q hq2
        split at h
        · rename_i he; rw [hq2, eqO_eq _ _ he]
        · cases h
      · cases h
    · split at h
      · exact hasAll_spec h i o hq
      · split at h
        · split at h
          · exact hasAll_spec h i o hq
          · cases h
        · cases h
def eqN : List Nat → List Nat → Bool
  | [], y => (match y with | [] => true | _ => false)
  | a :: l, y => (match y with
    | b :: m => (match Nat.beq a b with | true => eqN l m | false => false)
    | [] => false)
theorem eqN_eq : ∀ a b, eqN a b = true → a = b
  | [], b, h => by cases b <;> simp [eqN] at h ⊢
  | a :: l, b, h => by
    cases b with
    | nil => simp [eqN] at h
    | cons b m =>
      simp only [eqN] at h
      split at h
      · rename_i hk; rw [Nat.eq_of_beq_eq_true hk, eqN_eq l m h]
      · cases h
/-- The check that a run gives what is told. -/
def Cut.chk (c : Cut) (r : Option (AV × Hp)) : Bool := match r with
  | some (v, H) => (match eqV c.v v, Nat.beq c.nx' H.next, eqN c.log H.log, c.ok with
    | true, true, true, true => hasAll H.m.get c.out
    | _, _, _, _ => false)
  | none => false

section
variable {P : Program} {fnAt : Nat → Option Func} {orc : Orc} {big : Big}

theorem Cut.true_of (hG : Given P fnAt orc big) {n : Nat} (c : Cut) (h : c.chk (call P fnAt orc big n c.f c.args c.hin) = true) : c.True P := by
  unfold Cut.chk at h
  split at h
  · rename_i v H' hcall
    split at h
    · rename_i h1 h2 h3 h4
      have h1 := eqV_eq _ _ h1
      have h2 := Nat.eq_of_beq_eq_true h2
      have h3 := eqN_eq _ _ h3
      have h5 := hasAll_spec h
      have hok := h4
      unfold Cut.ok at h4
      split at h4
      case h_2 => cases h4
      rename_i h6
      have h6 := outOk_spec h6
      have h7 := allK_spec h4
      refine ⟨hok, fun E w xs hr hx => ?_⟩
      refine (call_sound hG hcall hr hx).mono ?_
      rintro x w' ⟨E', q1, q2, q3⟩
      -- what is told lies in what the run left
      have hsub : ∀ i o, c.hout.m.get i = some o → H'.m.get i = some o := by
        intro i o hi
        simp only [Cut.hout] at hi
        rw [overT_get] at hi
        cases hs : seekO c.out i with
        | some p =>
          rw [hs] at hi
          simp only [Option.getD_some] at hi
          subst hi
          exact h5 i o (seekO_mem hs)
        | none =>
          rw [hs] at hi
          simp only [Option.getD_none] at hi
          have hlt : i < c.nx := (hr.objs i o hi).1
          rw [q2.same i hlt ?_]
          · exact hi
          · rintro (hh | hh)
            · exact absurd hh (by simp only [Cut.hin]; omega)
            · rw [← h3] at hh
              obtain ⟨p, hp⟩ := seekO_some (h7 i hh)
              rw [hs] at hp
              cases hp
      have hhit : ∀ y, Hit c.hin H' y → Hit c.hin c.hout y := fun y hy => hy.imp id fun hh => by simp only [Cut.hout]; rw [h3]; exact hh
      refine ⟨E', ⟨fun i o hi => ?_, fun i j oi oj hi hj he => q1.sep i j oi oj (hsub i oi hi) (hsub j oj hj) he⟩, ?_, ?_⟩
      · have := q1.objs i o (hsub i o hi)
        simp only [Cut.hout]
        rw [h2]
        exact this
      · refine ⟨q2.agree, by simp only [Cut.hout]; rw [h2]; exact q2.next, rfl, fun i hi => by simp [Cut.hin] at hi, ?_, ?_, ?_, ?_, ?_, q2.size, q2.calm⟩
        · intro i hi
          simp only [Cut.hout] at hi
          rw [h3] at hi
          exact q2.logd i hi
        · intro i o hi hlt
          exact q2.keep i o (hsub i o hi) hlt
        · intro i hlt hn
          simp only [Cut.hout]
          rw [overT_get]
          cases hs : seekO c.out i with
          | none => rfl
          | some p =>
            exfalso
            exact hn (.inr (h6 i p (seekO_mem hs) hlt))
        · intro i o hi hlt
          rcases q2.fresh i o (hsub i o hi) hlt with q | ⟨y, o', p1, p2, p3⟩
          · exact .inl q
          · exact .inr ⟨y, o', p1, p2, hhit y p3⟩
        · intro b hb
          rcases q2.frame b hb with q | ⟨y, o', p1, p2, p3⟩
          · exact .inl q
          · exact .inr ⟨y, o', p1, p2, hhit y p3⟩
      · rw [h1, h2]; exact q3
    · cases h
  · cases h

-- ------------------------------------------------------------------ a table
/-- The blocks that a call needs are there. -/
def needs (get : Nat → Option AObj) : List (Nat × AObj) → Bool
  | [] => true
  | (id, o) :: l => (match get id with
    | some p => (match eqO o p with
      | true => needs get l
      | false => false)
    | none => false)
theorem needs_spec {get : Nat → Option AObj} : ∀ {l : List (Nat × AObj)}, needs get l = true → ∀ i o, (i, o) ∈ l → get i = some o
  | [], _, _, _, h => by simp at h
  | (j, p) :: l, h, i, o, hm => by
    unfold needs at h
    split at h
    · rename_i q hq
      split at h
      · rename_i he
        rcases List.mem_cons.1 hm with hm | hm
        · injection hm with h1 h2
          subst h1 h2
          rw [hq, eqO_eq _ _ he]
        · exact needs_spec h i o hm
      · cases h
    · cases h
def Cut.onto (c : Cut) (H : Hp) : AV × Hp := (c.v, ⟨overT H.m c.out, c.nx', H.lim, logOf H.lim H.log c.log⟩)
def seekC : List Cut → Nat → List AV → Hp → Option (AV × Hp)
  | [], _, _, _ => none
  | c :: l, f, xa, H => match Nat.beq c.nx H.next with
    | false => seekC l f xa H
    | true => match Nat.beq c.f f with
      | false => seekC l f xa H
      | true => match eqL c.args xa with
        | false => seekC l f xa H
        | true => match needs H.m.get c.m with
          | false => seekC l f xa H
          | true => some (c.onto H)
theorem seekC_spec : ∀ {l : List Cut} {f : Nat} {xa : List AV} {H : Hp} {r : AV × Hp}, seekC l f xa H = some r → ∃ c ∈ l, c.nx = H.next ∧ c.f = f ∧ c.args = xa ∧ needs H.m.get c.m = true ∧ r = c.onto H
  | [], _, _, _, _, h => by cases h
  | c :: l, f, xa, H, r, h => by
    have tl : seekC l f xa H = some r → ∃ d ∈ c :: l, d.nx = H.next ∧ d.f = f ∧ d.args = xa ∧ needs H.m.get d.m = true ∧ r = d.onto H := fun h =>
      let ⟨d, hd, hr⟩ := seekC_spec h
      ⟨d, List.mem_cons_of_mem _ hd, hr⟩
    unfold seekC at h
    split at h
    · exact tl h
    · rename_i h1
      split at h
      · exact tl h
      · rename_i h2
        split at h
        · exact tl h
        · rename_i h3
          split at h
          · exact tl h
          · rename_i h4
            injection h with h
            exact ⟨c, List.mem_cons_self .., Nat.eq_of_beq_eq_true h1, Nat.eq_of_beq_eq_true h2, eqL_eq _ _ h3, h4, h.symm⟩

theorem Cut.sound {c : Cut} (hc : c.True P) {H : Hp} (hn : c.nx = H.next) (hm : needs H.m.get c.m = true) {E : Env} {w : World} {xs : List Value} (hr : Rep P E H w) (hx : VRs E H.next c.args xs) :
    CallsF P c.f xs.toArray w fun x w' => ∃ E', Rep P E' (c.onto H).2 w' ∧ Tr E H w E' (c.onto H).2 w' ∧ VR E' (c.onto H).2.next c.v x := by
  obtain ⟨hok, hc⟩ := hc
  unfold Cut.ok at hok
  split at hok
  case h_2 => cases hok
  rename_i h6
  have h6 := outOk_spec h6
  have h7 := allK_spec hok
  have hm := needs_spec hm
  have hin : ∀ i o, c.hin.m.get i = some o → H.m.get i = some o := fun i o h => hm i o (ofM_get_mem h)
  have hr' : Rep P E c.hin w := ⟨fun i o h => by
    have := hr.objs i o (hin i o h)
    simp only [Cut.hin]; rw [hn]; exact this, fun i j oi oj hi hj he => hr.sep i j oi oj (hin i oi hi) (hin j oj hj) he⟩
  refine (hc E w xs hr' (by rw [hn]; exact hx)).mono ?_
  rintro x w' ⟨E', q1, q2, q3⟩
  have hag : Agree E E' H.next := by rw [← hn]; exact q2.agree
  have hle : H.next ≤ c.nx' := by rw [← hn]; exact q2.next
  have hlog : ∀ i, i ∈ c.log → i < H.next ∧ ∃ o, H.m.get i = some o := by
    intro i hi
    rcases q2.logd i hi with h | ⟨h1, h2⟩
    · simp [Cut.hin] at h
    · refine ⟨by rw [← hn]; exact h1, ?_⟩
      rcases h2 with ⟨o, ho⟩ | h2
      · exact ⟨o, hin i o ho⟩
      · exact absurd h1 (by simp only [Cut.hin] at h2 ⊢; omega)
  have hlogout : ∀ i, i ∈ c.log → ∃ p, seekO c.out i = some p := fun i hi => seekO_some (h7 i hi)
  have hhit : ∀ y, y ∈ c.log → Hit H (c.onto H).2 y := by
    intro y hy
    by_cases h : y < H.lim
    · exact .inr ((logOf_mem _ _ _ _).2 (.inr ⟨hy, h⟩))
    · exact .inl (by omega)
  have hhit' : ∀ y, y < H.next → Hit c.hin c.hout y → y ∈ c.log := by
    rintro y hy (h | h)
    · exact absurd hy (by simp only [Cut.hin] at h; omega)
    · exact h
  have hlt : ∀ i o, H.m.get i = some o → i < H.next := fun i o h => (hr.objs i o h).1
  have hblk : ∀ i o, H.m.get i = some o → (E.at_ i).1 < w.heap.size := fun i o h => (hr.objs i o h).2.lt
  have hgin : ∀ i o, c.hin.m.get i = some o → i < H.next := fun i o h => hlt i o (hin i o h)
  -- what lies behind: told of, or as it was
  have hget : ∀ i o, (c.onto H).2.m.get i = some o → c.hout.m.get i = some o ∧ (i < H.next → i ∈ c.log) ∨ (seekO c.out i = none ∧ H.m.get i = some o) := by
    intro i o h
    simp only [Cut.onto] at h
    rw [overT_get] at h
    cases hs : seekO c.out i with
    | some p =>
      rw [hs] at h
      left
      refine ⟨?_, fun hi => h6 i p (seekO_mem hs) (by rw [hn]; exact hi)⟩
      simp only [Cut.hout]
      rw [overT_get, hs]
      exact h
    | none =>
      rw [hs] at h
      exact .inr ⟨rfl, h⟩
  -- a block that was not turned
  have hsame : ∀ i o, seekO c.out i = none → H.m.get i = some o → w'.heap[(E.at_ i).1]? = w.heap[(E.at_ i).1]? := by
    intro i o hs hi
    rcases q2.frame _ (hblk i o hi) with q | ⟨y, o', p1, p2, p3⟩
    · exact q
    · exfalso
      have hy : y = i := hr.sep y i o' o (hin y o' p1) hi p2
      subst hy
      obtain ⟨p, hp⟩ := hlogout y (hhit' y (hlt y o hi) p3)
      rw [hs] at hp
      cases hp
  -- told of, and not told of, lie apart
  have hapart : ∀ i j oi oj, c.hout.m.get i = some oi → (i < H.next → i ∈ c.log) → seekO c.out j = none → H.m.get j = some oj → (E'.at_ i).1 = (E'.at_ j).1 → False := by
    intro i j oi oj hi hil hs hj he
    have hjlt := hlt j oj hj
    rw [(hag j hjlt).1] at he
    have hjn : j ∉ c.log := fun h => by
      obtain ⟨p, hp⟩ := hlogout j h
      rw [hs] at hp
      cases hp
    by_cases hi' : i < H.next
    · obtain ⟨o', ho'⟩ := q2.keep i oi hi (by simp only [Cut.hin]; omega)
      rw [(hag i hi').1] at he
      have := hr.sep i j o' oj (hin i o' ho') hj he
      subst this
      exact hjn (hil hi')
    · rcases q2.fresh i oi hi (by simp only [Cut.hin]; omega) with q | ⟨y, o', p1, p2, p3⟩
      · have := hblk j oj hj
        rw [he] at q
        omega
      · have hyj : y = j := hr.sep y j o' oj (hin y o' p1) hj (p2.trans he)
        subst hyj
        exact hjn (hhit' y hjlt p3)
  refine ⟨E', ⟨fun i o h => ?_, fun i j oi oj hi hj he => ?_⟩, ?_, q3⟩
  · rcases hget i o h with ⟨h1, _⟩ | ⟨h1, h2⟩
    · exact q1.objs i o h1
    · exact ⟨Nat.lt_of_lt_of_le (hlt i o h2) hle, (hr.objs i o h2).2.mono (hlt i o h2) hag hle (hsame i o h1 h2)⟩
  · rcases hget i oi hi with ⟨h1, h1'⟩ | ⟨h1, h1'⟩ <;> rcases hget j oj hj with ⟨h2, h2'⟩ | ⟨h2, h2'⟩
    · exact q1.sep i j oi oj h1 h2 he
    · exact (hapart i j oi oj h1 h1' h2 h2' he).elim
    · exact (hapart j i oj oi h2 h2' h1 h1' he.symm).elim
    · rw [(hag i (hlt i oi h1')).1, (hag j (hlt j oj h2')).1] at he
      exact hr.sep i j oi oj h1' h2' he
  · refine ⟨hag, hle, rfl, fun i hi => (logOf_mem _ _ _ _).2 (.inl hi), ?_, ?_, ?_, ?_, ?_, q2.size, q2.calm⟩
    · intro i hi
      rcases (logOf_mem _ _ _ _).1 hi with h | ⟨h1, h2⟩
      · exact .inl h
      · exact .inr ⟨h2, .inl (hlog i h1).2⟩
    · intro i o hi hlt'
      rcases hget i o hi with ⟨h1, _⟩ | ⟨_, h2⟩
      · obtain ⟨o', ho'⟩ := q2.keep i o h1 (by simp only [Cut.hin]; omega)
        exact ⟨o', hin i o' ho'⟩
      · exact ⟨o, h2⟩
    · intro i hi hnh
      simp only [Cut.onto]
      rw [overT_get]
      cases hs : seekO c.out i with
      | none => rfl
      | some p => exact absurd (hhit i (h6 i p (seekO_mem hs) (by rw [hn]; exact hi))) hnh
    · intro i o hi hge
      rcases hget i o hi with ⟨h1, _⟩ | ⟨_, h2⟩
      · rcases q2.fresh i o h1 (by simp only [Cut.hin]; omega) with q | ⟨y, o', p1, p2, p3⟩
        · exact .inl q
        · exact .inr ⟨y, o', hin y o' p1, p2, hhit y (hhit' y (hgin y o' p1) p3)⟩
      · exact absurd (hlt i o h2) (by omega)
    · intro b hb
      rcases q2.frame b hb with q | ⟨y, o', p1, p2, p3⟩
      · exact .inl q
      · exact .inr ⟨y, o', hin y o' p1, p2, hhit y (hhit' y (hgin y o' p1) p3)⟩

/-- A table of cuts. -/
def cuts (l : List Cut) : Big := seekC l
theorem Given.withCuts (hG : Given P fnAt orc big) {l : List Cut} (hl : ∀ c ∈ l, c.True P) : Given P fnAt orc (cuts l) := by
  refine ⟨hG.mixed, hG.fn, hG.orc, fun f args H v H' h E w xs hr hx => ?_⟩
  obtain ⟨c, hc, h1, rfl, rfl, h2, h3⟩ := seekC_spec h
  have hs := Cut.sound (hl c hc) h1 h2 hr hx
  injection h3 with h4 h5
  subst h4 h5
  exact hs
end
end Go.Sx
end
