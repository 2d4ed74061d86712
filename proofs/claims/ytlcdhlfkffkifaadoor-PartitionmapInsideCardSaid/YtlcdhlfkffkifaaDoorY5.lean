/-
  A variable's block among rows of other types: what is stored into it leaves the rows as they are.
-/
import Derived.Test.YtlcdhlfkffkifaaDoorZN
import Derived.Deep.RegionHeld3
import Derived.Deep.DrawnRows
import Derived.Deep.DeepCutAuto
import Derived.Test.YtlcdhlfkffkifaaDoorZM
import Derived.Carry
namespace Go.Proofs.YtlcdhlfkffkifaaDoor
open Go.RowKit

/-- Block g holds cells of type T. -/
def OfType (w : World) (g : Nat) (T : TypeId) : Prop := ∃ cs, w.heap[g]? = some (.cells cs T (0, 0))
theorem OfType.new (w : World) (cs : Array Value) (T : TypeId) : OfType (w.alloc (.cells cs T)) w.heap.size T := ⟨cs, heap_alloc_new w _⟩
theorem OfType.lt {w : World} {g : Nat} {T : TypeId} (h : OfType w g T) : g < w.heap.size := by
  obtain ⟨cs, h⟩ := h
  exact (Array.getElem?_eq_some_iff.1 h).1
theorem OfType.grown {w w' : World} {g : Nat} {T : TypeId} {row : Option Nat} (h : OfType w g T) (hg : w.grownBy w' row) (hne : some g ≠ row) : OfType w' g T := by
  have hl := h.lt
  obtain ⟨cs, h⟩ := h
  exact ⟨cs, (hg.block g hl hne).trans h⟩
theorem OfType.below {w w' : World} {g : Nat} {T : TypeId} (h : OfType w g T) (hb : Below w.heap.size w w') : OfType w' g T := h.grown (Kit.grown_of_below hb) (by simp)
theorem OfType.drew {w : World} {g : Nat} {T : TypeId} (h : OfType w g T) : OfType w.drew g T := h
theorem OfType.set {w : World} {g i : Nat} {T : TypeId} (h : OfType w g T) (u : Value) : OfType (w.setCell ⟨g, i, none⟩ u) g T := by
  obtain ⟨cs, h⟩ := h
  exact ⟨_, heap_setCell_same _ _ _ _ _ _ h⟩
theorem OfType.far {w : World} {g base size n : Nat} {T e : TypeId} {v : Value} {xs : List Value} (h : OfType w g T) (hte : T ≠ e) (hr : w.ownsRow base e size v n xs) : v.ownBlock = none ∨ v.ownBlock ≠ some g := by
  obtain ⟨cs, h⟩ := h
  rcases hr.2 with ⟨rfl, _⟩ | ⟨g', cap, cur, rfl, _, hg', _⟩
  · exact .inl rfl
  · refine .inr (fun e' => ?_)
    simp only [Value.ownBlock, Option.some.injEq] at e'
    subst e'
    rw [h] at hg'
    simp at hg'
    exact hte hg'.2
theorem ownM_set {w : World} {g i base : Nat} {v : Value} {L : List (Pm.M × Value)} (h : Pm.OwnM w base v L) (ht : OfType w g 41) (u : Value) : Pm.OwnM (w.setCell ⟨g, i, none⟩ u) base v L :=
  ⟨h.own.kept (grownSet _ _ _ _) (ht.far (by decide) h.own), fun p hp => (h.tabs p hp).kept (grownSet _ _ _ _) (ht.far (by decide) (h.tabs p hp)), h.ints⟩
/-- Seven cells stored. -/
abbrev set7 (w : World) (g : Nat) (u0 u1 u2 u3 u4 u5 u6 : Value) : World := ((((((w.setCell ⟨g, 0, none⟩ u0).setCell ⟨g, 1, none⟩ u1).setCell ⟨g, 2, none⟩ u2).setCell ⟨g, 3, none⟩ u3).setCell ⟨g, 4, none⟩ u4).setCell ⟨g, 5, none⟩ u5).setCell ⟨g, 6, none⟩ u6
theorem ownM_set7 {w : World} {g base : Nat} {v : Value} {L : List (Pm.M × Value)} (h : Pm.OwnM w base v L) (ht : OfType w g 41) (u0 u1 u2 u3 u4 u5 u6 : Value) : Pm.OwnM (set7 w g u0 u1 u2 u3 u4 u5 u6) base v L := by
  have h1 := ownM_set (i := 0) h ht u0
  have t1 := ht.set (i := 0) u0
  have h2 := ownM_set (i := 1) h1 t1 u1
  have t2 := t1.set (i := 1) u1
  have h3 := ownM_set (i := 2) h2 t2 u2
  have t3 := t2.set (i := 2) u2
  have h4 := ownM_set (i := 3) h3 t3 u3
  have t4 := t3.set (i := 3) u3
  have h5 := ownM_set (i := 4) h4 t4 u4
  have t5 := t4.set (i := 4) u4
  have h6 := ownM_set (i := 5) h5 t5 u5
  have t6 := t5.set (i := 5) u5
  exact ownM_set (i := 6) h6 t6 u6
theorem set7_cells (W : World) (g : Nat) (u0 u1 u2 u3 u4 u5 u6 : Value) (h : ∀ j, j < 7 → ∃ x, W.cell? ⟨g, j, none⟩ = some x) : ∀ (j : Nat) v, (#[u0, u1, u2, u3, u4, u5, u6] : Array Value)[j]? = some v → (set7 W g u0 u1 u2 u3 u4 u5 u6).cell? ⟨g, j, none⟩ = some v := by
  obtain ⟨x0, h0⟩ := h 0 (by omega)
  obtain ⟨x1, h1⟩ := h 1 (by omega)
  obtain ⟨x2, h2⟩ := h 2 (by omega)
  obtain ⟨x3, h3⟩ := h 3 (by omega)
  obtain ⟨x4, h4⟩ := h 4 (by omega)
  obtain ⟨x5, h5⟩ := h 5 (by omega)
  obtain ⟨x6, h6⟩ := h 6 (by omega)
  intro j v hv
  rcases j with _ | _ | _ | _ | _ | _ | _ | j
  all_goals (simp at hv; try subst hv)
  all_goals simp [World.cell?_setCell_other, World.cell?_setCell_same, h0, h1, h2, h3, h4, h5, h6]
theorem BoxM.drew {W : World} {g : Nat} {cs : Array Value} (h : BoxM W g cs) : BoxM W.drew g cs := ⟨h.rd, h.lt⟩
/-- A variable that may be written. -/
def Free (W : World) (g : Nat) : Prop := ∀ j : Nat, W.frozen? ⟨g, j, none⟩ = false
theorem Free.new (W : World) (cs : Array Value) (T : TypeId) : Free (W.alloc (.cells cs T)) W.heap.size := fun j => by
  rw [World.frozen?_alloc_mark W cs T 0 0 j]
  simp
theorem Free.below {W W' : World} {g : Nat} (h : Free W g) (hg : g < W.heap.size) (hb : Below W.heap.size W W') : Free W' g := fun j => (hb.frozen (p := ⟨g, j, none⟩) hg).trans (h j)
theorem Free.drew {W : World} {g : Nat} (h : Free W g) : Free W.drew g := h
theorem Free.set {W : World} {g : Nat} (h : Free W g) (a : Addr) (u : Value) : Free (W.setCell a u) g := fun j => by rw [World.frozen?_setCell]; exact h j
/-- Maps, the row handed on as the call's own. -/
theorem maps_own (kind : Int) (tv : Value) (ts : List Int) (l : List Pm.M) (n : Nat) (he : Pm.mapsR kind ts 0 0 0 = l) (hn : l.length = n) (w : World) (hr : Kit.RowS w tv (Kit.izs ts)) (hl : ts.length ≤ 64) (hk : (Lit.int .i64 kind).wf = true) :
    Calls Tryd.prog 10 #[.int .i64 kind, tv, .int .i64 0, .int .i64 0, .int .i64 0] w fun e w' => ∃ A c L, e = .returned (.slice A n c) ∧ Pm.OwnM w' w.heap.size (.slice A n c) L ∧ L.map Prod.fst = l ∧ Below w.heap.size w w' := by
  refine (maps_any kind tv ts 0 0 0 w hr hl hk ⟨by simp, by simp, by simp, by simp, by simp⟩).mono ?_
  rintro e w' ⟨v, L, rfl, hL, hO, hb⟩
  have ha := hO.at'
  rw [hL, he] at ha
  obtain ⟨A, c, hv, _⟩ := ha.row
  subst hv
  subst hn
  exact ⟨A, c, L, rfl, hO, hL.trans he, hb⟩

/-- The mapping's cells. -/
abbrev mpC (v0 : Value) (s c : Int) (v2 : Value) : Array Value := #[v0, .int .i64 s, .int .i64 c, .slice none 0 0, v2, .slice none 0 0, .slice none 0 0]
/-- The two arguments' variables, and a mapping in a variable of the call's own. -/
structure InSt (w W : World) (g : Nat) (s c og mp : Int) (v0 v2 : Value) (l : List Pm.M) : Prop where
  old : Below w.heap.size w W
  b4 : BoxM W w.heap.size #[.int .i64 s, .int .i64 c]
  b7 : BoxM W (w.heap.size + 1) #[.int .i64 og, .int .i64 mp]
  box : BoxM W g (mpC v0 s c v2)
  free : Free W g
  ofT : OfType W g 41
  gt : w.heap.size + 1 < g
  own : ∃ base L, Pm.OwnM W base v0 L ∧ L.map Prod.fst = l
theorem InSt.below {w W W' : World} {g : Nat} {s c og mp : Int} {v0 v2 : Value} {l : List Pm.M} (h : InSt w W g s c og mp v0 v2 l) (hb : Below W.heap.size W W') : InSt w W' g s c og mp v0 v2 l := by
  obtain ⟨base, L, ho, hl⟩ := h.own
  exact ⟨h.old.trans (hb.mono h.old.size), h.b4.below hb, h.b7.below hb, h.box.below hb, h.free.below h.ofT.lt hb, h.ofT.below hb, h.gt, base, L, ho.below hb, hl⟩
/-- The variable is made behind the call. -/
theorem InSt.last {w W : World} {s c og mp : Int} {v0 : Value} {l : List Pm.M} {base : Nat} {L : List (Pm.M × Value)} (old : Below w.heap.size w W) (b4 : BoxM W w.heap.size #[.int .i64 s, .int .i64 c]) (b7 : BoxM W (w.heap.size + 1) #[.int .i64 og, .int .i64 mp])
    (ho : Pm.OwnM W base v0 L) (hl : L.map Prod.fst = l) : InSt w (W.alloc (.cells (mpC v0 s c (.slice none 0 0)) 41)) W.heap.size s c og mp v0 (.slice none 0 0) l := by
  have hb := fun o => (Below.refl W.heap.size W).alloc (Nat.le_refl _) o
  exact ⟨old.alloc old.size _, b4.below (hb _), b7.below (hb _), BoxM.new _ _ _, Free.new _ _ _, OfType.new _ _ _, b7.lt, base, L, ho.below (hb _), hl⟩
theorem box_set {W : World} {g g' : Nat} {cs : Array Value} (h : BoxM W g cs) (hne : g ≠ g') (i : Nat) (u : Value) : BoxM (W.setCell ⟨g', i, none⟩ u) g cs :=
  ⟨fun j v hv => by rw [World.cell?_setCell_other _ _ _ _ (by simp <;> omega)]; exact h.rd j v hv, by have := h.lt; simpa using this⟩
theorem below_set7 {B : Nat} {a W : World} {g : Nat} (h : Below B a W) (hg : B ≤ g) (u0 u1 u2 u3 u4 u5 u6 : Value) : Below B a (set7 W g u0 u1 u2 u3 u4 u5 u6) :=
  ((((((h.setCell (p := ⟨g, 0, none⟩) hg u0).setCell (p := ⟨g, 1, none⟩) hg u1).setCell (p := ⟨g, 2, none⟩) hg u2).setCell (p := ⟨g, 3, none⟩) hg u3).setCell (p := ⟨g, 4, none⟩) hg u4).setCell (p := ⟨g, 5, none⟩) hg u5).setCell (p := ⟨g, 6, none⟩) hg u6
/-- The variable was made ahead of the call. -/
theorem InSt.first {w W : World} {g : Nat} {s c og mp : Int} {v0 : Value} {l : List Pm.M} {base : Nat} {L : List (Pm.M × Value)} {zs : Array Value} (hz7 : zs.size = 7) (old : Below w.heap.size w W) (b4 : BoxM W w.heap.size #[.int .i64 s, .int .i64 c]) (b7 : BoxM W (w.heap.size + 1) #[.int .i64 og, .int .i64 mp])
    (hz : BoxM W g zs) (hf : Free W g) (ht : OfType W g 41) (gt : w.heap.size + 1 < g) (ho : Pm.OwnM W base v0 L) (hl : L.map Prod.fst = l) :
    InSt w (set7 W g v0 (.int .i64 s) (.int .i64 c) (.slice none 0 0) (.slice none 0 0) (.slice none 0 0) (.slice none 0 0)) g s c og mp v0 (.slice none 0 0) l := by
  have n4 : w.heap.size ≠ g := by omega
  have n7 : w.heap.size + 1 ≠ g := by omega
  refine ⟨below_set7 old (by omega) _ _ _ _ _ _ _, ?_, ?_, ⟨?_, ?_⟩, ?_, ?_, gt, base, L, ownM_set7 ho ht _ _ _ _ _ _ _, hl⟩
  · exact box_set (box_set (box_set (box_set (box_set (box_set (box_set b4 n4 _ _) n4 _ _) n4 _ _) n4 _ _) n4 _ _) n4 _ _) n4 _ _
  · exact box_set (box_set (box_set (box_set (box_set (box_set (box_set b7 n7 _ _) n7 _ _) n7 _ _) n7 _ _) n7 _ _) n7 _ _) n7 _ _
  · exact set7_cells W g _ _ _ _ _ _ _ fun j hj => ⟨_, hz.rd j (zs[j]'(by omega)) (Array.getElem?_eq_getElem (by omega))⟩
  · have := hz.lt
    simpa using this
  · exact ((((((hf.set _ _).set _ _).set _ _).set _ _).set _ _).set _ _).set _ _
  · exact (((((((ht.set _).set _).set _).set _).set _).set _).set _)
/-- What Translate asks of it. -/
theorem InSt.aw {w W : World} {g : Nat} {s c og mp : Int} {v0 : Value} {l : List Pm.M} (h : InSt w W g s c og mp v0 (.slice none 0 0) l) : ∃ T, AwM W g v0 (.slice none 0 0) (.slice none 0 0) ⟨l, s, c, [], [], []⟩ T := by
  obtain ⟨base, L, ho, hl⟩ := h.own
  have ha := ho.at'
  rw [hl] at ha
  refine ⟨_, ha, ⟨(Kit.RowS.nil W).1, ⟨none, 0, rfl, Nat.le_refl _, by unfold maxLen; omega, fun h => absurd h (Nat.lt_irrefl 0)⟩⟩, h.box⟩
/-- The world behind 's.Spares = []api.Spare{spare}'. -/
abbrev spW (W : World) (g : Nat) (og mp : Int) : World := (W.alloc (.cells #[.int .i64 og, .int .i64 mp] 35)).setCell ⟨g, 4, none⟩ (.slice (some ⟨W.heap.size, 0, none⟩) 1 1)
theorem InSt.spare {w W : World} {g : Nat} {s c og mp : Int} {v0 : Value} {l : List Pm.M} (h : InSt w W g s c og mp v0 (.slice none 0 0) l) :
    (∃ T, AwM (spW W g og mp) g v0 (.slice none 0 0) (.slice (some ⟨W.heap.size, 0, none⟩) 1 1) ⟨l, s, c, [], [(og, mp)], []⟩ T) ∧ BoxM (spW W g og mp) (w.heap.size + 1) #[.int .i64 og, .int .i64 mp] ∧ Below w.heap.size w (spW W g og mp) := by
  have hb := (Below.refl W.heap.size W).alloc (Nat.le_refl _) (.cells #[.int .i64 og, .int .i64 mp] 35)
  have h' := h.below hb
  obtain ⟨base, L, ho, hl⟩ := h'.own
  have hlt := h.ofT.lt
  have hgt := h.gt
  have ha := (ownM_set (i := 4) ho h'.ofT (.slice (some ⟨W.heap.size, 0, none⟩) 1 1)).at'
  rw [hl] at ha
  have hnew : BoxM (spW W g og mp) W.heap.size #[.int .i64 og, .int .i64 mp] := box_set (BoxM.new W _ _) (by omega) 4 _
  refine ⟨⟨_, ha, ⟨(Kit.RowS.nil _).1, ⟨some ⟨W.heap.size, 0, none⟩, 1, rfl, Nat.le_refl _, by unfold maxLen; omega, fun _ => ⟨W.heap.size, 0, rfl, hnew.lt, fun j hj k u hu => ?_⟩⟩⟩, ⟨fun j v hv => ?_, ?_⟩⟩, box_set h'.b7 (by omega) 4 _, h'.old.setCell (p := ⟨g, 4, none⟩) (show w.heap.size ≤ g by omega) _⟩
  · obtain rfl : j = 0 := by have : j < 1 := hj; omega
    have hu' : (#[.int .i64 og, .int .i64 mp] : Array Value)[k]? = some u := by simpa [Pm.spC] using hu
    have := hnew.rd k u hu'
    simpa using this
  · by_cases h4 : j = 4
    · subst h4
      have hv' : Value.slice (some ⟨W.heap.size, 0, none⟩) 1 1 = v := by simpa using hv
      rw [World.cell?_setCell_same _ _ _ (h'.box.rd 4 _ rfl), hv']
    · rw [World.cell?_setCell_other _ _ _ _ (by simp <;> omega)]
      refine h'.box.rd j v ?_
      rcases j with _ | _ | _ | _ | _ | j
      all_goals first | exact absurd rfl h4 | simpa using hv
  · have := h'.ofT.lt
    simpa using this
end Go.Proofs.YtlcdhlfkffkifaaDoor

/-
  The walk through the statement PartitionmapInside: it returns true.
-/
namespace Go.Proofs.YtlcdhlfkffkifaaDoor
open Go.RowKit Go.Maps
attribute [local go_sem ↓] Go.wp_at_zero Go.wp_at_succ

def inL1 : List Pm.M := [⟨0, 0, [], 0, 0, 0⟩]
def inL2 : List Pm.M := [⟨2, 0, [1], 0, 0, 0⟩]
def inM1 (s c : Int) : Pm.Mp := ⟨inL1, s, c, [], [], []⟩
def inM2 (s c : Int) (sp : List (Int × Int)) : Pm.Mp := ⟨inL2, s, c, [], sp, []⟩
theorem inF1 {s c : Int} (h0 : 0 ≤ s) (h1 : s ≤ 1099511627776) (h2 : c ≤ 1099511627776) : Pm.MpFew (inM1 s c) := ⟨by simp only [inM1]; omega, h1, h2, by simp [inM1], by simp [inM1], by simp [inM1], by simp [inM1]⟩
theorem inF2 {s c : Int} (h0 : 0 ≤ s) (h1 : s ≤ 1099511627776) (h2 : c ≤ 1099511627776) : Pm.MpFew (inM2 s c []) := ⟨by simp only [inM2]; omega, h1, h2, by simp [inM2], by simp [inM2], by simp [inM2], by simp [inM2]⟩
theorem inF3 {s c og mp : Int} (h0 : 0 ≤ s) (h1 : s ≤ 1099511627776) (h2 : c ≤ 1099511627776) (h3 : 0 ≤ mp) (h4 : mp ≤ 1099511627776) : Pm.MpFew (inM2 s c [(og, mp)]) :=
  ⟨by simp only [inM2]; omega, h1, h2, by simp [inM2], by simp [inM2], by simp [inM2], fun x hx => by simp only [inM2, List.mem_singleton] at hx; subst hx; exact ⟨by show -1099511627776 ≤ mp; omega, h4⟩⟩
theorem inW1 (s c : Int) : Pm.Few (inM1 s c).maps := ⟨(by decide : (1 : Nat) ≤ 8), fun j hj => by
  have hj' : j < 1 := hj
  obtain rfl : j = 0 := by omega
  exact (by decide : (0 : Nat) ≤ 8)⟩
theorem inW2 (s c : Int) (sp : List (Int × Int)) : Pm.Few (inM2 s c sp).maps := ⟨(by decide : (1 : Nat) ≤ 8), fun j hj => by
  have hj' : j < 1 := hj
  obtain rfl : j = 0 := by omega
  exact (by decide : (1 : Nat) ≤ 8)⟩
theorem inK1 (s c : Int) : ∀ j, j < (inM1 s c).maps.length → ((inM1 s c).maps.getD j Pm.none).kind ≠ 3 := fun j hj => by
  simp only [inM1, inL1, List.length_cons, List.length_nil] at hj ⊢
  obtain rfl : j = 0 := by omega
  simp
theorem inK2 (s c : Int) (sp : List (Int × Int)) : ∀ j, j < (inM2 s c sp).maps.length → ((inM2 s c sp).maps.getD j Pm.none).kind ≠ 3 := fun j hj => by
  simp only [inM2, inL2, List.length_cons, List.length_nil] at hj ⊢
  obtain rfl : j = 0 := by omega
  simp
theorem inT1 (s c a : Int) (h0 : 0 ≤ a) : Pm.transR (inM1 s c) a 0 = if c ≤ a then (0, 2) else (s + a, 0) := by
  show Pm.phys (inM1 s c) a = _
  unfold Pm.phys
  show (if a < 0 ∨ c ≤ a then _ else _) = _
  by_cases h : c ≤ a
  · rw [if_pos (Or.inr h), if_pos h]
  · rw [if_neg (by omega), if_neg h]
    rfl
theorem inT2 (s c a : Int) (sp : List (Int × Int)) (h0 : 0 ≤ a) (h : a < c) : Pm.transR (inM2 s c sp) a 0 = (Pm.spare sp a (s + a), 0) := by
  have hp : Pm.phys (inM2 s c sp) a = (s + a, 0) := by
    unfold Pm.phys
    show (if a < 0 ∨ c ≤ a then _ else _) = _
    rw [if_neg (by omega)]
    rfl
  show (if (Pm.phys (inM2 s c sp) a).2 ≠ 0 then ((0 : Int), (Pm.phys (inM2 s c sp) a).2) else (Pm.spare sp a (Pm.phys (inM2 s c sp) a).1, 0)) = _
  rw [hp, if_neg (fun h => h rfl)]
theorem inS (og mp a d : Int) : Pm.spare [(og, mp)] a d = if og = a - a % 8 then mp + a % 8 else d := by
  unfold Pm.spare
  by_cases h : og = a - a % 8
  · rw [if_pos h]
    simp [List.find?, h]
  · rw [if_neg h]
    simp [List.find?, h]
theorem inBox (w : World) (v0 v1 v2 : Value) (m : Pm.Mp) (T : Nat → Value) (hm : Pm.MapsAt w v0 m.maps T) (hp : Pm.MpAt w m v1 v2) :
    AwM (w.alloc (.cells #[v0, .int .i64 m.start, .int .i64 m.count, v1, v2, .slice none 0 0, .slice none 0 0] 41)) w.heap.size v0 v1 v2 m T := by
  have b1 := fun o => (Below.refl w.heap.size w).alloc (Nat.le_refl _) o
  exact ⟨hm.below (b1 _), ⟨hp.vat.below (b1 _), hp.spares.below (b1 _)⟩, BoxM.new _ _ _⟩
theorem inP (w : World) (m : Pm.Mp) (hv : m.vat = []) (hs : m.spares = []) : Pm.MpAt w m (.slice none 0 0) (.slice none 0 0) := by
  refine ⟨?_, ?_⟩
  · rw [hv]; exact (Kit.RowS.nil w).1
  · rw [hs]; exact ⟨none, 0, rfl, Nat.le_refl _, by unfold maxLen; omega, fun h => absurd h (by decide)⟩

set_option maxHeartbeats 6400000 in
set_option maxRecDepth 100000 in
/-- PartitionmapInside, where the input is out of its bounds. -/
theorem inside_out (s c a b og mp : Int) (w : World) (_ha : 0 ≤ a ∧ a ≤ 65535) (_hb : 0 ≤ b ∧ b ≤ 65535) (hM : ∃ m : Int, w.cell? ⟨0, 0, none⟩ = some (.int .i64 m)) (h : s < 0 ∨ 1099511627776 < s ∨ c < 1 ∨ 1099511627776 < c ∨ mp < 0 ∨ 1099511627776 < mp) :
    Calls Tryd.prog 4 #[.agg #[.int .i64 s, .int .i64 c], .int .u16 a, .int .u16 b, .agg #[.int .i64 og, .int .i64 mp]] w fun e w' => e = .returned (.bool true) ∧ Below w.heap.size w w' := by
  obtain ⟨m0, hM⟩ := hM
  have hb0 : Below w.heap.size w ((w.alloc (.cells #[.int .i64 s, .int .i64 c] 32)).alloc (.cells #[.int .i64 og, .int .i64 mp] 35)) := ((Below.refl _ w).alloc (Nat.le_refl _) _).alloc (by simp) _
  have CA := Lib.hid (awake_any ((w.alloc (.cells #[.int .i64 s, .int .i64 c] 32)).alloc (.cells #[.int .i64 og, .int .i64 mp] 35)) m0 ((hb0.cell (p := ⟨0, 0, none⟩) (World.block_lt_of_cell? _ _ hM)).trans hM))
  have HB0 := Lib.hid hb0
  have hx4 : BoxM (w.alloc (.cells #[.int .i64 s, .int .i64 c] 32)) w.heap.size #[.int .i64 s, .int .i64 c] := BoxM.new _ _ _
  have hx7 : BoxM ((w.alloc (.cells #[.int .i64 s, .int .i64 c] 32)).alloc (.cells #[.int .i64 og, .int .i64 mp] 35)) (w.heap.size + 1) #[.int .i64 og, .int .i64 mp] := by
    have h := BoxM.new (w.alloc (.cells #[.int .i64 s, .int .i64 c] 32)) #[.int .i64 og, .int .i64 mp] 35
    rw [show (w.alloc (.cells #[.int .i64 s, .int .i64 c] 32)).heap.size = w.heap.size + 1 by simp] at h
    exact h
  have HX4 := Lib.hid (hx4.below ((Below.refl _ _).alloc (Nat.le_refl _) (.cells #[.int .i64 og, .int .i64 mp] 35)))
  have HX7 := Lib.hid hx7
  clear hM hb0 hx4 hx7
  by_cases g0 : s < 0
  · skip
    have d0 : decide (s < 0) = true := decide_eq_true g0
    clear h
    go_enter Tryd.func4, Tryd.ntmps4
    go_wp2_with fail
    refine CA.out.mono ?_
    rintro e w1 ⟨rfl, hb1⟩
    have HB1 := Lib.hid (HB0.out.trans (hb1.mono HB0.out.size))
    have hx4 := HX4.out.below hb1
    have hx7 := HX7.out.below hb1
    have X4 := Lib.hid hx4
    have X7 := Lib.hid hx7
    have p0 := hx4.rd 0 _ rfl
    have p1 := hx4.rd 1 _ rfl
    have q0 := hx7.rd 0 _ rfl
    have q1 := hx7.rd 1 _ rfl
    clear hb1 hx4 hx7 HB0 HX4 HX7 CA
    go_wp2_with fail
    go_ret
    exact ⟨rfl, HB1.out⟩
  by_cases g1 : 1099511627776 < s
  · skip
    have d0 : decide (s < 0) = false := decide_eq_false (by omega)
    have d1 : decide (1099511627776 < s) = true := decide_eq_true g1
    clear h
    go_enter Tryd.func4, Tryd.ntmps4
    go_wp2_with fail
    refine CA.out.mono ?_
    rintro e w1 ⟨rfl, hb1⟩
    have HB1 := Lib.hid (HB0.out.trans (hb1.mono HB0.out.size))
    have hx4 := HX4.out.below hb1
    have hx7 := HX7.out.below hb1
    have X4 := Lib.hid hx4
    have X7 := Lib.hid hx7
    have p0 := hx4.rd 0 _ rfl
    have p1 := hx4.rd 1 _ rfl
    have q0 := hx7.rd 0 _ rfl
    have q1 := hx7.rd 1 _ rfl
    clear hb1 hx4 hx7 HB0 HX4 HX7 CA
    go_wp2_with fail
    go_ret
    exact ⟨rfl, HB1.out⟩
  by_cases g2 : c < 1
  · skip
    have d0 : decide (s < 0) = false := decide_eq_false (by omega)
    have d1 : decide (1099511627776 < s) = false := decide_eq_false (by omega)
    have d2 : decide (c < 1) = true := decide_eq_true g2
    clear h
    go_enter Tryd.func4, Tryd.ntmps4
    go_wp2_with fail
    refine CA.out.mono ?_
    rintro e w1 ⟨rfl, hb1⟩
    have HB1 := Lib.hid (HB0.out.trans (hb1.mono HB0.out.size))
    have hx4 := HX4.out.below hb1
    have hx7 := HX7.out.below hb1
    have X4 := Lib.hid hx4
    have X7 := Lib.hid hx7
    have p0 := hx4.rd 0 _ rfl
    have p1 := hx4.rd 1 _ rfl
    have q0 := hx7.rd 0 _ rfl
    have q1 := hx7.rd 1 _ rfl
    clear hb1 hx4 hx7 HB0 HX4 HX7 CA
    go_wp2_with fail
    go_ret
    exact ⟨rfl, HB1.out⟩
  by_cases g3 : 1099511627776 < c
  · skip
    have d0 : decide (s < 0) = false := decide_eq_false (by omega)
    have d1 : decide (1099511627776 < s) = false := decide_eq_false (by omega)
    have d2 : decide (c < 1) = false := decide_eq_false (by omega)
    have d3 : decide (1099511627776 < c) = true := decide_eq_true g3
    clear h
    go_enter Tryd.func4, Tryd.ntmps4
    go_wp2_with fail
    refine CA.out.mono ?_
    rintro e w1 ⟨rfl, hb1⟩
    have HB1 := Lib.hid (HB0.out.trans (hb1.mono HB0.out.size))
    have hx4 := HX4.out.below hb1
    have hx7 := HX7.out.below hb1
    have X4 := Lib.hid hx4
    have X7 := Lib.hid hx7
    have p0 := hx4.rd 0 _ rfl
    have p1 := hx4.rd 1 _ rfl
    have q0 := hx7.rd 0 _ rfl
    have q1 := hx7.rd 1 _ rfl
    clear hb1 hx4 hx7 HB0 HX4 HX7 CA
    go_wp2_with fail
    go_ret
    exact ⟨rfl, HB1.out⟩
  by_cases g4 : mp < 0
  · skip
    have d0 : decide (s < 0) = false := decide_eq_false (by omega)
    have d1 : decide (1099511627776 < s) = false := decide_eq_false (by omega)
    have d2 : decide (c < 1) = false := decide_eq_false (by omega)
    have d3 : decide (1099511627776 < c) = false := decide_eq_false (by omega)
    have d4 : decide (mp < 0) = true := decide_eq_true g4
    clear h
    go_enter Tryd.func4, Tryd.ntmps4
    go_wp2_with fail
    refine CA.out.mono ?_
    rintro e w1 ⟨rfl, hb1⟩
    have HB1 := Lib.hid (HB0.out.trans (hb1.mono HB0.out.size))
    have hx4 := HX4.out.below hb1
    have hx7 := HX7.out.below hb1
    have X4 := Lib.hid hx4
    have X7 := Lib.hid hx7
    have p0 := hx4.rd 0 _ rfl
    have p1 := hx4.rd 1 _ rfl
    have q0 := hx7.rd 0 _ rfl
    have q1 := hx7.rd 1 _ rfl
    clear hb1 hx4 hx7 HB0 HX4 HX7 CA
    go_wp2_with fail
    go_ret
    exact ⟨rfl, HB1.out⟩
  have g5 : 1099511627776 < mp := by omega
  have d0 : decide (s < 0) = false := decide_eq_false (by omega)
  have d1 : decide (1099511627776 < s) = false := decide_eq_false (by omega)
  have d2 : decide (c < 1) = false := decide_eq_false (by omega)
  have d3 : decide (1099511627776 < c) = false := decide_eq_false (by omega)
  have d4 : decide (mp < 0) = false := decide_eq_false (by omega)
  have d5 : decide (1099511627776 < mp) = true := decide_eq_true g5
  clear h
  go_enter Tryd.func4, Tryd.ntmps4
  go_wp2_with fail
  refine CA.out.mono ?_
  rintro e w1 ⟨rfl, hb1⟩
  have HB1 := Lib.hid (HB0.out.trans (hb1.mono HB0.out.size))
  have hx4 := HX4.out.below hb1
  have hx7 := HX7.out.below hb1
  have X4 := Lib.hid hx4
  have X7 := Lib.hid hx7
  have p0 := hx4.rd 0 _ rfl
  have p1 := hx4.rd 1 _ rfl
  have q0 := hx7.rd 0 _ rfl
  have q1 := hx7.rd 1 _ rfl
  clear hb1 hx4 hx7 HB0 HX4 HX7 CA
  go_wp2_with fail
  go_ret
  exact ⟨rfl, HB1.out⟩

set_option maxHeartbeats 25600000 in
set_option maxRecDepth 100000 in
/-- PartitionmapInside, where the input is within its bounds. -/
theorem inside_in (s c a b og mp : Int) (w : World) (ha : 0 ≤ a ∧ a ≤ 65535) (hb : 0 ≤ b ∧ b ≤ 65535) (hM : ∃ m : Int, w.cell? ⟨0, 0, none⟩ = some (.int .i64 m)) (hs : 0 ≤ s ∧ s ≤ 1099511627776) (hc : 1 ≤ c ∧ c ≤ 1099511627776) (hmp : 0 ≤ mp ∧ mp ≤ 1099511627776) :
    Calls Tryd.prog 4 #[.agg #[.int .i64 s, .int .i64 c], .int .u16 a, .int .u16 b, .agg #[.int .i64 og, .int .i64 mp]] w fun e w' => e = .returned (.bool true) ∧ Below w.heap.size w w' := by
  obtain ⟨m0, hM⟩ := hM
  have hb0 : Below w.heap.size w ((w.alloc (.cells #[.int .i64 s, .int .i64 c] 32)).alloc (.cells #[.int .i64 og, .int .i64 mp] 35)) := ((Below.refl _ w).alloc (Nat.le_refl _) _).alloc (by simp) _
  have CA := Lib.hid (awake_any ((w.alloc (.cells #[.int .i64 s, .int .i64 c] 32)).alloc (.cells #[.int .i64 og, .int .i64 mp] 35)) m0 ((hb0.cell (p := ⟨0, 0, none⟩) (World.block_lt_of_cell? _ _ hM)).trans hM))
  have HB0 := Lib.hid hb0
  have hx4 : BoxM (w.alloc (.cells #[.int .i64 s, .int .i64 c] 32)) w.heap.size #[.int .i64 s, .int .i64 c] := BoxM.new _ _ _
  have hx7 : BoxM ((w.alloc (.cells #[.int .i64 s, .int .i64 c] 32)).alloc (.cells #[.int .i64 og, .int .i64 mp] 35)) (w.heap.size + 1) #[.int .i64 og, .int .i64 mp] := by
    have h := BoxM.new (w.alloc (.cells #[.int .i64 s, .int .i64 c] 32)) #[.int .i64 og, .int .i64 mp] 35
    rw [show (w.alloc (.cells #[.int .i64 s, .int .i64 c] 32)).heap.size = w.heap.size + 1 by simp] at h
    exact h
  have HX4 := Lib.hid (hx4.below ((Below.refl _ _).alloc (Nat.le_refl _) (.cells #[.int .i64 og, .int .i64 mp] 35)))
  have HX7 := Lib.hid hx7
  clear hM hb0 hx4 hx7
  have C1 := Lib.hid (fun W => maps_own 0 (.slice none 0 0) [] inL1 1 rfl rfl W (Kit.RowS.nil W) (by simp) (by decide))
  have C2 := Lib.hid (fun W tv h => maps_own 2 tv [1] inL2 1 rfl rfl W h (by simp) (by decide))
  have T1 := Lib.hid (fun v0 T g W h x y hr => tr_lit (inM1 s c) v0 (.slice none 0 0) (.slice none 0 0) T g a 0 x y (inF1 hs.1 hs.2 hc.2) (inW1 s c) (by omega) (by omega) (inK1 s c) hr W h)
  have T2 := Lib.hid (fun v0 T g W h x y hr => tr_lit (inM1 s c) v0 (.slice none 0 0) (.slice none 0 0) T g b 0 x y (inF1 hs.1 hs.2 hc.2) (inW1 s c) (by omega) (by omega) (inK1 s c) hr W h)
  have T3 := Lib.hid (fun v0 T g W h x y hr => tr_lit (inM2 s c []) v0 (.slice none 0 0) (.slice none 0 0) T g a 0 x y (inF2 hs.1 hs.2 hc.2) (inW2 s c []) (by omega) (by omega) (inK2 s c []) hr W h)
  have T4 := Lib.hid (fun v0 v2 T g W h x y hr => tr_lit (inM2 s c [(og, mp)]) v0 (.slice none 0 0) v2 T g a 0 x y (inF3 hs.1 hs.2 hc.2 hmp.1 hmp.2) (inW2 s c [(og, mp)]) (by omega) (by omega) (inK2 s c [(og, mp)]) hr W h)
  have U1 := Lib.hid (inT1 s c a ha.1)
  have U2 := Lib.hid (inT1 s c b hb.1)
  have hwa : wrap64 a = a := IntWalk.wrap64_in a (by omega)
  have hwb : wrap64 b = b := IntWalk.wrap64_in b (by omega)
  have d0 : decide (s < 0) = false := decide_eq_false (by omega)
  have d1 : decide (1099511627776 < s) = false := decide_eq_false (by omega)
  have d2 : decide (c < 1) = false := decide_eq_false (by omega)
  have d3 : decide (1099511627776 < c) = false := decide_eq_false (by omega)
  have d4 : decide (mp < 0) = false := decide_eq_false (by omega)
  have d5 : decide (1099511627776 < mp) = false := decide_eq_false (by omega)
  go_enter Tryd.func4, Tryd.ntmps4
  go_wp2_with fail
  refine CA.out.mono ?_
  rintro e w1 ⟨rfl, hb1⟩
  have HB1 := Lib.hid (HB0.out.trans (hb1.mono HB0.out.size))
  have hx4 := HX4.out.below hb1
  have hx7 := HX7.out.below hb1
  have X4 := Lib.hid hx4
  have X7 := Lib.hid hx7
  have p0 := hx4.rd 0 _ rfl
  have p1 := hx4.rd 1 _ rfl
  have q0 := hx7.rd 0 _ rfl
  have q1 := hx7.rd 1 _ rfl
  clear hb1 hx4 hx7 HB0 HX4 HX7 CA
  have P0 := Lib.hid (show w1.drew.cell? ⟨w.heap.size, 0, none⟩ = some (.int .i64 s) from p0)
  have P1 := Lib.hid (show w1.drew.cell? ⟨w.heap.size, 1, none⟩ = some (.int .i64 c) from p1)
  have hlt4 : w.heap.size < w1.drew.heap.size := X4.out.lt
  have hn1 := World.new_ne w1 ⟨w.heap.size, 0, none⟩ p0
  have ZB := Lib.hid (BoxM.new w1 #[.slice none 0 0, .int .i64 0, .int .i64 0, .slice none 0 0, .slice none 0 0, .slice none 0 0, .slice none 0 0] 41)
  have ZF := Lib.hid (Free.new w1 #[.slice none 0 0, .int .i64 0, .int .i64 0, .slice none 0 0, .slice none 0 0, .slice none 0 0, .slice none 0 0] 41)
  have ZT := Lib.hid (OfType.new w1 #[.slice none 0 0, .int .i64 0, .int .i64 0, .slice none 0 0, .slice none 0 0, .slice none 0 0, .slice none 0 0] 41)
  have X4A := Lib.hid (X4.out.below ((Below.refl _ w1).alloc (Nat.le_refl _) (.cells #[.slice none 0 0, .int .i64 0, .int .i64 0, .slice none 0 0, .slice none 0 0, .slice none 0 0, .slice none 0 0] 41)))
  have X7A := Lib.hid (X7.out.below ((Below.refl _ w1).alloc (Nat.le_refl _) (.cells #[.slice none 0 0, .int .i64 0, .int .i64 0, .slice none 0 0, .slice none 0 0, .slice none 0 0, .slice none 0 0] 41)))
  have HO1A := Lib.hid (HB1.out.alloc HB1.out.size (.cells #[.slice none 0 0, .int .i64 0, .int .i64 0, .slice none 0 0, .slice none 0 0, .slice none 0 0, .slice none 0 0] 41)).drew
  have hgt := Lib.hid X7.out.lt
  go_upto_region 5 with fail
  go_cut [9] (fun s9 wx => ∃ (g : Nat) (A : Option Addr) (cA : Nat), s9 = .pointer (some ⟨g, 0, none⟩) ∧ InSt w wx g s c og mp (.slice A 1 cA) (.slice none 0 0) inL1)
  case first =>
    go_region_held3 (fun w' => w'.cell? ⟨w.heap.size, 0, none⟩ = some (.int .i64 s) ∧ w'.cell? ⟨w.heap.size, 1, none⟩ = some (.int .i64 c)) (first | go_keep | with_reducible exact ⟨hs0, hs1⟩) (first
      | ((go_at_call 10; refine (C1.out w1.drew).mono ?_; rintro e w2 ⟨A, cA, LA, rfl, hm2, hl2, hb2⟩; have hs0 := (hb2.cell (p := ⟨w.heap.size, 0, none⟩) hlt4).trans P0.out; have hs1 := (hb2.cell (p := ⟨w.heap.size, 1, none⟩) hlt4).trans P1.out; have hn2 := World.new_ne w2 ⟨w.heap.size, 0, none⟩ hs0; have HM2 := Lib.hid hm2; have HL2 := Lib.hid hl2; have HB2' := Lib.hid hb2; have HST := Lib.hid (InSt.last (HB1.out.drew.trans (hb2.mono HB1.out.size)) (X4.out.drew.below hb2) (X7.out.drew.below hb2) hm2 hl2); clear hm2 hb2 hl2))
      | ((go_at_call 10; refine (C1.out (w1.alloc (.cells #[.slice none 0 0, .int .i64 0, .int .i64 0, .slice none 0 0, .slice none 0 0, .slice none 0 0, .slice none 0 0] 41)).drew).mono ?_; rintro e w2 ⟨A, cA, LA, rfl, hm2, hl2, hb2⟩; have hx := X4A.out.drew.below hb2; have hs0 := hx.rd 0 _ rfl; have hs1 := hx.rd 1 _ rfl; have hz := ZB.out.drew.below hb2; have hf := ZF.out.drew.below ZB.out.drew.lt hb2; have z0 := hz.rd 0 _ rfl; have y0 := hf 0; have z1 := hz.rd 1 _ rfl; have y1 := hf 1; have z2 := hz.rd 2 _ rfl; have y2 := hf 2; have z3 := hz.rd 3 _ rfl; have y3 := hf 3; have z4 := hz.rd 4 _ rfl; have y4 := hf 4; have z5 := hz.rd 5 _ rfl; have y5 := hf 5; have z6 := hz.rd 6 _ rfl; have y6 := hf 6; have HST := Lib.hid (InSt.first (zs := #[.slice none 0 0, .int .i64 0, .int .i64 0, .slice none 0 0, .slice none 0 0, .slice none 0 0, .slice none 0 0]) rfl (HO1A.out.trans (hb2.mono HO1A.out.size)) hx (X7A.out.drew.below hb2) hz hf (ZT.out.drew.below hb2) hgt.out hm2 hl2); clear hm2 hb2 hl2 hx hz hf)))
    all_goals
      have hst := HST.out
      go_wp2_with fail
      go_meet
      exact ⟨_, _, _, rfl, hst⟩
  case rest =>
    obtain ⟨g, A, cA, rfl, hst⟩ := hcut
    clear p0 p1 q0 q1 P0 P1 hgt X4 X7 HB1 ZB ZF ZT X4A X7A HO1A hlt4 hn1 C1
    have HS1 := Lib.hid hst
    obtain ⟨TA, haw⟩ := hst.aw
    have HAW := Lib.hid (show AwM _ _ _ _ _ (inM1 s c) TA from haw)
    have x0 := hst.box.rd 0 _ rfl
    have x1 := hst.box.rd 1 _ rfl
    have x2 := hst.box.rd 2 _ rfl
    have x3 := hst.box.rd 3 _ rfl
    have x4 := hst.box.rd 4 _ rfl
    have x5 := hst.box.rd 5 _ rfl
    have x6 := hst.box.rd 6 _ rfl
    have p0 := hst.b4.rd 0 _ rfl
    have p1 := hst.b4.rd 1 _ rfl
    have q0 := hst.b7.rd 0 _ rfl
    have q1 := hst.b7.rd 1 _ rfl
    clear hst haw
    go_wp2_with fail
    by_cases hac : c ≤ a
    · have da : decide (a < c) = false := decide_eq_false (by omega)
      refine (T1.out _ TA _ _ HAW.out 0 2 (U1.out.trans (if_pos hac))).mono ?_
      rintro e w3 ⟨rfl, hb⟩
      have hst := HS1.out.below hb
      have HS3 := Lib.hid hst
      clear x0 x1 x2 x3 x4 x5 x6 p0 p1 q0 q1
      have x0 := hst.box.rd 0 _ rfl
      have x1 := hst.box.rd 1 _ rfl
      have x2 := hst.box.rd 2 _ rfl
      have x3 := hst.box.rd 3 _ rfl
      have x4 := hst.box.rd 4 _ rfl
      have x5 := hst.box.rd 5 _ rfl
      have x6 := hst.box.rd 6 _ rfl
      have p0 := hst.b4.rd 0 _ rfl
      have p1 := hst.b4.rd 1 _ rfl
      have q0 := hst.b7.rd 0 _ rfl
      have q1 := hst.b7.rd 1 _ rfl
      clear hb hst
      obtain ⟨TA3, haw⟩ := HS3.out.aw
      have HAW3 := Lib.hid (show AwM _ _ _ _ _ (inM1 s c) TA3 from haw)
      clear haw
      go_wp2_with fail
      by_cases hbc : c ≤ b
      · have db : decide (b < c) = false := decide_eq_false (by omega)
        refine (T2.out _ TA3 _ _ HAW3.out 0 2 (U2.out.trans (if_pos hbc))).mono ?_
        rintro e w4 ⟨rfl, hb⟩
        have hst := HS3.out.below hb
        have HS4 := Lib.hid hst
        clear x0 x1 x2 x3 x4 x5 x6 p0 p1 q0 q1
        have x0 := hst.box.rd 0 _ rfl
        have x1 := hst.box.rd 1 _ rfl
        have x2 := hst.box.rd 2 _ rfl
        have x3 := hst.box.rd 3 _ rfl
        have x4 := hst.box.rd 4 _ rfl
        have x5 := hst.box.rd 5 _ rfl
        have x6 := hst.box.rd 6 _ rfl
        have p0 := hst.b4.rd 0 _ rfl
        have p1 := hst.b4.rd 1 _ rfl
        have q0 := hst.b7.rd 0 _ rfl
        have q1 := hst.b7.rd 1 _ rfl
        clear hb hst
        go_wp2_with fail
        go_ret
        exact ⟨rfl, HS4.out.old⟩
      · have db : decide (b < c) = true := decide_eq_true (by omega)
        refine (T2.out _ TA3 _ _ HAW3.out (s + b) 0 (U2.out.trans (if_neg hbc))).mono ?_
        rintro e w4 ⟨rfl, hb⟩
        have hst := HS3.out.below hb
        have HS4 := Lib.hid hst
        clear x0 x1 x2 x3 x4 x5 x6 p0 p1 q0 q1
        have x0 := hst.box.rd 0 _ rfl
        have x1 := hst.box.rd 1 _ rfl
        have x2 := hst.box.rd 2 _ rfl
        have x3 := hst.box.rd 3 _ rfl
        have x4 := hst.box.rd 4 _ rfl
        have x5 := hst.box.rd 5 _ rfl
        have x6 := hst.box.rd 6 _ rfl
        have p0 := hst.b4.rd 0 _ rfl
        have p1 := hst.b4.rd 1 _ rfl
        have q0 := hst.b7.rd 0 _ rfl
        have q1 := hst.b7.rd 1 _ rfl
        clear hb hst
        go_wp2_with fail
        go_ret
        exact ⟨rfl, HS4.out.old⟩
    have da : decide (a < c) = true := decide_eq_true (by omega)
    refine (T1.out _ TA _ _ HAW.out (s + a) 0 (U1.out.trans (if_neg hac))).mono ?_
    rintro e w3 ⟨rfl, hb⟩
    have hst := HS1.out.below hb
    have HS3 := Lib.hid hst
    clear x0 x1 x2 x3 x4 x5 x6 p0 p1 q0 q1
    have x0 := hst.box.rd 0 _ rfl
    have x1 := hst.box.rd 1 _ rfl
    have x2 := hst.box.rd 2 _ rfl
    have x3 := hst.box.rd 3 _ rfl
    have x4 := hst.box.rd 4 _ rfl
    have x5 := hst.box.rd 5 _ rfl
    have x6 := hst.box.rd 6 _ rfl
    have p0 := hst.b4.rd 0 _ rfl
    have p1 := hst.b4.rd 1 _ rfl
    have q0 := hst.b7.rd 0 _ rfl
    have q1 := hst.b7.rd 1 _ rfl
    clear hb hst
    obtain ⟨TA3, haw⟩ := HS3.out.aw
    have HAW3 := Lib.hid (show AwM _ _ _ _ _ (inM1 s c) TA3 from haw)
    clear haw
    go_wp2_with fail
    by_cases hbc : c ≤ b
    · have db : decide (b < c) = false := decide_eq_false (by omega)
      refine (T2.out _ TA3 _ _ HAW3.out 0 2 (U2.out.trans (if_pos hbc))).mono ?_
      rintro e w4 ⟨rfl, hb⟩
      have hst := HS3.out.below hb
      have HS4 := Lib.hid hst
      clear x0 x1 x2 x3 x4 x5 x6 p0 p1 q0 q1
      have x0 := hst.box.rd 0 _ rfl
      have x1 := hst.box.rd 1 _ rfl
      have x2 := hst.box.rd 2 _ rfl
      have x3 := hst.box.rd 3 _ rfl
      have x4 := hst.box.rd 4 _ rfl
      have x5 := hst.box.rd 5 _ rfl
      have x6 := hst.box.rd 6 _ rfl
      have p0 := hst.b4.rd 0 _ rfl
      have p1 := hst.b4.rd 1 _ rfl
      have q0 := hst.b7.rd 0 _ rfl
      have q1 := hst.b7.rd 1 _ rfl
      clear hb hst
      go_wp2_with fail
      go_ret
      exact ⟨rfl, HS4.out.old⟩
    have db : decide (b < c) = true := decide_eq_true (by omega)
    refine (T2.out _ TA3 _ _ HAW3.out (s + b) 0 (U2.out.trans (if_neg hbc))).mono ?_
    rintro e w4 ⟨rfl, hb⟩
    have hst := HS3.out.below hb
    have HS4 := Lib.hid hst
    clear x0 x1 x2 x3 x4 x5 x6 p0 p1 q0 q1
    have x0 := hst.box.rd 0 _ rfl
    have x1 := hst.box.rd 1 _ rfl
    have x2 := hst.box.rd 2 _ rfl
    have x3 := hst.box.rd 3 _ rfl
    have x4 := hst.box.rd 4 _ rfl
    have x5 := hst.box.rd 5 _ rfl
    have x6 := hst.box.rd 6 _ rfl
    have p0 := hst.b4.rd 0 _ rfl
    have p1 := hst.b4.rd 1 _ rfl
    have q0 := hst.b7.rd 0 _ rfl
    have q1 := hst.b7.rd 1 _ rfl
    clear hb hst
    have dl : decide (s + a < s) = false := decide_eq_false (by omega)
    have dg : decide (s + c ≤ s + a) = false := decide_eq_false (by omega)
    have U3 := Lib.hid (inT2 s c a [] ha.1 (by omega))
    have U4 := Lib.hid (inT2 s c a [(og, mp)] ha.1 (by omega))
    have P0 := Lib.hid (show w4.drew.cell? ⟨w.heap.size, 0, none⟩ = some (.int .i64 s) from p0)
    have hn4 := World.new_ne w4 ⟨w.heap.size, 0, none⟩ p0
    have dn1 : decide (a < 0) = false := decide_eq_false (by omega)
    have dn2 : decide (c ≤ a) = false := decide_eq_false (by omega)
    clear x0 x1 x2 x3 x4 x5 x6 d0 d1 d2 d3 d4 d5 q0 q1 HS1 HS3 HAW HAW3 U1 U2 T1 T2
    have HBC := Lib.hid hbc
    have HAC := Lib.hid hac
    clear hbc hac
    by_cases hab : a = b
    · subst hab
      have hsz1 : (w4.alloc (.cells #[.int .i64 1] 3)).heap.size = w4.heap.size + 1 := by simp
      have hsz2 : (w4.alloc (.cells #[.slice none 0 0, .int .i64 0, .int .i64 0, .slice none 0 0, .slice none 0 0, .slice none 0 0, .slice none 0 0] 41)).heap.size = w4.heap.size + 1 := by simp
      have rowA : Kit.RowS (w4.alloc (.cells #[.int .i64 1] 3)) (.slice (some ⟨w4.heap.size, 0, none⟩) 1 1) (Kit.izs [1]) := Kit.RowS.new w4 (Kit.izs [1]) 3 (by simp [Kit.izs, maxLen])
      have rowB := rowA.below ((Below.refl _ (w4.alloc (.cells #[.int .i64 1] 3))).alloc (Nat.le_refl _) (.cells #[.slice none 0 0, .int .i64 0, .int .i64 0, .slice none 0 0, .slice none 0 0, .slice none 0 0, .slice none 0 0] 41))
      have rowC : Kit.RowS ((w4.alloc (.cells #[.slice none 0 0, .int .i64 0, .int .i64 0, .slice none 0 0, .slice none 0 0, .slice none 0 0, .slice none 0 0] 41)).alloc (.cells #[.int .i64 1] 3)) (.slice (some ⟨(w4.alloc (.cells #[.slice none 0 0, .int .i64 0, .int .i64 0, .slice none 0 0, .slice none 0 0, .slice none 0 0, .slice none 0 0] 41)).heap.size, 0, none⟩) 1 1) (Kit.izs [1]) := Kit.RowS.new (w4.alloc (.cells #[.slice none 0 0, .int .i64 0, .int .i64 0, .slice none 0 0, .slice none 0 0, .slice none 0 0, .slice none 0 0] 41)) (Kit.izs [1]) 3 (by simp [Kit.izs, maxLen])
      rw [hsz2] at rowC
      have R1 := Lib.hid (show Kit.RowS (w4.alloc (.cells #[.int .i64 1] 3)).drew (.slice (some ⟨w4.heap.size, 0, none⟩) 1 1) (Kit.izs [1]) from rowA)
      have R2 := Lib.hid (show Kit.RowS ((w4.alloc (.cells #[.int .i64 1] 3)).alloc (.cells #[.slice none 0 0, .int .i64 0, .int .i64 0, .slice none 0 0, .slice none 0 0, .slice none 0 0, .slice none 0 0] 41)).drew (.slice (some ⟨w4.heap.size, 0, none⟩) 1 1) (Kit.izs [1]) from rowB)
      have R3 := Lib.hid (show Kit.RowS ((w4.alloc (.cells #[.slice none 0 0, .int .i64 0, .int .i64 0, .slice none 0 0, .slice none 0 0, .slice none 0 0, .slice none 0 0] 41)).alloc (.cells #[.int .i64 1] 3)).drew (.slice (some ⟨w4.heap.size + 1, 0, none⟩) 1 1) (Kit.izs [1]) from rowC)
      clear rowA rowB rowC
      have Ha := Lib.hid (HS4.out.below ((Below.refl _ w4).alloc (Nat.le_refl _) (.cells #[.int .i64 1] 3)))
      have Hb := Lib.hid (Ha.out.below ((Below.refl _ (w4.alloc (.cells #[.int .i64 1] 3))).alloc (Nat.le_refl _) (.cells #[.slice none 0 0, .int .i64 0, .int .i64 0, .slice none 0 0, .slice none 0 0, .slice none 0 0, .slice none 0 0] 41)))
      have Hc := Lib.hid ((HS4.out.below ((Below.refl _ w4).alloc (Nat.le_refl _) (.cells #[.slice none 0 0, .int .i64 0, .int .i64 0, .slice none 0 0, .slice none 0 0, .slice none 0 0, .slice none 0 0] 41))).below ((Below.refl _ (w4.alloc (.cells #[.slice none 0 0, .int .i64 0, .int .i64 0, .slice none 0 0, .slice none 0 0, .slice none 0 0, .slice none 0 0] 41))).alloc (Nat.le_refl _) (.cells #[.int .i64 1] 3)))
      have Zb := Lib.hid (show BoxM ((w4.alloc (.cells #[.int .i64 1] 3)).alloc (.cells #[.slice none 0 0, .int .i64 0, .int .i64 0, .slice none 0 0, .slice none 0 0, .slice none 0 0, .slice none 0 0] 41)) (w4.heap.size + 1) #[.slice none 0 0, .int .i64 0, .int .i64 0, .slice none 0 0, .slice none 0 0, .slice none 0 0, .slice none 0 0] from hsz1 ▸ BoxM.new (w4.alloc (.cells #[.int .i64 1] 3)) #[.slice none 0 0, .int .i64 0, .int .i64 0, .slice none 0 0, .slice none 0 0, .slice none 0 0, .slice none 0 0] 41)
      have Fb := Lib.hid (show Free ((w4.alloc (.cells #[.int .i64 1] 3)).alloc (.cells #[.slice none 0 0, .int .i64 0, .int .i64 0, .slice none 0 0, .slice none 0 0, .slice none 0 0, .slice none 0 0] 41)) (w4.heap.size + 1) from hsz1 ▸ Free.new (w4.alloc (.cells #[.int .i64 1] 3)) #[.slice none 0 0, .int .i64 0, .int .i64 0, .slice none 0 0, .slice none 0 0, .slice none 0 0, .slice none 0 0] 41)
      have Tb := Lib.hid (show OfType ((w4.alloc (.cells #[.int .i64 1] 3)).alloc (.cells #[.slice none 0 0, .int .i64 0, .int .i64 0, .slice none 0 0, .slice none 0 0, .slice none 0 0, .slice none 0 0] 41)) (w4.heap.size + 1) 41 from hsz1 ▸ OfType.new (w4.alloc (.cells #[.int .i64 1] 3)) #[.slice none 0 0, .int .i64 0, .int .i64 0, .slice none 0 0, .slice none 0 0, .slice none 0 0, .slice none 0 0] 41)
      have hb1 := (Below.refl _ (w4.alloc (.cells #[.slice none 0 0, .int .i64 0, .int .i64 0, .slice none 0 0, .slice none 0 0, .slice none 0 0, .slice none 0 0] 41))).alloc (Nat.le_refl _) (.cells #[.int .i64 1] 3)
      have Zc := Lib.hid ((BoxM.new w4 #[.slice none 0 0, .int .i64 0, .int .i64 0, .slice none 0 0, .slice none 0 0, .slice none 0 0, .slice none 0 0] 41).below hb1)
      have Fc := Lib.hid ((Free.new w4 #[.slice none 0 0, .int .i64 0, .int .i64 0, .slice none 0 0, .slice none 0 0, .slice none 0 0, .slice none 0 0] 41).below (BoxM.new w4 #[.slice none 0 0, .int .i64 0, .int .i64 0, .slice none 0 0, .slice none 0 0, .slice none 0 0, .slice none 0 0] 41).lt hb1)
      have Tc := Lib.hid ((OfType.new w4 #[.slice none 0 0, .int .i64 0, .int .i64 0, .slice none 0 0, .slice none 0 0, .slice none 0 0, .slice none 0 0] 41).below hb1)
      have Gc := Lib.hid HS4.out.b7.lt
      have Gb := Lib.hid (show w.heap.size + 1 < w4.heap.size + 1 from Nat.lt_succ_of_lt HS4.out.b7.lt)
      clear hsz1 hsz2 hb1
      obtain ⟨H5, hH5⟩ : ∃ H5, w4.heap.size + 1 = H5 := ⟨_, rfl⟩
      have hn4' : w.heap.size ≠ w4.heap.size := by have := Gc.out; omega
      have hn5' : w.heap.size ≠ H5 := by have := Gc.out; omega
      have hn5 : H5 ≠ w.heap.size := by have := Gc.out; omega
      have hn45 : w4.heap.size ≠ H5 := by omega
      rw [hH5] at R3 Zb Fb Tb Gb
      go_upto_region 14 with fail
      go_cut [14] (fun s14 wx => ∃ (g : Nat) (A : Option Addr) (cA : Nat), s14 = .pointer (some ⟨g, 0, none⟩) ∧ InSt w wx g s c og mp (.slice A 1 cA) (.slice none 0 0) inL2)
      case first =>
        go_region_held3 (fun w' => w'.cell? ⟨w.heap.size, 0, none⟩ = some (.int .i64 s) ∧ w'.cell? ⟨w.heap.size, 1, none⟩ = some (.int .i64 c)) (first | go_keep | with_reducible exact ⟨hs0, hs1⟩) (first
          | ((go_at_call 10; (with_reducible refine (C2.out (w4.alloc (.cells #[.int .i64 1] 3)).drew _ R1.out).mono ?_); rintro e w5 ⟨A', cA', LA', rfl, hm5, hl5, hb5⟩; have hx := Ha.out.b4.drew.below hb5; have hs0 := hx.rd 0 _ rfl; have hs1 := hx.rd 1 _ rfl; have hx7 := Ha.out.b7.drew.below hb5; have ho := Ha.out.old.drew.trans (hb5.mono Ha.out.old.size); have hnw := World.new_ne w5 ⟨w.heap.size, 0, none⟩ hs0; have HST := Lib.hid (InSt.last ho hx hx7 hm5 hl5); clear hm5 hl5 hb5 hx hx7 ho))
          | ((go_at_call 10; (with_reducible refine (C2.out ((w4.alloc (.cells #[.int .i64 1] 3)).alloc (.cells #[.slice none 0 0, .int .i64 0, .int .i64 0, .slice none 0 0, .slice none 0 0, .slice none 0 0, .slice none 0 0] 41)).drew _ R2.out).mono ?_); rintro e w5 ⟨A', cA', LA', rfl, hm5, hl5, hb5⟩; have hx := Hb.out.b4.drew.below hb5; have hs0 := hx.rd 0 _ rfl; have hs1 := hx.rd 1 _ rfl; have hx7 := Hb.out.b7.drew.below hb5; have ho := Hb.out.old.drew.trans (hb5.mono Hb.out.old.size); have hz := Zb.out.drew.below hb5; have hf := Fb.out.drew.below Zb.out.drew.lt hb5; have z0 := hz.rd 0 _ rfl; have y0 := hf 0; have z1 := hz.rd 1 _ rfl; have y1 := hf 1; have z2 := hz.rd 2 _ rfl; have y2 := hf 2; have z3 := hz.rd 3 _ rfl; have y3 := hf 3; have z4 := hz.rd 4 _ rfl; have y4 := hf 4; have z5 := hz.rd 5 _ rfl; have y5 := hf 5; have z6 := hz.rd 6 _ rfl; have y6 := hf 6; have HZ5 := Lib.hid hz; have HST := Lib.hid (InSt.first (zs := #[.slice none 0 0, .int .i64 0, .int .i64 0, .slice none 0 0, .slice none 0 0, .slice none 0 0, .slice none 0 0]) rfl ho hx hx7 hz hf (Tb.out.drew.below hb5) Gb.out hm5 hl5); clear hm5 hl5 hb5 hx hx7 ho))
          | ((go_at_call 10; (with_reducible refine (C2.out ((w4.alloc (.cells #[.slice none 0 0, .int .i64 0, .int .i64 0, .slice none 0 0, .slice none 0 0, .slice none 0 0, .slice none 0 0] 41)).alloc (.cells #[.int .i64 1] 3)).drew _ R3.out).mono ?_); rintro e w5 ⟨A', cA', LA', rfl, hm5, hl5, hb5⟩; have hx := Hc.out.b4.drew.below hb5; have hs0 := hx.rd 0 _ rfl; have hs1 := hx.rd 1 _ rfl; have hx7 := Hc.out.b7.drew.below hb5; have ho := Hc.out.old.drew.trans (hb5.mono Hc.out.old.size); have hz := Zc.out.drew.below hb5; have hf := Fc.out.drew.below Zc.out.drew.lt hb5; have z0 := hz.rd 0 _ rfl; have y0 := hf 0; have z1 := hz.rd 1 _ rfl; have y1 := hf 1; have z2 := hz.rd 2 _ rfl; have y2 := hf 2; have z3 := hz.rd 3 _ rfl; have y3 := hf 3; have z4 := hz.rd 4 _ rfl; have y4 := hf 4; have z5 := hz.rd 5 _ rfl; have y5 := hf 5; have z6 := hz.rd 6 _ rfl; have y6 := hf 6; have HZ5 := Lib.hid hz; have HST := Lib.hid (InSt.first (zs := #[.slice none 0 0, .int .i64 0, .int .i64 0, .slice none 0 0, .slice none 0 0, .slice none 0 0, .slice none 0 0]) rfl ho hx hx7 hz hf (Tc.out.drew.below hb5) Gc.out hm5 hl5); clear hm5 hl5 hb5 hx hx7 ho)))
        all_goals
          have hst := HST.out
          go_wp2_with fail
          go_meet
          exact ⟨_, _, _, rfl, hst⟩
      case rest =>
        obtain ⟨g, A, cA, rfl, hst⟩ := hcut
        clear p0 p1 P0 R1 R2 R3 Ha Hb Hc Zb Zc Fb Fc Tb Tc Gb Gc hH5 hn4 hn4' hn5 hn5' hn45 C2 HS4
        have HSB := Lib.hid hst
        obtain ⟨TB, haw⟩ := hst.aw
        have HAWB := Lib.hid (show AwM _ _ _ _ _ (inM2 s c []) TB from haw)
        have x0 := hst.box.rd 0 _ rfl
        have x1 := hst.box.rd 1 _ rfl
        have x2 := hst.box.rd 2 _ rfl
        have x3 := hst.box.rd 3 _ rfl
        have x4 := hst.box.rd 4 _ rfl
        have x5 := hst.box.rd 5 _ rfl
        have x6 := hst.box.rd 6 _ rfl
        clear hst haw
        go_wp2_with fail
        refine (T3.out _ TB _ _ HAWB.out (s + a) 0 (U3.out.trans rfl)).mono ?_
        rintro e w6 ⟨rfl, hb6⟩
        have HS6 := Lib.hid (HSB.out.below hb6)
        have hsA := HS6.out.below ((Below.refl _ w6).alloc (Nat.le_refl _) (.cells #[.int .i64 og, .int .i64 mp] 35))
        have q0 := HS6.out.b7.rd 0 _ rfl
        have q1 := HS6.out.b7.rd 1 _ rfl
        clear x0 x1 x2 x3 x4 x5 x6 HAWB HSB hb6
        have x4 := hsA.box.rd 4 _ rfl
        have f4 := hsA.free 4
        clear hsA
        go_upto_region 19 with fail
        obtain ⟨⟨TC, haw⟩, hb7, hold⟩ := HS6.out.spare
        have HAWC := Lib.hid (show AwM _ _ _ _ _ (inM2 s c [(og, mp)]) TC from haw)
        have HB7 := Lib.hid hb7
        have HOLD := Lib.hid hold
        clear x4 f4 q0 q1 hold hb7
        simp only [spW] at haw
        have x0 := haw.box.rd 0 _ rfl
        have x1 := haw.box.rd 1 _ rfl
        have x2 := haw.box.rd 2 _ rfl
        have x3 := haw.box.rd 3 _ rfl
        have x4 := haw.box.rd 4 _ rfl
        have x5 := haw.box.rd 5 _ rfl
        have x6 := haw.box.rd 6 _ rfl
        clear haw HS6
        go_wp2_with fail
        by_cases hog : og = a - a % 8
        · have hr := U4.out.trans (by rw [inS, if_pos hog])
          have dq : (og == a - a % 8) = true := by rw [beq_iff_eq]; exact hog
          have HRR := Lib.hid (show Pm.transR (inM2 s c [(og, mp)]) a 0 = (mp + a % 8, 0) from hr)
          clear hr hog
          refine (T4.out _ _ TC _ _ HAWC.out (mp + a % 8) 0 HRR.out).mono ?_
          rintro e w7 ⟨rfl, hb⟩
          have q0 := (HB7.out.below hb).rd 0 _ rfl
          have q1 := (HB7.out.below hb).rd 1 _ rfl
          have HO7 := Lib.hid (HOLD.out.trans (hb.mono HOLD.out.size))
          clear hb x0 x1 x2 x3 x4 x5 x6
          go_wp2_with fail
          go_ret
          exact ⟨by simp, HO7.out⟩
        · have hr := U4.out.trans (by rw [inS, if_neg hog])
          have dq : (og == a - a % 8) = false := by rw [beq_eq_false_iff_ne]; exact hog
          have HRR := Lib.hid (show Pm.transR (inM2 s c [(og, mp)]) a 0 = (s + a, 0) from hr)
          clear hr hog
          refine (T4.out _ _ TC _ _ HAWC.out (s + a) 0 HRR.out).mono ?_
          rintro e w7 ⟨rfl, hb⟩
          have q0 := (HB7.out.below hb).rd 0 _ rfl
          have q1 := (HB7.out.below hb).rd 1 _ rfl
          have HO7 := Lib.hid (HOLD.out.trans (hb.mono HOLD.out.size))
          clear hb x0 x1 x2 x3 x4 x5 x6
          go_wp2_with fail
          go_ret
          exact ⟨by simp, HO7.out⟩
    · have h1 : (s + a == s + b) = false := by rw [beq_eq_false_iff_ne]; omega
      have h2 : (a == b) = false := by rw [beq_eq_false_iff_ne]; exact hab
      clear hab
      have hsz1 : (w4.alloc (.cells #[.int .i64 1] 3)).heap.size = w4.heap.size + 1 := by simp
      have hsz2 : (w4.alloc (.cells #[.slice none 0 0, .int .i64 0, .int .i64 0, .slice none 0 0, .slice none 0 0, .slice none 0 0, .slice none 0 0] 41)).heap.size = w4.heap.size + 1 := by simp
      have rowA : Kit.RowS (w4.alloc (.cells #[.int .i64 1] 3)) (.slice (some ⟨w4.heap.size, 0, none⟩) 1 1) (Kit.izs [1]) := Kit.RowS.new w4 (Kit.izs [1]) 3 (by simp [Kit.izs, maxLen])
      have rowB := rowA.below ((Below.refl _ (w4.alloc (.cells #[.int .i64 1] 3))).alloc (Nat.le_refl _) (.cells #[.slice none 0 0, .int .i64 0, .int .i64 0, .slice none 0 0, .slice none 0 0, .slice none 0 0, .slice none 0 0] 41))
      have rowC : Kit.RowS ((w4.alloc (.cells #[.slice none 0 0, .int .i64 0, .int .i64 0, .slice none 0 0, .slice none 0 0, .slice none 0 0, .slice none 0 0] 41)).alloc (.cells #[.int .i64 1] 3)) (.slice (some ⟨(w4.alloc (.cells #[.slice none 0 0, .int .i64 0, .int .i64 0, .slice none 0 0, .slice none 0 0, .slice none 0 0, .slice none 0 0] 41)).heap.size, 0, none⟩) 1 1) (Kit.izs [1]) := Kit.RowS.new (w4.alloc (.cells #[.slice none 0 0, .int .i64 0, .int .i64 0, .slice none 0 0, .slice none 0 0, .slice none 0 0, .slice none 0 0] 41)) (Kit.izs [1]) 3 (by simp [Kit.izs, maxLen])
      rw [hsz2] at rowC
      have R1 := Lib.hid (show Kit.RowS (w4.alloc (.cells #[.int .i64 1] 3)).drew (.slice (some ⟨w4.heap.size, 0, none⟩) 1 1) (Kit.izs [1]) from rowA)
      have R2 := Lib.hid (show Kit.RowS ((w4.alloc (.cells #[.int .i64 1] 3)).alloc (.cells #[.slice none 0 0, .int .i64 0, .int .i64 0, .slice none 0 0, .slice none 0 0, .slice none 0 0, .slice none 0 0] 41)).drew (.slice (some ⟨w4.heap.size, 0, none⟩) 1 1) (Kit.izs [1]) from rowB)
      have R3 := Lib.hid (show Kit.RowS ((w4.alloc (.cells #[.slice none 0 0, .int .i64 0, .int .i64 0, .slice none 0 0, .slice none 0 0, .slice none 0 0, .slice none 0 0] 41)).alloc (.cells #[.int .i64 1] 3)).drew (.slice (some ⟨w4.heap.size + 1, 0, none⟩) 1 1) (Kit.izs [1]) from rowC)
      clear rowA rowB rowC
      have Ha := Lib.hid (HS4.out.below ((Below.refl _ w4).alloc (Nat.le_refl _) (.cells #[.int .i64 1] 3)))
      have Hb := Lib.hid (Ha.out.below ((Below.refl _ (w4.alloc (.cells #[.int .i64 1] 3))).alloc (Nat.le_refl _) (.cells #[.slice none 0 0, .int .i64 0, .int .i64 0, .slice none 0 0, .slice none 0 0, .slice none 0 0, .slice none 0 0] 41)))
      have Hc := Lib.hid ((HS4.out.below ((Below.refl _ w4).alloc (Nat.le_refl _) (.cells #[.slice none 0 0, .int .i64 0, .int .i64 0, .slice none 0 0, .slice none 0 0, .slice none 0 0, .slice none 0 0] 41))).below ((Below.refl _ (w4.alloc (.cells #[.slice none 0 0, .int .i64 0, .int .i64 0, .slice none 0 0, .slice none 0 0, .slice none 0 0, .slice none 0 0] 41))).alloc (Nat.le_refl _) (.cells #[.int .i64 1] 3)))
      have Zb := Lib.hid (show BoxM ((w4.alloc (.cells #[.int .i64 1] 3)).alloc (.cells #[.slice none 0 0, .int .i64 0, .int .i64 0, .slice none 0 0, .slice none 0 0, .slice none 0 0, .slice none 0 0] 41)) (w4.heap.size + 1) #[.slice none 0 0, .int .i64 0, .int .i64 0, .slice none 0 0, .slice none 0 0, .slice none 0 0, .slice none 0 0] from hsz1 ▸ BoxM.new (w4.alloc (.cells #[.int .i64 1] 3)) #[.slice none 0 0, .int .i64 0, .int .i64 0, .slice none 0 0, .slice none 0 0, .slice none 0 0, .slice none 0 0] 41)
      have Fb := Lib.hid (show Free ((w4.alloc (.cells #[.int .i64 1] 3)).alloc (.cells #[.slice none 0 0, .int .i64 0, .int .i64 0, .slice none 0 0, .slice none 0 0, .slice none 0 0, .slice none 0 0] 41)) (w4.heap.size + 1) from hsz1 ▸ Free.new (w4.alloc (.cells #[.int .i64 1] 3)) #[.slice none 0 0, .int .i64 0, .int .i64 0, .slice none 0 0, .slice none 0 0, .slice none 0 0, .slice none 0 0] 41)
      have Tb := Lib.hid (show OfType ((w4.alloc (.cells #[.int .i64 1] 3)).alloc (.cells #[.slice none 0 0, .int .i64 0, .int .i64 0, .slice none 0 0, .slice none 0 0, .slice none 0 0, .slice none 0 0] 41)) (w4.heap.size + 1) 41 from hsz1 ▸ OfType.new (w4.alloc (.cells #[.int .i64 1] 3)) #[.slice none 0 0, .int .i64 0, .int .i64 0, .slice none 0 0, .slice none 0 0, .slice none 0 0, .slice none 0 0] 41)
      have hb1 := (Below.refl _ (w4.alloc (.cells #[.slice none 0 0, .int .i64 0, .int .i64 0, .slice none 0 0, .slice none 0 0, .slice none 0 0, .slice none 0 0] 41))).alloc (Nat.le_refl _) (.cells #[.int .i64 1] 3)
      have Zc := Lib.hid ((BoxM.new w4 #[.slice none 0 0, .int .i64 0, .int .i64 0, .slice none 0 0, .slice none 0 0, .slice none 0 0, .slice none 0 0] 41).below hb1)
      have Fc := Lib.hid ((Free.new w4 #[.slice none 0 0, .int .i64 0, .int .i64 0, .slice none 0 0, .slice none 0 0, .slice none 0 0, .slice none 0 0] 41).below (BoxM.new w4 #[.slice none 0 0, .int .i64 0, .int .i64 0, .slice none 0 0, .slice none 0 0, .slice none 0 0, .slice none 0 0] 41).lt hb1)
      have Tc := Lib.hid ((OfType.new w4 #[.slice none 0 0, .int .i64 0, .int .i64 0, .slice none 0 0, .slice none 0 0, .slice none 0 0, .slice none 0 0] 41).below hb1)
      have Gc := Lib.hid HS4.out.b7.lt
      have Gb := Lib.hid (show w.heap.size + 1 < w4.heap.size + 1 from Nat.lt_succ_of_lt HS4.out.b7.lt)
      clear hsz1 hsz2 hb1
      obtain ⟨H5, hH5⟩ : ∃ H5, w4.heap.size + 1 = H5 := ⟨_, rfl⟩
      have hn4' : w.heap.size ≠ w4.heap.size := by have := Gc.out; omega
      have hn5' : w.heap.size ≠ H5 := by have := Gc.out; omega
      have hn5 : H5 ≠ w.heap.size := by have := Gc.out; omega
      have hn45 : w4.heap.size ≠ H5 := by omega
      rw [hH5] at R3 Zb Fb Tb Gb
      go_upto_region 14 with fail
      go_cut [14] (fun s14 wx => ∃ (g : Nat) (A : Option Addr) (cA : Nat), s14 = .pointer (some ⟨g, 0, none⟩) ∧ InSt w wx g s c og mp (.slice A 1 cA) (.slice none 0 0) inL2)
      case first =>
        go_region_held3 (fun w' => w'.cell? ⟨w.heap.size, 0, none⟩ = some (.int .i64 s) ∧ w'.cell? ⟨w.heap.size, 1, none⟩ = some (.int .i64 c)) (first | go_keep | with_reducible exact ⟨hs0, hs1⟩) (first
          | ((go_at_call 10; (with_reducible refine (C2.out (w4.alloc (.cells #[.int .i64 1] 3)).drew _ R1.out).mono ?_); rintro e w5 ⟨A', cA', LA', rfl, hm5, hl5, hb5⟩; have hx := Ha.out.b4.drew.below hb5; have hs0 := hx.rd 0 _ rfl; have hs1 := hx.rd 1 _ rfl; have hx7 := Ha.out.b7.drew.below hb5; have ho := Ha.out.old.drew.trans (hb5.mono Ha.out.old.size); have hnw := World.new_ne w5 ⟨w.heap.size, 0, none⟩ hs0; have HST := Lib.hid (InSt.last ho hx hx7 hm5 hl5); clear hm5 hl5 hb5 hx hx7 ho))
          | ((go_at_call 10; (with_reducible refine (C2.out ((w4.alloc (.cells #[.int .i64 1] 3)).alloc (.cells #[.slice none 0 0, .int .i64 0, .int .i64 0, .slice none 0 0, .slice none 0 0, .slice none 0 0, .slice none 0 0] 41)).drew _ R2.out).mono ?_); rintro e w5 ⟨A', cA', LA', rfl, hm5, hl5, hb5⟩; have hx := Hb.out.b4.drew.below hb5; have hs0 := hx.rd 0 _ rfl; have hs1 := hx.rd 1 _ rfl; have hx7 := Hb.out.b7.drew.below hb5; have ho := Hb.out.old.drew.trans (hb5.mono Hb.out.old.size); have hz := Zb.out.drew.below hb5; have hf := Fb.out.drew.below Zb.out.drew.lt hb5; have z0 := hz.rd 0 _ rfl; have y0 := hf 0; have z1 := hz.rd 1 _ rfl; have y1 := hf 1; have z2 := hz.rd 2 _ rfl; have y2 := hf 2; have z3 := hz.rd 3 _ rfl; have y3 := hf 3; have z4 := hz.rd 4 _ rfl; have y4 := hf 4; have z5 := hz.rd 5 _ rfl; have y5 := hf 5; have z6 := hz.rd 6 _ rfl; have y6 := hf 6; have HZ5 := Lib.hid hz; have HST := Lib.hid (InSt.first (zs := #[.slice none 0 0, .int .i64 0, .int .i64 0, .slice none 0 0, .slice none 0 0, .slice none 0 0, .slice none 0 0]) rfl ho hx hx7 hz hf (Tb.out.drew.below hb5) Gb.out hm5 hl5); clear hm5 hl5 hb5 hx hx7 ho))
          | ((go_at_call 10; (with_reducible refine (C2.out ((w4.alloc (.cells #[.slice none 0 0, .int .i64 0, .int .i64 0, .slice none 0 0, .slice none 0 0, .slice none 0 0, .slice none 0 0] 41)).alloc (.cells #[.int .i64 1] 3)).drew _ R3.out).mono ?_); rintro e w5 ⟨A', cA', LA', rfl, hm5, hl5, hb5⟩; have hx := Hc.out.b4.drew.below hb5; have hs0 := hx.rd 0 _ rfl; have hs1 := hx.rd 1 _ rfl; have hx7 := Hc.out.b7.drew.below hb5; have ho := Hc.out.old.drew.trans (hb5.mono Hc.out.old.size); have hz := Zc.out.drew.below hb5; have hf := Fc.out.drew.below Zc.out.drew.lt hb5; have z0 := hz.rd 0 _ rfl; have y0 := hf 0; have z1 := hz.rd 1 _ rfl; have y1 := hf 1; have z2 := hz.rd 2 _ rfl; have y2 := hf 2; have z3 := hz.rd 3 _ rfl; have y3 := hf 3; have z4 := hz.rd 4 _ rfl; have y4 := hf 4; have z5 := hz.rd 5 _ rfl; have y5 := hf 5; have z6 := hz.rd 6 _ rfl; have y6 := hf 6; have HZ5 := Lib.hid hz; have HST := Lib.hid (InSt.first (zs := #[.slice none 0 0, .int .i64 0, .int .i64 0, .slice none 0 0, .slice none 0 0, .slice none 0 0, .slice none 0 0]) rfl ho hx hx7 hz hf (Tc.out.drew.below hb5) Gc.out hm5 hl5); clear hm5 hl5 hb5 hx hx7 ho)))
        all_goals
          have hst := HST.out
          go_wp2_with fail
          go_meet
          exact ⟨_, _, _, rfl, hst⟩
      case rest =>
        obtain ⟨g, A, cA, rfl, hst⟩ := hcut
        clear p0 p1 P0 R1 R2 R3 Ha Hb Hc Zb Zc Fb Fc Tb Tc Gb Gc hH5 hn4 hn4' hn5 hn5' hn45 C2 HS4
        have HSB := Lib.hid hst
        obtain ⟨TB, haw⟩ := hst.aw
        have HAWB := Lib.hid (show AwM _ _ _ _ _ (inM2 s c []) TB from haw)
        have x0 := hst.box.rd 0 _ rfl
        have x1 := hst.box.rd 1 _ rfl
        have x2 := hst.box.rd 2 _ rfl
        have x3 := hst.box.rd 3 _ rfl
        have x4 := hst.box.rd 4 _ rfl
        have x5 := hst.box.rd 5 _ rfl
        have x6 := hst.box.rd 6 _ rfl
        clear hst haw
        go_wp2_with fail
        refine (T3.out _ TB _ _ HAWB.out (s + a) 0 (U3.out.trans rfl)).mono ?_
        rintro e w6 ⟨rfl, hb6⟩
        have HS6 := Lib.hid (HSB.out.below hb6)
        have hsA := HS6.out.below ((Below.refl _ w6).alloc (Nat.le_refl _) (.cells #[.int .i64 og, .int .i64 mp] 35))
        have q0 := HS6.out.b7.rd 0 _ rfl
        have q1 := HS6.out.b7.rd 1 _ rfl
        clear x0 x1 x2 x3 x4 x5 x6 HAWB HSB hb6
        have x4 := hsA.box.rd 4 _ rfl
        have f4 := hsA.free 4
        clear hsA
        go_upto_region 19 with fail
        obtain ⟨⟨TC, haw⟩, hb7, hold⟩ := HS6.out.spare
        have HAWC := Lib.hid (show AwM _ _ _ _ _ (inM2 s c [(og, mp)]) TC from haw)
        have HB7 := Lib.hid hb7
        have HOLD := Lib.hid hold
        clear x4 f4 q0 q1 hold hb7
        simp only [spW] at haw
        have x0 := haw.box.rd 0 _ rfl
        have x1 := haw.box.rd 1 _ rfl
        have x2 := haw.box.rd 2 _ rfl
        have x3 := haw.box.rd 3 _ rfl
        have x4 := haw.box.rd 4 _ rfl
        have x5 := haw.box.rd 5 _ rfl
        have x6 := haw.box.rd 6 _ rfl
        clear haw HS6
        go_wp2_with fail
        by_cases hog : og = a - a % 8
        · have hr := U4.out.trans (by rw [inS, if_pos hog])
          have dq : (og == a - a % 8) = true := by rw [beq_iff_eq]; exact hog
          have HRR := Lib.hid (show Pm.transR (inM2 s c [(og, mp)]) a 0 = (mp + a % 8, 0) from hr)
          clear hr hog
          refine (T4.out _ _ TC _ _ HAWC.out (mp + a % 8) 0 HRR.out).mono ?_
          rintro e w7 ⟨rfl, hb⟩
          have q0 := (HB7.out.below hb).rd 0 _ rfl
          have q1 := (HB7.out.below hb).rd 1 _ rfl
          have HO7 := Lib.hid (HOLD.out.trans (hb.mono HOLD.out.size))
          clear hb x0 x1 x2 x3 x4 x5 x6
          go_wp2_with fail
          go_ret
          exact ⟨by simp, HO7.out⟩
        · have hr := U4.out.trans (by rw [inS, if_neg hog])
          have dq : (og == a - a % 8) = false := by rw [beq_eq_false_iff_ne]; exact hog
          have HRR := Lib.hid (show Pm.transR (inM2 s c [(og, mp)]) a 0 = (s + a, 0) from hr)
          clear hr hog
          refine (T4.out _ _ TC _ _ HAWC.out (s + a) 0 HRR.out).mono ?_
          rintro e w7 ⟨rfl, hb⟩
          have q0 := (HB7.out.below hb).rd 0 _ rfl
          have q1 := (HB7.out.below hb).rd 1 _ rfl
          have HO7 := Lib.hid (HOLD.out.trans (hb.mono HOLD.out.size))
          clear hb x0 x1 x2 x3 x4 x5 x6
          go_wp2_with fail
          go_ret
          exact ⟨by simp, HO7.out⟩
end Go.Proofs.YtlcdhlfkffkifaaDoor

/-
  The statement PartitionmapInside, at any input.
-/
namespace Go.Proofs.YtlcdhlfkffkifaaDoor
open Go.RowKit
theorem u16_of {a : Int} (h : (Lit.int .u16 a).wf = true) : 0 ≤ a ∧ a ≤ 65535 := by
  have h' : (decide (IntKind.min .u16 ≤ a) && decide (a ≤ IntKind.max .u16)) = true := h
  rw [show IntKind.min .u16 = 0 from rfl, show IntKind.max .u16 = 65535 from rfl, Bool.and_eq_true, decide_eq_true_eq, decide_eq_true_eq] at h'
  exact h'
/-- PartitionmapInside. -/
theorem lawInside_any (s c a b og mp : Int) (w : World) (_ : -9223372036854775808 ≤ s ∧ s ≤ 9223372036854775807) (_ : -9223372036854775808 ≤ c ∧ c ≤ 9223372036854775807) (wa : (Lit.int .u16 a).wf = true) (wb : (Lit.int .u16 b).wf = true)
    (_ : -9223372036854775808 ≤ og ∧ og ≤ 9223372036854775807) (_ : -9223372036854775808 ≤ mp ∧ mp ≤ 9223372036854775807) (hM : ∃ m : Int, w.cell? ⟨0, 0, none⟩ = some (.int .i64 m)) :
    Calls Tryd.prog 4 #[.agg #[.int .i64 s, .int .i64 c], .int .u16 a, .int .u16 b, .agg #[.int .i64 og, .int .i64 mp]] w fun e w' => e = .returned (.bool true) ∧ Below w.heap.size w w' := by
  by_cases h : s < 0 ∨ 1099511627776 < s ∨ c < 1 ∨ 1099511627776 < c ∨ mp < 0 ∨ 1099511627776 < mp
  · exact inside_out s c a b og mp w (u16_of wa) (u16_of wb) hM h
  · exact inside_in s c a b og mp w (u16_of wa) (u16_of wb) hM (by omega) (by omega) (by omega)
end Go.Proofs.YtlcdhlfkffkifaaDoor

/-
  YtlcdhlfkffkifaaDoor: the statement PartitionmapInside: for every input the law returns true. No condition beside the row's own.
-/
namespace Go.Proofs.YtlcdhlfkffkifaaDoor.partitionmapInside
open Go.ChangeShapes Go.WideShapes Go.ChangeAt Go.RowKit
open Go.ChangeMaps (open_string shut_string)
set_option linter.unusedVariables false

set_option maxRecDepth 100000 in
theorem contract (H : Type) (enc : TypeId × Value → H) (W : World) (base : Nat) (args : Array Value) (ds gs : List (DataW H)) (before : List MemPlace)
    (hval : ∀ (j : Nat) t v, Tryd.f4.params[j]? = some t → args[j]? = some v → Value.okWide Tryd.prog W .any base t v)
    (hW : DataW.Whole enc Tryd.prog Tryd.f4.params.toList Rows.partitionmapInsideSpec.vars false W args.toList ds gs before) (hL : laidMetH Tryd.prog Rows.partitionmapInsideRow.laid W) (hSh : W.ShapedOpen Tryd.prog) :
    Calls Tryd.prog 4 args W fun e W' => ∃ v, e = .returned v ∧ Rows.partitionmapInsideSpec.post enc Tryd.prog Tryd.f4 false true false false W args v W' := by
  have hW' := hW
  obtain ⟨p, q, hA0, hV, rfl, hfz, hnd⟩ := hW
  have hA : DataW.TrodAll enc Tryd.prog W 0 (fun _ => true) true Tryd.f4.params.toList args.toList ds p := hA0
  rw [Tryd.params4] at hA hval
  obtain ⟨v0, vs0, d0, ds0, p0, q0, hargs, rfl, rfl, h0, r0⟩ := trodAll_cons hA
  obtain ⟨v1, vs1, d1, ds1, p1, q1, rfl, rfl, rfl, h1, r1⟩ := trodAll_cons r0
  obtain ⟨v2, vs2, d2, ds2, p2, q2, rfl, rfl, rfl, h2, r2⟩ := trodAll_cons r1
  obtain ⟨v3, vs3, d3, ds3, p3, q3, rfl, rfl, rfl, h3, r3⟩ := trodAll_cons r2
  obtain ⟨rfl, rfl, rfl⟩ := trodAll_nil r3
  obtain rfl : args = #[v0, v1, v2, v3] := by cases args; simp_all
  obtain ⟨rfl, rfl⟩ := trodVars_none hV
  have h0k := h0
  obtain ⟨y0, z0, rfl, hy0, hz0⟩ := Frame.open_span W v0 d0 p0 (hval 0 32 v0 rfl rfl) h0
  have hlt0 : ∀ x ∈ p0, x.block < W.heap.size := fun x hx => by simpa using hW'.lt x (by simp [hx])
  obtain ⟨s1, rfl, rfl, rfl, w1⟩ := open_int Tryd.underlying33 (hval 1 33 v1 rfl rfl) h1
  obtain ⟨s2, rfl, rfl, rfl, w2⟩ := open_int Tryd.underlying33 (hval 2 33 v2 rfl rfl) h2
  have h3k := h3
  obtain ⟨y3, z3, rfl, hy3, hz3⟩ := Frame.open_spare W v3 d3 p3 (hval 3 35 v3 rfl rfl) h3
  have hlt3 : ∀ x ∈ p3, x.block < W.heap.size := fun x hx => by simpa using hW'.lt x (by simp [hx])
  clear hA0
  refine (lawInside_any y0 z0 s1 s2 y3 z3 W hy0 hz0 w1 w2 hy3 hz3 (Frame.maxlen hSh)).mono fun e W' ⟨he, bel⟩ => ?_
  subst he
  exact ⟨_, rfl, _, _, _, [], _, [], hW', trodAll_mk1 (shut_bool Tryd.underlying4 _), (trodAll_cons_mk (Below.trod Frame.laidOut (by kernel_rfl) (of_decide_eq_true (by kernel_rfl)) h0k bel hlt0) (trodAll_cons_mk (shut_int Tryd.underlying33 w1) (trodAll_cons_mk (shut_int Tryd.underlying33 w2) (trodAll_cons_mk (Below.trod Frame.laidOut (by kernel_rfl) (of_decide_eq_true (by kernel_rfl)) h3k bel hlt3) trodAll_mk0)))), rfl, bel.frame _, fun h => by cases h⟩

theorem laid_met (os : Os) : laidMet Tryd.prog Rows.partitionmapInsideRow.laid ((Frame.world os).forCall (fun _ _ => 0) ⟨#[], #[.agg #[.int .i64 0, .int .i64 0], .int .u16 0, .int .u16 0, .agg #[.int .i64 0, .int .i64 0]], []⟩).memory :=
  laidMet_of_run' 8 (by kernel_rfl) (by kernel_rfl)
theorem reads (os : Os) {H : Type} (enc : TypeId × Value → H) : ∃ places, DataW.whole enc Tryd.prog ((Frame.world os).forCall (fun _ _ => 0) ⟨#[], #[.agg #[.int .i64 0, .int .i64 0], .int .u16 0, .int .u16 0, .agg #[.int .i64 0, .int .i64 0]], []⟩).memory Tryd.f4.params.toList Rows.partitionmapInsideSpec.vars false (#[.agg #[.int .i64 0, .int .i64 0], .int .u16 0, .int .u16 0, .agg #[.int .i64 0, .int .i64 0]] : Array Value).toList 8 = some ([.agg [.lit (.int .i64 0), .lit (.int .i64 0)], .lit (.int .u16 0), .lit (.int .u16 0), .agg [.lit (.int .i64 0), .lit (.int .i64 0)]], [], places) :=
  ⟨[], by kernel_rfl⟩

set_option maxRecDepth 100000 in
theorem lifted (os : Os) (started : os.Started) (H : Type) (enc : TypeId × Value → H) (F : Stop.Interp) :
    ReturnsInHanded {} Tryd.checked os 4 .any ((OpenSpec.ofChange Rows.partitionmapInsideSpec).preRow enc Tryd.prog Tryd.f4 Rows.partitionmapInsideRow.domain false Rows.partitionmapInsideRow.laid) (((OpenSpec.ofChange Rows.partitionmapInsideSpec).at F).post enc Tryd.prog Tryd.f4 false true false false) := by
  obtain ⟨places, hx⟩ := reads os enc
  refine returnsInHanded_of_row (C := Tryd.checked) (s := OpenSpec.ofChange Rows.partitionmapInsideSpec) Frame.own started (by kernel_rfl) Tryd.func4
    (witness_row_at (enc := enc) (C := Tryd.checked) false (Frame.world os) #[.agg #[.int .i64 0, .int .i64 0], .int .u16 0, .int .u16 0, .agg #[.int .i64 0, .int .i64 0]] rfl (by kernel_rfl) (by kernel_rfl) (by kernel_rfl)
      (OpenSpec.preRow_of_cond 8 hx (by kernel_rfl) (fun k hk => by cases hk) (by kernel_rfl) (laid_met os))) ?_
  intro W base args ds gs before hval hW _ _ _ hL hSh _
  exact contract H enc W base args ds gs before hval hW hL hSh

theorem said : Rows.PartitionmapInsideSaid :=
  OpenClaim.holds_of_cond 4 Tryd.f4 rfl rfl rfl rfl rfl rfl rfl ⟨rfl, rfl, rfl, rfl, rfl⟩ rfl rfl rfl rfl rfl (by kernel_rfl) Tryd.func4 (by kernel_rfl)
    (of_decide_eq_true (by kernel_rfl)) (by unfold Func.isWrapper; first | (rw [if_pos (by decide +kernel)]; kernel_rfl) | (rw [if_neg (by decide +kernel)]; exact ⟨rfl, rfl⟩))
    (fun os started H enc _ F => by rw [OpenClaim.pre_eq_preRow]; exact lifted os started H enc F)

/-- No parameter wants a stand-in; the program's own looks are off: what the card asks. -/
theorem plain (f : FuncId) (fn : Func) (hf : Tryd.pinned.checked.prog.funcNamed "masterdisc/masterdisclaw37.PartitionmapInside" = some f) (hfn : Tryd.pinned.checked.prog.funcs[f]? = some fn) :
    false = Tryd.pinned.checked.prog.looks [] ∧ ∀ (j : Nat) t, fn.params[j]? = some t → Tryd.pinned.checked.prog.wantsStandIn t = false := by
  obtain rfl : f = 4 := Option.some.inj ((show Tryd.prog.funcNamed "masterdisc/masterdisclaw37.PartitionmapInside" = some 4 by kernel_rfl).symm.trans hf) |>.symm
  obtain rfl : fn = Tryd.f4 := (Option.some.inj (Tryd.func4.symm.trans hfn)).symm
  refine ⟨by kernel_rfl, fun j t ht => ?_⟩
  rw [Tryd.params4] at ht
  have hm := Array.mem_of_getElem? ht
  simp only [List.mem_toArray, List.mem_cons, List.not_mem_nil, or_false] at hm
  rcases hm with rfl | rfl | rfl | rfl
  · exact (show Tryd.prog.wantsStandIn 32 = false by kernel_rfl)
  · exact (show Tryd.prog.wantsStandIn 33 = false by kernel_rfl)
  · exact (show Tryd.prog.wantsStandIn 33 = false by kernel_rfl)
  · exact (show Tryd.prog.wantsStandIn 35 = false by kernel_rfl)

/-- ████ THE CARD ████ -/
theorem card : Rows.PartitionmapInsideCardSaid :=
  Claim7.holds_tied_plain_at .later [] _ _ _ _ said (fun _ h => by cases h) (by kernel_rfl) (fun _ h => by cases h) partitionmapInside_row_tie rfl ⟨rfl, rfl⟩ (by kernel_rfl) rfl plain (by kernel_rfl)
#print axioms card
end Go.Proofs.YtlcdhlfkffkifaaDoor.partitionmapInside
