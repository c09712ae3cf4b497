/- Walk: holds: node, whatever its kind, as the plain row says. -/
import Derived.Test.YtoglgeaiiipchabLTTM27
import Derived.Test.YtoglgeaiiipchabLTTM26
import Derived.Test.YtoglgeaiiipchabLTTM2
import Derived.StillTailTactics
set_option linter.unusedSimpArgs false
set_option linter.unusedVariables false
namespace Go.Proofs.Ytoglgeaiiipchab
open Go Go.RowKit Go.Shelf

/-- a slice of rows of bools, each read as it stands -/
structure RowsAt (w : World) (A : Option Addr) (c : Nat) (rows : List (List Bool)) : Prop where
  le : rows.length ≤ c
  cap : c ≤ 9223372036854775807
  small : rows.length ≤ 1000000
  rd : ∀ (k : Nat) (hk : k < rows.length), ∃ b off, A = some ⟨b, off, none⟩ ∧ b < w.heap.size ∧ ∃ A' c', w.cell? ⟨b, off + k, none⟩ = some (.slice A' rows[k].length c') ∧ Bools w 0 A' c' rows[k]
theorem RowsAt.below {w w' : World} {A : Option Addr} {c : Nat} {rows : List (List Bool)} (h : RowsAt w A c rows) (hb : Below w.heap.size w w') : RowsAt w' A c rows :=
  ⟨h.le, h.cap, h.small, fun k hk => by
    obtain ⟨b, off, h1, h2, A', c', h3, h4⟩ := h.rd k hk
    exact ⟨b, off, h1, Nat.lt_of_lt_of_le h2 hb.size, A', c', (hb.cell (p := ⟨b, off + k, none⟩) h2).trans h3, h4.below hb⟩⟩

/-- what node leaves: a row of its own -/
def NodePost (w : World) (row : List Bool) (e : Ending) (w' : World) : Prop :=
  ∃ g, e = .returned (.slice (some ⟨g, 0, none⟩) row.length row.length) ∧ w.heap.size ≤ g ∧ BRow w' g row ∧ Below w.heap.size w w'

theorem do1E : Enters Try.prog 89 := enters_of Try.func89 (by kernel_rfl) rfl
theorem do2E : Enters Try.prog 90 := enters_of Try.func90 (by kernel_rfl) rfl
theorem do3E : Enters Try.prog 91 := enters_of Try.func91 (by kernel_rfl) rfl
theorem do4E : Enters Try.prog 92 := enters_of Try.func92 (by kernel_rfl) rfl
theorem do5E : Enters Try.prog 93 := enters_of Try.func93 (by kernel_rfl) rfl
theorem do6E : Enters Try.prog 95 := enters_of Try.func95 (by kernel_rfl) rfl
theorem do7E : Enters Try.prog 96 := enters_of Try.func96 (by kernel_rfl) rfl
theorem do8E : Enters Try.prog 97 := enters_of Try.func97 (by kernel_rfl) rfl

/-- the world in which node has laid its variables -/
def nodeW (w : World) (R : Nat) (k a b d : Int) : World :=
  (((w.alloc (Obj.cells #[Value.pointer (some { block := R, off := 0 })] 113)).alloc (Obj.cells #[Value.int IntKind.i64 k, Value.int IntKind.i64 a, Value.int IntKind.i64 b, Value.int IntKind.i64 d] 74)).alloc
      (Obj.cells #[Value.slice none 0 0] 23)).alloc (Obj.cells #[Value.slice none 0 0] 23)

structure NodeW (w W : World) (R : Nat) (k a b d : Int) (va vb : Value) : Prop where
  size : W.heap.size = w.heap.size + 4
  below : Below w.heap.size w W
  c0 : W.cell? ⟨w.heap.size, 0, none⟩ = some (.pointer (some ⟨R, 0, none⟩))
  x0 : W.cell? ⟨w.heap.size + 1, 0, none⟩ = some (.int .i64 k)
  x1 : W.cell? ⟨w.heap.size + 1, 1, none⟩ = some (.int .i64 a)
  x2 : W.cell? ⟨w.heap.size + 1, 2, none⟩ = some (.int .i64 b)
  x3 : W.cell? ⟨w.heap.size + 1, 3, none⟩ = some (.int .i64 d)
  a0 : W.cell? ⟨w.heap.size + 2, 0, none⟩ = some va
  af : W.frozen? ⟨w.heap.size + 2, 0, none⟩ = false
  b0 : W.cell? ⟨w.heap.size + 3, 0, none⟩ = some vb
  bf : W.frozen? ⟨w.heap.size + 3, 0, none⟩ = false
theorem nodeW_is (w : World) (R : Nat) (k a b d : Int) : NodeW w (nodeW w R k a b d) R k a b d (.slice none 0 0) (.slice none 0 0) := by
  unfold nodeW
  refine ⟨by simp, ?_, ?_, ?_, ?_, ?_, ?_, ?_, ?_, ?_, ?_⟩
  · go_grown
  all_goals (try go_simp)
theorem NodeW.setA {w W : World} {R : Nat} {k a b d : Int} {va vb : Value} (h : NodeW w W R k a b d va vb) (v : Value) : NodeW w (W.drew.setCell ⟨w.heap.size + 2, 0, none⟩ v) R k a b d v vb := by
  have e : ∀ p : Addr, p ≠ ⟨w.heap.size + 2, 0, none⟩ → (W.drew.setCell ⟨w.heap.size + 2, 0, none⟩ v).cell? p = W.cell? p := fun p hp => World.cell?_setCell_other W.drew _ p v (fun e => hp e.symm)
  refine ⟨by simp [World.setCell, h.size], h.below.drew.setCell (p := ⟨w.heap.size + 2, 0, none⟩) (by simp) v, ?_, ?_, ?_, ?_, ?_, ?_, ?_, ?_, ?_⟩
  · rw [e _ (by simp)]; exact h.c0
  · rw [e _ (by simp)]; exact h.x0
  · rw [e _ (by simp)]; exact h.x1
  · rw [e _ (by simp)]; exact h.x2
  · rw [e _ (by simp)]; exact h.x3
  · exact World.cell?_setCell_same' _ _ _ (by show (W.cell? _).isSome = true; rw [h.a0]; rfl)
  · rw [World.frozen?_setCell]; exact h.af
  · rw [e _ (by simp)]; exact h.b0
  · rw [World.frozen?_setCell]; exact h.bf
theorem NodeW.setB {w W : World} {R : Nat} {k a b d : Int} {va vb : Value} (h : NodeW w W R k a b d va vb) (v : Value) : NodeW w (W.drew.setCell ⟨w.heap.size + 3, 0, none⟩ v) R k a b d va v := by
  have e : ∀ p : Addr, p ≠ ⟨w.heap.size + 3, 0, none⟩ → (W.drew.setCell ⟨w.heap.size + 3, 0, none⟩ v).cell? p = W.cell? p := fun p hp => World.cell?_setCell_other W.drew _ p v (fun e => hp e.symm)
  refine ⟨by simp [World.setCell, h.size], h.below.drew.setCell (p := ⟨w.heap.size + 3, 0, none⟩) (by simp) v, ?_, ?_, ?_, ?_, ?_, ?_, ?_, ?_, ?_⟩
  · rw [e _ (by simp)]; exact h.c0
  · rw [e _ (by simp)]; exact h.x0
  · rw [e _ (by simp)]; exact h.x1
  · rw [e _ (by simp)]; exact h.x2
  · rw [e _ (by simp)]; exact h.x3
  · rw [e _ (by simp)]; exact h.a0
  · rw [World.frozen?_setCell]; exact h.af
  · exact World.cell?_setCell_same' _ _ _ (by show (W.cell? _).isSome = true; rw [h.b0]; rfl)
  · rw [World.frozen?_setCell]; exact h.bf

set_option maxRecDepth 100000 in
set_option maxHeartbeats 1000000 in
theorem nodeAB_ (R : Nat) (A : Option Addr) (c n h : Nat) (T : Option Addr) (tc : Nat) (rows : List (List Bool)) (k : Int) (hk : k = 4 ∨ k = 5 ∨ k = 7 ∨ k = 8) (a b : Nat) (d : Int) (w : World)
    (hr : RdrAt w R A n c h) (hn0 : h < n) (hn : n ≤ 1000000) (ht : w.cell? ⟨R, 2, none⟩ = some (.slice T rows.length tc)) (hrows : RowsAt w T tc rows) (hlen : ∀ r ∈ rows, r.length = n) (ha : a < rows.length) (hb : b < rows.length) :
    Calls Try.prog 72 #[.pointer (some ⟨R, 0, none⟩), .agg #[.int .i64 k, .int .i64 a, .int .i64 b, .int .i64 d]] w (NodePost w ((List.range n).map fun p =>
      if k = 4 then gB rows a p && gB rows b p else if k = 5 then gB rows a p || gB rows b p else if k = 7 then unt n h (gB rows a) (gB rows b) n p else rls n h (gB rows a) (gB rows b) n p)) := by
  have fA : nmA k = true := by rcases hk with rfl | rfl | rfl | rfl <;> rfl
  have fB : nmB k = true := by rcases hk with rfl | rfl | rfl | rfl <;> rfl
  have hle := hrows.le
  have hcp := hrows.cap
  have HR := Lib.hid hr
  obtain ⟨r1, r2, r3⟩ := hr
  obtain ⟨bt, ot, rfl, hbt, A', c', hcell, hrow⟩ := hrows.rd a ha
  obtain ⟨bt', ot', hee, _, A'', c'', hcell', hrow'⟩ := hrows.rd b hb
  simp only [Option.some.injEq, Addr.mk.injEq, and_true] at hee
  obtain ⟨rfl, rfl⟩ := hee
  have HLA := Lib.hid (hlen rows[a] (List.getElem_mem ha))
  have HLB := Lib.hid (hlen rows[b] (List.getElem_mem hb))
  have HROW := Lib.hid hrow
  have HROW' := Lib.hid hrow'
  have HW := Lib.hid (nodeW_is w R k a b d)
  clear hlen hrow hrow' hrows
  go_enter Try.func72, Try.ntmps72
  go_wp2_with (go_at_call 84; refine (Names_ _ _).mono ?_; rintro e w' ⟨rfl, rfl⟩)
  change Code.wp _ _ _ _ (nodeW w R k a b d)
  generalize nodeW w R k a b d = W4 at *
  obtain ⟨g1, g2, g3⟩ : W4.cell? ⟨R, 2, none⟩ = some (.slice (some ⟨bt, ot, none⟩) rows.length tc) ∧ W4.cell? ⟨bt, ot + a, none⟩ = some (.slice A' rows[a].length c') ∧ W4.cell? ⟨bt, ot + b, none⟩ = some (.slice A'' rows[b].length c'') :=
    ⟨(HW.out.below.cell (p := ⟨R, 2, none⟩) r3).trans ht, (HW.out.below.cell (p := ⟨bt, ot + a, none⟩) hbt).trans hcell, (HW.out.below.cell (p := ⟨bt, ot + b, none⟩) hbt).trans hcell'⟩
  obtain ⟨_, _, c0, x0, x1, x2, x3, a0, af, b0, bf⟩ := HW.out
  have HT0 := Lib.hid ht
  have HC0 := Lib.hid hcell'
  clear ht hcell hcell' r1 r2
  go_region
  go_wp2_with fail
  have HW5 := Lib.hid (HW.out.setA (.slice A' rows[a].length c'))
  change Code.wp _ _ _ _ (W4.drew.setCell ⟨w.heap.size + 2, 0, none⟩ (.slice A' rows[a].length c'))
  clear c0 x0 x1 x2 x3 a0 af b0 bf g1 g2 g3 HW
  generalize W4.drew.setCell ⟨w.heap.size + 2, 0, none⟩ (.slice A' rows[a].length c') = W5 at *
  obtain ⟨g1, g3⟩ : W5.cell? ⟨R, 2, none⟩ = some (.slice (some ⟨bt, ot, none⟩) rows.length tc) ∧ W5.cell? ⟨bt, ot + b, none⟩ = some (.slice A'' rows[b].length c'') :=
    ⟨(HW5.out.below.cell (p := ⟨R, 2, none⟩) r3).trans HT0.out, (HW5.out.below.cell (p := ⟨bt, ot + b, none⟩) hbt).trans HC0.out⟩
  obtain ⟨_, _, c0, x0, x1, x2, x3, a0, af, b0, bf⟩ := HW5.out
  have HW6 := Lib.hid (HW5.out.setB (.slice A'' rows[b].length c''))
  have HT : ∀ W6 : World, W6 = W5.drew.setCell ⟨w.heap.size + 3, 0, none⟩ (.slice A'' rows[b].length c'') → CapB W6 (w.heap.size + 2) rows[a] ∧ CapB W6 (w.heap.size + 3) rows[b] ∧ RdrAt W6 R A n c h ∧ Below w.heap.size w W6 ∧ w.heap.size ≤ W6.heap.size := by
    rintro W6 rfl
    obtain ⟨hsz, hbl, _, _, _, _, _, a0, _, b0, _⟩ := HW6.out
    exact ⟨⟨A', c', a0, HROW.out.below hbl, by omega⟩, ⟨A'', c'', b0, HROW'.out.below hbl, by omega⟩, HR.out.below hbl r3, hbl, by omega⟩
  have HTT := Lib.hid (HT _ rfl)
  have HGA : Hid (∀ i, gB rows a i = rows[a].getD i false) := fun i => by simp [gB, ha]
  have HGB : Hid (∀ i, gB rows b i = rows[b].getD i false) := fun i => by simp [gB, hb]
  clear HT HW6
  rcases hk with rfl | rfl | rfl | rfl
  · go_region
    go_wp2_with fail
    change Calls _ _ _ (W5.drew.setCell ⟨w.heap.size + 3, 0, none⟩ (.slice A'' rows[b].length c'')) _
    clear c0 x0 x1 x2 x3 a0 af b0 bf g1 g3 HW5
    generalize W5.drew.setCell ⟨w.heap.size + 3, 0, none⟩ (.slice A'' rows[b].length c'') = W6 at *
    refine (fill_ R A c n h false _ _ (fun i _ => rows[a].getD i false && rows[b].getD i false) W6 HTT.out.2.2.1 hn0 hn do3E (do3_ _ _ n rows[a] rows[b] W6 HTT.out.1 HTT.out.2.1 HLA.out HLB.out) (by simp)).mono ?_
    rintro e w1 ⟨g, out, rfl, hg, hrow, hgood, hfix, hb1⟩
    have HP : Hid (NodePost w ((List.range n).map fun p => gB rows a p && gB rows b p) (.returned (.slice (some ⟨g, 0, none⟩) n n)) w1) := by
      have := row_eq hgood.len (row_plain hfix)
      refine ⟨g, by simp, Nat.le_trans HTT.out.2.2.2.2 hg, ?_, Below_on HTT.out.2.2.2.1 hb1 HTT.out.2.2.2.2⟩
      rw [show (fun p => gB rows a p && gB rows b p) = (fun i => rows[a].getD i false && rows[b].getD i false) from funext fun i => by rw [HGA.out, HGB.out], ← this]
      exact hrow
    clear hg hrow hgood hfix hb1
    go_wp2
    go_ret
    exact HP.out
  · go_region
    go_wp2_with fail
    change Calls _ _ _ (W5.drew.setCell ⟨w.heap.size + 3, 0, none⟩ (.slice A'' rows[b].length c'')) _
    clear c0 x0 x1 x2 x3 a0 af b0 bf g1 g3 HW5
    generalize W5.drew.setCell ⟨w.heap.size + 3, 0, none⟩ (.slice A'' rows[b].length c'') = W6 at *
    refine (fill_ R A c n h false _ _ (fun i _ => rows[a].getD i false || rows[b].getD i false) W6 HTT.out.2.2.1 hn0 hn do4E (do4_ _ _ n rows[a] rows[b] W6 HTT.out.1 HTT.out.2.1 HLA.out HLB.out) (by simp)).mono ?_
    rintro e w1 ⟨g, out, rfl, hg, hrow, hgood, hfix, hb1⟩
    have HP : Hid (NodePost w ((List.range n).map fun p => gB rows a p || gB rows b p) (.returned (.slice (some ⟨g, 0, none⟩) n n)) w1) := by
      have := row_eq hgood.len (row_plain hfix)
      refine ⟨g, by simp, Nat.le_trans HTT.out.2.2.2.2 hg, ?_, Below_on HTT.out.2.2.2.1 hb1 HTT.out.2.2.2.2⟩
      rw [show (fun p => gB rows a p || gB rows b p) = (fun i => rows[a].getD i false || rows[b].getD i false) from funext fun i => by rw [HGA.out, HGB.out], ← this]
      exact hrow
    clear hg hrow hgood hfix hb1
    go_wp2
    go_ret
    exact HP.out
  · go_region
    go_wp2_with fail
    change Calls _ _ _ (W5.drew.setCell ⟨w.heap.size + 3, 0, none⟩ (.slice A'' rows[b].length c'')) _
    clear c0 x0 x1 x2 x3 a0 af b0 bf g1 g3 HW5
    generalize W5.drew.setCell ⟨w.heap.size + 3, 0, none⟩ (.slice A'' rows[b].length c'') = W6 at *
    refine (fill_ R A c n h false _ _ (fun i nb => rows[b].getD i false || rows[a].getD i false && nb) W6 HTT.out.2.2.1 hn0 hn do6E (do6_ _ _ n rows[a] rows[b] W6 HTT.out.1 HTT.out.2.1 HLA.out HLB.out) (fun i _ => by cases rows[b].getD i false <;> simp)).mono ?_
    rintro e w1 ⟨g, out, rfl, hg, hrow, hgood, hfix, hb1⟩
    have HP : Hid (NodePost w ((List.range n).map fun p => unt n h (gB rows a) (gB rows b) n p) (.returned (.slice (some ⟨g, 0, none⟩) n n)) w1) := by
      have := row_eq hgood.len (row_until (a := fun i => rows[a].getD i false) (b := fun i => rows[b].getD i false) hn0 hgood hfix)
      refine ⟨g, by simp, Nat.le_trans HTT.out.2.2.2.2 hg, ?_, Below_on HTT.out.2.2.2.1 hb1 HTT.out.2.2.2.2⟩
      rw [show gB rows a = (fun i => rows[a].getD i false) from funext HGA.out, show gB rows b = (fun i => rows[b].getD i false) from funext HGB.out]
      rw [← this]
      exact hrow
    clear hg hrow hgood hfix hb1
    go_wp2
    go_ret
    exact HP.out
  · go_region
    go_wp2_with fail
    change Calls _ _ _ (W5.drew.setCell ⟨w.heap.size + 3, 0, none⟩ (.slice A'' rows[b].length c'')) _
    clear c0 x0 x1 x2 x3 a0 af b0 bf g1 g3 HW5
    generalize W5.drew.setCell ⟨w.heap.size + 3, 0, none⟩ (.slice A'' rows[b].length c'') = W6 at *
    refine (fill_ R A c n h true _ _ (fun i nb => rows[b].getD i false && (rows[a].getD i false || nb)) W6 HTT.out.2.2.1 hn0 hn do7E (do7_ _ _ n rows[a] rows[b] W6 HTT.out.1 HTT.out.2.1 HLA.out HLB.out) (fun i _ => by cases rows[b].getD i false <;> simp)).mono ?_
    rintro e w1 ⟨g, out, rfl, hg, hrow, hgood, hfix, hb1⟩
    have HP : Hid (NodePost w ((List.range n).map fun p => rls n h (gB rows a) (gB rows b) n p) (.returned (.slice (some ⟨g, 0, none⟩) n n)) w1) := by
      have := row_eq hgood.len (row_release (a := fun i => rows[a].getD i false) (b := fun i => rows[b].getD i false) hn0 hgood hfix)
      refine ⟨g, by simp, Nat.le_trans HTT.out.2.2.2.2 hg, ?_, Below_on HTT.out.2.2.2.1 hb1 HTT.out.2.2.2.2⟩
      rw [show gB rows a = (fun i => rows[a].getD i false) from funext HGA.out, show gB rows b = (fun i => rows[b].getD i false) from funext HGB.out]
      rw [← this]
      exact hrow
    clear hg hrow hgood hfix hb1
    go_wp2
    go_ret
    exact HP.out
set_option maxRecDepth 100000 in
set_option maxHeartbeats 1000000 in
theorem nodeA_ (R : Nat) (A : Option Addr) (c n h : Nat) (T : Option Addr) (tc : Nat) (rows : List (List Bool)) (k : Int) (hk : k = 3 ∨ k = 6) (a : Nat) (b d : Int) (w : World)
    (hr : RdrAt w R A n c h) (hn0 : h < n) (hn : n ≤ 1000000) (ht : w.cell? ⟨R, 2, none⟩ = some (.slice T rows.length tc)) (hrows : RowsAt w T tc rows) (hlen : ∀ r ∈ rows, r.length = n) (ha : a < rows.length) :
    Calls Try.prog 72 #[.pointer (some ⟨R, 0, none⟩), .agg #[.int .i64 k, .int .i64 a, .int .i64 b, .int .i64 d]] w (NodePost w ((List.range n).map fun p =>
      if k = 3 then !gB rows a p else gB rows a (nx n h p))) := by
  have fA : nmA k = true := by rcases hk with rfl | rfl <;> rfl
  have fB : nmB k = false := by rcases hk with rfl | rfl <;> rfl
  have hle := hrows.le
  have hcp := hrows.cap
  have HR := Lib.hid hr
  obtain ⟨r1, r2, r3⟩ := hr
  obtain ⟨bt, ot, rfl, hbt, A', c', hcell, hrow⟩ := hrows.rd a ha
  have HLA := Lib.hid (hlen rows[a] (List.getElem_mem ha))
  have HROW := Lib.hid hrow
  have HW := Lib.hid (nodeW_is w R k a b d)
  clear hlen hrow hrows
  go_enter Try.func72, Try.ntmps72
  go_wp2_with (go_at_call 84; refine (Names_ _ _).mono ?_; rintro e w' ⟨rfl, rfl⟩)
  change Code.wp _ _ _ _ (nodeW w R k a b d)
  generalize nodeW w R k a b d = W5 at *
  obtain ⟨g1, g2⟩ : W5.cell? ⟨R, 2, none⟩ = some (.slice (some ⟨bt, ot, none⟩) rows.length tc) ∧ W5.cell? ⟨bt, ot + a, none⟩ = some (.slice A' rows[a].length c') :=
    ⟨(HW.out.below.cell (p := ⟨R, 2, none⟩) r3).trans ht, (HW.out.below.cell (p := ⟨bt, ot + a, none⟩) hbt).trans hcell⟩
  obtain ⟨_, _, c0, x0, x1, x2, x3, a0, af, b0, bf⟩ := HW.out
  clear ht hcell r1 r2
  have HW6 := Lib.hid (HW.out.setA (.slice A' rows[a].length c'))
  have HT : ∀ W6 : World, W6 = W5.drew.setCell ⟨w.heap.size + 2, 0, none⟩ (.slice A' rows[a].length c') → CapB W6 (w.heap.size + 2) rows[a] ∧ (W6.cell? ⟨w.heap.size, 0, none⟩ = some (.pointer (some ⟨R, 0, none⟩)) ∧ w.heap.size < W6.heap.size) ∧ RdrAt W6 R A n c h ∧ Below w.heap.size w W6 ∧ w.heap.size ≤ W6.heap.size := by
    rintro W6 rfl
    obtain ⟨hsz, hbl, c0, _, _, _, _, a0, _, b0, _⟩ := HW6.out
    exact ⟨⟨A', c', a0, HROW.out.below hbl, by omega⟩, ⟨c0, by omega⟩, HR.out.below hbl r3, hbl, by omega⟩
  have HTT := Lib.hid (HT _ rfl)
  have HGA : Hid (∀ i, gB rows a i = rows[a].getD i false) := fun i => by simp [gB, ha]
  clear HT HW6
  rcases hk with rfl | rfl
  · go_region
    go_wp2_with fail
    change Calls _ _ _ (W5.drew.setCell ⟨w.heap.size + 2, 0, none⟩ (.slice A' rows[a].length c')) _
    clear c0 x0 x1 x2 x3 a0 af b0 bf g1 g2 HW
    generalize W5.drew.setCell ⟨w.heap.size + 2, 0, none⟩ (.slice A' rows[a].length c') = W6 at *
    refine (fill_ R A c n h false _ _ (fun i _ => !rows[a].getD i false) W6 HTT.out.2.2.1 hn0 hn (do2E) (do2_ _ n rows[a] W6 HTT.out.1 HLA.out) (by simp)).mono ?_
    rintro e w1 ⟨g, out, rfl, hg, hrow, hgood, hfix, hb1⟩
    have HP : Hid (NodePost w ((List.range n).map fun p => !gB rows a p) (.returned (.slice (some ⟨g, 0, none⟩) n n)) w1) := by
      have := row_eq hgood.len (row_plain hfix)
      refine ⟨g, by simp, Nat.le_trans HTT.out.2.2.2.2 hg, ?_, Below_on HTT.out.2.2.2.1 hb1 HTT.out.2.2.2.2⟩
      rw [show (fun p => !gB rows a p) = (fun i => !rows[a].getD i false) from funext fun i => by rw [HGA.out], ← this]
      exact hrow
    clear hg hrow hgood hfix hb1
    go_wp2
    go_ret
    exact HP.out
  · go_region
    go_wp2_with fail
    change Calls _ _ _ (W5.drew.setCell ⟨w.heap.size + 2, 0, none⟩ (.slice A' rows[a].length c')) _
    clear c0 x0 x1 x2 x3 a0 af b0 bf g1 g2 HW
    generalize W5.drew.setCell ⟨w.heap.size + 2, 0, none⟩ (.slice A' rows[a].length c') = W6 at *
    refine (fill_ R A c n h false _ _ (fun i _ => rows[a].getD (nx n h i) false) W6 HTT.out.2.2.1 hn0 hn (do5E) (do5_ _ _ R n A c h rows[a] W6 HTT.out.1 HLA.out HTT.out.2.1.1 HTT.out.2.1.2 HTT.out.2.2.1 hn hn0) (by simp)).mono ?_
    rintro e w1 ⟨g, out, rfl, hg, hrow, hgood, hfix, hb1⟩
    have HP : Hid (NodePost w ((List.range n).map fun p => gB rows a (nx n h p)) (.returned (.slice (some ⟨g, 0, none⟩) n n)) w1) := by
      have := row_eq hgood.len (row_plain hfix)
      refine ⟨g, by simp, Nat.le_trans HTT.out.2.2.2.2 hg, ?_, Below_on HTT.out.2.2.2.1 hb1 HTT.out.2.2.2.2⟩
      rw [show (fun p => gB rows a (nx n h p)) = (fun i => rows[a].getD (nx n h i) false) from funext fun i => by rw [HGA.out], ← this]
      exact hrow
    clear hg hrow hgood hfix hb1
    go_wp2
    go_ret
    exact HP.out

set_option maxRecDepth 100000 in
set_option maxHeartbeats 1000000 in
theorem nodeN_ (R : Nat) (A : Option Addr) (c n h : Nat) (xs : List Int) (k : Int) (hk : k = 1 ∨ k = 2) (a b : Int) (d : Nat) (hd : d ≤ 2) (w : World)
    (hr : RdrAt w R A xs.length c h) (hl : xs.length = n) (hx : Ints w 0 A c xs) (hxb : ∀ (i : Nat) (hi : i < xs.length), 0 ≤ xs[i] ∧ xs[i] ≤ 7) (hn0 : h < n) (hn : n ≤ 1000000) :
    Calls Try.prog 72 #[.pointer (some ⟨R, 0, none⟩), .agg #[.int .i64 k, .int .i64 a, .int .i64 b, .int .i64 d]] w (NodePost w ((List.range n).map fun p =>
      if k = 1 then true else bitOf (xs.getD p 0) d)) := by
  have fA : nmA k = false := by rcases hk with rfl | rfl <;> rfl
  have fB : nmB k = false := by rcases hk with rfl | rfl <;> rfl
  have HR := Lib.hid hr
  have HW := Lib.hid (nodeW_is w R k a b d)
  have HX := Lib.hid hx
  have HXB := Lib.hid hxb
  have r3 := hr.2.2
  have HT : ∀ W6 : World, W6 = nodeW w R k a b d → W6.cell? ⟨w.heap.size, 0, none⟩ = some (.pointer (some ⟨R, 0, none⟩)) ∧ w.heap.size < W6.heap.size ∧ W6.cell? ⟨w.heap.size + 1, 3, none⟩ = some (.int .i64 d) ∧ w.heap.size + 1 < W6.heap.size ∧ Ints W6 0 A c xs ∧ RdrAt W6 R A xs.length c h ∧ Below w.heap.size w W6 ∧ w.heap.size ≤ W6.heap.size := by
    rintro W6 rfl
    obtain ⟨hsz, hbl, c0, _, _, _, x3, _, _, _, _⟩ := HW.out
    exact ⟨c0, by omega, x3, by omega, HX.out.below hbl, HR.out.below hbl r3, hbl, by omega⟩
  have HTT := Lib.hid (HT _ rfl)
  clear HT hr hx hxb
  have HL := Lib.hid hl
  have hn1 : h < xs.length := by omega
  have hn2 : xs.length ≤ 1000000 := by omega
  clear hl
  rcases hk with rfl | rfl
  · go_enter Try.func72, Try.ntmps72
    go_wp2_with (go_at_call 84; refine (Names_ _ _).mono ?_; rintro e w' ⟨rfl, rfl⟩)
    change Calls _ _ _ (nodeW w R 1 a b d) _
    generalize nodeW w R 1 a b d = W6 at *
    refine (fill_ R A c xs.length h true _ _ (fun _ _ => true) W6 HTT.out.2.2.2.2.2.1 hn1 hn2 (do8E) (do8_ xs.length W6) (by simp)).mono ?_
    rintro e w1 ⟨g, out, rfl, hg, hrow, hgood, hfix, hb1⟩
    have HP : Hid (NodePost w ((List.range n).map (fun _ => true)) (.returned (.slice (some ⟨g, 0, none⟩) xs.length xs.length)) w1) := by
      rw [← HL.out]
      have := row_eq hgood.len (row_plain hfix)
      refine ⟨g, by simp, Nat.le_trans HTT.out.2.2.2.2.2.2.2 hg, ?_, Below_on HTT.out.2.2.2.2.2.2.1 hb1 HTT.out.2.2.2.2.2.2.2⟩
      rw [← this]
      exact hrow
    clear hg hrow hgood hfix hb1
    go_wp2
    go_ret
    exact HP.out
  · go_enter Try.func72, Try.ntmps72
    go_wp2_with (go_at_call 84; refine (Names_ _ _).mono ?_; rintro e w' ⟨rfl, rfl⟩)
    change Calls _ _ _ (nodeW w R 2 a b d) _
    generalize nodeW w R 2 a b d = W6 at *
    refine (fill_ R A c xs.length h false _ _ (fun i _ => bitOf (xs.getD i 0) d) W6 HTT.out.2.2.2.2.2.1 hn1 hn2 (do1E) (do1_ _ _ R xs.length d A c h xs W6 HTT.out.1 HTT.out.2.1 HTT.out.2.2.1 HTT.out.2.2.2.1 HTT.out.2.2.2.2.2.1 HTT.out.2.2.2.2.1 rfl hd HXB.out) (by simp)).mono ?_
    rintro e w1 ⟨g, out, rfl, hg, hrow, hgood, hfix, hb1⟩
    have HP : Hid (NodePost w ((List.range n).map (fun i => bitOf (xs.getD i 0) d)) (.returned (.slice (some ⟨g, 0, none⟩) xs.length xs.length)) w1) := by
      rw [← HL.out]
      have := row_eq hgood.len (row_plain hfix)
      refine ⟨g, by simp, Nat.le_trans HTT.out.2.2.2.2.2.2.2 hg, ?_, Below_on HTT.out.2.2.2.2.2.2.1 hb1 HTT.out.2.2.2.2.2.2.2⟩
      rw [← this]
      exact hrow
    clear hg hrow hgood hfix hb1
    go_wp2
    go_ret
    exact HP.out
end Go.Proofs.Ytoglgeaiiipchab

namespace Go.Proofs.Ytoglgeaiiipchab
open Go Go.RowKit Go.Shelf

theorem La.at_row {l : La} {p : Nat} (hp : p < l.n) : (l.h ++ l.l).getD p 0 = l.at p := by
  unfold La.at
  unfold La.n at hp
  rw [List.getD_eq_getElem?_getD]
  by_cases h : p < l.h.length
  · rw [if_pos h, List.getElem?_append_left h, List.getD_eq_getElem?_getD]
  · rw [if_neg h, List.getElem?_append_right (by omega), List.getD_eq_getElem?_getD, Nat.mod_eq_of_lt (by omega)]

theorem hnd_ok {x : Nd} {i : Int} (h : ndErr x i = 0) : btw x.k 1 8 = true ∧ (nmA x.k = true → 0 ≤ x.a ∧ x.a ≤ i - 1) ∧ (nmB x.k = true → 0 ≤ x.b ∧ x.b ≤ i - 1) ∧ (x.k = 2 → 0 ≤ x.n ∧ x.n ≤ 2) ∧ (x.k ≠ 2 → x.n = 0) := by
  unfold ndErr at h
  split at h
  · simp at h
  · rename_i h1
    split at h
    · simp at h
    · rename_i h2
      split at h
      · simp at h
      · rename_i h3
        split at h
        · simp at h
        · rename_i h4
          refine ⟨by simpa using h1, fun ha => ?_, fun hb => ?_, fun hk => ?_, fun hk => ?_⟩
          · have : btw x.a 0 (i - 1) = true := by cases e : btw x.a 0 (i - 1) <;> simp_all
            exact (btw_iff _ _ _).1 this
          · have : btw x.b 0 (i - 1) = true := by cases e : btw x.b 0 (i - 1) <;> simp_all
            exact (btw_iff _ _ _).1 this
          · have : btw x.n 0 2 = true := by cases e : btw x.n 0 2 <;> simp_all [nmN]
            exact (btw_iff _ _ _).1 this
          · cases e : (x.n != 0) <;> simp_all [nmN]

theorem NodePost.congr {w : World} {r r' : List Bool} (h : r = r') {e : Ending} {w' : World} (hp : NodePost w r e w') : NodePost w r' e w' := by rw [← h]; exact hp

set_option maxHeartbeats 1000000 in
theorem holdsNode_ (R : Nat) (A : Option Addr) (c : Nat) (l : La) (T : Option Addr) (tc : Nat) (rows : List (List Bool)) (x : Nd) (w : World)
    (hr : RdrAt w R A l.n c l.h.length) (hx : Ints w 0 A c (l.h ++ l.l)) (hxb : ∀ (i : Nat) (hi : i < (l.h ++ l.l).length), 0 ≤ (l.h ++ l.l)[i] ∧ (l.h ++ l.l)[i] ≤ 7)
    (hn0 : l.h.length < l.n) (hn : l.n ≤ 1000000) (ht : w.cell? ⟨R, 2, none⟩ = some (.slice T rows.length tc)) (hrows : RowsAt w T tc rows) (hlen : ∀ r ∈ rows, r.length = l.n) (hok : ndErr x rows.length = 0) :
    Calls Try.prog 72 #[.pointer (some ⟨R, 0, none⟩), .agg #[.int .i64 x.k, .int .i64 x.a, .int .i64 x.b, .int .i64 x.n]] w (NodePost w (rowOf l rows x)) := by
  obtain ⟨k1, ka, kb, kn, kz⟩ := hnd_ok hok
  rw [btw_iff] at k1
  obtain ⟨k, a, b, n⟩ := x
  simp only at k1 ka kb kn kz ⊢
  have hk : k = 1 ∨ k = 2 ∨ k = 3 ∨ k = 4 ∨ k = 5 ∨ k = 6 ∨ k = 7 ∨ k = 8 := by omega
  have hxl : (l.h ++ l.l).length = l.n := by simp [La.n]
  have AB : (k = 4 ∨ k = 5 ∨ k = 7 ∨ k = 8) → Calls Try.prog 72 #[.pointer (some ⟨R, 0, none⟩), .agg #[.int .i64 k, .int .i64 a, .int .i64 b, .int .i64 n]] w (NodePost w (rowOf l rows ⟨k, a, b, n⟩)) := by
    intro hk4
    have fa := ka (by rcases hk4 with rfl | rfl | rfl | rfl <;> rfl)
    have fb := kb (by rcases hk4 with rfl | rfl | rfl | rfl <;> rfl)
    obtain ⟨a, rfl⟩ := Int.eq_ofNat_of_zero_le fa.1
    obtain ⟨b, rfl⟩ := Int.eq_ofNat_of_zero_le fb.1
    refine (nodeAB_ R A c l.n l.h.length T tc rows k hk4 a b n w hr hn0 hn ht hrows hlen (by omega) (by omega)).mono fun e w' hp => NodePost.congr ?_ hp
    unfold rowOf
    apply List.map_congr_left
    intro p _
    rcases hk4 with rfl | rfl | rfl | rfl <;> simp [nodeVal]
  have AA : (k = 3 ∨ k = 6) → Calls Try.prog 72 #[.pointer (some ⟨R, 0, none⟩), .agg #[.int .i64 k, .int .i64 a, .int .i64 b, .int .i64 n]] w (NodePost w (rowOf l rows ⟨k, a, b, n⟩)) := by
    intro hk4
    have fa := ka (by rcases hk4 with rfl | rfl <;> rfl)
    obtain ⟨a, rfl⟩ := Int.eq_ofNat_of_zero_le fa.1
    refine (nodeA_ R A c l.n l.h.length T tc rows k hk4 a b n w hr hn0 hn ht hrows hlen (by omega)).mono fun e w' hp => NodePost.congr ?_ hp
    unfold rowOf
    apply List.map_congr_left
    intro p _
    rcases hk4 with rfl | rfl <;> simp [nodeVal]
  have NN : (k = 1 ∨ k = 2) → Calls Try.prog 72 #[.pointer (some ⟨R, 0, none⟩), .agg #[.int .i64 k, .int .i64 a, .int .i64 b, .int .i64 n]] w (NodePost w (rowOf l rows ⟨k, a, b, n⟩)) := by
    intro hk4
    have fn : 0 ≤ n ∧ n ≤ 2 := by
      by_cases h2 : k = 2
      · exact kn h2
      · rw [kz h2]; omega
    obtain ⟨n, rfl⟩ := Int.eq_ofNat_of_zero_le fn.1
    refine (nodeN_ R A c l.n l.h.length (l.h ++ l.l) k hk4 a b n (by omega) w (by rw [hxl]; exact hr) hxl hx hxb hn0 hn).mono fun e w' hp => NodePost.congr ?_ hp
    unfold rowOf
    apply List.map_congr_left
    intro p hp
    have hp' : p < l.n := by simpa using hp
    rw [La.at_row hp']
    rcases hk4 with rfl | rfl <;> simp [nodeVal]
  rcases hk with h | h | h | h | h | h | h | h
  · exact NN (.inl h)
  · exact NN (.inr h)
  · exact AA (.inl h)
  · exact AB (.inl h)
  · exact AB (.inr (.inl h))
  · exact AA (.inr h)
  · exact AB (.inr (.inr (.inl h)))
  · exact AB (.inr (.inr (.inr h)))
end Go.Proofs.Ytoglgeaiiipchab
