/- Walks: slices.SortFunc of steps by auto.Order; slices.Compact of steps. -/
import Derived.Test.YtoglgeaiiipchabLTTM18
import Derived.Test.YtoglgeaiiipchabSrtL
import Derived.Test.YtoglgeaiiipchabLTTM15
import Derived.Test.YtoglgeaiiipchabLTTM4
import Derived.Test.YtoglgeaiiipchabLTTM10
import Derived.Shelf.SlSortCmp.NoneTotal
set_option linter.unusedSimpArgs false
set_option linter.unusedVariables false
namespace Go.Proofs.Ytoglgeaiiipchab
open Go Go.RowKit Go.Maps

theorem itD_size_fold : ∀ (D : List (Int × Int)) (m : DataW Unit), Tidy m → (D.map Prod.fst).Nodup → (∀ p ∈ D, has m (.int .i64 p.1) = false) → Maps.size (D.foldl (fun m p => m.put (.int .i64 p.1) (itL p.2)) m) = Maps.size m + D.length
  | [], _, _, _, _ => rfl
  | p :: D, m, hm, hn, hh => by
    rw [List.map_cons, List.nodup_cons] at hn
    rw [List.foldl_cons, itD_size_fold D _ (hm.put (show WideAt.IsKeyLit (.int .i64 p.1) from trivial) _) hn.2 (fun q hq => by
      rw [has_put_other (fun e => hn.1 (by
        have e2 : q.1 = p.1 := by simpa using e
        rw [← e2]
        exact List.mem_map_of_mem hq))]
      exact hh q (List.mem_cons_of_mem _ hq)), size_put hm, hh p (List.mem_cons_self ..)]
    simp
    omega
theorem at_size {f : List Nd} : Maps.size (itD (atD f f.length)) = tn f := by
  have h := itD_size_fold (atD f f.length) (.map []) tidy_empty (atD_nodup _ _) (fun p _ => rfl)
  rw [show Maps.size (.map [] : DataW Unit) = 0 from rfl, Nat.zero_add, atD_len f f.length (Nat.le_refl _)] at h
  exact h
/-- good states so far -/
def gsTo (f : List Nd) (k : Nat) : List Bool := (List.range (2 ^ tn f * ((fair f).length + 1) + 1)).map fun i => decide (i ≠ 0 ∧ (i - 1) % ((fair f).length + 1) = (fair f).length ∧ (i - 1) / ((fair f).length + 1) < k)
theorem gsTo_len (f : List Nd) (k : Nat) : (gsTo f k).length = 2 ^ tn f * ((fair f).length + 1) + 1 := by simp [gsTo]
theorem gsTo_zero (f : List Nd) : gsTo f 0 = List.replicate (2 ^ tn f * ((fair f).length + 1) + 1) false := by
  unfold gsTo
  apply List.ext_getElem
  · simp
  · intro i h1 h2
    simp
theorem gsTo_end (f : List Nd) : gsTo f (2 ^ tn f) = tabGs f := by
  unfold gsTo tabGs
  apply List.map_congr_left
  intro i hi
  have hi := List.mem_range.1 hi
  have : i ≠ 0 → (i - 1) / ((fair f).length + 1) < 2 ^ tn f := fun h0 => by
    rw [Nat.div_lt_iff_lt_mul (by omega)]
    omega
  by_cases h0 : i = 0 <;> simp [h0]
  intro _
  exact this h0
theorem gsTo_succ (f : List Nd) {k : Nat} (hk : k < 2 ^ tn f) : (gsTo f k).set (1 + k * ((fair f).length + 1) + (fair f).length) true = gsTo f (k + 1) := by
  unfold gsTo
  generalize (fair f).length = n
  apply List.ext_getElem
  · simp
  · intro i h1 h2
    rw [List.getElem_set]
    simp only [List.length_map, List.length_range] at h2
    simp only [List.getElem_map, List.getElem_range]
    split
    · rename_i he
      have hi : i - 1 = k * (n + 1) + n := by omega
      have hm : (k * (n + 1) + n) % (n + 1) = n := by rw [Nat.add_comm, Nat.add_mul_mod_self_right, Nat.mod_eq_of_lt (by omega)]
      have hd : (k * (n + 1) + n) / (n + 1) = k := by rw [Nat.add_comm, Nat.add_mul_div_right _ _ (by omega), Nat.div_eq_of_lt (by omega)]; omega
      rw [hi, hm, hd]
      simp
      omega
    · rename_i he
      by_cases h0 : i = 0
      · simp [h0]
      by_cases hm : (i - 1) % (n + 1) = n
      · have hdm := Nat.div_add_mod (i - 1) (n + 1)
        have : (i - 1) / (n + 1) ≠ k := fun hd => by
          rw [hd, hm, Nat.mul_comm] at hdm
          omega
        simp [h0, hm]
        omega
      · simp [h0, hm]
/-- the edges of the letters below c, and of c up to a promise -/
structure EdM (f : List Nd) (c j : Nat) (es : List Stp) : Prop where
  mem : ∀ s, s ∈ es ↔ ∃ c' nx p, (c' < c ∨ c' = c ∧ nx < j) ∧ nx < 2 ^ tn f ∧ KeptIs f (truths f c' nx) p ∧ s ∈ edAll f c' nx p
  len : es.length ≤ (c * 16 + j) * 6
theorem EdM.start (f : List Nd) : EdM f 0 0 [] := ⟨fun s => ⟨fun h => (by cases h), fun ⟨c', nx, p, h, _⟩ => (by omega)⟩, by simp⟩
theorem edAll_len {f : List Nd} (hf : FmOK f) (c nx p : Nat) : (edAll f c nx p).length ≤ 6 := by
  unfold edAll ed0
  rw [List.length_append, edW_len]
  have := tn_le hf
  split
  · simp; omega
  · simp; omega
theorem EdM.add {f : List Nd} (hf : FmOK f) {c j p : Nat} {es : List Stp} (h : EdM f c j es) (hj : j < 2 ^ tn f) (hp : KeptIs f (truths f c j) p) : EdM f c (j + 1) (es ++ edAll f c j p) := by
  refine ⟨fun s => ?_, ?_⟩
  · rw [List.mem_append, h.mem]
    constructor
    · rintro (⟨c', nx, p', h1, h2⟩ | h1)
      · exact ⟨c', nx, p', by omega, h2⟩
      · exact ⟨c, j, p, by omega, hj, hp, h1⟩
    · rintro ⟨c', nx, p', h1, h2, h3, h4⟩
      by_cases he : c' = c ∧ nx = j
      · obtain ⟨rfl, rfl⟩ := he
        rw [kept_unique h3 hp] at h4
        exact .inr h4
      · exact .inl ⟨c', nx, p', by omega, h2, h3, h4⟩
  · rw [List.length_append]
    have := edAll_len hf c j p
    have := h.len
    omega
theorem EdM.next {f : List Nd} (hf : FmOK f) {c : Nat} {es : List Stp} (h : EdM f c (2 ^ tn f) es) : EdM f (c + 1) 0 es := by
  refine ⟨fun s => ?_, ?_⟩
  · rw [h.mem]
    constructor
    · rintro ⟨c', nx, p', h1, h2⟩
      exact ⟨c', nx, p', by omega, h2⟩
    · rintro ⟨c', nx, p', h1, h2, h3⟩
      exact ⟨c', nx, p', by omega, h2, h3⟩
  · have := h.len
    have : 2 ^ tn f ≤ 16 := Nat.pow_le_pow_right (n := 2) (by decide) (tn_le hf).1
    omega
theorem EdM.raw {f : List Nd} {es : List Stp} (h : EdM f 8 0 es) : TabRaw f es := fun s => by
  rw [h.mem]
  constructor
  · rintro ⟨c, nx, p, h1, h2, h3, h4⟩
    refine ⟨c, nx, p, by omega, h2, h3, ?_⟩
    unfold edAll at h4
    rcases List.mem_append.1 h4 with h5 | h5
    · unfold edW at h5
      obtain ⟨v, hv, rfl⟩ := List.mem_map.1 h5
      exact .inl ⟨v, by have := List.mem_range.1 hv; omega, rfl⟩
    · unfold ed0 at h5
      split at h5
      · exact .inr ⟨by assumption, List.mem_singleton.1 h5⟩
      · cases h5
  · rintro ⟨c, nx, p, h1, h2, h3, h4⟩
    refine ⟨c, nx, p, by omega, h2, h3, ?_⟩
    unfold edAll
    rcases h4 with ⟨v, hv, rfl⟩ | ⟨ht, rfl⟩
    · exact List.mem_append_left _ (List.mem_map.2 ⟨v, List.mem_range.2 (by omega), rfl⟩)
    · refine List.mem_append_right _ ?_
      unfold ed0
      rw [if_pos ht]
      exact List.mem_singleton.2 rfl
end Go.Proofs.Ytoglgeaiiipchab

namespace Go.Proofs.Ytoglgeaiiipchab
open Go Go.RowKit Go.Sort Go.Shelf

instance : Inhabited Stp := ⟨⟨0, 0, 0⟩⟩
/-- a row of steps in block g, all of it -/
def SRow (w : World) (g cap : Nat) (xs : List Stp) : Prop := ∃ cur, w.heap[g]? = some (.cells cur 49 (0, 0)) ∧ xs.length ≤ cap ∧ cap ≤ maxLen ∧ cur.size = cap * 3 ∧ cur.toList.take (xs.length * 3) = xs.flatMap Stp.cells
theorem flat_len (xs : List Stp) : (xs.flatMap Stp.cells).length = xs.length * 3 := flatMap_len (sz := 3) (fun _ => rfl) xs
theorem SRow.of {w : World} {B g n cap : Nat} {xs : List Stp} (h : w.ownsRow B 49 3 (.slice (some ⟨g, 0, none⟩) n cap) xs.length (xs.flatMap Stp.cells)) : n = xs.length ∧ B ≤ g ∧ SRow w g cap xs := by
  rcases h.2 with ⟨h1, _⟩ | ⟨g', cap', cur, h1, h2, h3, h4, h5, h6, h7⟩
  · cases h1
  · simp only [Value.slice.injEq, Option.some.injEq, Addr.mk.injEq] at h1
    obtain ⟨⟨rfl, _⟩, rfl, rfl⟩ := h1
    exact ⟨rfl, h2, cur, h3, h4, h5, h6, h7⟩
theorem SRow.own {w : World} {B g cap : Nat} {xs : List Stp} (h : SRow w g cap xs) (hB : B ≤ g) : w.ownsRow B 49 3 (.slice (some ⟨g, 0, none⟩) xs.length cap) xs.length (xs.flatMap Stp.cells) := by
  obtain ⟨cur, h1, h2, h3, h4, h5⟩ := h
  exact ⟨flat_len xs, .inr ⟨g, cap, cur, rfl, hB, h1, h2, h3, h4, h5⟩⟩
theorem SRow.take {w : World} {g cap : Nat} {xs : List Stp} (h : SRow w g cap xs) {k : Nat} (hk : k ≤ xs.length) : SRow w g cap (xs.take k) := by
  obtain ⟨cur, h1, h2, h3, h4, h5⟩ := h
  refine ⟨cur, h1, by rw [List.length_take]; omega, h3, h4, ?_⟩
  have hl : (xs.take k).length = k := by rw [List.length_take]; omega
  have e := congrArg (List.take (k * 3)) h5
  rw [List.take_take, Nat.min_eq_left (by omega)] at e
  rw [hl, e]
  have := flat_len (xs.take k)
  rw [hl] at this
  conv => lhs; rw [show xs = xs.take k ++ xs.drop k from (List.take_append_drop k xs).symm, List.flatMap_append]
  rw [← this, List.take_left]
theorem SRow.get {w : World} {g cap : Nat} {xs : List Stp} (h : SRow w g cap xs) {j : Nat} {u : Value} (hu : (xs.flatMap Stp.cells)[j]? = some u) : w.cell? ⟨g, j, none⟩ = some u ∧ w.frozen? ⟨g, j, none⟩ = false := by
  obtain ⟨cur, h1, h2, h3, h4, h5⟩ := h
  have hj : j < xs.length * 3 := by
    have := (List.getElem?_eq_some_iff.1 hu).1
    rwa [flat_len] at this
  rw [← h5, List.getElem?_take_of_lt hj] at hu
  exact ⟨by simp only [World.cell?, h1]; simpa using hu, by simp [World.frozen?, h1]⟩
theorem SRow.lt {w : World} {g cap : Nat} {xs : List Stp} (h : SRow w g cap xs) : g < w.heap.size := by
  obtain ⟨cur, h1, _⟩ := h
  exact (Array.getElem?_eq_some_iff.1 h1).1
theorem SRow.at_ {w : World} {g cap : Nat} {xs : List Stp} (h : SRow w g cap xs) {k : Nat} (hk : k < xs.length) : w.cell? ⟨g, k * 3, none⟩ = some (.int .i64 xs[k].f) ∧ w.cell? ⟨g, k * 3 + 1, none⟩ = some (.int .i64 xs[k].l) ∧ w.cell? ⟨g, k * 3 + 2, none⟩ = some (.int .i64 xs[k].t) ∧
    w.frozen? ⟨g, k * 3, none⟩ = false ∧ w.frozen? ⟨g, k * 3 + 1, none⟩ = false ∧ w.frozen? ⟨g, k * 3 + 2, none⟩ = false := by
  have a0 := h.get (flatMap_get (enc := Stp.cells) (sz := 3) (fun _ => rfl) xs k hk 0 _ rfl)
  have a1 := h.get (flatMap_get (enc := Stp.cells) (sz := 3) (fun _ => rfl) xs k hk 1 _ rfl)
  have a2 := h.get (flatMap_get (enc := Stp.cells) (sz := 3) (fun _ => rfl) xs k hk 2 _ rfl)
  exact ⟨a0.1, a1.1, a2.1, a0.2, a1.2, a2.2⟩
theorem SRow.below {w w' : World} {g cap B : Nat} {xs : List Stp} (h : SRow w g cap xs) (hb : Below B w w') (hg : g < B) : SRow w' g cap xs := by
  obtain ⟨cur, h1, r⟩ := h
  exact ⟨cur, (hb.block g hg).trans h1, r⟩

/-! ### the sort -/
theorem flatK_list (d : List Stp) : (flatK Stp.cells 3 d.toArray).toList = d.flatMap Stp.cells := by
  refine List.ext_getElem (by rw [flat_len]; simp) fun i h1 h2 => ?_
  rw [flat_len] at h2
  have hk : i / 3 < d.length := by omega
  have e1 : (flatK Stp.cells 3 d.toArray)[i]! = (Stp.cells d.toArray[i / 3]!)[i % 3]! := get_flatK _ _ _ i (by simpa using h2)
  have h1' : i < (flatK Stp.cells 3 d.toArray).size := by simpa using h1
  rw [getElem!_pos (flatK Stp.cells 3 d.toArray) i h1'] at e1
  have e2 : d.toArray[i / 3]! = d[i / 3] := by simp [hk]
  have hm : i % 3 < (Stp.cells d[i / 3]).length := by simp [Stp.cells]; omega
  rw [e2, getElem!_pos (Stp.cells d[i / 3]) (i % 3) hm] at e1
  have e3 := flatMap_get (enc := Stp.cells) (sz := 3) (fun _ => rfl) d (i / 3) hk (i % 3) _ (List.getElem?_eq_getElem hm)
  rw [show i / 3 * 3 + i % 3 = i by omega] at e3
  rw [List.getElem?_eq_getElem (by rw [flat_len]; exact h2)] at e3
  rw [Option.some.inj e3, ← e1]
  simp
theorem SRow.holds {w : World} {g cap : Nat} {xs : List Stp} (h : SRow w g cap xs) : HoldsK Stp.cells 3 w g 0 xs.toArray := by
  intro j hj
  have hl := flatK_list xs
  have hj2 : j < (xs.flatMap Stp.cells).length := by rw [← hl]; simpa using hj
  have := h.get (List.getElem?_eq_getElem hj2)
  have e : (flatK Stp.cells 3 xs.toArray)[j]! = (xs.flatMap Stp.cells)[j] := by
    rw [getElem!_pos (flatK Stp.cells 3 xs.toArray) j hj]
    have h3 : (flatK Stp.cells 3 xs.toArray).toList[j]'(by simpa using hj) = (xs.flatMap Stp.cells)[j] := by simp only [hl]
    simpa using h3
  rw [Nat.zero_add]
  exact ⟨by rw [this.1, e]; rfl, this.2⟩
theorem SRow.sorted {w : World} {g cap n : Nat} {xs ys : List Stp} {os : Array Obj} (h : SRow w g cap xs) (hl : ys.length = xs.length) : SRow (sortWorldK Stp.cells 3 w g 0 n ys.toArray os) g cap ys ∧ w.grownBy (sortWorldK Stp.cells 3 w g 0 n ys.toArray os) (some g) := by
  have hlt := h.lt
  obtain ⟨cur, h1, h2, h3, h4, h5⟩ := h
  have hF : (flatK Stp.cells 3 ys.toArray).size = ys.length * 3 := by simp
  have hb : ∀ k, (sortWorldK Stp.cells 3 w g 0 n ys.toArray os).heap[k]? = if k < w.heap.size then (if k = g then some (.cells (putCells id 0 (flatK Stp.cells 3 ys.toArray) cur) 49 (0, 0)) else w.heap[k]?) else os[k - w.heap.size]? := by
    intro k
    show ((mapBlock (Sort.ahead w n) g (putCells id 0 (flatK Stp.cells 3 ys.toArray))).heap ++ os)[k]? = _
    have hs : (mapBlock (Sort.ahead w n) g (putCells id 0 (flatK Stp.cells 3 ys.toArray))).heap.size = w.heap.size := by simp [mapBlock, Sort.ahead]
    rw [Array.getElem?_append, hs]
    split
    · show ((w.heap.modify g (onCells (putCells id 0 (flatK Stp.cells 3 ys.toArray)))))[k]? = _
      rw [Array.getElem?_modify]
      by_cases e : g = k
      · subst e; rw [if_pos rfl, if_pos rfl, h1]; rfl
      · rw [if_neg e, if_neg (fun x => e x.symm)]
    · rfl
  refine ⟨⟨_, by rw [hb, if_pos hlt, if_pos rfl], by omega, h3, by simp [putCells, h4], ?_⟩, ⟨rfl, rfl, rfl, ?_, fun k hk hne => by rw [hb, if_pos hk, if_neg (fun e => hne (by rw [e]))]⟩⟩
  · rw [← flatK_list]
    refine List.ext_getElem (by simp [putCells, h4]; omega) fun i i1 i2 => ?_
    have hi : i < ys.length * 3 := by simpa using i2
    rw [List.getElem_take]
    simp only [putCells, Array.getElem_toList, Array.getElem_mapIdx]
    rw [if_pos ⟨Nat.zero_le _, by rw [hF]; omega⟩]
    have : i < (flatK Stp.cells 3 ys.toArray).size := by rw [hF]; exact hi
    rw [Nat.sub_zero, getElem!_pos (flatK Stp.cells 3 ys.toArray) i this]
    rfl
  · show w.heap.size ≤ ((mapBlock (Sort.ahead w n) g (putCells id 0 (flatK Stp.cells 3 ys.toArray))).heap ++ os).size
    simp [mapBlock, Sort.ahead]
set_option maxRecDepth 100000 in
set_option maxHeartbeats 1000000 in
theorem OrderG_ (s t : Stp) (w : World) : Calls Try.prog 44 #[.agg #[.int .i64 s.f, .int .i64 s.l, .int .i64 s.t], .agg #[.int .i64 t.f, .int .i64 t.l, .int .i64 t.t]] w fun e w' => e = .returned (.int .i64 (ordV s t)) ∧ ∃ q os', w' = grow (w.drewN q) os' := by
  have HW := Lib.hid (st2W_is w s t)
  have HF : Hid (ordV s t = orV [cmpI s.f t.f, cmpI s.l t.l, cmpI s.t t.t]) := rfl
  generalize ordV s t = v at *
  have HG : Hid (∀ o, ∃ q os', ((st2W w s t).alloc o).drew = grow (w.drewN q) os') := fun o => ⟨1, _, by unfold st2W; rw [alloc_eq_grow, alloc_eq_grow, alloc_eq_grow, grow_grow, grow_grow]; rfl⟩
  go_enter Try.func44, Try.ntmps44
  go_wp2_with fail
  change Code.wp _ _ _ _ (st2W w s t)
  generalize st2W w s t = W at *
  obtain ⟨X, hX⟩ : ∃ X, X = w.heap.size := ⟨_, rfl⟩
  have h0 := HW.out.s0
  have h1 := HW.out.s1
  have h2 := HW.out.s2
  have k0 := HW.out.t0
  have k1 := HW.out.t1
  have k2 := HW.out.t2
  rw [← hX] at h0 h1 h2 k0 k1 k2 ⊢
  have HX := Lib.hid hX
  clear hX
  go_region_held3 (fun w' => w'.cell? ⟨X, 0, none⟩ = some (.int .i64 s.f) ∧ w'.cell? ⟨X, 1, none⟩ = some (.int .i64 s.l) ∧ w'.cell? ⟨X, 2, none⟩ = some (.int .i64 s.t) ∧ w'.cell? ⟨X + 1, 0, none⟩ = some (.int .i64 t.f) ∧ w'.cell? ⟨X + 1, 1, none⟩ = some (.int .i64 t.l) ∧ w'.cell? ⟨X + 1, 2, none⟩ = some (.int .i64 t.t))
    (go_keep)
    (first
      | (go_at_call 64; refine (Compare_ _ _ _).mono ?_; rintro e w' ⟨rfl, rfl⟩)
      | (go_at_call 74; refine (OrI_ _ 3 [cmpI s.f t.f, cmpI s.l t.l, cmpI s.t t.t] _ ((ints3 W 3 _ _ _).below (Below.refl _ _).drew)).mono ?_; rintro e w' ⟨rfl, rfl⟩))
  all_goals
    go_wp2_with fail
    go_ret
    refine ⟨ret_int HF.out.symm, ?_⟩
    exact HG.out _
theorem ltOf_ord (s t : Stp) : ltOf ordV s t = stpLt s t := by
  unfold ltOf
  rw [Bool.eq_iff_iff, decide_eq_true_eq]
  exact ordV_lt s t
theorem stp_total {s t : Stp} (h1 : stpLt s t = false) (h2 : stpLt t s = false) : s = t := by
  have a1 : ¬ stpLt s t = true := by rw [h1]; decide
  have a2 : ¬ stpLt t s = true := by rw [h2]; decide
  rw [stpLt_iff] at a1 a2
  cases s; cases t
  simp only [Stp.mk.injEq] at *
  omega
theorem swoOrd : SWO (ltOf ordV) where
  irrefl x := by rw [ltOf_ord]; exact stpLt_irrefl x
  trans x y z h1 h2 := by rw [ltOf_ord] at *; exact stpLt_trans h1 h2
  ntrans x y z h1 h2 := by
    rw [ltOf_ord] at *
    have a1 : ¬ stpLt x y = true := by rw [h1]; decide
    have a2 : ¬ stpLt y z = true := by rw [h2]; decide
    cases h3 : stpLt x z with
    | false => rfl
    | true =>
      rw [stpLt_iff] at a1 a2 h3
      omega
def sortS (xs : List Stp) : List Stp := xs.mergeSort fun x y => !(ltOf ordV) y x
theorem sortS_perm (xs : List Stp) : (sortS xs).Perm xs := List.mergeSort_perm _ _
theorem sortS_len (xs : List Stp) : (sortS xs).length = xs.length := (sortS_perm xs).length_eq
theorem sortS_sorted (xs : List Stp) : (sortS xs).Pairwise fun x y => stpLt y x = false := by
  have h := List.pairwise_mergeSort (le := fun x y => !(ltOf ordV) y x) (fun a b c h1 h2 => by
    simp only [Bool.not_eq_true', Bool.not_eq_eq_eq_not, Bool.not_true] at *
    exact swoOrd.ntrans _ _ _ h2 h1) (fun a b => by
    cases h : ltOf ordV b a with
    | false => rfl
    | true =>
      have : ltOf ordV a b = false := by
        cases h2 : ltOf ordV a b with
        | false => rfl
        | true => have := swoOrd.trans _ _ _ h h2; rw [swoOrd.irrefl] at this; cases this
      rw [this]; rfl) xs
  refine h.imp fun {x y} h => ?_
  rw [← ltOf_ord]
  simpa using h
def SortPost (w : World) (B : Nat) (g : Option Nat) (v : Value) (xs : List Stp) (e : Ending) (w' : World) : Prop := e = .returned (.tuple #[]) ∧ w'.ownsRow B 49 3 v (sortS xs).length ((sortS xs).flatMap Stp.cells) ∧ w.grownBy w' g
theorem SortS_ (w : World) (B : Nat) (v : Value) (xs : List Stp) (h : w.ownsRow B 49 3 v xs.length (xs.flatMap Stp.cells)) (hxl : xs.length ≤ 1000000000) :
    Calls Try.prog 80 #[v, .func (.func 44) #[] #[]] w (SortPost w B v.ownBlock v xs) := by
  rcases h.2 with ⟨rfl, hn⟩ | ⟨g, cap, cur, rfl, hg, hh, hr⟩
  · have hx : xs = [] := List.eq_nil_of_length_eq_zero hn
    subst hx
    have := AnyF.slices_SortFunc_none (P := Try.prog) Try.sortStp none 0 (.func (.func 44) #[] #[]) w
    change Calls Try.prog 80 _ _ _ at this
    refine this.mono fun e w' ⟨he, hw⟩ => ?_
    subst hw
    have e0 : sortS [] = [] := List.eq_nil_of_length_eq_zero (sortS_len [])
    exact ⟨he, by rw [e0]; exact h, World.grownBy.refl _ _⟩
  · obtain ⟨_, _, hs⟩ := SRow.of h
    have hcon := AnyQ.slices_SortFunc_total (P := Try.prog) Try.sortStp 3 (by intro w; kernel_rfl) (by intro w; kernel_rfl) Stp.cells (fun _ => rfl) (fun x v hv => by simp [Stp.cells] at hv; rcases hv with rfl | rfl | rfl <;> rfl) ordV swoOrd 44 #[] g 0 cap xs.toArray w
      (enters_of Try.func44 (by kernel_rfl) rfl) (fun _ _ _ _ x y => OrderG_ x y _) hs.holds hs.lt (by simp; omega) (fun x y h1 h2 => stp_total (by rw [← ltOf_ord]; exact h1) (by rw [← ltOf_ord]; exact h2))
    change Calls Try.prog 80 _ _ _ at hcon
    refine hcon.mono fun e w' ⟨he, n, os, hw⟩ => ?_
    have hs2 := hs.sorted (n := n) (ys := sortS xs) (os := os) (sortS_len xs)
    have ew : w' = sortWorldK Stp.cells 3 w g 0 n (sortS xs).toArray os := hw
    rw [← ew] at hs2
    refine ⟨he, ?_, hs2.2⟩
    have := hs2.1.own hg
    rwa [sortS_len] at this ⊢
end Go.Proofs.Ytoglgeaiiipchab
