/- An automaton among the arguments of a law, opened to a reading. -/
import Derived.Test.YtoglgeaiiipchabDoorFr
import Derived.Test.YtoglgeaiiipchabDoorAu
namespace Go.Proofs.YtoglgeaiiipchabDoor
open Go Go.ChangeShapes Go.WideShapes Go.ChangeAt Go.RowKit Go.Deep Go.Joins

section
variable {H : Type} {enc : TypeId × Value → H} {P : Program} {w : World} {spare : Nat → Bool} {held : Bool}
theorem array5 {α : Type} {cs : Array α} (h : cs.size = 5) : ∃ c0 c1 c2 c3 c4, cs = #[c0, c1, c2, c3, c4] := by
  obtain ⟨l⟩ := cs
  match l, h with
  | [c0, c1, c2, c3, c4], _ => exact ⟨c0, c1, c2, c3, c4, rfl⟩
/-- one field of a struct of one-cell fields -/
theorem field_in {t : TypeId} {fs : Array Field} {n base : Nat} {cs : List Value} {x : DataW H × List MemPlace} (hs : P.underlying t = some (.struct fs)) (hone : oneCellFields P fs = true) (h : DataW.trod enc P w base spare held n t cs = some x) :
    ∃ (ys : List (DataW H × List MemPlace)) (m : Nat), x.1 = .agg (ys.map Prod.fst) ∧ ys.length = fs.size ∧ ∀ j f, fs[j]? = some f → DataW.trod enc P w base spare held m f.type ((cs.drop j).take 1) = ys[j]? := by
  obtain ⟨ys, n', hn', rfl, hlen, hyl, hg⟩ := DataW.trod_struct hs h
  refine ⟨ys, n', rfl, hyl, fun j f hf => ?_⟩
  obtain ⟨o, k⟩ := hone_of hone j f hf
  have := hg j f hf
  rwa [o, k] at this
/-- a slice of bools, as a reading -/
theorem bools_in {t e : TypeId} {n : Nat} {v : Value} {y : DataW H × List MemPlace} (ht : P.underlying t = some (.slice e)) (he : P.underlying e = some .bool) (hc : P.cellsOf e = 1) (hby : P.bytesOf e = 1)
    (h : DataW.trod enc P w 0 spare held n t [v] = some y) (hw : ∀ k ∈ y.1.weights P t, k ≤ reachBytes) : ∃ A c xs, v = .slice A xs.length c ∧ Bools w 0 A c xs := by
  rcases open_slice ht h with ⟨hcs, _⟩ | ⟨a, len, cap, m, n', D, Pl, hcs, _, hl, hm, hmm, hx, hel⟩
  · simp only [List.cons.injEq, and_true] at hcs
    exact ⟨none, 0, [], hcs, ⟨by simp, by omega, by simp, Rd.nil⟩⟩
  · simp only [List.cons.injEq, and_true] at hcs
    have hml : len ≤ m := by rw [hmm]; split <;> omega
    have hwt := hw (m * 1) (by
      rw [hx]
      simp only [DataW.weights, ht, List.length_map, List.length_range, hby]
      rw [show len + (m - len) = m by omega]
      simp)
    obtain ⟨xs, hxl, hxs⟩ := slE_of (enc := fun b : Bool => [Value.bool b]) (sz := 1) (bt := 1) (fun _ => rfl) (by decide) (w := w) (a := a) hl hm (by simp only [reachBytes] at hwt; omega) (fun i hi' => by
      obtain ⟨cs', hcc, ht'⟩ := hel i (by omega)
      rw [hc] at hcc
      obtain ⟨_, hcl, hat⟩ := World.cells?_some hcc
      obtain ⟨b, hb, _⟩ := DataW.trod_bool he ht'
      refine ⟨b, fun j u hu => ?_⟩
      rw [← Go.Deep.add_add]
      match j, hu with
      | 0, hu => rw [hat 0 (by decide), hb]; simpa using hu
      | j + 1, hu => simp at hu)
    exact ⟨some a, cap, xs, by rw [hcs, hxl], hxs⟩
/-- a slice of steps, as a reading -/
theorem stps_in {t e ti : TypeId} {n : Nat} {v : Value} {y : DataW H × List MemPlace} {f0 f1 f2 : Field} (ht : P.underlying t = some (.slice e)) (he : P.underlying e = some (.struct #[f0, f1, f2])) (hc : P.cellsOf e = 3) (hby : P.bytesOf e = 24)
    (hi : P.underlying ti = some (.int .i64)) (hci : P.cellsOf ti = 1) (t0 : f0.type = ti) (t1 : f1.type = ti) (t2 : f2.type = ti) (o0 : f0.offset = 0) (o1 : f1.offset = 1) (o2 : f2.offset = 2)
    (h : DataW.trod enc P w 0 spare held n t [v] = some y) (hw : ∀ k ∈ y.1.weights P t, k ≤ reachBytes) : ∃ A c xs, v = .slice A xs.length c ∧ Stps w 0 A c xs := by
  rcases open_slice ht h with ⟨hcs, _⟩ | ⟨a, len, cap, m, n', D, Pl, hcs, _, hl, hm, hmm, hx, hel⟩
  · simp only [List.cons.injEq, and_true] at hcs
    exact ⟨none, 0, [], hcs, ⟨by simp, by omega, by simp, Rd.nil⟩⟩
  · simp only [List.cons.injEq, and_true] at hcs
    have hml : len ≤ m := by rw [hmm]; split <;> omega
    have hwt := hw (m * 24) (by
      rw [hx]
      simp only [DataW.weights, ht, List.length_map, List.length_range, hby]
      rw [show len + (m - len) = m by omega]
      simp)
    obtain ⟨xs, hxl, hxs⟩ := slE_of (enc := Stp.cells) (sz := 3) (bt := 24) (fun _ => rfl) (by decide) (w := w) (a := a) hl hm (by simp only [reachBytes] at hwt; omega) (fun i hi' => by
      obtain ⟨cs', hcc, ht'⟩ := hel i (by omega)
      rw [hc] at hcc
      obtain ⟨_, hcl, hat⟩ := World.cells?_some hcc
      obtain ⟨z0, e0⟩ := struct_int he ht' 0 f0 rfl o0 (by rw [t0]; exact hci) (by rw [t0]; exact hi)
      obtain ⟨z1, e1⟩ := struct_int he ht' 1 f1 rfl o1 (by rw [t1]; exact hci) (by rw [t1]; exact hi)
      obtain ⟨z2, e2⟩ := struct_int he ht' 2 f2 rfl o2 (by rw [t2]; exact hci) (by rw [t2]; exact hi)
      refine ⟨⟨z0, z1, z2⟩, fun j u hu => ?_⟩
      rw [← Go.Deep.add_add]
      match j, hu with
      | 0, hu => rw [hat 0 (by decide), e0]; simpa [Stp.cells] using hu
      | 1, hu => rw [hat 1 (by decide), e1]; simpa [Stp.cells] using hu
      | 2, hu => rw [hat 2 (by decide), e2]; simpa [Stp.cells] using hu
      | j + 3, hu => simp [Stp.cells] at hu)
    exact ⟨some a, cap, xs, by rw [hcs, hxl], hxs⟩
/-- an automaton by value, as a reading -/
theorem au_in {t tF tG tS ti tb ts : TypeId} {f0 f1 f2 f3 f4 s0 s1 s2 : Field} {r : Reach} {b0 : Nat} {v : Value} {d : DataW H} {p : List MemPlace} (hs : P.underlying t = some (.struct #[f0, f1, f2, f3, f4])) (hone : oneCellFields P #[f0, f1, f2, f3, f4] = true) (hC : P.cellsOf t = 5)
    (hi : P.underlying ti = some (.int .i64)) (hci : P.cellsOf ti = 1) (hbi : P.bytesOf ti = 8) (hb : P.underlying tb = some .bool) (hcb : P.cellsOf tb = 1) (hbb : P.bytesOf tb = 1) (hss : P.underlying ts = some (.struct #[s0, s1, s2])) (hcs : P.cellsOf ts = 3) (hbs : P.bytesOf ts = 24)
    (t0 : f0.type = ti) (t1 : f1.type = ti) (t2 : f2.type = tF) (t3 : f3.type = tG) (t4 : f4.type = tS) (hF : P.underlying tF = some (.slice ti)) (hG : P.underlying tG = some (.slice tb)) (hS : P.underlying tS = some (.slice ts))
    (u0 : s0.type = ti) (u1 : s1.type = ti) (u2 : s2.type = ti) (o0 : s0.offset = 0) (o1 : s1.offset = 1) (o2 : s2.offset = 2)
    (hv : Value.okWide P w r b0 t v) (h : DataW.Trod enc P w 0 spare held t v d p) (hw : ∀ k ∈ d.weights P t, k ≤ reachBytes) :
    ∃ a A B C ca cb cc, v = .agg #[.int .i64 a.st, .int .i64 a.le, .slice A a.fs.length ca, .slice B a.gs.length cb, .slice C a.ss.length cc] ∧ AuRd w 0 a A B C ca cb cc := by
  obtain ⟨cs, rfl, hsz⟩ := okWide_struct hs hv
  obtain ⟨c0, c1, c2, c3, c4, rfl⟩ := array5 (hsz.trans hC)
  obtain ⟨fuel, hf⟩ := h
  obtain ⟨ys, m, hd, hyl, hy⟩ := field_in hs hone hf
  simp only [Value.cells] at hy
  match ys, hyl with
  | [y0, y1, y2, y3, y4], _ =>
    have e0 := hy 0 f0 rfl
    have e1 := hy 1 f1 rfl
    have e2 := hy 2 f2 rfl
    have e3 := hy 3 f3 rfl
    have e4 := hy 4 f4 rfl
    simp only [t0, t1, t2, t3, t4, List.drop_zero, List.drop_succ_cons, List.take_succ_cons, List.take_zero, List.getElem?_cons_zero, List.getElem?_cons_succ] at e0 e1 e2 e3 e4
    obtain ⟨z0, hz0, _⟩ := DataW.trod_int hi e0
    obtain ⟨z1, hz1, _⟩ := DataW.trod_int hi e1
    have hw' : ∀ k, k ∈ y2.1.weights P tF ∨ k ∈ y3.1.weights P tG ∨ k ∈ y4.1.weights P tS → k ≤ reachBytes := fun k hk => hw k (by
      rw [show d = _ from hd]
      simp only [DataW.weights, hs]
      simp only [List.map_cons, List.map_nil, DataW.weightsEach, List.mem_append, t0, t1, t2, t3, t4]
      simp
      rcases hk with hk | hk | hk
      · exact .inr (.inr (.inl hk))
      · exact .inr (.inr (.inr (.inl hk)))
      · exact .inr (.inr (.inr (.inr hk))))
    obtain ⟨A, ca, fs, rfl, hA⟩ := ints_in hF hi hci hbi e2 (fun k hk => hw' k (.inl hk))
    obtain ⟨B, cb, gs, rfl, hB⟩ := bools_in hG hb hcb hbb e3 (fun k hk => hw' k (.inr (.inl hk)))
    obtain ⟨C, cc, ss, rfl, hSS⟩ := stps_in hS hss hcs hbs hi hci u0 u1 u2 o0 o1 o2 e4 (fun k hk => hw' k (.inr (.inr hk)))
    obtain rfl : c0 = .int .i64 z0 := by simpa using hz0
    obtain rfl : c1 = .int .i64 z1 := by simpa using hz1
    exact ⟨⟨z0, z1, fs, gs, ss⟩, A, B, C, ca, cb, cc, rfl, hA, hB, hSS⟩
end
end Go.Proofs.YtoglgeaiiipchabDoor
