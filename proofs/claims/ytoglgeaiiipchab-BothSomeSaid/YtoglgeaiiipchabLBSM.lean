/- The statement BothSome: for every input the law returns true, and its input reads as it did. -/
import Derived.Test.YtoglgeaiiipchabLBSM36
import Derived.Test.YtoglgeaiiipchabLBSM4
import Derived.Test.YtoglgeaiiipchabLBSM1
import Derived.WalkKit
import Derived.ProofKit
import Derived.OpenShut
import Derived.ShutString
import Derived.ChangeOld
import Derived.Below
import Derived.Carry
import Derived.SizedLaws
import Derived.Lib.SmallJoins
import Derived.Deep.Slices
import Derived.Deep.Fields
import Derived.Test.YtoglgeaiiipchabRows
set_option linter.unusedSimpArgs false
set_option linter.unusedVariables false
namespace Go.Proofs.Ytoglgeaiiipchab
open Go Go.RowKit Go.Shelf Go.Sort

theorem told_ck {a : Au} {l : La} (h0 : ckA a = 0) (h : Told a l) : ckL l a.le = 0 ∧ tkB a l = true ∧ taErr a l = 0 := by
  obtain ⟨ho, hs⟩ := ckA_zero.1 h0
  obtain ⟨h1, h2, h3⟩ := h.fits (ho.fit hs)
  have l1 := h.h
  have l2 := h.l
  have s2 := ho.st2
  have hb : ∀ xs : List Int, (∀ c ∈ xs, 0 ≤ c ∧ c < a.le) → anyB (badL a.le) xs = false := fun xs hx => by
    unfold anyB
    rw [List.any_eq_false]
    intro c hc h
    have := hx c hc
    unfold badL at h
    simp at h
    omega
  have hc : ckL l a.le = 0 := by
    rw [ckL_x (by have := ho.le1; have := ho.le2; omega) (by omega) (by omega), hb _ h1, hb _ h2]
    rfl
  have ht : taErr a l = 0 := by unfold taErr; rw [if_pos h0]; exact hc
  exact ⟨hc, by unfold tkB; rw [ht, takesB_iff.2 h.takes]; rfl, ht⟩
set_option maxRecDepth 100000 in
set_option maxHeartbeats 8000000 in
theorem BothSome_ (a : Au) (A B C D E : Option Addr) (ca cb cc cd ce : Nat) (l : La) (w : World) (hr : AuRd w 0 a A B C ca cb cc) (hh : Ints w 0 D cd l.h) (hl : Ints w 0 E ce l.l) :
    Calls Try.prog 3 #[.agg #[.int .i64 a.st, .int .i64 a.le, .slice A a.fs.length ca, .slice B a.gs.length cb, .slice C a.ss.length cc], .agg #[.slice D l.h.length cd, .slice E l.l.length ce]] w (BoolPost w true) := by
  have HW := Lib.hid (alW_is w a A B C ca cb cc l D E cd ce)
  have HR := Lib.hid (fun W (hW : Below w.heap.size w W) => hr.below hW)
  have HH := Lib.hid (fun W (hW : Below w.heap.size w W) => hh.below hW)
  have HL := Lib.hid (fun W (hW : Below w.heap.size w W) => hl.below hW)
  clear hr hh hl
  go_enter Try.func3, Try.ntmps3
  go_upto_region 1 with fail
  change Code.wp _ _ _ _ (alW w a A B C ca cb cc l D E cd ce)
  generalize alW w a A B C ca cb cc l D E cd ce = W0 at *
  obtain ⟨V, hV⟩ : ∃ V, V = w.heap.size := ⟨_, rfl⟩
  rw [← hV] at HW ⊢
  have HVV := Lib.hid hV
  have HA := Lib.hid HW.out.at_
  have HBW : Hid (Below w.heap.size w W0) := HW.out.below
  have hV1 := HA.out.lt
  clear HW hV
  obtain ⟨_, ⟨_, c0, c1, c2, c3, c4⟩, l0, l1⟩ := HA.out
  have HSM := Lib.hid (Some_ a A B C ca cb cc W0 (HR.out _ HBW.out))
  go_wp2_with fail
  refine HSM.out.mono ?_
  rintro e w1 ⟨⟨H, L, ch, cl, hl, ll, b, rfl, hiH, hiL, hif⟩, hb1⟩
  have hal : Below w1.heap.size w1 (w1.alloc (Obj.cells #[.slice H hl.length ch, .slice L ll.length cl] 28)) := (Below.refl _ _).alloc (Nat.le_refl _) _
  have HX : Hid ((w1.alloc (Obj.cells #[.slice H hl.length ch, .slice L ll.length cl] 28)).heap[w1.heap.size]? = some (.cells #[.slice H hl.length ch, .slice L ll.length cl] 28 (0, 0))) := World.alloc_heap_new _ _
  have HB1 := Lib.hid (Below_on hb1 hal hb1.size)
  have HIH := Lib.hid ((hiH.low (Nat.zero_le _)).below hal)
  have HIL := Lib.hid ((hiL.low (Nat.zero_le _)).below hal)
  have HIF := Lib.hid hif
  clear hb1 hal hiH hiL hif HSM c0 c1 c2 c3 c4 l0 l1
  go_upto_region 2 with fail
  obtain ⟨X, hX⟩ : ∃ X, X = w1.heap.size := ⟨_, rfl⟩
  rw [← hX] at HX ⊢
  clear hX
  generalize w1.alloc (Obj.cells #[.slice H hl.length ch, .slice L ll.length cl] 28) = W1 at *
  have HALL : Hid (∀ W, Below W1.heap.size W1 W → Below w.heap.size w W ∧ AlAt W V a A B C ca cb cc l D E cd ce ∧ (W.cell? ⟨X, 0, none⟩ = some (.slice H hl.length ch) ∧ W.cell? ⟨X, 1, none⟩ = some (.slice L ll.length cl)) ∧ AuRd W 0 a A B C ca cb cc ∧ Ints W 0 D cd l.h ∧ Ints W 0 E ce l.l ∧ Ints W 0 H ch hl ∧ Ints W 0 L cl ll) := fun W hW => by
    have k1 := Below_on HB1.out hW HB1.out.size
    have k0 := Below_on HBW.out k1 HBW.out.size
    have hx := (hW.block X (Array.getElem?_eq_some_iff.1 HX.out).1).trans HX.out
    exact ⟨k0, HA.out.below k1 hV1, ⟨(la_cells hx).1, (la_cells hx).2.1⟩, HR.out _ k0, HH.out _ k0, HL.out _ k0, HIH.out.below hW, HIL.out.below hW⟩
  have HCK : Hid (hl.length ≤ 1000000000000000 ∧ ll.length ≤ 1000000000000000) := by
    have := HIH.out.max
    have := HIL.out.max
    exact ⟨by omega, by omega⟩
  clear HB1 HX HIH HIL HA HBW HR HH HL
  obtain ⟨hbw, ⟨_, ⟨_, c0, c1, c2, c3, c4⟩, l0, l1⟩, ⟨x0, x1⟩, _⟩ := HALL.out W1 (Below.refl _ _)
  have HCA := Lib.hid (CheckAuto_ a A B C ca cb cc W1 (HALL.out W1 (Below.refl _ _)).2.2.2.1)
  go_wp2_with fail
  refine HCA.out.mono ?_
  rintro e w2 ⟨rfl, hb2⟩
  have HB2 := Lib.hid hb2
  clear hb2 hbw c0 c1 c2 c3 c4 l0 l1 x0 x1 HCA
  go_wp2_with fail
  refine (bothBegun_ w2).mono ?_
  rintro e w3 ⟨rfl, hb3⟩
  have HB3 := Lib.hid (Below_on HB2.out hb3 HB2.out.size)
  clear hb3 HB2
  go_wp2_with fail
  refine (wordBegun_ w3).mono ?_
  rintro e w4 ⟨rfl, hb4⟩
  have HB4 := Lib.hid (Below_on HB3.out hb4 HB3.out.size)
  clear hb4 HB3
  obtain ⟨hbw, ⟨_, ⟨_, c0, c1, c2, c3, c4⟩, l0, l1⟩, ⟨x0, x1⟩, _⟩ := HALL.out w4 HB4.out
  have HBW4 := Lib.hid hbw
  clear hbw
  by_cases hck : ckA a = 0
  · rw [hck]
    have HCK0 := Lib.hid hck
    cases b with
    | true =>
      have HT := Lib.hid (told_ck hck HIF.out.2)
      have HTL := Lib.hid (And.intro HIF.out.2.h HIF.out.2.l)
      clear hck HIF
      have HCL := Lib.hid (CheckLasso_ H L ch cl ⟨hl, ll⟩ a.le w4 (HALL.out w4 HB4.out).2.2.2.2.2.2.1 (HALL.out w4 HB4.out).2.2.2.2.2.2.2)
      rw [HT.out.1] at HCL
      have q1 : ¬ a.st < (hl.length : Int) := by have := HTL.out.1; simp only at this; omega
      have q2 : ¬ a.st < (ll.length : Int) := by have := HTL.out.2; simp only at this; omega
      go_wp2_with fail
      refine HCL.out.mono ?_
      rintro e w5 ⟨rfl, hb5⟩
      have HB5 := Lib.hid (Below_on HB4.out hb5 HB4.out.size)
      clear hb5 HB4 HCL c0 c1 c2 c3 c4 l0 l1 x0 x1
      obtain ⟨hbw, ⟨_, ⟨_, c0, c1, c2, c3, c4⟩, l0, l1⟩, ⟨x0, x1⟩, _⟩ := HALL.out w5 HB5.out
      have HTK := Lib.hid (Takes_ a A B C H L ca cb cc ch cl ⟨hl, ll⟩ w5 (HALL.out w5 HB5.out).2.2.2.1 (HALL.out w5 HB5.out).2.2.2.2.2.2.1 (HALL.out w5 HB5.out).2.2.2.2.2.2.2)
      unfold TkPost at HTK
      rw [HT.out.2.1, HT.out.2.2] at HTK
      have HBW5 := Lib.hid hbw
      clear hbw
      go_wp2_with fail
      refine HTK.out.mono ?_
      rintro e w6 ⟨rfl, hb6⟩
      have HP : Hid (BoolPost w true (.returned (.bool true)) w6) := ⟨rfl, Below_on HBW5.out hb6 HBW5.out.size⟩
      clear hb6 c0 c1 c2 c3 c4 l0 l1 x0 x1
      go_wp2_with fail
      go_ret
      exact HP.out
    | false =>
      obtain ⟨rfl, rfl, hno⟩ := HIF.out
      have HTB : Hid (tkB a l = false) := by
        show _ = _
        unfold tkB
        have : takesB a l.at = false := by
          cases h : takesB a l.at with
          | false => rfl
          | true => exact absurd (takesB_iff.1 h) (hno HCK0.out _)
        rw [this, Bool.and_false]
      have HTK := Lib.hid (Takes_ a A B C D E ca cb cc cd ce l w4 (HALL.out w4 HB4.out).2.2.2.1 (HALL.out w4 HB4.out).2.2.2.2.1 (HALL.out w4 HB4.out).2.2.2.2.2.1)
      unfold TkPost at HTK
      rw [HTB.out] at HTK
      clear hck hno HIF
      go_wp2_with fail
      refine HTK.out.mono ?_
      rintro e w6 ⟨rfl, hb6⟩
      have HB6 := Lib.hid (Below_on HB4.out hb6 HB4.out.size)
      have HP : Hid (BoolPost w true (.returned (.bool true)) w6) := ⟨rfl, Below_on HBW4.out hb6 HBW4.out.size⟩
      clear hb6 c0 c1 c2 c3 c4 l0 l1 x0 x1 HTK HTB
      obtain ⟨_, _, ⟨x0, x1⟩, _⟩ := HALL.out w6 HB6.out
      by_cases ht : taErr a l = 0
      · rw [ht]
        clear ht
        go_wp2_with fail
        go_ret
        exact HP.out
      · have ht2 : (taErr a l != 0) = true := by simp [ht]
        clear ht
        generalize taErr a l = te at *
        go_wp2_with fail
        go_ret
        exact HP.out
  · have hck1 : (ckA a != 0) = true := by simp [hck]
    cases b with
    | true => exact absurd HIF.out.1 hck
    | false =>
      obtain ⟨rfl, rfl, _⟩ := HIF.out
      have HTK := Lib.hid (Takes_ a A B C D E ca cb cc cd ce l w4 (HALL.out w4 HB4.out).2.2.2.1 (HALL.out w4 HB4.out).2.2.2.2.1 (HALL.out w4 HB4.out).2.2.2.2.2.1)
      unfold TkPost at HTK
      clear hck HIF
      generalize tkB a l = tb at *
      generalize taErr a l = te at *
      generalize ckA a = ck at *
      go_wp2_with fail
      refine HTK.out.mono ?_
      rintro e w6 ⟨rfl, hb6⟩
      have HB6 := Lib.hid (Below_on HB4.out hb6 HB4.out.size)
      have HP : Hid (BoolPost w true (.returned (.bool true)) w6) := ⟨rfl, Below_on HBW4.out hb6 HBW4.out.size⟩
      clear hb6 c0 c1 c2 c3 c4 l0 l1 x0 x1 HTK
      obtain ⟨_, _, ⟨x0, x1⟩, _⟩ := HALL.out w6 HB6.out
      go_wp2_with fail
      go_ret
      exact HP.out
end Go.Proofs.Ytoglgeaiiipchab

namespace Go.Proofs.Ytoglgeaiiipchab
open Go Go.ChangeShapes Go.WideShapes Go.ChangeAt Go.RowKit Go.Deep Go.Joins

theorem rd_flat {α : Type} {enc : α → List Value} {sz : Nat} (hsz : ∀ x, (enc x).length = sz) {w : World} {b : Nat} : ∀ (xs : List α) (off : Nat),
    (∀ (k : Nat) (hk : k < xs.length) (i : Nat) (u : Value), (enc xs[k])[i]? = some u → w.cell? ⟨b, off + (k * sz + i), none⟩ = some u) →
    ∀ (j : Nat) (u : Value), (xs.flatMap enc)[j]? = some u → w.cell? ⟨b, off + j, none⟩ = some u
  | [], _, _, j, u, hu => by simp at hu
  | x :: r, off, h, j, u, hu => by
    rw [List.flatMap_cons] at hu
    rcases Nat.lt_or_ge j sz with hj | hj
    · rw [List.getElem?_append_left (by rw [hsz]; exact hj)] at hu
      have := h 0 (by simp) j u (by simpa using hu)
      simpa using this
    · rw [List.getElem?_append_right (by rw [hsz]; exact hj), hsz] at hu
      have := rd_flat hsz r (off + sz) (fun k hk i v hv => by
        have := h (k + 1) (by simpa using hk) i v (by simpa using hv)
        rw [show off + sz + (k * sz + i) = off + ((k + 1) * sz + i) by rw [Nat.add_mul]; omega]
        exact this) (j - sz) u hu
      rw [show off + sz + (j - sz) = off + j by omega] at this
      exact this
theorem slE_of {α : Type} {enc : α → List Value} {sz bt : Nat} (hsz : ∀ x, (enc x).length = sz) (hp : 0 < sz) {w : World} {a : Addr} {len cap : Nat} (hl : len ≤ cap) (hm : cap ≤ maxLen) (hb : len * bt ≤ 140737488351232)
    (hx : ∀ i, i < len → ∃ x : α, ∀ j u, (enc x)[j]? = some u → w.cell? (a.add (i * sz + j)) = some u) : ∃ xs : List α, xs.length = len ∧ SlE enc bt w 0 (some a) cap xs := by
  have hc : ∀ i : Fin len, ∃ x : α, ∀ j u, (enc x)[j]? = some u → w.cell? (a.add (i.1 * sz + j)) = some u := fun i => hx i.1 i.2
  refine ⟨List.ofFn fun i => (hc i).choose, by simp, ⟨by simpa using hl, hm, by simpa using hb, fun hne => ?_⟩⟩
  have hlen : 0 < len := by
    rcases Nat.eq_zero_or_pos len with h | h
    · subst h; simp at hne
    · exact h
  obtain ⟨b, off, spot⟩ := a
  have h0 := (hc ⟨0, hlen⟩).choose_spec 0 _ (List.getElem?_eq_getElem (by rw [hsz]; exact hp))
  have hlt := World.block_lt_of_cell? _ _ h0
  have hs : spot = none := by
    have := World.cell?_spot h0
    simpa [Addr.add] using this
  subst hs
  refine ⟨b, off, rfl, Nat.zero_le _, by simpa [Addr.add] using hlt, rd_flat hsz _ off fun k hk i u hu => ?_⟩
  have hkl : k < len := by simpa using hk
  have := (hc ⟨k, hkl⟩).choose_spec i u (by simpa using hu)
  rw [Addr_add_off] at this
  exact this

section
variable {H : Type} {enc : TypeId × Value → H} {P : Program} {w : World} {spare : Nat → Bool} {held : Bool}
theorem struct_int {e : TypeId} {fs : Array Field} {n base : Nat} {cs : List Value} {y : DataW H × List MemPlace} (he : P.underlying e = some (.struct fs)) (h : DataW.trod enc P w base spare held n e cs = some y) (j : Nat) (f : Field)
    (hf : fs[j]? = some f) (ho : f.offset = j) (hc : P.cellsOf f.type = 1) (hi : P.underlying f.type = some (.int .i64)) : ∃ z, cs[j]? = some (.int .i64 z) := by
  obtain ⟨ys, n', hn', hy, hlen, hyl, hg⟩ := DataW.trod_struct he h
  have h1 := hg j f hf
  rw [ho, hc] at h1
  have hj : j < ys.length := by rw [hyl]; exact (Array.getElem?_eq_some_iff.1 hf).1
  rw [List.getElem?_eq_getElem hj] at h1
  obtain ⟨z, hz, _⟩ := DataW.trod_int hi h1
  have h2 := congrArg (fun l => l[0]?) hz
  exact ⟨z, by simpa using h2⟩

/-- a slice of numbers, as a reading -/
theorem ints_in {t e : TypeId} {n : Nat} {v : Value} {y : DataW H × List MemPlace} (ht : P.underlying t = some (.slice e)) (he : P.underlying e = some (.int .i64)) (hc : P.cellsOf e = 1) (hby : P.bytesOf e = 8)
    (h : DataW.trod enc P w 0 spare held n t [v] = some y) (hw : ∀ k ∈ y.1.weights P t, k ≤ reachBytes) : ∃ A c xs, v = .slice A xs.length c ∧ Ints w 0 A c xs := by
  rcases open_ints ht he hc h with ⟨hcs, _⟩ | ⟨a, len, cap, zs, hcs, _, hl, hm, hz, hx, hcell, _⟩
  · simp only [List.cons.injEq, and_true] at hcs
    exact ⟨none, 0, [], hcs, ⟨by simp, by omega, by simp, Rd.nil⟩⟩
  · simp only [List.cons.injEq, and_true] at hcs
    have hzl : len ≤ zs.length := by rw [hz]; split <;> omega
    have hwt := hw (zs.length * 8) (by
      rw [hx]
      simp only [DataW.weights, ht, lits, List.length_map, List.length_take, List.length_drop, hby]
      rw [show min len zs.length + (zs.length - len) = zs.length by omega]
      simp)
    obtain ⟨xs, hxl, hxs⟩ := slE_of (enc := fun n : Int => [Value.int .i64 n]) (sz := 1) (bt := 8) (fun _ => rfl) (by decide) (w := w) (a := a) hl hm (by simp only [reachBytes] at hwt; omega) (fun i hi => ⟨zs.getD i 0, fun j u hu => by
      have hj : j = 0 := by
        have := (List.getElem?_eq_some_iff.1 hu).1
        simp at this
        exact this
      subst hj
      simp at hu
      subst hu
      simpa using hcell i (by omega)⟩)
    exact ⟨some a, cap, xs, by rw [hcs, hxl], hxs⟩
/-- a slice of nodes, as a reading -/
theorem nds_in {t e ti : TypeId} {n : Nat} {v : Value} {y : DataW H × List MemPlace} {f0 f1 f2 f3 : Field} (ht : P.underlying t = some (.slice e)) (he : P.underlying e = some (.struct #[f0, f1, f2, f3])) (hc : P.cellsOf e = 4) (hby : P.bytesOf e = 32)
    (hi : P.underlying ti = some (.int .i64)) (hci : P.cellsOf ti = 1) (t0 : f0.type = ti) (t1 : f1.type = ti) (t2 : f2.type = ti) (t3 : f3.type = ti) (o0 : f0.offset = 0) (o1 : f1.offset = 1) (o2 : f2.offset = 2) (o3 : f3.offset = 3)
    (h : DataW.trod enc P w 0 spare held n t [v] = some y) (hw : ∀ k ∈ y.1.weights P t, k ≤ reachBytes) : ∃ A c xs, v = .slice A xs.length c ∧ Nds w 0 A c xs := by
  rcases open_slice ht h with ⟨hcs, _⟩ | ⟨a, len, cap, m, n', D, Pl, hcs, _, hl, hm, hmm, hx, hel⟩
  · simp only [List.cons.injEq, and_true] at hcs
    exact ⟨none, 0, [], hcs, ⟨by simp, by omega, by simp, Rd.nil⟩⟩
  · simp only [List.cons.injEq, and_true] at hcs
    have hml : len ≤ m := by rw [hmm]; split <;> omega
    have hwt := hw (m * 32) (by
      rw [hx]
      simp only [DataW.weights, ht, List.length_map, List.length_range, hby]
      rw [show len + (m - len) = m by omega]
      simp)
    obtain ⟨xs, hxl, hxs⟩ := slE_of (enc := Nd.cells) (sz := 4) (bt := 32) (fun _ => rfl) (by decide) (w := w) (a := a) hl hm (by simp only [reachBytes] at hwt; omega) (fun i hi' => by
      obtain ⟨cs', hcc, ht'⟩ := hel i (by omega)
      rw [hc] at hcc
      obtain ⟨_, hcl, hat⟩ := World.cells?_some hcc
      obtain ⟨z0, e0⟩ := struct_int he ht' 0 f0 rfl o0 (by rw [t0]; exact hci) (by rw [t0]; exact hi)
      obtain ⟨z1, e1⟩ := struct_int he ht' 1 f1 rfl o1 (by rw [t1]; exact hci) (by rw [t1]; exact hi)
      obtain ⟨z2, e2⟩ := struct_int he ht' 2 f2 rfl o2 (by rw [t2]; exact hci) (by rw [t2]; exact hi)
      obtain ⟨z3, e3⟩ := struct_int he ht' 3 f3 rfl o3 (by rw [t3]; exact hci) (by rw [t3]; exact hi)
      refine ⟨⟨z0, z1, z2, z3⟩, fun j u hu => ?_⟩
      rw [← Go.Deep.add_add]
      match j, hu with
      | 0, hu => rw [hat 0 (by decide), e0]; simpa [Nd.cells] using hu
      | 1, hu => rw [hat 1 (by decide), e1]; simpa [Nd.cells] using hu
      | 2, hu => rw [hat 2 (by decide), e2]; simpa [Nd.cells] using hu
      | 3, hu => rw [hat 3 (by decide), e3]; simpa [Nd.cells] using hu
      | j + 4, hu => simp [Nd.cells] at hu)
    exact ⟨some a, cap, xs, by rw [hcs, hxl], hxs⟩
end
end Go.Proofs.Ytoglgeaiiipchab

namespace Go.Proofs.Ytoglgeaiiipchab
open Go Go.ChangeShapes Go.WideShapes Go.ChangeAt Go.RowKit Go.Deep Go.Joins

section
variable {H : Type} {enc : TypeId × Value → H} {P : Program} {w : World} {spare : Nat → Bool} {held : Bool}
theorem array5 {α : Type} {cs : Array α} (h : cs.size = 5) : ∃ c0 c1 c2 c3 c4, cs = #[c0, c1, c2, c3, c4] := by
  obtain ⟨l⟩ := cs
  match l, h with
  | [c0, c1, c2, c3, c4], _ => exact ⟨c0, c1, c2, c3, c4, rfl⟩
/-- one field of a struct of one-cell fields -/
theorem field_in {t : TypeId} {fs : Array Field} {n base : Nat} {cs : List Value} {x : DataW H × List MemPlace} (hs : P.underlying t = some (.struct fs)) (hone : oneCellFields P fs = true) (h : DataW.trod enc P w base spare held n t cs = some x) :
    ∃ (ys : List (DataW H × List MemPlace)) (m : Nat), x.1 = .agg (ys.map Prod.fst) ∧ ys.length = fs.size ∧ ∀ j f, fs[j]? = some f → DataW.trod enc P w base spare held m f.type ((cs.drop j).take 1) = ys[j]? := by
  obtain ⟨ys, n', hn', rfl, hlen, hyl, hg⟩ := DataW.trod_struct hs h
  refine ⟨ys, n', rfl, hyl, fun j f hf => ?_⟩
  obtain ⟨o, k⟩ := hone_of hone j f hf
  have := hg j f hf
  rwa [o, k] at this
/-- a slice of bools, as a reading -/
theorem bools_in {t e : TypeId} {n : Nat} {v : Value} {y : DataW H × List MemPlace} (ht : P.underlying t = some (.slice e)) (he : P.underlying e = some .bool) (hc : P.cellsOf e = 1) (hby : P.bytesOf e = 1)
    (h : DataW.trod enc P w 0 spare held n t [v] = some y) (hw : ∀ k ∈ y.1.weights P t, k ≤ reachBytes) : ∃ A c xs, v = .slice A xs.length c ∧ Bools w 0 A c xs := by
  rcases open_slice ht h with ⟨hcs, _⟩ | ⟨a, len, cap, m, n', D, Pl, hcs, _, hl, hm, hmm, hx, hel⟩
  · simp only [List.cons.injEq, and_true] at hcs
    exact ⟨none, 0, [], hcs, ⟨by simp, by omega, by simp, Rd.nil⟩⟩
  · simp only [List.cons.injEq, and_true] at hcs
    have hml : len ≤ m := by rw [hmm]; split <;> omega
    have hwt := hw (m * 1) (by
      rw [hx]
      simp only [DataW.weights, ht, List.length_map, List.length_range, hby]
      rw [show len + (m - len) = m by omega]
      simp)
    obtain ⟨xs, hxl, hxs⟩ := slE_of (enc := fun b : Bool => [Value.bool b]) (sz := 1) (bt := 1) (fun _ => rfl) (by decide) (w := w) (a := a) hl hm (by simp only [reachBytes] at hwt; omega) (fun i hi' => by
      obtain ⟨cs', hcc, ht'⟩ := hel i (by omega)
      rw [hc] at hcc
      obtain ⟨_, hcl, hat⟩ := World.cells?_some hcc
      obtain ⟨b, hb, _⟩ := DataW.trod_bool he ht'
      refine ⟨b, fun j u hu => ?_⟩
      rw [← Go.Deep.add_add]
      match j, hu with
      | 0, hu => rw [hat 0 (by decide), hb]; simpa using hu
      | j + 1, hu => simp at hu)
    exact ⟨some a, cap, xs, by rw [hcs, hxl], hxs⟩
/-- a slice of steps, as a reading -/
theorem stps_in {t e ti : TypeId} {n : Nat} {v : Value} {y : DataW H × List MemPlace} {f0 f1 f2 : Field} (ht : P.underlying t = some (.slice e)) (he : P.underlying e = some (.struct #[f0, f1, f2])) (hc : P.cellsOf e = 3) (hby : P.bytesOf e = 24)
    (hi : P.underlying ti = some (.int .i64)) (hci : P.cellsOf ti = 1) (t0 : f0.type = ti) (t1 : f1.type = ti) (t2 : f2.type = ti) (o0 : f0.offset = 0) (o1 : f1.offset = 1) (o2 : f2.offset = 2)
    (h : DataW.trod enc P w 0 spare held n t [v] = some y) (hw : ∀ k ∈ y.1.weights P t, k ≤ reachBytes) : ∃ A c xs, v = .slice A xs.length c ∧ Stps w 0 A c xs := by
  rcases open_slice ht h with ⟨hcs, _⟩ | ⟨a, len, cap, m, n', D, Pl, hcs, _, hl, hm, hmm, hx, hel⟩
  · simp only [List.cons.injEq, and_true] at hcs
    exact ⟨none, 0, [], hcs, ⟨by simp, by omega, by simp, Rd.nil⟩⟩
  · simp only [List.cons.injEq, and_true] at hcs
    have hml : len ≤ m := by rw [hmm]; split <;> omega
    have hwt := hw (m * 24) (by
      rw [hx]
      simp only [DataW.weights, ht, List.length_map, List.length_range, hby]
      rw [show len + (m - len) = m by omega]
      simp)
    obtain ⟨xs, hxl, hxs⟩ := slE_of (enc := Stp.cells) (sz := 3) (bt := 24) (fun _ => rfl) (by decide) (w := w) (a := a) hl hm (by simp only [reachBytes] at hwt; omega) (fun i hi' => by
      obtain ⟨cs', hcc, ht'⟩ := hel i (by omega)
      rw [hc] at hcc
      obtain ⟨_, hcl, hat⟩ := World.cells?_some hcc
      obtain ⟨z0, e0⟩ := struct_int he ht' 0 f0 rfl o0 (by rw [t0]; exact hci) (by rw [t0]; exact hi)
      obtain ⟨z1, e1⟩ := struct_int he ht' 1 f1 rfl o1 (by rw [t1]; exact hci) (by rw [t1]; exact hi)
      obtain ⟨z2, e2⟩ := struct_int he ht' 2 f2 rfl o2 (by rw [t2]; exact hci) (by rw [t2]; exact hi)
      refine ⟨⟨z0, z1, z2⟩, fun j u hu => ?_⟩
      rw [← Go.Deep.add_add]
      match j, hu with
      | 0, hu => rw [hat 0 (by decide), e0]; simpa [Stp.cells] using hu
      | 1, hu => rw [hat 1 (by decide), e1]; simpa [Stp.cells] using hu
      | 2, hu => rw [hat 2 (by decide), e2]; simpa [Stp.cells] using hu
      | j + 3, hu => simp [Stp.cells] at hu)
    exact ⟨some a, cap, xs, by rw [hcs, hxl], hxs⟩
/-- an automaton by value, as a reading -/
theorem au_in {t tF tG tS ti tb ts : TypeId} {f0 f1 f2 f3 f4 s0 s1 s2 : Field} {r : Reach} {b0 : Nat} {v : Value} {d : DataW H} {p : List MemPlace} (hs : P.underlying t = some (.struct #[f0, f1, f2, f3, f4])) (hone : oneCellFields P #[f0, f1, f2, f3, f4] = true) (hC : P.cellsOf t = 5)
    (hi : P.underlying ti = some (.int .i64)) (hci : P.cellsOf ti = 1) (hbi : P.bytesOf ti = 8) (hb : P.underlying tb = some .bool) (hcb : P.cellsOf tb = 1) (hbb : P.bytesOf tb = 1) (hss : P.underlying ts = some (.struct #[s0, s1, s2])) (hcs : P.cellsOf ts = 3) (hbs : P.bytesOf ts = 24)
    (t0 : f0.type = ti) (t1 : f1.type = ti) (t2 : f2.type = tF) (t3 : f3.type = tG) (t4 : f4.type = tS) (hF : P.underlying tF = some (.slice ti)) (hG : P.underlying tG = some (.slice tb)) (hS : P.underlying tS = some (.slice ts))
    (u0 : s0.type = ti) (u1 : s1.type = ti) (u2 : s2.type = ti) (o0 : s0.offset = 0) (o1 : s1.offset = 1) (o2 : s2.offset = 2)
    (hv : Value.okWide P w r b0 t v) (h : DataW.Trod enc P w 0 spare held t v d p) (hw : ∀ k ∈ d.weights P t, k ≤ reachBytes) :
    ∃ a A B C ca cb cc, v = .agg #[.int .i64 a.st, .int .i64 a.le, .slice A a.fs.length ca, .slice B a.gs.length cb, .slice C a.ss.length cc] ∧ AuRd w 0 a A B C ca cb cc := by
  obtain ⟨cs, rfl, hsz⟩ := okWide_struct hs hv
  obtain ⟨c0, c1, c2, c3, c4, rfl⟩ := array5 (hsz.trans hC)
  obtain ⟨fuel, hf⟩ := h
  obtain ⟨ys, m, hd, hyl, hy⟩ := field_in hs hone hf
  simp only [Value.cells] at hy
  match ys, hyl with
  | [y0, y1, y2, y3, y4], _ =>
    have e0 := hy 0 f0 rfl
    have e1 := hy 1 f1 rfl
    have e2 := hy 2 f2 rfl
    have e3 := hy 3 f3 rfl
    have e4 := hy 4 f4 rfl
    simp only [t0, t1, t2, t3, t4, List.drop_zero, List.drop_succ_cons, List.take_succ_cons, List.take_zero, List.getElem?_cons_zero, List.getElem?_cons_succ] at e0 e1 e2 e3 e4
    obtain ⟨z0, hz0, _⟩ := DataW.trod_int hi e0
    obtain ⟨z1, hz1, _⟩ := DataW.trod_int hi e1
    have hw' : ∀ k, k ∈ y2.1.weights P tF ∨ k ∈ y3.1.weights P tG ∨ k ∈ y4.1.weights P tS → k ≤ reachBytes := fun k hk => hw k (by
      rw [show d = _ from hd]
      simp only [DataW.weights, hs]
      simp only [List.map_cons, List.map_nil, DataW.weightsEach, List.mem_append, t0, t1, t2, t3, t4]
      simp
      rcases hk with hk | hk | hk
      · exact .inr (.inr (.inl hk))
      · exact .inr (.inr (.inr (.inl hk)))
      · exact .inr (.inr (.inr (.inr hk))))
    obtain ⟨A, ca, fs, rfl, hA⟩ := ints_in hF hi hci hbi e2 (fun k hk => hw' k (.inl hk))
    obtain ⟨B, cb, gs, rfl, hB⟩ := bools_in hG hb hcb hbb e3 (fun k hk => hw' k (.inr (.inl hk)))
    obtain ⟨C, cc, ss, rfl, hSS⟩ := stps_in hS hss hcs hbs hi hci u0 u1 u2 o0 o1 o2 e4 (fun k hk => hw' k (.inr (.inr hk)))
    obtain rfl : c0 = .int .i64 z0 := by simpa using hz0
    obtain rfl : c1 = .int .i64 z1 := by simpa using hz1
    exact ⟨⟨z0, z1, fs, gs, ss⟩, A, B, C, ca, cb, cc, rfl, hA, hB, hSS⟩
end
end Go.Proofs.Ytoglgeaiiipchab

namespace Go.Proofs.Ytoglgeaiiipchab.bothSome
open Go Go.ChangeShapes Go.WideShapes Go.ChangeAt Go.RowKit Go.Deep Go.Joins

theorem own : ownKnob Try.prog.godebug = none := by kernel_rfl
theorem laidOut : laidOutB Try.prog = true := by kernel_rfl
theorem all_le {l : List Nat} (h : l.all (· ≤ reachBytes) = true) : ∀ k ∈ l, k ≤ reachBytes := fun k hk => by simpa using List.all_eq_true.1 h k hk

set_option maxRecDepth 100000 in
set_option maxHeartbeats 2000000 in
theorem lifted (os : Os) (started : os.Started) (H : Type) (enc : TypeId × Value → H) :
    ReturnsInHanded {} Try.checked os 3 .any (Rows.bothSomeSpec.pre6 enc Try.prog Try.f3 Rows.bothSomeRow.domain false) (Rows.bothSomeSpec.post enc Try.prog Try.f3 false true false false) := by
  refine returnsInHanded_of_change_sized (C := Try.checked) own started (by kernel_rfl) Try.func3
    (ChangeSpec.witness6 (enc := enc) (C := Try.checked) false ⟨#[], #[.agg #[.int .i64 0, .int .i64 0, .slice none 0 0, .slice none 0 0, .slice none 0 0], .agg #[.slice none 0 0, .slice none 0 0]], []⟩ 8 (by kernel_rfl) (by kernel_rfl) (by kernel_rfl) (by kernel_rfl)) ?_
  intro W base args ds gs before hval0 hW hcnd hwts _
  have hval : ∀ (j : Nat) t v, Try.f3.params[j]? = some t → args[j]? = some v → Value.okWide Try.prog W .any base t v := hval0
  have hW' := hW
  obtain ⟨p, q, hA0, hV, rfl, hfz, hnd⟩ := hW
  have hA : DataW.TrodAll enc Try.prog W 0 (fun _ => true) true Try.f3.params.toList args.toList ds p := hA0
  rw [Try.params3] at hA hval hwts
  obtain ⟨v0, vs0, d0, ds0, p0, q0, hargs, rfl, rfl, h0, r0⟩ := trodAll_cons hA
  obtain ⟨v1, vs1, d1, ds1, p1, q1, rfl, rfl, rfl, h1, r1⟩ := trodAll_cons r0
  obtain ⟨rfl, rfl, rfl⟩ := trodAll_nil r1
  obtain rfl : args = #[v0, v1] := by cases args; simp_all
  obtain ⟨rfl, rfl⟩ := trodVars_none hV
  have k0 := h0
  have k1 := h1
  have lt0 : ∀ x ∈ p0, x.block < W.heap.size := by obtain ⟨m, hm⟩ := k0; exact DataW.trod_lt m _ _ _ hm
  have lt1 : ∀ x ∈ p1, x.block < W.heap.size := by obtain ⟨m, hm⟩ := k1; exact DataW.trod_lt m _ _ _ hm
  have hw : ∀ k ∈ d0.weights Try.prog 26 ++ d1.weights Try.prog 28, k ≤ reachBytes := fun k hk => all_le hwts k (by
    simp only [List.mem_append] at hk
    change k ∈ DataW.weightsEach Try.prog [26, 28] [d0, d1]
    simp only [DataW.weightsEach, List.mem_append]
    rcases hk with hk | hk
    · exact .inl hk
    · exact .inr (.inl hk))
  obtain ⟨a, A, B, C, ca, cb, cc, rfl, hau⟩ : ∃ a A B C ca cb cc, v0 = .agg #[.int .i64 a.st, .int .i64 a.le, .slice A a.fs.length ca, .slice B a.gs.length cb, .slice C a.ss.length cc] ∧ AuRd W 0 a A B C ca cb cc :=
    au_in Try.underlying26 (by kernel_rfl) (by kernel_rfl) Try.underlying3 (by kernel_rfl) (by kernel_rfl) Try.underlying4 (by kernel_rfl) (by kernel_rfl) Try.underlying49 (by kernel_rfl) (by kernel_rfl) rfl rfl rfl rfl rfl Try.underlying22 Try.underlying23 Try.underlying24 rfl rfl rfl rfl rfl rfl (hval 0 26 v0 rfl rfl) h0 (fun k hk => hw k (List.mem_append_left _ hk))
  obtain ⟨v0, v1, y0, y1, n, rfl, rfl, rfl, g0, g1⟩ := open_agg2 Try.underlying28 (by kernel_rfl) (by kernel_rfl) (hval 1 28 _ rfl rfl) h1
  have hw1 : ∀ k ∈ y0.1.weights Try.prog 22 ++ y1.1.weights Try.prog 22, k ≤ reachBytes := fun k hk => hw k (List.mem_append_right _ (by
    simp only [DataW.weights, Try.underlying28]
    simpa [DataW.weightsEach] using hk))
  obtain ⟨D, cd, xs, rfl, hh⟩ := ints_in Try.underlying22 Try.underlying3 (by kernel_rfl) (by kernel_rfl) g0 (fun k hk => hw1 k (List.mem_append_left _ hk))
  obtain ⟨E, ce, ys, rfl, hl⟩ := ints_in Try.underlying22 Try.underlying3 (by kernel_rfl) (by kernel_rfl) g1 (fun k hk => hw1 k (List.mem_append_right _ hk))
  clear hA0 hval0 hval hwts hw hw1
  refine (BothSome_ a A B C D E ca cb cc cd ce ⟨xs, ys⟩ W hau hh hl).mono fun e W' ⟨he, bel⟩ => ?_
  subst he
  exact ⟨_, rfl, _, _, _, [], _, [], hW', trodAll_mk1 (shut_bool Try.underlying4 _), (trodAll_cons_mk (Below.trod laidOut (by kernel_rfl) (of_decide_eq_true (by kernel_rfl)) k0 bel lt0) (trodAll_cons_mk (Below.trod laidOut (by kernel_rfl) (of_decide_eq_true (by kernel_rfl)) k1 bel lt1) trodAll_mk0)), rfl, bel.frame _, fun h => by cases h⟩

theorem over : Rows.bothSomeRow.holds Try.pinned (OpenSpec.ofChange Rows.bothSomeSpec) :=
  OpenClaim.holds_of_wide 3 Try.f3 rfl rfl rfl rfl rfl rfl rfl ⟨rfl, rfl, rfl, rfl, rfl⟩ rfl rfl rfl rfl rfl (by kernel_rfl) Try.func3 (by kernel_rfl)
    (of_decide_eq_true (by kernel_rfl)) (by unfold Func.isWrapper; first | (rw [if_pos (by decide +kernel)]; kernel_rfl) | (rw [if_neg (by decide +kernel)]; exact ⟨rfl, rfl⟩))
    (fun os started H enc _ => lifted os started H enc)

/-- the statement -/
theorem proved : Rows.BothSomeSaid := over
#print axioms proved
end Go.Proofs.Ytoglgeaiiipchab.bothSome
