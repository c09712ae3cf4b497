/- A map from states to steps. -/
import Derived.Test.YtoglgeaiiipchaaLBTM29
import Derived.Test.YtoglgeaiiipchaaLBTM26
import Derived.Test.YtoglgeaiiipchaaLBTM28
import Derived.Test.YtoglgeaiiipchaaLBTM15
import Derived.Deep.AppendSrc
import Derived.Test.YtoglgeaiiipchaaLBTM12
import Derived.Test.YtoglgeaiiipchaaLBTM21
set_option linter.unusedSimpArgs false
set_option linter.unusedVariables false
namespace Go.Proofs.Ytoglgeaiiipchaa
open Go Go.RowKit Go.Shelf

def zeroL : La := ⟨[], [0]⟩
def oneL : La := ⟨[1], [0]⟩
def zerL : La := ⟨[0], [0, 0]⟩
theorem flat_ints (xs : List Int) : xs.flatMap (fun n : Int => [Value.int .i64 n]) = xs.map (Value.int .i64) := by
  induction xs with
  | nil => rfl
  | cons x r ih => rw [List.flatMap_cons, List.map_cons, ih]; rfl
theorem ints_lit {W : World} {b : Nat} {t : TypeId} {fz : Nat × Nat} (xs : List Int) (h : W.heap[b]? = some (.cells (xs.map (Value.int .i64)).toArray t fz)) (hl : xs.length ≤ 1000) : Ints W 0 (some ⟨b, 0, none⟩) xs.length xs := by
  refine ⟨Nat.le_refl _, by omega, by omega, fun _ => ⟨b, 0, rfl, Nat.zero_le _, (Array.getElem?_eq_some_iff.1 h).1, fun j u hu => ?_⟩⟩
  simp only [World.cell?, h, Nat.zero_add]
  rw [flat_ints] at hu
  simpa using hu
def zerW (w : World) : World := (w.alloc (Obj.cells #[.slice none 0 0, .slice (some ⟨w.heap.size + 1, 0, none⟩) 1 1] 26)).alloc (Obj.cells #[.int .i64 0] 3)
theorem zerW_is (w : World) : Ints (zerW w) w.heap.size (some ⟨w.heap.size + 1, 0, none⟩) 1 [0] ∧ Below w.heap.size w (zerW w) := by
  refine ⟨?_, by unfold zerW; go_grown⟩
  refine ⟨by decide, by omega, by decide, fun _ => ⟨_, 0, rfl, by omega, by unfold zerW; simp, fun j u hu => ?_⟩⟩
  match j, hu with
  | 0, hu => simp at hu; subst hu; unfold zerW; go_simp
  | j + 1, hu => simp at hu
theorem ints_nil (w : World) (lo : Nat) : Ints w lo none 0 [] := ⟨Nat.le_refl _, by omega, by decide, Rd.nil⟩
set_option maxRecDepth 100000 in
theorem zero_ (w : World) : Calls Try.prog 44 #[] w (LaPost w zeroL) := by
  have HP : Hid (LaPost w zeroL (.returned (.agg #[.slice none 0 0, .slice (some ⟨w.heap.size + 1, 0, none⟩) 1 1])) (zerW w)) :=
    ⟨none, some ⟨w.heap.size + 1, 0, none⟩, 0, 1, rfl, ints_nil _ _, (zerW_is w).1, (zerW_is w).2⟩
  go_enter Try.func44, Try.ntmps44
  go_wp2_with fail
  exact bodyPost_ret (by simp [results, Try.results44, go_sem]) rfl HP.out
/-- what the closed calls answer -/
theorem zero_ck : ckL zeroL 2 = 0 := by decide +kernel
theorem one_zero : tkB oneA zeroL = true := by
  have h1 : taErr oneA zeroL = 0 := by unfold taErr; rw [if_pos one_ck]; exact zero_ck
  have h2 : takesB oneA zeroL.at = true := takesB_iff.2 ⟨fun _ => 0, by simp [oneA], fun i => by
    have : zeroL.at i = 0 := by unfold La.at zeroL; simp [Nat.mod_one]
    rw [this]
    simp [oneA], fun n => ⟨n, Nat.le_refl _, by unfold Au.good; simp [oneA]⟩⟩
  unfold tkB
  rw [h1, h2]
  rfl
theorem one_one : tkB oneA oneL = false := by
  have h2 : takesB oneA oneL.at = false := by
    cases h : takesB oneA oneL.at with
    | false => rfl
    | true =>
      obtain ⟨r, h0, h1, _⟩ := takesB_iff.1 h
      have := h1 0
      simp [oneA, La.at, oneL] at this
  unfold tkB
  rw [h2, Bool.and_false]
theorem one_ta : taErr oneA zeroL = 0 ∧ taErr oneA oneL = 0 := by
  unfold taErr
  rw [if_pos one_ck, if_pos one_ck]
  exact ⟨zero_ck, by decide +kernel⟩
theorem zer_least : lstL zerL 2 = zeroL ∧ ckL zerL 2 = 0 ∧ atL oneL 2 0 = 1 ∧ atE oneL 2 0 = 0 ∧ ckL zeroL 1 = 0 := by
  refine ⟨by decide +kernel, by decide +kernel, by decide +kernel, by decide +kernel, by decide +kernel⟩
end Go.Proofs.Ytoglgeaiiipchaa

namespace Go.Proofs.Ytoglgeaiiipchaa
open Go Go.RowKit Go.Shelf

theorem LeastZer_ (A B : Option Addr) (w : World) (hh : Ints w 0 A 1 [0]) (hl : Ints w 0 B 2 [0, 0]) :
    Calls Try.prog 15 #[.agg #[.slice A 1 1, .slice B 2 2], .int .i64 2] w fun e w' => ∃ A B ca cb, e = .returned (.tuple #[.agg #[.slice A 0 ca, .slice B 1 cb], .int .i64 0]) ∧ Ints w' 0 A ca [] ∧ Ints w' 0 B cb [0] ∧ Below w.heap.size w w' := by
  have := Least_ A B 1 2 zerL 2 w hh hl
  rw [zer_least.1, zer_least.2.1] at this
  refine this.mono ?_
  rintro e w' ⟨A, B, ca, cb, h1, h2, h3, h4⟩
  exact ⟨A, B, ca, cb, h1, h2.zero, h3.zero, h4⟩
theorem zero0_ (w : World) : Calls Try.prog 44 #[] w fun e w' => ∃ A B ca cb, e = .returned (.agg #[.slice A 0 ca, .slice B 1 cb]) ∧ Ints w' 0 A ca [] ∧ Ints w' 0 B cb [0] ∧ Below w.heap.size w w' :=
  (zero_ w).mono fun e w' ⟨A, B, ca, cb, h1, h2, h3, h4⟩ => ⟨A, B, ca, cb, h1, h2.zero, h3.zero, h4⟩
theorem AtOne_ (A B : Option Addr) (w : World) (hh : Ints w 0 A 1 [1]) (hl : Ints w 0 B 1 [0]) :
    Calls Try.prog 16 #[.agg #[.slice A 1 1, .slice B 1 1], .int .i64 2, .int .i64 0] w (IntsPost w 1 0) := by
  have := At_ A B 1 1 oneL 2 0 w hh hl (by decide)
  rwa [zer_least.2.2.1, zer_least.2.2.2.1] at this
theorem TakesOne_ (A B C D E : Option Addr) (ca cb cc cd ce : Nat) (w : World) (hr : AuRd w 0 oneA A B C ca cb cc) (hh : Ints w 0 D cd []) (hl : Ints w 0 E ce [0]) :
    Calls Try.prog 22 #[.agg #[.int .i64 1, .int .i64 2, .slice A 1 ca, .slice B 1 cb, .slice C 1 cc], .agg #[.slice D 0 cd, .slice E 1 ce]] w fun e w' => e = .returned (.tuple #[.bool true, .int .i64 0]) ∧ Below w.heap.size w w' := by
  have := Takes_ oneA A B C D E ca cb cc cd ce zeroL w hr hh hl
  unfold TkPost at this
  rwa [one_zero, one_ta.1] at this
theorem TakesNo_ (A B C D E : Option Addr) (ca cb cc cd ce : Nat) (w : World) (hr : AuRd w 0 oneA A B C ca cb cc) (hh : Ints w 0 D cd [1]) (hl : Ints w 0 E ce [0]) :
    Calls Try.prog 22 #[.agg #[.int .i64 1, .int .i64 2, .slice A 1 ca, .slice B 1 cb, .slice C 1 cc], .agg #[.slice D 1 cd, .slice E 1 ce]] w fun e w' => e = .returned (.tuple #[.bool false, .int .i64 0]) ∧ Below w.heap.size w w' := by
  have := Takes_ oneA A B C D E ca cb cc cd ce oneL w hr hh hl
  unfold TkPost at this
  rwa [one_one, one_ta.2] at this
theorem CheckZero_ (A B : Option Addr) (ca cb : Nat) (w : World) (hh : Ints w 0 A ca []) (hl : Ints w 0 B cb [0]) :
    Calls Try.prog 20 #[.agg #[.slice A 0 ca, .slice B 1 cb], .int .i64 1] w fun e w' => e = .returned (.int .i64 0) ∧ Below w.heap.size w w' := by
  have := wordCheck_ A B ca cb zeroL 1 w hh hl
  rwa [zer_least.2.2.2.2] at this
theorem SameZero_ (A B C D : Option Addr) (ca cb cc cd : Nat) (w : World) (hh : Ints w 0 A ca []) (hl : Ints w 0 B cb [0]) (gh : Ints w 0 C cc []) (gl : Ints w 0 D cd [0]) :
    Calls Try.prog 21 #[.agg #[.slice A 0 ca, .slice B 1 cb], .agg #[.slice C 0 cc, .slice D 1 cd]] w (BoolPost w true) :=
  SameLasso_ A B C D ca cb cc cd zeroL zeroL w hh hl gh gl
theorem ints_one {W : World} {b : Nat} {t : TypeId} {fz : Nat × Nat} {x : Int} (h : W.heap[b]? = some (.cells #[.int .i64 x] t fz)) : Ints W 0 (some ⟨b, 0, none⟩) 1 [x] := ints_lit [x] h (by simp)
theorem ints_two {W : World} {b : Nat} {t : TypeId} {fz : Nat × Nat} {x y : Int} (h : W.heap[b]? = some (.cells #[.int .i64 x, .int .i64 y] t fz)) : Ints W 0 (some ⟨b, 0, none⟩) 2 [x, y] := ints_lit [x, y] h (by simp)
theorem two_blocks (W : World) (o1 o2 : Obj) : ((W.alloc o1).alloc o2).heap[W.heap.size]? = some o1 ∧ ((W.alloc o1).alloc o2).heap[W.heap.size + 1]? = some o2 ∧ Below W.heap.size W ((W.alloc o1).alloc o2) :=
  ⟨by rw [Below.heap_alloc _ _ _ (by simp)]; exact World.alloc_heap_new _ _, by have := World.alloc_heap_new (W.alloc o1) o2; rwa [World.size_alloc] at this, ((Below.refl _ _).alloc (Nat.le_refl _) _).alloc (by simp) _⟩
set_option maxRecDepth 100000 in
set_option maxHeartbeats 2000000 in
theorem wordBegun_ (w : World) : Calls Try.prog 19 #[] w (BoolPost w true) := by
  have H1 := Lib.hid (two_blocks w (Obj.cells #[.int .i64 0] 3) (Obj.cells #[.int .i64 0, .int .i64 0] 3))
  go_enter Try.func19, Try.ntmps19
  go_wp2_with fail
  refine (LeastZer_ _ _ _ (ints_one H1.out.1) (ints_two H1.out.2.1)).mono ?_
  rintro e w1 ⟨LA, LB, lca, lcb, rfl, hlh, hll, hb1⟩
  have hba : Below w1.heap.size w1 (w1.alloc (Obj.cells #[.slice LA 0 lca, .slice LB 1 lcb] 26)) := (Below.refl _ _).alloc (Nat.le_refl _) _
  have HB1 : Hid (Below w.heap.size w (w1.alloc (Obj.cells #[.slice LA 0 lca, .slice LB 1 lcb] 26))) := Below_on (Below_on H1.out.2.2 hb1 H1.out.2.2.size) hba (Nat.le_trans H1.out.2.2.size hb1.size)
  have HLH := Lib.hid (hlh.below hba)
  have HLL := Lib.hid (hll.below hba)
  have HX : Hid ((w1.alloc (Obj.cells #[.slice LA 0 lca, .slice LB 1 lcb] 26)).heap[w1.heap.size]? = some (Obj.cells #[.slice LA 0 lca, .slice LB 1 lcb] 26)) := World.alloc_heap_new _ _
  have H2 := Lib.hid (two_blocks (w1.alloc (Obj.cells #[.slice LA 0 lca, .slice LB 1 lcb] 26)) (Obj.cells #[.int .i64 1] 3) (Obj.cells #[.int .i64 0] 3))
  rw [World.size_alloc] at H2
  clear H1 hb1 hlh hll hba
  go_wp2_with fail
  refine (AtOne_ _ _ _ (ints_one H2.out.1) (ints_one H2.out.2.1)).mono ?_
  rintro e w2 ⟨rfl, hb2⟩
  obtain ⟨X, hX⟩ : ∃ X, X = w1.heap.size := ⟨_, rfl⟩
  rw [← hX] at HX ⊢
  have hXl : X < (w1.alloc (Obj.cells #[.slice LA 0 lca, .slice LB 1 lcb] 26)).heap.size := by simp [hX]
  have hb3 := Below_on (show Below (w1.alloc (Obj.cells #[.slice LA 0 lca, .slice LB 1 lcb] 26)).heap.size _ _ by rw [World.size_alloc]; exact H2.out.2.2) hb2 (by simp)
  have HX2 : Hid (w2.heap[X]? = some (Obj.cells #[.slice LA 0 lca, .slice LB 1 lcb] 26)) := (hb3.block X hXl).trans HX.out
  have HB2 : Hid (Below w.heap.size w w2) := Below_on HB1.out hb3 HB1.out.size
  have HLH2 := Lib.hid (HLH.out.below hb3)
  have HLL2 := Lib.hid (HLL.out.below hb3)
  clear H2 hb2 hb3 HX HLH HLL HB1 hXl hX
  go_wp2_with fail
  refine (one0_ w2).mono ?_
  rintro e w3 ⟨A3, B3, C3, ca3, cb3, cc3, rfl, hr3, hb3⟩
  have HB3 := Lib.hid hb3
  have HR3 := Lib.hid hr3
  clear hb3 hr3
  go_wp2_with fail
  refine (zero0_ w3).mono ?_
  rintro e w4 ⟨D4, E4, cd4, ce4, rfl, hh4, hl4, hb4⟩
  have HB4 := Lib.hid (Below_on HB3.out hb4 HB3.out.size)
  have HR4 := Lib.hid (HR3.out.below hb4)
  have HH4 := Lib.hid hh4
  have HL4 := Lib.hid hl4
  clear hb4 hh4 hl4 HR3 HB3
  go_wp2_with fail
  refine (TakesOne_ A3 B3 C3 D4 E4 ca3 cb3 cc3 cd4 ce4 w4 HR4.out HH4.out HL4.out).mono ?_
  rintro e w5 ⟨rfl, hb5⟩
  have HB5 := Lib.hid (Below_on HB4.out hb5 HB4.out.size)
  clear hb5 HH4 HL4 HR4 HB4
  go_wp2_with fail
  refine (one0_ w5).mono ?_
  rintro e w6 ⟨A6, B6, C6, ca6, cb6, cc6, rfl, hr6, hb6⟩
  have HB6 := Lib.hid (Below_on HB5.out hb6 HB5.out.size)
  have HR6 := Lib.hid hr6
  have H6 := Lib.hid (two_blocks w6 (Obj.cells #[.int .i64 1] 3) (Obj.cells #[.int .i64 0] 3))
  clear hb6 hr6 HB5
  go_wp2_with fail
  refine (TakesNo_ A6 B6 C6 _ _ ca6 cb6 cc6 1 1 _ (HR6.out.below H6.out.2.2) (ints_one H6.out.1) (ints_one H6.out.2.1)).mono ?_
  rintro e w7 ⟨rfl, hb7⟩
  have HB7 : Hid (Below w2.heap.size w2 w7) := Below_on (Below_on HB6.out H6.out.2.2 HB6.out.size) hb7 (Nat.le_trans HB6.out.size H6.out.2.2.size)
  clear H6 hb7 HB6 HR6
  have hX2l : X < w2.heap.size := (Array.getElem?_eq_some_iff.1 HX2.out).1
  have HX7 : Hid (w7.heap[X]? = some (Obj.cells #[.slice LA 0 lca, .slice LB 1 lcb] 26)) := (HB7.out.block X hX2l).trans HX2.out
  have HLH7 := Lib.hid (HLH2.out.below HB7.out)
  have HLL7 := Lib.hid (HLL2.out.below HB7.out)
  have HW7 : Hid (Below w.heap.size w w7) := Below_on HB2.out HB7.out HB2.out.size
  clear HX2 HLH2 HLL2 HB7 HB2 hX2l
  go_wp2_with fail
  have HBX : Hid (∀ W, Below w7.heap.size w7 W → W.cell? ⟨X, 0, none⟩ = some (.slice LA 0 lca) ∧ W.cell? ⟨X, 1, none⟩ = some (.slice LB 1 lcb)) := by
    intro W hW
    have hl : X < w7.heap.size := (Array.getElem?_eq_some_iff.1 HX7.out).1
    have h7 := (hW.block X hl).trans HX7.out
    exact ⟨by simp [World.cell?, h7], by simp [World.cell?, h7]⟩
  obtain ⟨x0, x1⟩ := HBX.out w7 (Below.refl _ _)
  have hw7 : w7.heap.size ≤ w7.heap.size := Nat.le_refl _
  go_region_held3 (fun w' => w'.cell? ⟨X, 0, none⟩ = some (.slice LA 0 lca) ∧ w'.cell? ⟨X, 1, none⟩ = some (.slice LB 1 lcb))
    (first | go_keep | exact ⟨q0, q1⟩)
    (first
      | (go_at_call 21; refine (SameZero_ LA LB _ _ lca lcb _ _ _ (HLH7.out.below HBC.out) (HLL7.out.below HBC.out) HHC.out HLC.out).mono ?_; rintro e wd ⟨rfl, hbd⟩; have HBD := Lib.hid (Below_on HBC.out hbd HBC.out.size); have q0 := (HBX.out _ HBD.out).1; have q1 := (HBX.out _ HBD.out).2)
      | (go_at_call 44; refine (zero0_ _).mono ?_; rintro e wc ⟨Dc, Ec, cdc, cec, rfl, hhc, hlc, hbc⟩; have HBC := Lib.hid (Below_on HBB.out hbc HBB.out.size); have HHC := Lib.hid hhc; have HLC := Lib.hid hlc; have q0 := (HBX.out _ HBC.out).1; have q1 := (HBX.out _ HBC.out).2)
      | (go_at_call 20; refine (CheckZero_ _ _ _ _ _ HHA.out HLA.out).mono ?_; rintro e wb ⟨rfl, hbb⟩; have HBB := Lib.hid (Below_on HBA.out hbb HBA.out.size); have q0 := (HBX.out _ HBB.out).1; have q1 := (HBX.out _ HBB.out).2)
      | (go_at_call 44; refine (zero0_ _).mono ?_; rintro e wa ⟨Da, Ea, cda, cea, rfl, hha, hla, hba⟩; have HBA := Lib.hid (Below_on ((Below.refl _ w7).drew) hba hw7); have HHA := Lib.hid hha; have HLA := Lib.hid hla; have q0 := (HBX.out _ HBA.out).1; have q1 := (HBX.out _ HBA.out).2))
  all_goals
    have HP : Hid (BoolPost w true (.returned (.bool true)) wd) := ⟨rfl, Below_on HW7.out HBD.out HW7.out.size⟩
    clear q0 q1 x0 x1 hba hbb hbc hbd HBX hhc hlc hha hla
    go_wp2_with fail
    go_ret
    exact HP.out
end Go.Proofs.Ytoglgeaiiipchaa

namespace Go.Proofs.Ytoglgeaiiipchaa
open Go Go.RowKit Go.Shelf

def QOwn (W : World) (lo : Nat) (v : Value) (xs : List Int) : Prop :=
  (v = .slice none 0 0 ∧ xs = []) ∨ ∃ g off cap cur, v = .slice (some ⟨g, off, none⟩) xs.length cap ∧ lo ≤ g ∧ W.heap[g]? = some (.cells cur 3 (0, 0)) ∧ xs.length ≤ cap ∧ off + cap ≤ cur.size ∧ cap ≤ maxLen ∧
    ∀ j (h : j < xs.length), cur[off + j]? = some (.int .i64 xs[j])
section
variable {W W' : World} {lo : Nat} {v : Value} {xs : List Int}
theorem QOwn.lt (h : QOwn W lo v xs) : ∀ k, v.ownBlock = some k → lo ≤ k ∧ k < W.heap.size := by
  intro k hk
  rcases h with ⟨rfl, _⟩ | ⟨g, off, cap, cur, rfl, h1, h2, _⟩
  · cases hk
  · obtain rfl : g = k := by simpa [Value.ownBlock] using hk
    exact ⟨h1, (Array.getElem?_eq_some_iff.1 h2).1⟩
theorem QOwn.cells (h : QOwn W lo v xs) {r : Nat} (hr : v.ownBlock = some r) : ∃ cur, W.heap[r]? = some (.cells cur 3 (0, 0)) := by
  rcases h with ⟨rfl, _⟩ | ⟨g, off, cap, cur, rfl, _, h2, _⟩
  · cases hr
  · obtain rfl : g = r := by simpa [Value.ownBlock] using hr
    exact ⟨cur, h2⟩
theorem QOwn.heap (h : QOwn W lo v xs) (he : ∀ k, v.ownBlock = some k → W'.heap[k]? = W.heap[k]?) : QOwn W' lo v xs := by
  rcases h with ⟨rfl, h0⟩ | ⟨g, off, cap, cur, rfl, h1, h2, h3⟩
  · exact .inl ⟨rfl, h0⟩
  · exact .inr ⟨g, off, cap, cur, rfl, h1, (he g rfl).trans h2, h3⟩
theorem QOwn.on (h : QOwn W lo v xs) (hb : Below W.heap.size W W') : QOwn W' lo v xs := h.heap fun k hk => hb.block k (h.lt k hk).2
theorem QOwn.low {lo' : Nat} (h : QOwn W lo v xs) (hl : lo' ≤ lo) : QOwn W lo' v xs := by
  rcases h with h | ⟨g, off, cap, cur, e, h1, h2⟩
  · exact .inl h
  · exact .inr ⟨g, off, cap, cur, e, Nat.le_trans hl h1, h2⟩
theorem QOwn.form (h : QOwn W lo v xs) : ∃ A c, v = .slice A xs.length c ∧ xs.length ≤ c ∧ c ≤ 9223372036854775807 := by
  rcases h with ⟨rfl, rfl⟩ | ⟨g, off, cap, cur, rfl, _, _, h3, _, h5, _⟩
  · exact ⟨none, 0, rfl, Nat.le_refl _, by omega⟩
  · exact ⟨_, _, rfl, h3, by unfold maxLen at h5; omega⟩
theorem QOwn.of (h : IntOwn W lo v xs) : QOwn W lo v xs := by
  obtain ⟨h1, h2⟩ := h
  rcases h2 with ⟨rfl, hn⟩ | ⟨g, cap, cur, rfl, hg, hh, hn, hc, hs, ht⟩
  · exact .inl ⟨rfl, List.eq_nil_of_length_eq_zero hn⟩
  · refine .inr ⟨g, 0, cap, cur, rfl, hg, hh, hn, by omega, hc, fun j hj => ?_⟩
    have hfm : ∀ l : List Int, (l.flatMap fun n : Int => [Value.int .i64 n]) = l.map (Value.int .i64) := by
      intro l
      induction l with
      | nil => rfl
      | cons x l ih => rw [List.flatMap_cons, ih]; rfl
    rw [hfm] at ht
    have h3 : cur.toList[j]? = some (.int .i64 xs[j]) := by
      have h4 : (cur.toList.take (xs.length * 1))[j]? = some (.int .i64 xs[j]) := by rw [ht, List.getElem?_map, List.getElem?_eq_getElem hj]; rfl
      rwa [List.getElem?_take, if_pos (by omega)] at h4
    rw [Nat.zero_add]
    simpa using h3
/-- the first one, and what is left of the slice -/
theorem QOwn.pop {x : Int} (h : QOwn W lo v (x :: xs)) : ∃ g off cap, v = .slice (some ⟨g, off, none⟩) (xs.length + 1) cap ∧ xs.length + 1 ≤ cap ∧ cap ≤ 9223372036854775807 ∧ W.cell? ⟨g, off, none⟩ = some (.int .i64 x) ∧
    QOwn W lo (.slice (if cap = 1 then some ⟨g, off, none⟩ else some ⟨g, off + 1, none⟩) xs.length (cap - 1)) xs := by
  rcases h with ⟨_, h⟩ | ⟨g, off, cap, cur, rfl, h1, h2, h3, h4, h5, h6⟩
  · cases h
  · rw [List.length_cons] at h3
    refine ⟨g, off, cap, rfl, h3, by unfold maxLen at h5; omega, ?_, ?_⟩
    · have := h6 0 (by simp)
      rw [Nat.add_zero] at this
      simp only [World.cell?, h2]
      simpa using this
    · by_cases hc : cap = 1
      · rw [if_pos hc]
        have hx : xs = [] := List.eq_nil_of_length_eq_zero (by omega)
        subst hx
        exact .inr ⟨g, off, cap - 1, cur, rfl, h1, h2, by simp, by omega, by omega, fun j hj => by simp at hj⟩
      · rw [if_neg hc]
        refine .inr ⟨g, off + 1, cap - 1, cur, rfl, h1, h2, by omega, by omega, by omega, fun j hj => ?_⟩
        have := h6 (j + 1) (by simpa using hj)
        rw [show off + (j + 1) = off + 1 + j by omega] at this
        simpa using this
theorem run_append_q {y : Int} {B : Nat} (ty : TypeId) (hown : QOwn W lo v xs) (hB : W.heap[B]? = some (.cells #[.int .i64 y] 3 (0, 0))) (hl : xs.length ≤ 10000000) (hlo : lo ≤ W.heap.size) :
    ∃ v' W', (Builtin.append_ #[24, 24] ty #[v, .slice (some ⟨B, 0, none⟩) 1 1]).run Try.prog W = .ok v' W' ∧ QOwn W' lo v' (xs ++ [y]) ∧ W.grownBy W' v.ownBlock ∧ (v'.ownBlock = v.ownBlock ∨ v'.ownBlock = some W.heap.size) := by
  rcases hown with ⟨rfl, rfl⟩ | ⟨g, off, cap, cur, rfl, h1, h2, h3, h4, h5, h6⟩
  · obtain ⟨v', W', a1, a2, a3, a4⟩ := run_append_int (W := W) (lo := lo) (v := .slice none 0 0) (xs := []) (y := y) (B := B) ty (World.ownsRow_nil _ _ _ _) hB (by simp) hlo
    exact ⟨v', W', a1, QOwn.of a2, a3, a4⟩
  · obtain ⟨i0, hi0, hz0, hz1, hz2⟩ := info_parts infoInt
    have hcell : W.cell? ⟨B, 0, none⟩ = some (.int .i64 y) := by simp [World.cell?, hB]
    have hnews : ∀ j u, [Value.int .i64 y][j]? = some u → W.cell? ((⟨B, 0, none⟩ : Addr).add j) = some u := fun j u hu => by
      cases j with
      | zero =>
        obtain rfl : Value.int .i64 y = u := by simpa using hu
        exact hcell
      | succ j => simp at hu
    by_cases hr : xs.length + 1 ≤ cap
    · have hsrc : Src Try.prog i0.size 24 (.slice (some ⟨B, 0, none⟩) 1 1) 1 [.int .i64 y] W := Src.ofSlice W Try.underlying24 ⟨B, 0, none⟩ 1 1 _ (by rw [hz1]; rfl) hnews (by simp [Value.oneCell'])
      have hrun := run_append_room_src (P := Try.prog) W 24 24 ty 3 i0 Try.underlying24 hi0 g off xs.length cap (.slice (some ⟨B, 0, none⟩) 1 1) 1 [.int .i64 y] hsrc hr
        (fun j hj => by
          have : j = 0 := by simpa using hj
          subst this
          rw [hz1]
          simp only [World.cell?, h2]
          have : off + xs.length * 1 + 0 < cur.size := by omega
          have h7 : off + xs.length < cur.size := by omega
          simp [Array.getElem?_eq_getElem this, h7])
        (fun j _ => by simp [World.frozen?, h2])
      refine ⟨_, _, hrun, ?_, ?_, .inl rfl⟩
      · rw [hz1]
        refine .inr ⟨g, off, cap, cur.setIfInBounds (off + xs.length) (.int .i64 y), by simp, h1, ?_, by simpa using hr, by simpa using h4, h5, fun j hj => ?_⟩
        · simp only [World.setCells, Nat.mul_one]
          simp [World.setCell, Array.getElem?_modify, h2]
        · rw [Array.getElem?_setIfInBounds]
          by_cases hjl : j = xs.length
          · subst hjl
            rw [if_pos rfl, if_pos (by omega)]
            simp
          · rw [List.length_append] at hj
            simp at hj
            rw [if_neg (by omega), h6 j (by omega), List.getElem_append_left (by omega)]
      · rw [hz1]
        simp only [World.setCells]
        exact ⟨rfl, rfl, rfl, by simp [World.setCell], fun k _ hk => Below.heap_setCell _ _ _ _ (fun e => hk (by simp [Value.ownBlock]; exact e))⟩
    · have holds : ∀ j u, (xs.map (Value.int .i64))[j]? = some u → W.cell? ((⟨g, off, none⟩ : Addr).add j) = some u := fun j u hu => by
        rw [List.getElem?_map] at hu
        obtain ⟨x, hx, rfl⟩ := Option.map_eq_some_iff.1 hu
        obtain ⟨hj, rfl⟩ := List.getElem?_eq_some_iff.1 hx
        rw [Addr_add_off]
        simp only [World.cell?, h2]
        exact h6 j hj
      have hcx : cap = xs.length := by omega
      have hfit : Builtin.nextslicecap (xs.length + 1) cap * i0.bytes ≤ 281474976710656 := by
        rw [hz2]
        exact growslice_fits (by omega) (by omega)
      have hrun := run_append_grow (P := Try.prog) W 24 ty 3 i0 _ Try.underlying24 hi0 hz0 ⟨g, off, none⟩ xs.length cap (xs.map (Value.int .i64)) (by rw [hz1]; simp) holds ⟨B, 0, none⟩ 1 1 [.int .i64 y] (by rw [hz1]; rfl) hnews (by omega) (by omega) hfit
      refine ⟨_, _, hrun, ?_, ⟨rfl, rfl, rfl, by simp, fun k hk _ => by
        rw [Below.heap_alloc _ _ _ (by simpa using hk)]
        rfl⟩, .inr (by simp [Value.ownBlock])⟩
      have hgc := grownCap_ge W (xs.length + 1) cap 3
      have hgm := grownCap_le_maxLen W (xs.length + 1) cap 3 (by unfold maxLen; omega)
      refine .inr ⟨W.heap.size, 0, _, _, by simp, hlo, World.alloc_heap_new W.drew _, by simpa using hgc, ?_, hgm, fun j hj => ?_⟩
      · simp [Value.cells, size_zeroCells]
        omega
      · rw [Nat.zero_add, Array.getElem?_append_left (by simpa using hj), List.append_toArray, List.getElem?_toArray]
        by_cases hjl : j = xs.length
        · subst hjl
          simp
        · rw [List.length_append] at hj
          simp at hj
          rw [List.getElem?_append_left (by simp; omega), List.getElem_append_left (by omega), List.getElem?_map, List.getElem?_eq_getElem (by omega)]
          rfl
end
end Go.Proofs.Ytoglgeaiiipchaa

namespace Go.Proofs.Ytoglgeaiiipchaa
open Go Go.RowKit Go.Maps Go.Shelf

def stV (s : Stp) : Value := .agg #[.int .i64 s.f, .int .i64 s.l, .int .i64 s.t]
def stD (s : Stp) : DataW Unit := .agg [.lit (.int .i64 s.f), .lit (.int .i64 s.l), .lit (.int .i64 s.t)]
def stE (v : Value) : Option (DataW Unit × List MemPlace) :=
  match v with
  | .agg ⟨[.int .i64 f, .int .i64 l, .int .i64 t]⟩ => some (stD ⟨f, l, t⟩, [])
  | _ => none
theorem stE_mk (s : Stp) : stE (stV s) = some (stD s, []) := rfl
theorem stD_inj {s t : Stp} (h : stD s = stD t) : s = t := by
  obtain ⟨f, l, t'⟩ := s
  obtain ⟨f2, l2, t2⟩ := t
  simp [stD] at h
  obtain ⟨rfl, rfl, rfl⟩ := h
  rfl
theorem stE_some {v : Value} {z : DataW Unit × List MemPlace} (h : stE v = some z) : ∃ s, v = stV s ∧ z = (stD s, []) := by
  unfold stE at h
  split at h
  · rename_i f l t
    exact ⟨⟨f, l, t⟩, rfl, (Option.some.inj h).symm⟩
  · cases h
theorem stE_inv {v : Value} {s : Stp} {ps : List MemPlace} (h : stE v = some (stD s, ps)) : v = stV s := by
  obtain ⟨s', rfl, hz⟩ := stE_some h
  simp only [Prod.mk.injEq] at hz
  rw [stD_inj hz.1]
def byD (D : List (Int × Stp)) : DataW Unit := D.foldl (fun m p => m.put (.int .i64 p.1) (stD p.2)) (.map [])
theorem byD_snoc (D : List (Int × Stp)) (p : Int × Stp) : byD (D ++ [p]) = (byD D).put (.int .i64 p.1) (stD p.2) := by unfold byD; rw [List.foldl_append]; rfl
theorem byD_not (z : DataW Unit) {k : Int} : ∀ (D : List (Int × Stp)) (m : DataW Unit), k ∉ D.map Prod.fst → (D.foldl (fun m p => m.put (.int .i64 p.1) (stD p.2)) m).atKey (.int .i64 k) z = m.atKey (.int .i64 k) z
  | [], m, _ => rfl
  | p :: D, m, h => by
    rw [List.map_cons, List.mem_cons] at h
    rw [List.foldl_cons, byD_not z D _ (fun h' => h (.inr h')), atKey_put_other (fun e => h (.inl (by simpa using e)))]
theorem byD_in (z : DataW Unit) {k : Int} {s : Stp} : ∀ (D : List (Int × Stp)) (m : DataW Unit), IsMap m → (D.map Prod.fst).Nodup → (k, s) ∈ D → (D.foldl (fun m p => m.put (.int .i64 p.1) (stD p.2)) m).atKey (.int .i64 k) z = stD s
  | [], m, _, _, h => by cases h
  | p :: D, m, hm, hn, h => by
    rw [List.map_cons, List.nodup_cons] at hn
    rw [List.foldl_cons]
    rcases List.mem_cons.1 h with h1 | h1
    · subst h1
      rw [byD_not z D _ hn.1, atKey_put_same hm (show WideAt.IsKeyLit (.int .i64 k) from trivial)]
    · exact byD_in z D _ (hm.put _ _) hn.2 h1
def ByAt (W : World) (M : Nat) (D : List (Int × Stp)) : Prop := W.ownsMap Try.prog 3 stE M D.length (byD D)
theorem ByAt.made (w : World) : ByAt (w.alloc (.map #[] 0)) w.heap.size [] := World.ownsMap_made _ _ _ _
theorem ByAt.kept {W W' : World} {M : Nat} {D : List (Int × Stp)} {row : Option Nat} (h : ByAt W M D) (hg : W.grownBy W' row) (hr : some M ≠ row) : ByAt W' M D := World.ownsMap.kept h hg hr
theorem ByAt.on {W W' : World} {M : Nat} {D : List (Int × Stp)} (h : ByAt W M D) (hb : Below W.heap.size W W') : ByAt W' M D :=
  h.kept (row := none) ⟨hb.os, hb.tape, hb.output, hb.size, fun k hk _ => hb.block k hk⟩ (by simp)
theorem ByAt.lt {W : World} {M : Nat} {D : List (Int × Stp)} (h : ByAt W M D) : M < W.heap.size := World.ownsMap.lt h
theorem ByAt.block {W : World} {M : Nat} {D : List (Int × Stp)} (h : ByAt W M D) : ∃ es c, W.heap[M]? = some (.map es c) := by
  obtain ⟨es, c, h1, _⟩ := h
  exact ⟨es, c, h1⟩
theorem ByAt.step {W : World} {M : Nat} {D : List (Int × Stp)} {s : Stp} (h : W.ownsMap Try.prog 3 stE M (D.length + 1) ((byD D).put (.int .i64 s.t) (stD s))) : ByAt W M (D ++ [(s.t, s)]) := by
  unfold ByAt
  rw [byD_snoc, List.length_append]
  exact h
theorem zeroStp (w : World) : (zeroValue 90).run Try.prog w = .ok (stV ⟨0, 0, 0⟩) w := by kernel_rfl
theorem keyedInt : Keyed Try.prog 3 := int_keyed Try.underlying3
theorem keyInt {k : Int} (h : (Lit.int .i64 k).wf = true) : keyOf Try.prog 3 (.int .i64 k) = some (.int .i64 k) := keyOf_int_mk Try.underlying3 h
/-- m[k], ok -/
theorem ByAt.look {W : World} {M : Nat} {D : List (Int × Stp)} (h : ByAt W M D) (hn : (D.map Prod.fst).Nodup) {k : Int} (hk : (Lit.int .i64 k).wf = true) :
    ∃ s, (Instr.lookup 165 (.map (some M)) (.int .i64 k) true).run Try.prog W = .ok (.tuple #[stV s, .bool (decide (k ∈ D.map Prod.fst))]) W := by
  obtain ⟨v, ps, hrun, hv⟩ := World.ownsMap.look_ok h keyedInt Try.underlying165 (zeroStp W) (stE_mk ⟨0, 0, 0⟩) (keyInt hk)
  obtain ⟨s, rfl, _⟩ := stE_some hv
  refine ⟨s, ?_⟩
  rw [hrun]
  by_cases hm : k ∈ D.map Prod.fst
  · obtain ⟨⟨k', s'⟩, hp, rfl⟩ := List.mem_map.1 hm
    rw [has_true_of_atKey (D := byD D) (y := stD s') (fun z => byD_in z D _ isMap_empty hn hp), decide_eq_true hm]
  · rw [has_false_of_atKey (D := byD D) (fun z => byD_not z D _ hm), decide_eq_false hm]
theorem ByAt.hit {W : World} {M : Nat} {D : List (Int × Stp)} (h : ByAt W M D) (hn : (D.map Prod.fst).Nodup) {k : Int} {s : Stp} (hk : (Lit.int .i64 k).wf = true) (hs : (k, s) ∈ D) :
    (Instr.lookup 165 (.map (some M)) (.int .i64 k) true).run Try.prog W = .ok (.tuple #[stV s, .bool true]) W := by
  obtain ⟨v, ps, hrun, hv⟩ := World.ownsMap.look_ok h keyedInt Try.underlying165 (zeroStp W) (stE_mk ⟨0, 0, 0⟩) (keyInt hk)
  rw [show (byD D).atKey (.int .i64 k) (stD ⟨0, 0, 0⟩) = stD s from byD_in _ D _ isMap_empty hn hs] at hv
  rw [hrun, stE_inv hv, has_true_of_atKey (D := byD D) (y := stD s) (fun z => byD_in z D _ isMap_empty hn hs)]
theorem ByAt.miss {W : World} {M : Nat} {D : List (Int × Stp)} (h : ByAt W M D) {k : Int} (hk : (Lit.int .i64 k).wf = true) (hm : k ∉ D.map Prod.fst) :
    (Instr.lookup 165 (.map (some M)) (.int .i64 k) true).run Try.prog W = .ok (.tuple #[stV ⟨0, 0, 0⟩, .bool false]) W := by
  obtain ⟨v, ps, hrun, hv⟩ := World.ownsMap.look_ok h keyedInt Try.underlying165 (zeroStp W) (stE_mk ⟨0, 0, 0⟩) (keyInt hk)
  rw [show (byD D).atKey (.int .i64 k) (stD ⟨0, 0, 0⟩) = stD ⟨0, 0, 0⟩ from byD_not _ D _ hm] at hv
  rw [hrun, stE_inv hv, has_false_of_atKey (D := byD D) (fun z => byD_not z D _ hm)]
/-- m[k] -/
theorem ByAt.get {W : World} {M : Nat} {D : List (Int × Stp)} (h : ByAt W M D) (hn : (D.map Prod.fst).Nodup) {k : Int} {s : Stp} (hk : (Lit.int .i64 k).wf = true) (hs : (k, s) ∈ D) :
    (Instr.lookup 165 (.map (some M)) (.int .i64 k) false).run Try.prog W = .ok (stV s) W := by
  obtain ⟨v, ps, hrun, hv⟩ := World.ownsMap.lookup h keyedInt Try.underlying165 (zeroStp W) (stE_mk ⟨0, 0, 0⟩) (keyInt hk)
  rw [show (byD D).atKey (.int .i64 k) (stD ⟨0, 0, 0⟩) = stD s from byD_in _ D _ isMap_empty hn hs] at hv
  rw [hrun, stE_inv hv]
/-- m[k] = s -/
theorem ByAt.put {W : World} {M : Nat} {D : List (Int × Stp)} (h : ByAt W M D) (hl : D.length ≤ 1000000) {s : Stp} (hk : (Lit.int .i64 s.t).wf = true) :
    ∃ W', (Instr.mapUpdate 165 (.map (some M)) (.int .i64 s.t) (stV s)).run Try.prog W = .ok () W' ∧ ByAt W' M (D ++ [(s.t, s)]) ∧ W.grownBy W' (some M) := by
  obtain ⟨W', h1, h2, h3⟩ := World.ownsMap.update h keyedInt Try.underlying165 (by unfold maxLen; omega) (keyInt hk) (stE_mk s)
  exact ⟨W', h1, ByAt.step h2, h3⟩
end Go.Proofs.Ytoglgeaiiipchaa
