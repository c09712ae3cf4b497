/- Walks: the law's one. -/
import Derived.Test.YtoglgeaiiipchaaLBTM25
import Derived.Test.YtoglgeaiiipchaaLBTM1
import Derived.Test.YtoglgeaiiipchaaLBTM28
import Derived.Test.YtoglgeaiiipchaaLBTM5
import Derived.Test.YtoglgeaiiipchaaLBTM24
import Derived.Test.YtoglgeaiiipchaaLBTM3
import Derived.Test.YtoglgeaiiipchaaLBTM2
set_option linter.unusedSimpArgs false
set_option linter.unusedVariables false
namespace Go.Proofs.Ytoglgeaiiipchaa
open Go Go.RowKit Go.Maps

/-- the errno of an automaton and a lasso -/
def taErr (a : Au) (l : La) : Int := if ckA a = 0 then ckL l a.le else ckA a
noncomputable def tkB (a : Au) (l : La) : Bool := taErr a l == 0 && takesB a l.at
def TkPost (w : World) (a : Au) (l : La) (e : Ending) (w' : World) : Prop := e = .returned (.tuple #[.bool (tkB a l), .int .i64 (taErr a l)]) ∧ Below w.heap.size w w'
theorem SpE_iff {a : Au} {l : La} {x y : Int × Nat} : SpE a l.row l.h.length x y ↔ SE a l x y := by
  unfold SpE succs spotNext SE stepsFrom
  rw [List.mem_map]
  constructor
  · rintro ⟨s, hs, rfl⟩
    obtain ⟨h1, h2⟩ := List.mem_filter.1 hs
    obtain ⟨h3, h4⟩ := List.mem_filter.1 h1
    obtain ⟨f, lt, t⟩ := s
    simp only [beq_iff_eq] at h2 h4
    subst h2 h4
    refine ⟨h3, ?_⟩
    show nxt l.row l.h.length x.2 = nx l.n l.h.length x.2
    unfold nxt nx
    rw [La.row_len]
  · rintro ⟨h1, h2⟩
    refine ⟨⟨x.1, l.row.getD x.2 0, y.1⟩, List.mem_filter.2 ⟨List.mem_filter.2 ⟨h1, by simp⟩, by simp⟩, ?_⟩
    refine Prod.ext rfl ?_
    show nxt l.row l.h.length x.2 = y.2
    rw [h2]
    unfold nxt nx
    rw [La.row_len]
theorem plus_iff {a : Au} {l : La} {x y : Int × Nat} : Plus (SpE a l.row l.h.length) x y ↔ Plus (SE a l) x y := by
  constructor
  · intro h
    induction h with
    | one h => exact .one (SpE_iff.1 h)
    | on _ h ih => exact ih.on (SpE_iff.1 h)
  · intro h
    induction h with
    | one h => exact .one (SpE_iff.2 h)
    | on _ h ih => exact ih.on (SpE_iff.2 h)
/-- what again is asked, over the spots met and the first ones, or what stands in their place -/
theorem takes_rounds {a : Au} {l : La} (ho : AuOK a) (hp : 0 < l.l.length) {L D : List (Int × Nat)} (hL : ∀ y, y ∈ L ↔ ∃ x ∈ a.fs.map (fun n => (n, 0)), Plus (SpE a l.row l.h.length) x y) (hD : ∀ y ∈ D, y ∈ a.fs.map (fun n => (n, 0)) ∨ y ∈ L) :
    Rounds a l.row l.h.length (L ++ D) ↔ TakesU a l.at := by
  rw [takes_spot ho hp]
  constructor
  · rintro ⟨x, hx, h1, h2, h3⟩
    have hx : x ∈ a.fs.map (fun n => (n, 0)) ∨ x ∈ L := by
      rcases List.mem_append.1 hx with h | h
      · exact .inr h
      · exact hD x h
    rcases hx with h | h
    · obtain ⟨f, hf, rfl⟩ := List.mem_map.1 h
      exact ⟨f, hf, _, .inl rfl, h1, h2, plus_iff.1 h3⟩
    · obtain ⟨y, hy, hpl⟩ := (hL x).1 h
      obtain ⟨f, hf, rfl⟩ := List.mem_map.1 hy
      exact ⟨f, hf, x, .inr (plus_iff.1 hpl), h1, h2, plus_iff.1 h3⟩
  · rintro ⟨f, hf, x, hx, h1, h2, h3⟩
    refine ⟨x, List.mem_append_left _ ((hL x).2 ⟨(f, 0), List.mem_map.2 ⟨f, hf, rfl⟩, ?_⟩), h1, h2, plus_iff.2 h3⟩
    rcases hx with rfl | hx
    · exact plus_iff.2 h3
    · exact plus_iff.2 hx
theorem fs_few {a : Au} (ho : AuOK a) : a.fs.length ≤ 300 := by
  have := nodup_bound a.st.toNat (a.fs.map Int.toNat) (List.pairwise_map.2 (ho.fo.imp_of_mem fun {x y} hx hy hlt he => by
    have := ho.fr x hx
    have := ho.fr y hy
    omega)) (fun x hx => by
    obtain ⟨y, hy, rfl⟩ := List.mem_map.1 hx
    have := ho.fr y hy
    omega)
  have h2 := ho.st2
  rw [List.length_map] at this
  omega
theorem spC_one (y : Int × Nat) : ∀ u ∈ spC y, u.oneCell' = true := by
  intro u hu
  simp only [spC, List.mem_cons, List.not_mem_nil, or_false] at hu
  rcases hu with rfl | rfl <;> rfl
theorem Rd_spot (W : World) (y : Int × Nat) : Rd (W.alloc (Obj.cells #[.int .i64 y.1, .int .i64 (y.2 : Int)] 85)) 0 (some ⟨W.heap.size, 0, none⟩) (spC y) := Rd.new W #[.int .i64 y.1, .int .i64 (y.2 : Int)] 85
/-- the spots met, and those that stand in the row of the first ones, put in -/
structure Tk2 (a : Au) (wk : World) (M : Nat) (L fr : List (Int × Nat)) (Af : Option Addr) (k : Nat) (D : List (Int × Nat)) (wr : World) : Prop where
  map : MapAt wr M (L ++ D)
  sub : ∀ y ∈ D, y ∈ fr ∨ y ∈ L
  below : Below wk.heap.size wk wr
  row : 0 < a.fs.length → ∃ g, Af = some ⟨g, 0, none⟩ ∧ RowIn wr g a.fs.length (fun y => y ∈ fr ∨ y ∈ L)
  len : D.length = k
theorem hba' (W : World) (g : Nat) (o : Obj) (h : g < W.heap.size) : (W.alloc o).heap[g]? = W.heap[g]? := Below.heap_alloc W o g h
/-- the walker laid in a variable -/
theorem wk_new {W : World} {a : Au} {A B C A4 : Option Addr} {ca cb cc c4 V5 n back : Nat} {row : List Int} (hI : Ints W 0 A4 c4 row) (hA : AuAt W V5 a A B C ca cb cc) (hR : AuRd W 0 a A B C ca cb cc) (hn : n = row.length) :
    WkAt (W.alloc (Obj.cells #[.int .i64 a.st, .int .i64 a.le, .slice A a.fs.length ca, .slice B a.gs.length cb, .slice C a.ss.length cc, .slice A4 n c4, .int .i64 (back : Int), .func (.func 84) #[] #[.pointer (some ⟨V5, 0, none⟩)]] 82)) W.heap.size V5 a A B C ca cb cc row A4 c4 back := by
  subst hn
  have hb : Below W.heap.size W (W.alloc (Obj.cells #[.int .i64 a.st, .int .i64 a.le, .slice A a.fs.length ca, .slice B a.gs.length cb, .slice C a.ss.length cc, .slice A4 row.length c4, .int .i64 (back : Int), .func (.func 84) #[] #[.pointer (some ⟨V5, 0, none⟩)]] 82)) := (Below.refl _ _).alloc (Nat.le_refl _) _
  refine ⟨by simp, ?_, ?_, ?_, ?_, hA.below hb hA.lt, hR.below hb, hI.below hb⟩ <;> go_simp
set_option maxRecDepth 100000 in
set_option maxHeartbeats 8000000 in
theorem Takes_ (a : Au) (A B C D E : Option Addr) (ca cb cc cd ce : Nat) (l : La) (w : World) (hr : AuRd w 0 a A B C ca cb cc) (hh : Ints w 0 D cd l.h) (hl : Ints w 0 E ce l.l) :
    Calls Try.prog 22 #[.agg #[.int .i64 a.st, .int .i64 a.le, .slice A a.fs.length ca, .slice B a.gs.length cb, .slice C a.ss.length cc], .agg #[.slice D l.h.length cd, .slice E l.l.length ce]] w (TkPost w a l) := by
  have HW := Lib.hid (alW_is w a A B C ca cb cc l D E cd ce)
  have HR := Lib.hid (hr.below HW.out.below)
  have HH := Lib.hid (hh.below HW.out.below)
  have HL := Lib.hid (hl.below HW.out.below)
  have HCA := Lib.hid (fun W (hW : Below w.heap.size w W) => autoCheck_ a A B C ca cb cc W (hr.below hW))
  have HCL := Lib.hid (fun W (hW : Below w.heap.size w W) => wordCheck_ D E cd ce l a.le W (hh.below hW) (hl.below hW))
  have HH0 := Lib.hid hh
  have HL0 := Lib.hid hl
  clear hr hh hl
  go_enter Try.func22, Try.ntmps22
  go_upto_region 1 with fail
  change Code.wp _ _ _ _ (alW w a A B C ca cb cc l D E cd ce)
  generalize alW w a A B C ca cb cc l D E cd ce = W0 at *
  obtain ⟨V, hV⟩ : ∃ V, V = w.heap.size := ⟨_, rfl⟩
  rw [← hV] at HW ⊢
  have HVV := Lib.hid hV
  have HA := Lib.hid HW.out.at_
  have HSZ := Lib.hid HW.out.size
  have HBW : Hid (Below w.heap.size w W0) := HW.out.below
  have hV1 := HA.out.lt
  clear HW hV
  obtain ⟨_, ⟨_, c0, c1, c2, c3, c4⟩, l0, l1⟩ := HA.out
  by_cases hk : ckA a = 0
  · have HCA2 : Hid (∀ W, Below w.heap.size w W → Calls Try.prog 48 #[.agg #[.int .i64 a.st, .int .i64 a.le, .slice A a.fs.length ca, .slice B a.gs.length cb, .slice C a.ss.length cc]] W (IntB W 0)) := by rw [← hk]; exact HCA.out
    have HTE : Hid (taErr a l = ckL l a.le) := by show _ = _; unfold taErr; rw [if_pos hk]
    obtain ⟨ho, hos⟩ := ckA_zero.1 hk
    clear hk HCA
    go_wp2_with fail
    refine (HCA2.out _ HBW.out).mono ?_
    rintro e W1 ⟨rfl, hb1⟩
    have HB1 := Lib.hid hb1
    obtain ⟨hV2, ⟨_, d0, d1, d2, d3, d4⟩, m0, m1⟩ := HA.out.below hb1 hV1
    clear hb1 c0 c1 c2 c3 c4 l0 l1
    go_wp2_with fail
    refine (HCL.out _ (Below_on HBW.out HB1.out HBW.out.size)).mono ?_
    rintro e W2 ⟨rfl, hb2⟩
    have HB2 : Hid (Below W0.heap.size W0 W2) := Below_on HB1.out hb2 HB1.out.size
    clear hb2 d0 d1 d2 d3 d4 m0 m1 HB1 hV2
    by_cases hk2 : ckL l a.le = 0
    · rw [hk2] at HTE ⊢
      have HB2 := HB2
      obtain ⟨hV2, ⟨_, d0, d1, d2, d3, d4⟩, m0, m1⟩ := HA.out.below HB2.out hV1
      go_wp2_with fail
      have HBW2 : Hid (Below w.heap.size w W2) := Below_on HBW.out HB2.out HBW.out.size
      have hV2l : V + 1 < W2.heap.size := hV2
      obtain ⟨h8, hle4, hle4'⟩ := ckL_few hk2
      have HCAT : Hid (∀ W G, Below w.heap.size w W → W.cell? ⟨G, 0, none⟩ = some (.slice D l.h.length cd) → W.cell? ⟨G, 1, none⟩ = some (.slice E l.l.length ce) → G < W.heap.size → Calls Try.prog 33 #[.slice (some ⟨G, 0, none⟩) 2 2] W (CatPost W (l.h ++ l.l))) := fun W G hW h0 h1 hG =>
        ConcatI_ G D E cd ce l.h l.l W (HH0.out.below hW) (HL0.out.below hW) (by omega) h0 h1 hG
      have HRW : Hid (∀ W, Below W2.heap.size W2 W → AuRd W 0 a A B C ca cb cc) := fun W hW => HR.out.below (Below_on HB2.out hW HB2.out.size)
      have HFRM := Lib.hid (fun W => From_ a A B C ca cb cc W)
      have HG0 : Hid (Below W2.heap.size W2 (W2.alloc (Obj.cells #[.slice D l.h.length cd, .slice E l.l.length ce] 24)).drew) := ((Below.refl _ W2).alloc (Nat.le_refl _) _).drew
      go_cut [7] (fun s7 wx => ∃ K V' Dr cr, s7 = .pointer (some ⟨K, 0, none⟩) ∧ Hid (WkAt wx K V' a A B C ca cb cc l.row Dr cr l.h.length ∧ Below W2.heap.size W2 wx))
      case first =>
        go_region_held3 (fun w' => w'.cell? ⟨V, 0, none⟩ = some (.int .i64 a.st) ∧ w'.cell? ⟨V, 1, none⟩ = some (.int .i64 a.le) ∧ w'.cell? ⟨V, 2, none⟩ = some (.slice A a.fs.length ca) ∧ w'.cell? ⟨V, 3, none⟩ = some (.slice B a.gs.length cb) ∧ w'.cell? ⟨V, 4, none⟩ = some (.slice C a.ss.length cc) ∧ w'.cell? ⟨V + 1, 0, none⟩ = some (.slice D l.h.length cd) ∧ w'.cell? ⟨V + 1, 1, none⟩ = some (.slice E l.l.length ce))
          (first | go_keep | exact ⟨z0, z1, z2, z3, z4, z5, z6⟩)
          (first
            | (go_at_call 33; refine (HCAT.out _ _ (Below_on HBW2.out HG0.out HBW2.out.size) (by go_simp) (by go_simp) (by simp)).mono ?_; rintro e w4 ⟨A4, c4', rfl, hi4, hb4⟩; have HB4 := Lib.hid (Below_on HG0.out hb4 (by simp)); have HI4 := Lib.hid (hi4.zero); have z0 := (HB4.out.cell (p := ⟨V, 0, none⟩) (by show V < _; omega)).trans d0; have z1 := (HB4.out.cell (p := ⟨V, 1, none⟩) (by show V < _; omega)).trans d1; have z2 := (HB4.out.cell (p := ⟨V, 2, none⟩) (by show V < _; omega)).trans d2; have z3 := (HB4.out.cell (p := ⟨V, 3, none⟩) (by show V < _; omega)).trans d3; have z4 := (HB4.out.cell (p := ⟨V, 4, none⟩) (by show V < _; omega)).trans d4; have z5 := (HB4.out.cell (p := ⟨V + 1, 0, none⟩) (by show V + 1 < _; omega)).trans m0; have z6 := (HB4.out.cell (p := ⟨V + 1, 1, none⟩) (by show V + 1 < _; omega)).trans m1)
            | (go_at_call 33; refine (HCAT.out _ _ (Below_on HBW2.out HB5.out HBW2.out.size) zg0 zg1 hg5).mono ?_; rintro e w4 ⟨A4, c4', rfl, hi4, hb4⟩; have HB4 := Lib.hid (Below_on HB5.out hb4 HB5.out.size); have HI4 := Lib.hid (hi4.zero); have HA4 := Lib.hid (HA5.out.below hb4 HA5.out.lt); have z0 := (HB4.out.cell (p := ⟨V, 0, none⟩) (by show V < _; omega)).trans d0; have z1 := (HB4.out.cell (p := ⟨V, 1, none⟩) (by show V < _; omega)).trans d1; have z2 := (HB4.out.cell (p := ⟨V, 2, none⟩) (by show V < _; omega)).trans d2; have z3 := (HB4.out.cell (p := ⟨V, 3, none⟩) (by show V < _; omega)).trans d3; have z4 := (HB4.out.cell (p := ⟨V, 4, none⟩) (by show V < _; omega)).trans d4; have z5 := (HB4.out.cell (p := ⟨V + 1, 0, none⟩) (by show V + 1 < _; omega)).trans m0; have z6 := (HB4.out.cell (p := ⟨V + 1, 1, none⟩) (by show V + 1 < _; omega)).trans m1)
            | (go_at_call 33; refine (HCAT.out _ _ (Below_on HBW2.out (HB5.out.alloc HB5.out.size _) HBW2.out.size) (by go_simp) (by go_simp) (by simp)).mono ?_; rintro e w4 ⟨A4, c4', rfl, hi4, hb4⟩; have HB4 := Lib.hid (Below_on (HB5.out.alloc HB5.out.size _) hb4 (by have := HB5.out.size; simp; omega)); have HI4 := Lib.hid (hi4.zero); have HA4 := Lib.hid ((HA5.out.below ((Below.refl _ _).alloc (Nat.le_refl _) _) HA5.out.lt).below hb4 (by have := HA5.out.lt; simp; omega)); have z0 := (HB4.out.cell (p := ⟨V, 0, none⟩) (by show V < _; omega)).trans d0; have z1 := (HB4.out.cell (p := ⟨V, 1, none⟩) (by show V < _; omega)).trans d1; have z2 := (HB4.out.cell (p := ⟨V, 2, none⟩) (by show V < _; omega)).trans d2; have z3 := (HB4.out.cell (p := ⟨V, 3, none⟩) (by show V < _; omega)).trans d3; have z4 := (HB4.out.cell (p := ⟨V, 4, none⟩) (by show V < _; omega)).trans d4; have z5 := (HB4.out.cell (p := ⟨V + 1, 0, none⟩) (by show V + 1 < _; omega)).trans m0; have z6 := (HB4.out.cell (p := ⟨V + 1, 1, none⟩) (by show V + 1 < _; omega)).trans m1)
            | (go_at_call 49; refine (HFRM.out _).mono ?_; rintro e w5 ⟨V5, rfl, hV5, hA5, hb5⟩; have HB5 := Lib.hid (Below_on HB4.out hb5 HB4.out.size); have HI5 := Lib.hid (HI4.out.below hb5); have HA5 := Lib.hid hA5; have z0 := (HB5.out.cell (p := ⟨V, 0, none⟩) (by show V < _; omega)).trans d0; have z1 := (HB5.out.cell (p := ⟨V, 1, none⟩) (by show V < _; omega)).trans d1; have z2 := (HB5.out.cell (p := ⟨V, 2, none⟩) (by show V < _; omega)).trans d2; have z3 := (HB5.out.cell (p := ⟨V, 3, none⟩) (by show V < _; omega)).trans d3; have z4 := (HB5.out.cell (p := ⟨V, 4, none⟩) (by show V < _; omega)).trans d4; have z5 := (HB5.out.cell (p := ⟨V + 1, 0, none⟩) (by show V + 1 < _; omega)).trans m0; have z6 := (HB5.out.cell (p := ⟨V + 1, 1, none⟩) (by show V + 1 < _; omega)).trans m1)
            | (go_at_call 49; refine (HFRM.out _).mono ?_; rintro e w5 ⟨V5, rfl, hV5, hA5, hb5⟩; have HB5 := Lib.hid (Below_on HG0.out hb5 (by simp)); have HA5 := Lib.hid hA5; have zg0 := (hb5.cell (p := ⟨W2.heap.size, 0, none⟩) (by simp)).trans (show _ = some (.slice D l.h.length cd) by go_simp); have zg1 := (hb5.cell (p := ⟨W2.heap.size, 1, none⟩) (by simp)).trans (show _ = some (.slice E l.l.length ce) by go_simp); have hg5 : W2.heap.size < w5.heap.size := by have := hb5.size; simp at this; omega; have z0 := (HB5.out.cell (p := ⟨V, 0, none⟩) (by show V < _; omega)).trans d0; have z1 := (HB5.out.cell (p := ⟨V, 1, none⟩) (by show V < _; omega)).trans d1; have z2 := (HB5.out.cell (p := ⟨V, 2, none⟩) (by show V < _; omega)).trans d2; have z3 := (HB5.out.cell (p := ⟨V, 3, none⟩) (by show V < _; omega)).trans d3; have z4 := (HB5.out.cell (p := ⟨V, 4, none⟩) (by show V < _; omega)).trans d4; have z5 := (HB5.out.cell (p := ⟨V + 1, 0, none⟩) (by show V + 1 < _; omega)).trans m0; have z6 := (HB5.out.cell (p := ⟨V + 1, 1, none⟩) (by show V + 1 < _; omega)).trans m1)
            | (go_at_call 49; refine (HFRM.out _).mono ?_; rintro e w5 ⟨V5, rfl, hV5, hA5, hb5⟩; have HB5 := Lib.hid (Below_on (Below.refl _ W2).drew hb5 (by simp)); have HA5 := Lib.hid hA5; have z0 := (HB5.out.cell (p := ⟨V, 0, none⟩) (by show V < _; omega)).trans d0; have z1 := (HB5.out.cell (p := ⟨V, 1, none⟩) (by show V < _; omega)).trans d1; have z2 := (HB5.out.cell (p := ⟨V, 2, none⟩) (by show V < _; omega)).trans d2; have z3 := (HB5.out.cell (p := ⟨V, 3, none⟩) (by show V < _; omega)).trans d3; have z4 := (HB5.out.cell (p := ⟨V, 4, none⟩) (by show V < _; omega)).trans d4; have z5 := (HB5.out.cell (p := ⟨V + 1, 0, none⟩) (by show V + 1 < _; omega)).trans m0; have z6 := (HB5.out.cell (p := ⟨V + 1, 1, none⟩) (by show V + 1 < _; omega)).trans m1))
        all_goals
          go_wp2_with fail
          go_meet
        · exact ⟨_, V5, A4, c4', rfl, wk_new HI5.out HA5.out (HRW.out _ HB5.out) (by rw [La.row_len]; rfl), HB5.out.alloc HB5.out.size _⟩
      case rest =>
        obtain ⟨K, V', Dr, cr, rfl, HWK⟩ := hcut
        obtain ⟨wk, rfl⟩ : ∃ wk : World, wk = wc := ⟨_, rfl⟩
        have HK := Lib.hid HWK.out.1
        have HBK : Hid (Below w.heap.size w wk) := Below_on HBW2.out HWK.out.2 HBW2.out.size
        have hVk : V + 1 < wk.heap.size := Nat.lt_of_lt_of_le hV2 HWK.out.2.size
        have hHO := Lib.hid ho
        have HOS := Lib.hid hos
        have HAK : Hid (AuAt wk V a A B C ca cb cc) := (HA.out.below (Below_on HB2.out HWK.out.2 HB2.out.size) hV1).au
        have hrow : l.row.length ≤ 8000 := by rw [La.row_len]; unfold La.n; omega
        have hback : l.h.length < l.row.length := by rw [La.row_len]; unfold La.n; omega
        have HFS : Hid (∀ f ∈ a.fs, 0 ≤ f ∧ f < a.st) := ho.fr
        have hfl : a.fs.length ≤ 300 := fs_few ho
        clear d0 d1 d2 d3 d4 m0 m1 HWK HB2 HCAT HRW HFRM HG0 ho hos
        obtain ⟨_, d0, d1, d2, d3, d4⟩ := HAK.out
        obtain ⟨i0, hi0, hz0, hz1, hz2⟩ := info_parts infoSpot
        go_wp2_with fail
        go_loopw [8, 42] (fun s8 s42 wr => ∃ k : Nat, k ≤ a.fs.length ∧ s42 = .int .i64 k ∧ Hid (FromIs wr wk.heap.size s8 ((a.fs.take k).map fun n => (n, 0)) ∧ Below wk.heap.size wk wr)) (fun _ s _ => a.fs.length - (intOf s).toNat)
        case atStart => exact ⟨0, Nat.zero_le _, rfl, World.ownsRow_nil _ _ _ _, Below.refl _ _⟩
        case round =>
          obtain ⟨k, hk, rfl, HFR⟩ := hrel
          obtain ⟨wp, rfl⟩ : ∃ wp : World, wp = wr := ⟨_, rfl⟩
          clear d0 d1 d2 d3 d4
          obtain ⟨_, d0, d1, d2, d3, d4⟩ := HAK.out.below HFR.out.2 (by omega)
          by_cases hkl : k < a.fs.length
          · obtain ⟨b, o, rfl, _, _, q0⟩ := Ints.at_ ((HK.out.rd.fs).below HFR.out.2) hkl
            obtain ⟨x, hx⟩ : ∃ x, x = a.fs[k] := ⟨_, rfl⟩
            rw [← hx] at q0
            have HX := Lib.hid hx
            have hlo := HFR.out.2.size
            have hl1 : ((a.fs.take k).map fun n => ((n : Int), (0 : Nat))).length = k := by simp; omega
            have HOW : Hid (wp.ownsRow wk.heap.size 85 2 u8 k (((a.fs.take k).map fun n => ((n : Int), (0 : Nat))).flatMap spC)) := by have := HFR.out.1; unfold FromIs at this; rwa [hl1] at this
            clear hx
            go_wp2_with (at_builtin; refine wpList_app _ rfl (.tmp 46) (.tmp 49) _ rfl wk.heap.size 85 i0 _ 2 16 Try.underlying83 hi0 hz0 hz1 hz2 rfl (by decide) u8 k _ rfl (World.ownsRow.alloc HOW.out _) (some ⟨wp.heap.size, 0, none⟩) 1 1 (spC (x, 0)) rfl rfl (Rd_spot wp (x, 0)) (spC_one (x, 0)) (by unfold maxLen; omega) (by omega) (by simp; omega) ?_; intro v5 w5 hown5 hg5 hat5)
            go_roundw
            case rel =>
              refine ⟨k + 1, by omega, by go_num, ?_, ?_⟩
              · show FromIs w5 wk.heap.size v5 ((a.fs.take (k + 1)).map fun n => ((n : Int), (0 : Nat)))
                rw [List.take_succ_eq_append_getElem hkl, ← HX.out, List.map_append]
                unfold FromIs
                rw [List.length_append, hl1, List.flatMap_append]
                simpa using hown5
              · exact Below.grown (HFR.out.2.alloc hlo _) hg5 (by simp; omega) (fun k hk => (HOW.out.lt k hk).1)
            case measure => simp [intOf]; omega
          · obtain rfl : k = a.fs.length := by omega
            have hfr0 := HFR.out.1
            rw [List.take_length] at hfr0
            obtain ⟨fr, hfr⟩ : ∃ fr, fr = a.fs.map fun n => ((n : Int), (0 : Nat)) := ⟨_, rfl⟩
            rw [← hfr] at hfr0
            have hfl2 : fr.length = a.fs.length := by rw [hfr, List.length_map]
            obtain ⟨Af, cf, rfl, hcf⟩ : ∃ A c, u8 = .slice A a.fs.length c ∧ a.fs.length ≤ c := by
              obtain ⟨A', c, h1, h2, _⟩ := own_form hfr0
              exact ⟨A', c, by rw [← hfl2]; exact h1, by rw [← hfl2]; exact h2⟩
            have HFR0 := Lib.hid hfr0
            have HFE := Lib.hid hfr
            have HSPO : Hid (∀ y ∈ fr, SpOk a l.row y) := by
              intro y hy
              rw [hfr] at hy
              obtain ⟨f, hf, rfl⟩ := List.mem_map.1 hy
              exact ⟨(HFS.out f hf).1, (HFS.out f hf).2, by show 0 < _; omega⟩
            have HBP := Lib.hid HFR.out.2
            clear hfr0 hfr HFR
            go_wp2_with fail
            refine (all_ a A B C Dr ca cb cc cr K V' l.h.length l.row (.slice Af a.fs.length cf) fr wk wp HK.out HBP.out HFR0.out HSPO.out hHO.out HOS.out hrow hback (by omega)).mono ?_
            rintro e w6 ⟨M, L, rfl, hM, hm, hok, hnd, hiff, hg, hrw⟩
            have HB6 : Hid (Below wk.heap.size wk w6) := Below.grown HBP.out hg HBP.out.size (fun k hk => (HFR0.out.lt k hk).1)
            have HRW6 : Hid (0 < a.fs.length → ∃ g, Af = some ⟨g, 0, none⟩ ∧ RowIn w6 g a.fs.length (fun y => y ∈ fr ∨ y ∈ L)) := by
              intro hpos
              obtain ⟨h1, h2⟩ := HFR0.out
              rcases h2 with ⟨_, h2⟩ | ⟨g, cap, cur, hv, _⟩
              · omega
              · simp at hv
                obtain ⟨rfl, _⟩ := hv
                refine ⟨g, rfl, hrw g a.fs.length _ ?_ (fun y hy => .inr hy)⟩
                have := (RowIn.of_from HFR0.out).mono (S' := fun y => y ∈ fr ∨ y ∈ L) (fun y hy => .inl hy)
                rwa [hfl2] at this
            have HM6 := Lib.hid hm
            have HOK := Lib.hid hok
            have HIFF := Lib.hid hiff
            have hM2 : wk.heap.size ≤ M := by have := HBP.out.size; omega
            have HLL : Hid (L.length ≤ 2400000) := by
              have h2 := spot_bound hnd hok
              have h3 := hHO.out.st2
              have h4 : spMax a l.row ≤ 300 * 8000 := Nat.mul_le_mul (by omega) hrow
              show L.length ≤ _
              omega
            clear hm hok hnd hiff hg hrw hM
            go_wp2_with fail
            go_loopw [13, 57] (fun _ s57 wr => ∃ (k : Nat) (D : List (Int × Nat)), k ≤ a.fs.length ∧ s57 = .int .i64 k ∧ Hid (Tk2 a wk M L fr Af k D wr)) (fun _ s _ => a.fs.length - (intOf s).toNat)
            case atStart => exact ⟨0, [], Nat.zero_le _, rfl, by rw [List.append_nil]; exact HM6.out, fun y hy => (by cases hy), HB6.out, HRW6.out, rfl⟩
            case round =>
              obtain ⟨k, D, hk, rfl, HT⟩ := hrel
              clear d0 d1 d2 d3 d4
              have HTB := Lib.hid HT.out.below
              by_cases hkl : k < a.fs.length
              · obtain ⟨g, rfl, hri⟩ := HT.out.row (by omega)
                obtain ⟨cur, hcur, hcs, hall⟩ := hri
                obtain ⟨⟨yq, yp⟩, hy, q0, q1⟩ := hall k hkl
                simp only at q0 q1
                have y0 : wr.cell? ⟨g, k * 2, none⟩ = some (.int .i64 yq) := by simp [World.cell?, hcur]; simpa using q0
                have y1 : wr.cell? ⟨g, k * 2 + 1, none⟩ = some (.int .i64 (yp : Int)) := by simp [World.cell?, hcur]; simpa using q1
                have HY := Lib.hid hy
                clear hcur hcs hall q0 q1 hy
                have HYW : Hid (SpW (yq, yp)) := (HY.out.elim (HSPO.out _) (HOK.out _)).w hHO.out hrow
                have hba : Below wr.heap.size wr (wr.alloc (Obj.cells #[.int .i64 yq, .int .i64 (yp : Int)] 85)) := (Below.refl _ _).alloc (Nat.le_refl _) _
                have HMA : Hid (MapAt (wr.alloc (Obj.cells #[.int .i64 yq, .int .i64 (yp : Int)] 85)) M (L ++ D)) := HT.out.map.below hba
                have HBA : Hid (Below wk.heap.size wk (wr.alloc (Obj.cells #[.int .i64 yq, .int .i64 (yp : Int)] 85))) := Below_on HTB.out hba HTB.out.size
                have hlen : (L ++ D).length < maxLen := by
                  have h1 := HT.out.len
                  have h2 := HLL.out
                  rw [List.length_append]
                  unfold maxLen
                  omega
                clear hba
                go_wp2_with (at_mapUpdate; refine wpList_mapUpdate_own _ rfl _ _ _ 86 rfl 85 3 spLaw Try.underlying86 _ M (L ++ D).length (setOf oneU ((L ++ D).map spKey)) rfl HMA.out hlen _ _ (spKey (yq, yp)) rfl rfl (spKeyOf HYW.out) oneU [] (plainElem_int Try.underlying3 (by decide)) ?_; intro w7 hown7 hg7)
                go_roundw
                case rel =>
                  refine ⟨k + 1, D ++ [(yq, yp)], by omega, by go_num, by rw [← List.append_assoc]; exact MapAt.step hown7, fun y hy => ?_, ?_, fun hpos => ?_, by rw [List.length_append, HT.out.len]; rfl⟩
                  · rcases List.mem_append.1 hy with h | h
                    · exact HT.out.sub y h
                    · rw [List.mem_singleton.1 h]; exact HY.out
                  · exact Below.grown HBA.out hg7 HBA.out.size (fun k hk => by cases hk; exact hM2)
                  · obtain ⟨g', hge, hri⟩ := HT.out.row hpos
                    refine ⟨g', hge, (hri.heap (hba' wr g' _ hri.lt)).heap (hg7.block g' (by have := hri.lt; simp; omega) fun e => ?_)⟩
                    obtain rfl : g' = M := by simpa using e
                    obtain ⟨cur, h1, _⟩ := hri
                    obtain ⟨es, ck, h2, _⟩ := HT.out.map
                    rw [h2] at h1
                    cases h1
                case measure => simp [intOf]; omega
              · obtain rfl : k = a.fs.length := by omega
                go_wp2_with fail
                refine (again_ a A B C Dr ca cb cc cr K V' l.h.length M l.row (L ++ D) wk wr HK.out HTB.out HT.out.map (fun y hy => (List.mem_append.1 hy).elim (HOK.out y) fun h => (HT.out.sub y h).elim (HSPO.out y) (HOK.out y)) hHO.out HOS.out hrow hback).mono ?_
                rintro e w8 ⟨bb, rfl, hbb, hb8⟩
                have HP : Hid (TkPost w a l (.returned (.tuple #[.bool bb, .int .i64 0])) w8) := by
                  refine ⟨?_, Below_on HBK.out (Below_on HTB.out hb8 HTB.out.size) HBK.out.size⟩
                  have e1 : bb = tkB a l := by
                    have h1 := hbb.trans (takes_rounds hHO.out (by omega) (fun y => by rw [← HFE.out]; exact HIFF.out y) (fun y hy => by rw [← HFE.out]; exact HT.out.sub y hy))
                    unfold tkB
                    rw [HTE.out]
                    have h2 := takesB_iff (a := a) (u := l.at)
                    cases bb <;> cases hx : takesB a l.at <;> simp_all
                  rw [e1, HTE.out]
                clear hbb hb8
                go_wp2_with fail
                go_ret2
                exact HP.out
    · have HP : Hid (TkPost w a l (.returned (.tuple #[.bool false, .int .i64 (ckL l a.le)])) W2) := by
        refine ⟨?_, Below_on HBW.out HB2.out HBW.out.size⟩
        have : tkB a l = false := by unfold tkB; rw [HTE.out]; simp [hk2]
        rw [this, HTE.out]
      generalize ckL l a.le = kk at *
      have hk3 : (kk != 0) = true := by simpa using hk2
      go_wp2_with fail
      go_ret2
      exact HP.out
  · have HP : Hid (∀ W, Below w.heap.size w W → TkPost w a l (.returned (.tuple #[.bool false, .int .i64 (ckA a)])) W) := by
      intro W hW
      have e1 : taErr a l = ckA a := by unfold taErr; rw [if_neg hk]
      have : tkB a l = false := by unfold tkB; rw [e1]; simp [hk]
      exact ⟨by rw [this, e1], hW⟩
    generalize ckA a = kk at *
    have hk3 : (kk != 0) = true := by simpa using hk
    have hk4 : (kk == 0) = false := by simpa using hk
    clear HCL
    go_wp2_with fail
    refine (HCA.out _ HBW.out).mono ?_
    rintro e W1 ⟨rfl, hb1⟩
    have HP1 := Lib.hid (HP.out _ (Below_on HBW.out hb1 HBW.out.size))
    clear hb1 c0 c1 c2 c3 c4 l0 l1
    go_wp2_with fail
    go_ret2
    exact HP1.out
end Go.Proofs.Ytoglgeaiiipchaa

namespace Go.Proofs.Ytoglgeaiiipchaa
open Go Go.RowKit

def oneA : Au := ⟨1, 2, [0], [true], [⟨0, 0, 0⟩]⟩
def AuPost (w : World) (a : Au) (e : Ending) (w' : World) : Prop := ∃ A B C ca cb cc, e = .returned (.agg #[.int .i64 a.st, .int .i64 a.le, .slice A a.fs.length ca, .slice B a.gs.length cb, .slice C a.ss.length cc]) ∧ AuRd w' w.heap.size a A B C ca cb cc ∧ Below w.heap.size w w'
def oneW (w : World) : World := (((w.alloc (Obj.cells #[.int .i64 1, .int .i64 2, .slice (some ⟨w.heap.size + 1, 0, none⟩) 1 1, .slice (some ⟨w.heap.size + 1 + 1, 0, none⟩) 1 1, .slice (some ⟨w.heap.size + 1 + 1 + 1, 0, none⟩) 1 1] 49)).alloc
  (Obj.cells #[.int .i64 0] 3)).alloc (Obj.cells #[.bool true] 4)).alloc (Obj.cells #[.int .i64 0, .int .i64 0, .int .i64 0] 90)
theorem oneW_is (w : World) : AuRd (oneW w) w.heap.size oneA (some ⟨w.heap.size + 1, 0, none⟩) (some ⟨w.heap.size + 1 + 1, 0, none⟩) (some ⟨w.heap.size + 1 + 1 + 1, 0, none⟩) 1 1 1 ∧ Below w.heap.size w (oneW w) := by
  refine ⟨⟨?_, ?_, ?_⟩, by unfold oneW; go_grown⟩
  · refine ⟨by decide, by omega, by decide, fun _ => ⟨_, 0, rfl, by omega, by unfold oneW; simp, fun j u hu => ?_⟩⟩
    match j, hu with
    | 0, hu => simp [oneA] at hu; subst hu; unfold oneW; go_simp
    | j + 1, hu => simp [oneA] at hu
  · refine ⟨by decide, by omega, by decide, fun _ => ⟨_, 0, rfl, by omega, by unfold oneW; simp, fun j u hu => ?_⟩⟩
    match j, hu with
    | 0, hu => simp [oneA] at hu; subst hu; unfold oneW; go_simp
    | j + 1, hu => simp [oneA] at hu
  · refine ⟨by decide, by omega, by decide, fun _ => ⟨_, 0, rfl, by omega, by unfold oneW; simp, fun j u hu => ?_⟩⟩
    match j, hu with
    | 0, hu => simp [oneA, Stp.cells] at hu; subst hu; unfold oneW; go_simp
    | 1, hu => simp [oneA, Stp.cells] at hu; subst hu; unfold oneW; go_simp
    | 2, hu => simp [oneA, Stp.cells] at hu; subst hu; unfold oneW; go_simp
    | j + 3, hu => simp [oneA, Stp.cells] at hu
set_option maxRecDepth 100000 in
theorem one_ (w : World) : Calls Try.prog 43 #[] w (AuPost w oneA) := by
  have HP : Hid (AuPost w oneA (.returned (.agg #[.int .i64 1, .int .i64 2, .slice (some ⟨w.heap.size + 1, 0, none⟩) 1 1, .slice (some ⟨w.heap.size + 1 + 1, 0, none⟩) 1 1, .slice (some ⟨w.heap.size + 1 + 1 + 1, 0, none⟩) 1 1])) (oneW w)) :=
    ⟨_, _, _, _, _, _, rfl, (oneW_is w).1, (oneW_is w).2⟩
  go_enter Try.func43, Try.ntmps43
  go_wp2_with fail
  exact bodyPost_ret (by simp [results, Try.results43, go_sem]) rfl HP.out
theorem one0_ (w : World) : Calls Try.prog 43 #[] w fun e w' => ∃ A B C ca cb cc, e = .returned (.agg #[.int .i64 1, .int .i64 2, .slice A 1 ca, .slice B 1 cb, .slice C 1 cc]) ∧ AuRd w' 0 oneA A B C ca cb cc ∧ Below w.heap.size w w' :=
  (one_ w).mono fun e w' ⟨A, B, C, ca, cb, cc, h1, h2, h3⟩ => ⟨A, B, C, ca, cb, cc, h1, h2.low (Nat.zero_le _), h3⟩
theorem one_ck : ckA oneA = 0 := by decide +kernel
end Go.Proofs.Ytoglgeaiiipchaa
