import Derived.Test.YtoglgeaiiipchaaGreatDoorLMTKM24
import Derived.Test.YtoglgeaiiipchaaGreatDoorLMTKM22
import Derived.Test.YtoglgeaiiipchaaGreatDoorLMTKM25
import Derived.Test.YtoglgeaiiipchaaGreatDoorLMTKM19
import Derived.Test.YtoglgeaiiipchaaGreatDoorLMTKM21
import Derived.Test.YtoglgeaiiipchaaGreatDoorLMTKM7
import Derived.Test.YtoglgeaiiipchaaGreatDoorLMTKM1
import Derived.Test.YtoglgeaiiipchaaGreatDoorLMTKM3
import Derived.Test.YtoglgeaiiipchaaGreatDoorProg
import Derived.Maps.OwnSet
import Derived.Maps.Keyed
import Derived.Deep.RegionLaw
import Derived.Deep.CutBlock
import Derived.Deep.DeepCutAuto
import Derived.Maps.Range
set_option linter.unusedSimpArgs false
set_option linter.unusedVariables false
namespace Go.Proofs.YtoglgeaiiipchaaGreatDoor
open Go Go.RowKit Go.Maps
def taErr (a : Au) (l : La) : Int := if ckA a = 0 then ckL l a.le else ckA a
noncomputable def tkB (a : Au) (l : La) : Bool := taErr a l == 0 && takesB a l.at
def TkPost (w : World) (a : Au) (l : La) (e : Ending) (w' : World) : Prop := e = .returned (.tuple #[.bool (tkB a l), .int .i64 (taErr a l)]) ∧ Below w.heap.size w w'
theorem SpE_iff {a : Au} {l : La} {x y : Int × Nat} : SpE a l.row l.h.length x y ↔ SE a l x y := by
  unfold SpE succs spotNext SE stepsFrom
  rw [List.mem_map]
  constructor
  · rintro ⟨s, hs, rfl⟩
    obtain ⟨h1, h2⟩ := List.mem_filter.1 hs
    obtain ⟨h3, h4⟩ := List.mem_filter.1 h1
    obtain ⟨f, lt, t⟩ := s
    simp only [beq_iff_eq] at h2 h4
    subst h2 h4
    refine ⟨h3, ?_⟩
    show nxt l.row l.h.length x.2 = nx l.n l.h.length x.2
    unfold nxt nx
    rw [La.row_len]
  · rintro ⟨h1, h2⟩
    refine ⟨⟨x.1, l.row.getD x.2 0, y.1⟩, List.mem_filter.2 ⟨List.mem_filter.2 ⟨h1, by simp⟩, by simp⟩, ?_⟩
    refine Prod.ext rfl ?_
    show nxt l.row l.h.length x.2 = y.2
    rw [h2]
    unfold nxt nx
    rw [La.row_len]
theorem plus_iff {a : Au} {l : La} {x y : Int × Nat} : Plus (SpE a l.row l.h.length) x y ↔ Plus (SE a l) x y := by
  constructor
  · intro h
    induction h with
    | one h => exact .one (SpE_iff.1 h)
    | on _ h ih => exact ih.on (SpE_iff.1 h)
  · intro h
    induction h with
    | one h => exact .one (SpE_iff.2 h)
    | on _ h ih => exact ih.on (SpE_iff.2 h)
theorem takes_rounds {a : Au} {l : La} (ho : AuOK a) (hp : 0 < l.l.length) {L D : List (Int × Nat)} (hL : ∀ y, y ∈ L ↔ ∃ x ∈ a.fs.map (fun n => (n, 0)), Plus (SpE a l.row l.h.length) x y) (hD : ∀ y ∈ D, y ∈ a.fs.map (fun n => (n, 0)) ∨ y ∈ L) :
    Rounds a l.row l.h.length (L ++ D) ↔ TakesU a l.at := by
  rw [takes_spot ho hp]
  constructor
  · rintro ⟨x, hx, h1, h2, h3⟩
    have hx : x ∈ a.fs.map (fun n => (n, 0)) ∨ x ∈ L := by
      rcases List.mem_append.1 hx with h | h
      · exact .inr h
      · exact hD x h
    rcases hx with h | h
    · obtain ⟨f, hf, rfl⟩ := List.mem_map.1 h
      exact ⟨f, hf, _, .inl rfl, h1, h2, plus_iff.1 h3⟩
    · obtain ⟨y, hy, hpl⟩ := (hL x).1 h
      obtain ⟨f, hf, rfl⟩ := List.mem_map.1 hy
      exact ⟨f, hf, x, .inr (plus_iff.1 hpl), h1, h2, plus_iff.1 h3⟩
  · rintro ⟨f, hf, x, hx, h1, h2, h3⟩
    refine ⟨x, List.mem_append_left _ ((hL x).2 ⟨(f, 0), List.mem_map.2 ⟨f, hf, rfl⟩, ?_⟩), h1, h2, plus_iff.2 h3⟩
    rcases hx with rfl | hx
    · exact plus_iff.2 h3
    · exact plus_iff.2 hx
theorem fs_few {a : Au} (ho : AuOK a) : a.fs.length ≤ 300 := by
  have := nodup_bound a.st.toNat (a.fs.map Int.toNat) (List.pairwise_map.2 (ho.fo.imp_of_mem fun {x y} hx hy hlt he => by
    have := ho.fr x hx
    have := ho.fr y hy
    omega)) (fun x hx => by
    obtain ⟨y, hy, rfl⟩ := List.mem_map.1 hx
    have := ho.fr y hy
    omega)
  have h2 := ho.st2
  rw [List.length_map] at this
  omega
theorem spC_one (y : Int × Nat) : ∀ u ∈ spC y, u.oneCell' = true := by
  intro u hu
  simp only [spC, List.mem_cons, List.not_mem_nil, or_false] at hu
  rcases hu with rfl | rfl <;> rfl
theorem Rd_spot (W : World) (y : Int × Nat) : Rd (W.alloc (Obj.cells #[.int .i64 y.1, .int .i64 (y.2 : Int)] 90)) 0 (some ⟨W.heap.size, 0, none⟩) (spC y) := Rd.new W #[.int .i64 y.1, .int .i64 (y.2 : Int)] 90
structure Tk2 (a : Au) (wk : World) (M : Nat) (L fr : List (Int × Nat)) (Af : Option Addr) (k : Nat) (D : List (Int × Nat)) (wr : World) : Prop where
  map : MapAt wr M (L ++ D)
  sub : ∀ y ∈ D, y ∈ fr ∨ y ∈ L
  below : Below wk.heap.size wk wr
  row : 0 < a.fs.length → ∃ g, Af = some ⟨g, 0, none⟩ ∧ RowIn wr g a.fs.length (fun y => y ∈ fr ∨ y ∈ L)
  len : D.length = k
theorem hba' (W : World) (g : Nat) (o : Obj) (h : g < W.heap.size) : (W.alloc o).heap[g]? = W.heap[g]? := Below.heap_alloc W o g h
theorem wk_new {W : World} {a : Au} {A B C A4 : Option Addr} {ca cb cc c4 V5 n back : Nat} {row : List Int} (hI : Ints W 0 A4 c4 row) (hA : AuAt W V5 a A B C ca cb cc) (hR : AuRd W 0 a A B C ca cb cc) (hn : n = row.length) :
    WkAt (W.alloc (Obj.cells #[.int .i64 a.st, .int .i64 a.le, .slice A a.fs.length ca, .slice B a.gs.length cb, .slice C a.ss.length cc, .slice A4 n c4, .int .i64 (back : Int), .func (.func 89) #[] #[.pointer (some ⟨V5, 0, none⟩)]] 87)) W.heap.size V5 a A B C ca cb cc row A4 c4 back := by
  subst hn
  have hb : Below W.heap.size W (W.alloc (Obj.cells #[.int .i64 a.st, .int .i64 a.le, .slice A a.fs.length ca, .slice B a.gs.length cb, .slice C a.ss.length cc, .slice A4 row.length c4, .int .i64 (back : Int), .func (.func 89) #[] #[.pointer (some ⟨V5, 0, none⟩)]] 87)) := (Below.refl _ _).alloc (Nat.le_refl _) _
  refine ⟨by simp, ?_, ?_, ?_, ?_, hA.below hb hA.lt, hR.below hb, hI.below hb⟩ <;> go_simp
set_option maxRecDepth 100000 in
set_option maxHeartbeats 8000000 in
theorem Takes_ (a : Au) (A B C D E : Option Addr) (ca cb cc cd ce : Nat) (l : La) (w : World) (hr : AuRd w 0 a A B C ca cb cc) (hh : Ints w 0 D cd l.h) (hl : Ints w 0 E ce l.l) :
    Calls Tryz.prog 11 #[.agg #[.int .i64 a.st, .int .i64 a.le, .slice A a.fs.length ca, .slice B a.gs.length cb, .slice C a.ss.length cc], .agg #[.slice D l.h.length cd, .slice E l.l.length ce]] w (TkPost w a l) := by
  have HW := Lib.hid (alW_is w a A B C ca cb cc l D E cd ce)
  have HR := Lib.hid (hr.below HW.out.below)
  have HH := Lib.hid (hh.below HW.out.below)
  have HL := Lib.hid (hl.below HW.out.below)
  have HCA := Lib.hid (fun W (hW : Below w.heap.size w W) => autoCheck_ a A B C ca cb cc W (hr.below hW))
  have HCL := Lib.hid (fun W (hW : Below w.heap.size w W) => wordCheck_ D E cd ce l a.le W (hh.below hW) (hl.below hW))
  have HH0 := Lib.hid hh
  have HL0 := Lib.hid hl
  clear hr hh hl
  go_enter Tryz.func11, Tryz.ntmps11
  go_upto_region 1 with fail
  change Code.wp _ _ _ _ (alW w a A B C ca cb cc l D E cd ce)
  generalize alW w a A B C ca cb cc l D E cd ce = W0 at *
  obtain ⟨V, hV⟩ : ∃ V, V = w.heap.size := ⟨_, rfl⟩
  rw [← hV] at HW ⊢
  have HVV := Lib.hid hV
  have HA := Lib.hid HW.out.at_
  have HSZ := Lib.hid HW.out.size
  have HBW : Hid (Below w.heap.size w W0) := HW.out.below
  have hV1 := HA.out.lt
  clear HW hV
  obtain ⟨_, ⟨_, c0, c1, c2, c3, c4⟩, l0, l1⟩ := HA.out
  by_cases hk : ckA a = 0
  · have HCA2 : Hid (∀ W, Below w.heap.size w W → Calls Tryz.prog 48 #[.agg #[.int .i64 a.st, .int .i64 a.le, .slice A a.fs.length ca, .slice B a.gs.length cb, .slice C a.ss.length cc]] W (IntB W 0)) := by rw [← hk]; exact HCA.out
    have HTE : Hid (taErr a l = ckL l a.le) := by show _ = _; unfold taErr; rw [if_pos hk]
    obtain ⟨ho, hos⟩ := ckA_zero.1 hk
    clear hk HCA
    go_wp2_with fail
    refine (HCA2.out _ HBW.out).mono ?_
    rintro e W1 ⟨rfl, hb1⟩
    have HB1 := Lib.hid hb1
    obtain ⟨hV2, ⟨_, d0, d1, d2, d3, d4⟩, m0, m1⟩ := HA.out.below hb1 hV1
    clear hb1 c0 c1 c2 c3 c4 l0 l1
    go_wp2_with fail
    refine (HCL.out _ (Below_on HBW.out HB1.out HBW.out.size)).mono ?_
    rintro e W2 ⟨rfl, hb2⟩
    have HB2 : Hid (Below W0.heap.size W0 W2) := Below_on HB1.out hb2 HB1.out.size
    clear hb2 d0 d1 d2 d3 d4 m0 m1 HB1 hV2
    by_cases hk2 : ckL l a.le = 0
    · rw [hk2] at HTE ⊢
      have HB2 := HB2
      obtain ⟨hV2, ⟨_, d0, d1, d2, d3, d4⟩, m0, m1⟩ := HA.out.below HB2.out hV1
      go_wp2_with fail
      have HBW2 : Hid (Below w.heap.size w W2) := Below_on HBW.out HB2.out HBW.out.size
      have hV2l : V + 1 < W2.heap.size := hV2
      obtain ⟨h8, hle4, hle4'⟩ := ckL_few hk2
      have HCAT : Hid (∀ W G, Below w.heap.size w W → W.cell? ⟨G, 0, none⟩ = some (.slice D l.h.length cd) → W.cell? ⟨G, 1, none⟩ = some (.slice E l.l.length ce) → G < W.heap.size → Calls Tryz.prog 49 #[.slice (some ⟨G, 0, none⟩) 2 2] W (CatPost W (l.h ++ l.l))) := fun W G hW h0 h1 hG =>
        ConcatI_ G D E cd ce l.h l.l W (HH0.out.below hW) (HL0.out.below hW) (by omega) h0 h1 hG
      have HRW : Hid (∀ W, Below W2.heap.size W2 W → AuRd W 0 a A B C ca cb cc) := fun W hW => HR.out.below (Below_on HB2.out hW HB2.out.size)
      have HFRM := Lib.hid (fun W => From_ a A B C ca cb cc W)
      have HG0 : Hid (Below W2.heap.size W2 (W2.alloc (Obj.cells #[.slice D l.h.length cd, .slice E l.l.length ce] 22)).drew) := ((Below.refl _ W2).alloc (Nat.le_refl _) _).drew
      go_cut [7] (fun s7 wx => ∃ K V' Dr cr, s7 = .pointer (some ⟨K, 0, none⟩) ∧ Hid (WkAt wx K V' a A B C ca cb cc l.row Dr cr l.h.length ∧ Below W2.heap.size W2 wx))
      case first =>
        go_region_held3 (fun w' => w'.cell? ⟨V, 0, none⟩ = some (.int .i64 a.st) ∧ w'.cell? ⟨V, 1, none⟩ = some (.int .i64 a.le) ∧ w'.cell? ⟨V, 2, none⟩ = some (.slice A a.fs.length ca) ∧ w'.cell? ⟨V, 3, none⟩ = some (.slice B a.gs.length cb) ∧ w'.cell? ⟨V, 4, none⟩ = some (.slice C a.ss.length cc) ∧ w'.cell? ⟨V + 1, 0, none⟩ = some (.slice D l.h.length cd) ∧ w'.cell? ⟨V + 1, 1, none⟩ = some (.slice E l.l.length ce))
          (first | go_keep | exact ⟨z0, z1, z2, z3, z4, z5, z6⟩)
          (first
            | (go_at_call 49; refine (HCAT.out _ _ (Below_on HBW2.out HG0.out HBW2.out.size) (by go_simp) (by go_simp) (by simp)).mono ?_; rintro e w4 ⟨A4, c4', rfl, hi4, hb4⟩; have HB4 := Lib.hid (Below_on HG0.out hb4 (by simp)); have HI4 := Lib.hid (hi4.zero); have z0 := (HB4.out.cell (p := ⟨V, 0, none⟩) (by show V < _; omega)).trans d0; have z1 := (HB4.out.cell (p := ⟨V, 1, none⟩) (by show V < _; omega)).trans d1; have z2 := (HB4.out.cell (p := ⟨V, 2, none⟩) (by show V < _; omega)).trans d2; have z3 := (HB4.out.cell (p := ⟨V, 3, none⟩) (by show V < _; omega)).trans d3; have z4 := (HB4.out.cell (p := ⟨V, 4, none⟩) (by show V < _; omega)).trans d4; have z5 := (HB4.out.cell (p := ⟨V + 1, 0, none⟩) (by show V + 1 < _; omega)).trans m0; have z6 := (HB4.out.cell (p := ⟨V + 1, 1, none⟩) (by show V + 1 < _; omega)).trans m1)
            | (go_at_call 49; refine (HCAT.out _ _ (Below_on HBW2.out HB5.out HBW2.out.size) zg0 zg1 hg5).mono ?_; rintro e w4 ⟨A4, c4', rfl, hi4, hb4⟩; have HB4 := Lib.hid (Below_on HB5.out hb4 HB5.out.size); have HI4 := Lib.hid (hi4.zero); have HA4 := Lib.hid (HA5.out.below hb4 HA5.out.lt); have z0 := (HB4.out.cell (p := ⟨V, 0, none⟩) (by show V < _; omega)).trans d0; have z1 := (HB4.out.cell (p := ⟨V, 1, none⟩) (by show V < _; omega)).trans d1; have z2 := (HB4.out.cell (p := ⟨V, 2, none⟩) (by show V < _; omega)).trans d2; have z3 := (HB4.out.cell (p := ⟨V, 3, none⟩) (by show V < _; omega)).trans d3; have z4 := (HB4.out.cell (p := ⟨V, 4, none⟩) (by show V < _; omega)).trans d4; have z5 := (HB4.out.cell (p := ⟨V + 1, 0, none⟩) (by show V + 1 < _; omega)).trans m0; have z6 := (HB4.out.cell (p := ⟨V + 1, 1, none⟩) (by show V + 1 < _; omega)).trans m1)
            | (go_at_call 49; refine (HCAT.out _ _ (Below_on HBW2.out (HB5.out.alloc HB5.out.size _) HBW2.out.size) (by go_simp) (by go_simp) (by simp)).mono ?_; rintro e w4 ⟨A4, c4', rfl, hi4, hb4⟩; have HB4 := Lib.hid (Below_on (HB5.out.alloc HB5.out.size _) hb4 (by have := HB5.out.size; simp; omega)); have HI4 := Lib.hid (hi4.zero); have HA4 := Lib.hid ((HA5.out.below ((Below.refl _ _).alloc (Nat.le_refl _) _) HA5.out.lt).below hb4 (by have := HA5.out.lt; simp; omega)); have z0 := (HB4.out.cell (p := ⟨V, 0, none⟩) (by show V < _; omega)).trans d0; have z1 := (HB4.out.cell (p := ⟨V, 1, none⟩) (by show V < _; omega)).trans d1; have z2 := (HB4.out.cell (p := ⟨V, 2, none⟩) (by show V < _; omega)).trans d2; have z3 := (HB4.out.cell (p := ⟨V, 3, none⟩) (by show V < _; omega)).trans d3; have z4 := (HB4.out.cell (p := ⟨V, 4, none⟩) (by show V < _; omega)).trans d4; have z5 := (HB4.out.cell (p := ⟨V + 1, 0, none⟩) (by show V + 1 < _; omega)).trans m0; have z6 := (HB4.out.cell (p := ⟨V + 1, 1, none⟩) (by show V + 1 < _; omega)).trans m1)
            | (go_at_call 50; refine (HFRM.out _).mono ?_; rintro e w5 ⟨V5, rfl, hV5, hA5, hb5⟩; have HB5 := Lib.hid (Below_on HB4.out hb5 HB4.out.size); have HI5 := Lib.hid (HI4.out.below hb5); have HA5 := Lib.hid hA5; have z0 := (HB5.out.cell (p := ⟨V, 0, none⟩) (by show V < _; omega)).trans d0; have z1 := (HB5.out.cell (p := ⟨V, 1, none⟩) (by show V < _; omega)).trans d1; have z2 := (HB5.out.cell (p := ⟨V, 2, none⟩) (by show V < _; omega)).trans d2; have z3 := (HB5.out.cell (p := ⟨V, 3, none⟩) (by show V < _; omega)).trans d3; have z4 := (HB5.out.cell (p := ⟨V, 4, none⟩) (by show V < _; omega)).trans d4; have z5 := (HB5.out.cell (p := ⟨V + 1, 0, none⟩) (by show V + 1 < _; omega)).trans m0; have z6 := (HB5.out.cell (p := ⟨V + 1, 1, none⟩) (by show V + 1 < _; omega)).trans m1)
            | (go_at_call 50; refine (HFRM.out _).mono ?_; rintro e w5 ⟨V5, rfl, hV5, hA5, hb5⟩; have HB5 := Lib.hid (Below_on HG0.out hb5 (by simp)); have HA5 := Lib.hid hA5; have zg0 := (hb5.cell (p := ⟨W2.heap.size, 0, none⟩) (by simp)).trans (show _ = some (.slice D l.h.length cd) by go_simp); have zg1 := (hb5.cell (p := ⟨W2.heap.size, 1, none⟩) (by simp)).trans (show _ = some (.slice E l.l.length ce) by go_simp); have hg5 : W2.heap.size < w5.heap.size := by have := hb5.size; simp at this; omega; have z0 := (HB5.out.cell (p := ⟨V, 0, none⟩) (by show V < _; omega)).trans d0; have z1 := (HB5.out.cell (p := ⟨V, 1, none⟩) (by show V < _; omega)).trans d1; have z2 := (HB5.out.cell (p := ⟨V, 2, none⟩) (by show V < _; omega)).trans d2; have z3 := (HB5.out.cell (p := ⟨V, 3, none⟩) (by show V < _; omega)).trans d3; have z4 := (HB5.out.cell (p := ⟨V, 4, none⟩) (by show V < _; omega)).trans d4; have z5 := (HB5.out.cell (p := ⟨V + 1, 0, none⟩) (by show V + 1 < _; omega)).trans m0; have z6 := (HB5.out.cell (p := ⟨V + 1, 1, none⟩) (by show V + 1 < _; omega)).trans m1)
            | (go_at_call 50; refine (HFRM.out _).mono ?_; rintro e w5 ⟨V5, rfl, hV5, hA5, hb5⟩; have HB5 := Lib.hid (Below_on (Below.refl _ W2).drew hb5 (by simp)); have HA5 := Lib.hid hA5; have z0 := (HB5.out.cell (p := ⟨V, 0, none⟩) (by show V < _; omega)).trans d0; have z1 := (HB5.out.cell (p := ⟨V, 1, none⟩) (by show V < _; omega)).trans d1; have z2 := (HB5.out.cell (p := ⟨V, 2, none⟩) (by show V < _; omega)).trans d2; have z3 := (HB5.out.cell (p := ⟨V, 3, none⟩) (by show V < _; omega)).trans d3; have z4 := (HB5.out.cell (p := ⟨V, 4, none⟩) (by show V < _; omega)).trans d4; have z5 := (HB5.out.cell (p := ⟨V + 1, 0, none⟩) (by show V + 1 < _; omega)).trans m0; have z6 := (HB5.out.cell (p := ⟨V + 1, 1, none⟩) (by show V + 1 < _; omega)).trans m1))
        all_goals
          go_wp2_with fail
          go_meet
        · exact ⟨_, V5, A4, c4', rfl, wk_new HI5.out HA5.out (HRW.out _ HB5.out) (by rw [La.row_len]; rfl), HB5.out.alloc HB5.out.size _⟩
      case rest =>
        obtain ⟨K, V', Dr, cr, rfl, HWK⟩ := hcut
        obtain ⟨wk, rfl⟩ : ∃ wk : World, wk = wc := ⟨_, rfl⟩
        have HK := Lib.hid HWK.out.1
        have HBK : Hid (Below w.heap.size w wk) := Below_on HBW2.out HWK.out.2 HBW2.out.size
        have hVk : V + 1 < wk.heap.size := Nat.lt_of_lt_of_le hV2 HWK.out.2.size
        have hHO := Lib.hid ho
        have HOS := Lib.hid hos
        have HAK : Hid (AuAt wk V a A B C ca cb cc) := (HA.out.below (Below_on HB2.out HWK.out.2 HB2.out.size) hV1).au
        have hrow : l.row.length ≤ 8000 := by rw [La.row_len]; unfold La.n; omega
        have hback : l.h.length < l.row.length := by rw [La.row_len]; unfold La.n; omega
        have HFS : Hid (∀ f ∈ a.fs, 0 ≤ f ∧ f < a.st) := ho.fr
        have hfl : a.fs.length ≤ 300 := fs_few ho
        clear d0 d1 d2 d3 d4 m0 m1 HWK HB2 HCAT HRW HFRM HG0 ho hos
        obtain ⟨_, d0, d1, d2, d3, d4⟩ := HAK.out
        obtain ⟨i0, hi0, hz0, hz1, hz2⟩ := info_parts infoSpot
        go_wp2_with fail
        go_loopw [8, 42] (fun s8 s42 wr => ∃ k : Nat, k ≤ a.fs.length ∧ s42 = .int .i64 k ∧ Hid (FromIs wr wk.heap.size s8 ((a.fs.take k).map fun n => (n, 0)) ∧ Below wk.heap.size wk wr)) (fun _ s _ => a.fs.length - (intOf s).toNat)
        case atStart => exact ⟨0, Nat.zero_le _, rfl, World.ownsRow_nil _ _ _ _, Below.refl _ _⟩
        case round =>
          obtain ⟨k, hk, rfl, HFR⟩ := hrel
          obtain ⟨wp, rfl⟩ : ∃ wp : World, wp = wr := ⟨_, rfl⟩
          clear d0 d1 d2 d3 d4
          obtain ⟨_, d0, d1, d2, d3, d4⟩ := HAK.out.below HFR.out.2 (by omega)
          by_cases hkl : k < a.fs.length
          · obtain ⟨b, o, rfl, _, _, q0⟩ := Ints.at_ ((HK.out.rd.fs).below HFR.out.2) hkl
            obtain ⟨x, hx⟩ : ∃ x, x = a.fs[k] := ⟨_, rfl⟩
            rw [← hx] at q0
            have HX := Lib.hid hx
            have hlo := HFR.out.2.size
            have hl1 : ((a.fs.take k).map fun n => ((n : Int), (0 : Nat))).length = k := by simp; omega
            have HOW : Hid (wp.ownsRow wk.heap.size 90 2 u8 k (((a.fs.take k).map fun n => ((n : Int), (0 : Nat))).flatMap spC)) := by have := HFR.out.1; unfold FromIs at this; rwa [hl1] at this
            clear hx
            go_wp2_with (at_builtin; refine wpList_app _ rfl (.tmp 46) (.tmp 49) _ rfl wk.heap.size 90 i0 _ 2 16 Tryz.underlying88 hi0 hz0 hz1 hz2 rfl (by decide) u8 k _ rfl (World.ownsRow.alloc HOW.out _) (some ⟨wp.heap.size, 0, none⟩) 1 1 (spC (x, 0)) rfl rfl (Rd_spot wp (x, 0)) (spC_one (x, 0)) (by unfold maxLen; omega) (by omega) (by simp; omega) ?_; intro v5 w5 hown5 hg5 hat5)
            go_roundw
            case rel =>
              refine ⟨k + 1, by omega, by go_num, ?_, ?_⟩
              · show FromIs w5 wk.heap.size v5 ((a.fs.take (k + 1)).map fun n => ((n : Int), (0 : Nat)))
                rw [List.take_succ_eq_append_getElem hkl, ← HX.out, List.map_append]
                unfold FromIs
                rw [List.length_append, hl1, List.flatMap_append]
                simpa using hown5
              · exact Below.grown (HFR.out.2.alloc hlo _) hg5 (by simp; omega) (fun k hk => (HOW.out.lt k hk).1)
            case measure => simp [intOf]; omega
          · obtain rfl : k = a.fs.length := by omega
            have hfr0 := HFR.out.1
            rw [List.take_length] at hfr0
            obtain ⟨fr, hfr⟩ : ∃ fr, fr = a.fs.map fun n => ((n : Int), (0 : Nat)) := ⟨_, rfl⟩
            rw [← hfr] at hfr0
            have hfl2 : fr.length = a.fs.length := by rw [hfr, List.length_map]
            obtain ⟨Af, cf, rfl, hcf⟩ : ∃ A c, u8 = .slice A a.fs.length c ∧ a.fs.length ≤ c := by
              obtain ⟨A', c, h1, h2, _⟩ := own_form hfr0
              exact ⟨A', c, by rw [← hfl2]; exact h1, by rw [← hfl2]; exact h2⟩
            have HFR0 := Lib.hid hfr0
            have HFE := Lib.hid hfr
            have HSPO : Hid (∀ y ∈ fr, SpOk a l.row y) := by
              intro y hy
              rw [hfr] at hy
              obtain ⟨f, hf, rfl⟩ := List.mem_map.1 hy
              exact ⟨(HFS.out f hf).1, (HFS.out f hf).2, by show 0 < _; omega⟩
            have HBP := Lib.hid HFR.out.2
            clear hfr0 hfr HFR
            go_wp2_with fail
            refine (all_ a A B C Dr ca cb cc cr K V' l.h.length l.row (.slice Af a.fs.length cf) fr wk wp HK.out HBP.out HFR0.out HSPO.out hHO.out HOS.out hrow hback (by omega)).mono ?_
            rintro e w6 ⟨M, L, rfl, hM, hm, hok, hnd, hiff, hg, hrw⟩
            have HB6 : Hid (Below wk.heap.size wk w6) := Below.grown HBP.out hg HBP.out.size (fun k hk => (HFR0.out.lt k hk).1)
            have HRW6 : Hid (0 < a.fs.length → ∃ g, Af = some ⟨g, 0, none⟩ ∧ RowIn w6 g a.fs.length (fun y => y ∈ fr ∨ y ∈ L)) := by
              intro hpos
              obtain ⟨h1, h2⟩ := HFR0.out
              rcases h2 with ⟨_, h2⟩ | ⟨g, cap, cur, hv, _⟩
              · omega
              · simp at hv
                obtain ⟨rfl, _⟩ := hv
                refine ⟨g, rfl, hrw g a.fs.length _ ?_ (fun y hy => .inr hy)⟩
                have := (RowIn.of_from HFR0.out).mono (S' := fun y => y ∈ fr ∨ y ∈ L) (fun y hy => .inl hy)
                rwa [hfl2] at this
            have HM6 := Lib.hid hm
            have HOK := Lib.hid hok
            have HIFF := Lib.hid hiff
            have hM2 : wk.heap.size ≤ M := by have := HBP.out.size; omega
            have HLL : Hid (L.length ≤ 2400000) := by
              have h2 := spot_bound hnd hok
              have h3 := hHO.out.st2
              have h4 : spMax a l.row ≤ 300 * 8000 := Nat.mul_le_mul (by omega) hrow
              show L.length ≤ _
              omega
            clear hm hok hnd hiff hg hrw hM
            go_wp2_with fail
            go_loopw [13, 57] (fun _ s57 wr => ∃ (k : Nat) (D : List (Int × Nat)), k ≤ a.fs.length ∧ s57 = .int .i64 k ∧ Hid (Tk2 a wk M L fr Af k D wr)) (fun _ s _ => a.fs.length - (intOf s).toNat)
            case atStart => exact ⟨0, [], Nat.zero_le _, rfl, by rw [List.append_nil]; exact HM6.out, fun y hy => (by cases hy), HB6.out, HRW6.out, rfl⟩
            case round =>
              obtain ⟨k, D, hk, rfl, HT⟩ := hrel
              clear d0 d1 d2 d3 d4
              have HTB := Lib.hid HT.out.below
              by_cases hkl : k < a.fs.length
              · obtain ⟨g, rfl, hri⟩ := HT.out.row (by omega)
                obtain ⟨cur, hcur, hcs, hall⟩ := hri
                obtain ⟨⟨yq, yp⟩, hy, q0, q1⟩ := hall k hkl
                simp only at q0 q1
                have y0 : wr.cell? ⟨g, k * 2, none⟩ = some (.int .i64 yq) := by simp [World.cell?, hcur]; simpa using q0
                have y1 : wr.cell? ⟨g, k * 2 + 1, none⟩ = some (.int .i64 (yp : Int)) := by simp [World.cell?, hcur]; simpa using q1
                have HY := Lib.hid hy
                clear hcur hcs hall q0 q1 hy
                have HYW : Hid (SpW (yq, yp)) := (HY.out.elim (HSPO.out _) (HOK.out _)).w hHO.out hrow
                have hba : Below wr.heap.size wr (wr.alloc (Obj.cells #[.int .i64 yq, .int .i64 (yp : Int)] 90)) := (Below.refl _ _).alloc (Nat.le_refl _) _
                have HMA : Hid (MapAt (wr.alloc (Obj.cells #[.int .i64 yq, .int .i64 (yp : Int)] 90)) M (L ++ D)) := HT.out.map.below hba
                have HBA : Hid (Below wk.heap.size wk (wr.alloc (Obj.cells #[.int .i64 yq, .int .i64 (yp : Int)] 90))) := Below_on HTB.out hba HTB.out.size
                have hlen : (L ++ D).length < maxLen := by
                  have h1 := HT.out.len
                  have h2 := HLL.out
                  rw [List.length_append]
                  unfold maxLen
                  omega
                clear hba
                go_wp2_with (at_mapUpdate; refine wpList_mapUpdate_own _ rfl _ _ _ 91 rfl 90 3 spLaw Tryz.underlying91 _ M (L ++ D).length (setOf oneU ((L ++ D).map spKey)) rfl HMA.out hlen _ _ (spKey (yq, yp)) rfl rfl (spKeyOf HYW.out) oneU [] (plainElem_int Tryz.underlying3 (by decide)) ?_; intro w7 hown7 hg7)
                go_roundw
                case rel =>
                  refine ⟨k + 1, D ++ [(yq, yp)], by omega, by go_num, by rw [← List.append_assoc]; exact MapAt.step hown7, fun y hy => ?_, ?_, fun hpos => ?_, by rw [List.length_append, HT.out.len]; rfl⟩
                  · rcases List.mem_append.1 hy with h | h
                    · exact HT.out.sub y h
                    · rw [List.mem_singleton.1 h]; exact HY.out
                  · exact Below.grown HBA.out hg7 HBA.out.size (fun k hk => by cases hk; exact hM2)
                  · obtain ⟨g', hge, hri⟩ := HT.out.row hpos
                    refine ⟨g', hge, (hri.heap (hba' wr g' _ hri.lt)).heap (hg7.block g' (by have := hri.lt; simp; omega) fun e => ?_)⟩
                    obtain rfl : g' = M := by simpa using e
                    obtain ⟨cur, h1, _⟩ := hri
                    obtain ⟨es, ck, h2, _⟩ := HT.out.map
                    rw [h2] at h1
                    cases h1
                case measure => simp [intOf]; omega
              · obtain rfl : k = a.fs.length := by omega
                go_wp2_with fail
                refine (again_ a A B C Dr ca cb cc cr K V' l.h.length M l.row (L ++ D) wk wr HK.out HTB.out HT.out.map (fun y hy => (List.mem_append.1 hy).elim (HOK.out y) fun h => (HT.out.sub y h).elim (HSPO.out y) (HOK.out y)) hHO.out HOS.out hrow hback).mono ?_
                rintro e w8 ⟨bb, rfl, hbb, hb8⟩
                have HP : Hid (TkPost w a l (.returned (.tuple #[.bool bb, .int .i64 0])) w8) := by
                  refine ⟨?_, Below_on HBK.out (Below_on HTB.out hb8 HTB.out.size) HBK.out.size⟩
                  have e1 : bb = tkB a l := by
                    have h1 := hbb.trans (takes_rounds hHO.out (by omega) (fun y => by rw [← HFE.out]; exact HIFF.out y) (fun y hy => by rw [← HFE.out]; exact HT.out.sub y hy))
                    unfold tkB
                    rw [HTE.out]
                    have h2 := takesB_iff (a := a) (u := l.at)
                    cases bb <;> cases hx : takesB a l.at <;> simp_all
                  rw [e1, HTE.out]
                clear hbb hb8
                go_wp2_with fail
                go_ret2
                exact HP.out
    · have HP : Hid (TkPost w a l (.returned (.tuple #[.bool false, .int .i64 (ckL l a.le)])) W2) := by
        refine ⟨?_, Below_on HBW.out HB2.out HBW.out.size⟩
        have : tkB a l = false := by unfold tkB; rw [HTE.out]; simp [hk2]
        rw [this, HTE.out]
      generalize ckL l a.le = kk at *
      have hk3 : (kk != 0) = true := by simpa using hk2
      go_wp2_with fail
      go_ret2
      exact HP.out
  · have HP : Hid (∀ W, Below w.heap.size w W → TkPost w a l (.returned (.tuple #[.bool false, .int .i64 (ckA a)])) W) := by
      intro W hW
      have e1 : taErr a l = ckA a := by unfold taErr; rw [if_neg hk]
      have : tkB a l = false := by unfold tkB; rw [e1]; simp [hk]
      exact ⟨by rw [this, e1], hW⟩
    generalize ckA a = kk at *
    have hk3 : (kk != 0) = true := by simpa using hk
    have hk4 : (kk == 0) = false := by simpa using hk
    clear HCL
    go_wp2_with fail
    refine (HCA.out _ HBW.out).mono ?_
    rintro e W1 ⟨rfl, hb1⟩
    have HP1 := Lib.hid (HP.out _ (Below_on HBW.out hb1 HBW.out.size))
    clear hb1 c0 c1 c2 c3 c4 l0 l1
    go_wp2_with fail
    go_ret2
    exact HP1.out
end Go.Proofs.YtoglgeaiiipchaaGreatDoor

namespace Go.Proofs.YtoglgeaiiipchaaGreatDoor
open Go Go.RowKit Go.Maps Go.Shelf Go.Sort
theorem ckL_let {l : La} {letters : Int} (h : ckL l letters = 0) : ∀ m, 0 ≤ l.at m ∧ l.at m < letters := by
  have hne := ckL_ne h
  have hb : anyB (badL letters) l.h = false ∧ anyB (badL letters) l.l = false := by
    unfold ckL at h
    split at h
    · simp at h
    · split at h
      · simp at h
      · split at h
        · simp at h
        · rename_i h5
          simpa using h5
  have hx : ∀ xs : List Int, anyB (badL letters) xs = false → ∀ k, k < xs.length → 0 ≤ xs.getD k 0 ∧ xs.getD k 0 < letters := fun xs hxs k hk => by
    unfold anyB at hxs
    rw [List.any_eq_false] at hxs
    have := hxs xs[k] (List.getElem_mem hk)
    rw [List.getD_eq_getElem?_getD, List.getElem?_eq_getElem hk]
    unfold badL at this
    simp at this ⊢
    omega
  intro m
  unfold La.at
  split
  · rename_i hm
    exact hx _ hb.1 _ hm
  · exact hx _ hb.2 _ (Nat.mod_lt _ (by omega))
theorem raw_holds {f : List Nd} {r : Au} (hS : RawS f r) (h0 : ckF f = 0) (l : La) : tkB r l = holdsV f l ∧ taErr r l = ckT f l := by
  have h1 : taErr r l = ckL l 8 := by unfold taErr; rw [if_pos hS.ok, hS.le]
  have h2 : ckT f l = ckL l 8 := by unfold ckT; rw [if_pos h0]
  refine ⟨?_, by rw [h1, h2]⟩
  unfold tkB holdsV
  rw [h1, h2]
  by_cases hl : ckL l 8 = 0
  · have hf := ckF_zero.1 h0
    have hp : 0 < l.l.length := by have := ckL_ne hl; omega
    have hs := table_sem hp hf (f.length - 1) (by have := hf.pos; omega) 0 f.length (by have := hf.pos; omega)
    have hn : 0 < l.n := by unfold La.n; omega
    rw [plc_self hn] at hs
    have ht := hS.takes l.at (ckL_let hl)
    have hb := takesB_iff (a := r) (u := l.at)
    rw [hl, if_pos rfl]
    show (true && takesB r l.at) = gB (rowsOf l f f.length) (f.length - 1) 0
    rw [Bool.true_and]
    cases hx : takesB r l.at <;> cases hy : gB (rowsOf l f f.length) (f.length - 1) 0 <;> simp_all
  · rw [if_neg hl]
    simp [hl]
end Go.Proofs.YtoglgeaiiipchaaGreatDoor

namespace Go.Proofs.YtoglgeaiiipchaaGreatDoor
open Go Go.RowKit Go.Sort
def sb (bs : List UInt8) : ByteArray := ⟨bs.toArray⟩
end Go.Proofs.YtoglgeaiiipchaaGreatDoor

namespace Go.Proofs.YtoglgeaiiipchaaGreatDoor
open Go Go.RowKit Go.Sort
structure NdOk (x : Nd) (i : Int) : Prop where
  k1 : 1 ≤ x.k
  k8 : x.k ≤ 8
  a : nmA x.k = true → 0 ≤ x.a ∧ x.a < i
  b : nmB x.k = true → 0 ≤ x.b ∧ x.b < i
  n : x.k = 2 → 0 ≤ x.n ∧ x.n ≤ 2
theorem nd_ok {x : Nd} {i : Int} (h : ndErr x i = 0) : NdOk x i := by
  unfold ndErr at h
  split at h
  · cases h
  · rename_i h1
    split at h
    · cases h
    · rename_i h2
      split at h
      · cases h
      · rename_i h3
        simp only [Bool.not_eq_false, btw_iff] at h1
        refine ⟨h1.1, h1.2, fun hA => ?_, fun hB => ?_, fun hN => ?_⟩
        · have : btw x.a 0 (i - 1) = true := by
            cases hb : btw x.a 0 (i - 1) with
            | true => rfl
            | false => exact absurd (by simp [hA, hb]) h2
          have := (btw_iff _ _ _).1 this
          omega
        · have : btw x.b 0 (i - 1) = true := by
            cases hb : btw x.b 0 (i - 1) with
            | true => rfl
            | false => exact absurd (by simp [hB, hb]) h2
          have := (btw_iff _ _ _).1 this
          omega
        · have : btw x.n 0 2 = true := by
            cases hb : btw x.n 0 2 with
            | true => rfl
            | false => exact absurd (by simp [nmN, hN, hb]) h3
          have := (btw_iff _ _ _).1 this
          omega
theorem treeAt_eq {f : List Nd} {i : Nat} (h : i < f.length) (x : Nd) (hx : f[i] = x) : treeAt f i = treeN (treesOf f i) x := by
  unfold treeAt
  rw [List.getD_eq_getElem?_getD, List.getElem?_eq_getElem h, hx]
  rfl
theorem kid {f : List Nd} {i : Nat} {a : Int} (h : 0 ≤ a ∧ a < i) : (treesOf f i).getD a.toNat .tt = treeAt f a.toNat := treesOf_get f i _ (by omega)
theorem show_len {f : List Nd} (ho : FmOK f) : ∀ (i : Nat), i < f.length → (treeAt f i).show.length + 5 ≤ 6 * 2 ^ (i + 1) := by
  intro i
  induction i using Nat.strongRecOn with
  | _ i ih =>
    intro hi
    have hok := nd_ok (ho.nd i hi)
    rw [treeAt_eq hi _ rfl]
    generalize f[i] = x at *
    obtain ⟨h1, h8, ha, hb, hn⟩ := hok
    have mono : ∀ j, j < i → 2 ^ (j + 1) ≤ 2 ^ i := fun j hj => Nat.pow_le_pow_right (by decide) hj
    have e2 : 2 ^ (i + 1) = 2 * 2 ^ i := by rw [Nat.pow_succ, Nat.mul_comm]
    have h0 : 1 ≤ 2 ^ i := Nat.one_le_two_pow
    unfold treeN
    split
    · simp [Fm.show]; omega
    · split
      · simp [Fm.show]; omega
      · split
        · rename_i hk
          have hA := ha (by rw [hk]; decide)
          rw [kid hA]
          have h3 := ih x.a.toNat (by omega) (by omega)
          have h4 := mono x.a.toNat (by omega)
          simp only [Fm.show, List.length_cons]
          omega
        · split
          · rename_i hk
            have hA := ha (by rw [hk]; decide)
            rw [kid hA]
            have h3 := ih x.a.toNat (by omega) (by omega)
            have h4 := mono x.a.toNat (by omega)
            simp only [Fm.show, List.length_cons]
            omega
          · rename_i k1 k2 k3 k6
            have hk : x.k = 4 ∨ x.k = 5 ∨ x.k = 7 ∨ x.k = 8 := by omega
            have hA := ha (by rcases hk with h | h | h | h <;> rw [h] <;> decide)
            have hB := hb (by rcases hk with h | h | h | h <;> rw [h] <;> decide)
            rw [kid hA, kid hB]
            have h3 := ih x.a.toNat (by omega) (by omega)
            have h4 := mono x.a.toNat (by omega)
            have h5 := ih x.b.toNat (by omega) (by omega)
            have h6 := mono x.b.toNat (by omega)
            simp only [Fm.show, List.length_cons, List.length_append, List.length_nil]
            omega
end Go.Proofs.YtoglgeaiiipchaaGreatDoor

namespace Go.Proofs.YtoglgeaiiipchaaGreatDoor
open Go Go.RowKit Go.Shelf
theorem opposite_ (k : Int) (w : World) : Calls Tryz.prog 110 #[.int .i64 k] w fun e w' => e = .returned (.int .i64 (opp k)) ∧ Below w.heap.size w w' := by
  go_enter Tryz.func110, Tryz.ntmps110
  by_cases h4 : k = 4
  · subst h4; go_wp2; go_ret; exact ⟨rfl, Below.refl _ _⟩
  · by_cases h5 : k = 5
    · subst h5; go_wp2; go_ret; exact ⟨rfl, Below.refl _ _⟩
    · by_cases h7 : k = 7
      · subst h7; go_wp2; go_ret; exact ⟨rfl, Below.refl _ _⟩
      · by_cases h8 : k = 8
        · subst h8; go_wp2; go_ret; exact ⟨rfl, Below.refl _ _⟩
        · have HP : Hid (opp k = k) := by unfold Hid opp; rw [if_neg h4, if_neg h5, if_neg h7, if_neg h8]
          have k4 : (k == 4) = false := by simp [h4]
          have k5 : (k == 5) = false := by simp [h5]
          have k7 : (k == 7) = false := by simp [h7]
          have k8 : (k == 8) = false := by simp [h8]
          clear h4 h5 h7 h8
          go_wp2
          go_ret
          exact ⟨ret_int HP.out.symm, Below.refl _ _⟩
end Go.Proofs.YtoglgeaiiipchaaGreatDoor

namespace Go.Proofs.YtoglgeaiiipchaaGreatDoor
open Go Go.RowKit
theorem infoNode : (Tryz.prog.info? 63).map (fun i => (i.zero, i.size, i.bytes)) = some (some (.agg #[.int .i64 0, .int .i64 0, .int .i64 0, .int .i64 0]), 4, 32) := by kernel_rfl
theorem step_appRun {P : Program} {w w' : World} {ops : Array Oper} {o : Oper} {a : Act} {K : Act → World → Prop} {Q : Exit → Act → World → Prop} {E : Prop} (hgd : o.guard = none) (s x : Operand) (t tn : TypeId)
    (ho : o.op = .call { callee := .builtin .append, args := #[s, x], argTypes := #[t, tn] }) (v u r : Value) (hs : a.eval s = v) (hx : a.eval x = u)
    (hrun : (Builtin.append_ #[t, tn] o.type #[v, u]).run P w = .ok r w') (h : K (a.put o.dst r) w') :
    if Region.wanted o (yielded ops a.tmps) = true then Oper.wp P o a w K Q else E := by
  have hw : Region.wanted o (yielded ops a.tmps) = true := by simp [Region.wanted, hgd]
  rw [if_pos hw]
  unfold Oper.wp execOp
  simp only [ho, resolve, invoke, builtin, Sem.run_bind, Sem.run_pure, Result.andThen_ok, List.map_toArray, List.map_cons, List.map_nil, hs, hx, hrun]
  exact h
structure NOwn (base : Nat) (W0 : World) (row : Option Nat) (W : World) (v : Value) (o : List Nd) : Prop where
  own : W.ownsRow base 63 4 v o.length (o.flatMap Nd.cells)
  gr : W0.grownBy W row
  bl : ∀ k, v.ownBlock = some k → row = some k ∨ W0.heap.size ≤ k
section
variable {base : Nat} {W0 W W' : World} {row : Option Nat} {v : Value} {o : List Nd}
theorem NOwn.form (h : NOwn base W0 row W v o) (hl : o.length ≤ 1000000) : ∃ A c, v = .slice A o.length c ∧ Nds W base A c o := SlE.of_own h.own (by omega)
theorem NOwn.below (h : NOwn base W0 row W v o) (hb : Below W.heap.size W W') : NOwn base W0 row W' v o :=
  ⟨own_below h.own hb, h.gr.trans ⟨hb.os, hb.tape, hb.output, hb.size, fun k hk _ => hb.block k hk⟩, h.bl⟩
theorem NOwn.alloc (h : NOwn base W0 row W v o) (x : Obj) : NOwn base W0 row (W.alloc x) v o := h.below ((Below.refl _ _).alloc (Nat.le_refl _) _)
theorem NOwn.refl (h : W.ownsRow base 63 4 v o.length (o.flatMap Nd.cells)) : NOwn base W v.ownBlock W v o := ⟨h, World.grownBy.refl _ _, fun _ hk => .inl hk⟩
theorem NOwn.cell (h : NOwn base W0 row W v o) {a : Addr} {u : Value} (hc : W0.cell? a = some u) (hne : some a.block ≠ row) : W.cell? a = some u := h.gr.cell hc hne
theorem NOwn.belowB {B : Nat} {w : World} (h : NOwn base W0 row W v o) (hb : Below B w W0) (hB : B ≤ W0.heap.size) (hrow : ∀ k, row = some k → B ≤ k) : Below B w W := hb.grown h.gr hB hrow
def NTo (base : Nat) (o' : List Nd) (v : Value) (W : World) (e : Ending) (w' : World) : Prop := ∃ v', e = .returned v' ∧ NOwn base W v.ownBlock w' v' o'
theorem NOwn.call {o' : List Nd} {v' : Value} (h : NOwn base W0 row W v o) (hc : NOwn base W v.ownBlock W' v' o') : NOwn base W0 row W' v' o' := by
  refine ⟨hc.own, h.gr.andThen hc.gr (fun j hj => ?_), fun k hk => ?_⟩
  · rcases h.bl j hj with h1 | h1
    · exact .inr h1
    · exact .inl h1
  · rcases hc.bl k hk with h1 | h1
    · exact h.bl k h1
    · exact .inr (Nat.le_trans h.gr.size h1)
theorem NOwn.app (h : NOwn base W0 row W v o) (x : Nd) (hl : o.length ≤ 1000000) (hb : base ≤ W.heap.size) :
    ∃ T c w', (Builtin.append_ #[42, 42] 42 #[v, .slice (some ⟨W.heap.size, 0, none⟩) 1 1]).run Tryz.prog (W.alloc (.cells #[.int .i64 x.k, .int .i64 x.a, .int .i64 x.b, .int .i64 x.n] 63)) = .ok (.slice T (o.length + 1) c) w' ∧
      NOwn base W0 row w' (.slice T (o.length + 1) c) (o ++ [x]) ∧ W.grownBy w' v.ownBlock := by
  obtain ⟨i0, hi0, hz0, hz1, hz2⟩ := info_parts infoNode
  have ha := h.alloc (.cells #[.int .i64 x.k, .int .i64 x.a, .int .i64 x.b, .int .i64 x.n] 63)
  obtain ⟨v', w', hrun, h2, h3, h4⟩ := run_app (P := Tryz.prog) (W.alloc (.cells #[.int .i64 x.k, .int .i64 x.a, .int .i64 x.b, .int .i64 x.n] 63)) base 42 42 63 i0 _ 4 32 Tryz.underlying42 hi0 hz0 hz1 hz2 rfl (by decide)
    v o.length _ ha.own (some ⟨W.heap.size, 0, none⟩) 1 1 x.cells rfl (fun _ => ⟨_, 0, rfl, Nat.zero_le _, by simp, fun j u hu => by
      have h : (W.alloc (Obj.cells #[.int .i64 x.k, .int .i64 x.a, .int .i64 x.b, .int .i64 x.n] 63)).heap[W.heap.size]? = some (Obj.cells #[.int .i64 x.k, .int .i64 x.a, .int .i64 x.b, .int .i64 x.n] 63) := by
        show (W.heap.push _)[W.heap.size]? = _
        simp
      simp only [World.cell?, h, Nat.zero_add]
      simpa [Nd.cells] using hu⟩)
    (by intro u hu; simp only [Nd.cells, List.mem_cons, List.not_mem_nil, or_false] at hu; rcases hu with rfl | rfl | rfl | rfl <;> rfl)
    (by simp only [maxLen]; omega) (by omega) (by simp; omega)
  have hown : w'.ownsRow base 63 4 v' (o ++ [x]).length ((o ++ [x]).flatMap Nd.cells) := by simpa using h2
  obtain ⟨T, c, hv, _⟩ := own_form hown
  rw [show (o ++ [x]).length = o.length + 1 by simp] at hv
  subst hv
  have hg : W.grownBy w' v.ownBlock := (World.grownBy_alloc W _ _).trans h3
  have hbl : ∀ k, (Value.slice T (o.length + 1) c).ownBlock = some k → v.ownBlock = some k ∨ W.heap.size ≤ k := by
    intro k hk
    rcases h4 with h4 | h4
    · exact .inl (h4 ▸ hk)
    · rw [h4] at hk
      simp at hk
      exact .inr (by omega)
  exact ⟨T, c, w', hrun, h.call ⟨hown, hg, hbl⟩, hg⟩
end
end Go.Proofs.YtoglgeaiiipchaaGreatDoor
