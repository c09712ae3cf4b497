/- Walks: the reference's TakesOf. -/
import Derived.Test.YtoglgeaiiipchaaWCr
namespace Go.Proofs.Ytoglgeaiiipchaa
open Go Go.RowKit Go.Sort

/-- an automaton and a lasso in variables -/
def alW (w : World) (a : Au) (A B C : Option Addr) (ca cb cc : Nat) (l : La) (D E : Option Addr) (cd ce : Nat) : World :=
  (auW w a A B C ca cb cc).alloc (Obj.cells #[.slice D l.h.length cd, .slice E l.l.length ce] 26)
structure AlAt (W : World) (V : Nat) (a : Au) (A B C : Option Addr) (ca cb cc : Nat) (l : La) (D E : Option Addr) (cd ce : Nat) : Prop where
  lt : V + 1 < W.heap.size
  au : AuAt W V a A B C ca cb cc
  l0 : W.cell? ⟨V + 1, 0, none⟩ = some (.slice D l.h.length cd)
  l1 : W.cell? ⟨V + 1, 1, none⟩ = some (.slice E l.l.length ce)
theorem AlAt.below {W W' : World} {V n : Nat} {a : Au} {A B C : Option Addr} {ca cb cc : Nat} {l : La} {D E : Option Addr} {cd ce : Nat} (h : AlAt W V a A B C ca cb cc l D E cd ce) (hb : Below n W W') (hn : V + 1 < n) : AlAt W' V a A B C ca cb cc l D E cd ce :=
  ⟨Nat.lt_of_lt_of_le h.lt hb.size, h.au.below hb (by omega), (cell_on3 hb hn).trans h.l0, (cell_on3 hb hn).trans h.l1⟩
structure AlW (w W : World) (a : Au) (A B C : Option Addr) (ca cb cc : Nat) (l : La) (D E : Option Addr) (cd ce V : Nat) : Prop where
  below : Below w.heap.size w W
  size : W.heap.size = V + 1 + 1
  at_ : AlAt W V a A B C ca cb cc l D E cd ce
theorem alW_is (w : World) (a : Au) (A B C : Option Addr) (ca cb cc : Nat) (l : La) (D E : Option Addr) (cd ce : Nat) : AlW w (alW w a A B C ca cb cc l D E cd ce) a A B C ca cb cc l D E cd ce w.heap.size := by
  have h := auW_is w a A B C ca cb cc
  have hb : Below (auW w a A B C ca cb cc).heap.size (auW w a A B C ca cb cc) (alW w a A B C ca cb cc l D E cd ce) := (Below.refl _ _).alloc (Nat.le_refl _) _
  have hs : (alW w a A B C ca cb cc l D E cd ce).heap.size = w.heap.size + 1 + 1 := by unfold alW; simp [h.size]
  refine ⟨Below_on h.below hb h.below.size, hs, by omega, h.at.below hb (by rw [h.size]; omega), ?_, ?_⟩
  · unfold alW auW; go_simp
  · unfold alW auW; go_simp
/-- the set of the states that the first ones lead to, in memory -/
structure NwAt (W0 : World) (a : Au) (u : Nat → Int) (j g : Nat) (xs : List Bool) (wr : World) : Prop where
  below : Below W0.heap.size W0 wr
  hx : BRow wr g xs
  now : NowAt a u j xs
/-- the set of all states at the beginnings of loops, in memory -/
structure AlSet (a : Au) (l : La) (k : Nat) (zs : List Bool) : Prop where
  lz : (zs.length : Int) = a.st
  sz : ∀ p, InS zs p ↔ LoopAt a l k p
theorem LoopAt.succ {a : Au} {l : La} {k : Nat} {p : Int} : LoopAt a l (k + 1) p ↔ LoopAt a l k p ∨ ∃ f ∈ a.fs, Way a l.at false 0 f (l.h.length + l.l.length * k) p := by
  constructor
  · rintro ⟨i, hi, h⟩
    rcases Nat.lt_or_ge i k with h1 | h1
    · exact .inl ⟨i, h1, h⟩
    · obtain rfl : i = k := by omega
      exact .inr h
  · rintro (⟨i, hi, h⟩ | h)
    · exact ⟨i, by omega, h⟩
    · exact ⟨k, by omega, h⟩

/-- a round over the states: those that are in now, ahead of number i, put in -/
structure AddTo (xs zs zs2 : List Bool) (i : Nat) (b : Bool) : Prop where
  len : zs2.length = zs.length
  is : ∀ p, InS zs2 p ↔ InS zs p ∨ (InS xs p ∧ p < i)
  no : b = false → zs2 = zs
  yes : b = true → zs2.count false < zs.count false
theorem AddTo.start (xs zs : List Bool) : AddTo xs zs zs 0 false := ⟨rfl, fun p => ⟨.inl, fun h => h.elim id fun ⟨h1, h2⟩ => absurd h1.1 (by omega)⟩, fun _ => rfl, fun h => by cases h⟩
theorem AddTo.skip {xs zs zs2 : List Bool} {i : Nat} {b : Bool} (h : AddTo xs zs zs2 i b) (hs : xs.getD i false = true → zs2.getD i false = true) : AddTo xs zs zs2 (i + 1) b := by
  refine ⟨h.len, fun p => ?_, h.no, h.yes⟩
  rw [h.is p]
  constructor
  · rintro (h1 | ⟨h1, h2⟩)
    · exact .inl h1
    · exact .inr ⟨h1, by omega⟩
  · rintro (h1 | ⟨h1, h2⟩)
    · exact .inl h1
    · rcases Int.lt_or_le p i with h3 | h3
      · exact .inr ⟨h1, h3⟩
      · obtain rfl : p = (i : Int) := by omega
        have h4 : InS zs2 (i : Int) := ⟨by omega, hs h1.2⟩
        rcases (h.is (i : Int)).1 h4 with h5 | ⟨_, h5⟩
        · exact .inl h5
        · omega
theorem AddTo.put {xs zs zs2 : List Bool} {i : Nat} {b : Bool} (h : AddTo xs zs zs2 i b) (hi : i < zs2.length) (hx : xs.getD i false = true) (hz : zs2.getD i false = false) : AddTo xs zs (zs2.set i true) (i + 1) true := by
  refine ⟨by rw [List.length_set]; exact h.len, fun p => ?_, fun h => (by cases h), fun _ => ?_⟩
  · have := InS_set (xs := zs2) (p := (i : Int)) (q := p) ⟨by omega, by omega⟩
    rw [Int.toNat_natCast] at this
    rw [this, h.is p]
    constructor
    · rintro ((h1 | ⟨h1, h2⟩) | rfl)
      · exact .inl h1
      · exact .inr ⟨h1, by omega⟩
      · exact .inr ⟨⟨by omega, hx⟩, by omega⟩
    · rintro (h1 | ⟨h1, h2⟩)
      · exact .inl (.inl h1)
      · rcases Int.lt_or_le p i with h3 | h3
        · exact .inl (.inr ⟨h1, h3⟩)
        · exact .inr (by omega)
  · have h1 := cntS_more (s := true) zs2 i hi hz
    cases b with
    | false => rw [h.no rfl] at h1 ⊢; omega
    | true => have := h.yes rfl; omega
theorem AddTo.more {a : Au} {l : La} {j n : Nat} {xs zs zs2 : List Bool} (h : AddTo xs zs zs2 n true) (hx : NowAt a l.at (l.h.length + l.l.length * j) xs) (hl : xs.length = n) (hz : AlSet a l j zs) : AlSet a l (j + 1) zs2 := by
  refine ⟨by rw [h.len]; exact hz.lz, fun p => ?_⟩
  rw [h.is p, hz.sz p, LoopAt.succ, ← hx.sx p]
  constructor
  · rintro (h1 | ⟨h1, _⟩)
    · exact .inl h1
    · exact .inr h1
  · rintro (h1 | h1)
    · exact .inl h1
    · exact .inr ⟨h1, by have := InS_lt h1; have := h1.1; omega⟩
theorem AddTo.done {a : Au} {l : La} {j n : Nat} {xs zs zs2 : List Bool} (hp : 0 < l.l.length) (h : AddTo xs zs zs2 n false) (hx : NowAt a l.at (l.h.length + l.l.length * j) xs) (hl : xs.length = n) (hz : AlSet a l j zs) :
    ∀ p, InS zs2 p ↔ ∃ j, ∃ f ∈ a.fs, Way a l.at false 0 f (l.h.length + l.l.length * j) p := by
  have e := h.no rfl
  intro p
  rw [e, hz.sz p]
  constructor
  · rintro ⟨i, _, h1⟩; exact ⟨i, h1⟩
  · rintro ⟨j', h1⟩
    refine loopAt_all hp (fun q hq => ?_) j' p h1
    have hq' := (hx.sx q).2 hq
    have : InS zs2 q := (h.is q).2 (.inr ⟨hq', by have := InS_lt hq'; have := hq'.1; omega⟩)
    rw [e] at this
    exact (hz.sz q).1 this
set_option maxRecDepth 100000 in
set_option maxHeartbeats 8000000 in
theorem TakesOf_ (a : Au) (A B C D E : Option Addr) (ca cb cc cd ce : Nat) (l : La) (w : World) (hr : AuRd w 0 a A B C ca cb cc) (ho : AuOK a)
    (hh : Ints w 0 D cd l.h) (hl : Ints w 0 E ce l.l) (hp : 0 < l.l.length) (h4 : l.l.length ≤ 4000) (h5 : l.h.length ≤ 4000) :
    Calls Try.prog 24 #[.agg #[.int .i64 a.st, .int .i64 a.le, .slice A a.fs.length ca, .slice B a.gs.length cb, .slice C a.ss.length cc], .agg #[.slice D l.h.length cd, .slice E l.l.length ce]] w (SoPost w (TakesU a l.at)) := by
  have HW := Lib.hid (alW_is w a A B C ca cb cc l D E cd ce)
  have HR := Lib.hid (hr.below HW.out.below)
  have HH := Lib.hid (hh.below HW.out.below)
  have HL := Lib.hid (hl.below HW.out.below)
  have l1 := hl.le
  have l2 := hl.max
  have l3 := hh.le
  have l4 := hh.max
  have l5 := hr.fs.le
  have l6 := hr.fs.max
  have hst1 := ho.st1
  have hst2 := ho.st2
  obtain ⟨n, hn⟩ : ∃ n : Nat, (n : Int) = a.st := ⟨a.st.toNat, by omega⟩
  have hn3 : n ≤ 300 := by omega
  have HMK := Lib.hid (run_makeBools a.st n hn (by omega))
  have HO := Lib.hid ho
  have HN := Lib.hid hn
  have HTN : Hid (a.st.toNat = n) := by show _ = _; omega
  have HTK := Lib.hid (takes_loop ho hp)
  clear hr hl hh ho hn
  go_enter Try.func24, Try.ntmps24
  go_upto_region 1 with fail
  change Code.wp _ _ _ _ (alW w a A B C ca cb cc l D E cd ce)
  generalize alW w a A B C ca cb cc l D E cd ce = W0 at *
  have HA := Lib.hid HW.out.at_
  have HSZ := Lib.hid HW.out.size
  obtain ⟨V, hV⟩ : ∃ V, V = w.heap.size := ⟨_, rfl⟩
  rw [← hV] at HA HSZ ⊢
  have HBW : Hid (Below w.heap.size w W0) := HW.out.below
  have HVV := Lib.hid hV
  have hV1 := HA.out.lt
  obtain ⟨hV0, c0, c1, c2, c3, c4⟩ := HA.out.au
  clear hV HW
  have hmk := HMK.out
  go_upto_block 0 with fail
  obtain ⟨g5, hg5⟩ : ∃ g, g = W0.heap.size := ⟨_, rfl⟩
  have HF0 : Hid (Below W0.heap.size W0 (W0.alloc (Obj.cells (madeCells #[Value.bool false] n) 4)) ∧ BRow (W0.alloc (Obj.cells (madeCells #[Value.bool false] n) 4)) g5 (List.replicate n false) ∧ FirstS a 0 (List.replicate n false)) := by
    refine ⟨(Below.refl _ W0).alloc (Nat.le_refl _) _, by rw [hg5]; exact BRow.new W0 n, ?_⟩
    have := FirstS.start (a := a) (by omega)
    rwa [HTN.out] at this
  generalize W0.alloc (Obj.cells (madeCells #[Value.bool false] n) 4) = w1 at *
  rw [← hg5]
  have hg5' : W0.heap.size ≤ g5 := by omega
  clear hg5 hmk c0 c1 c2 c3 c4
  go_cut [6] (fun _ wx => ∃ xs, Hid (NwAt W0 a l.at 0 g5 xs wx))
  case first =>
    go_wp2_with fail
    go_loopw [6] (fun i wr => ∃ (k : Nat) (xs : List Bool), k ≤ a.fs.length ∧ i = .int .i64 k ∧ Hid (Below W0.heap.size W0 wr ∧ BRow wr g5 xs ∧ FirstS a k xs)) (fun i _ => a.fs.length - (intOf i).toNat)
    case atStart => exact ⟨0, _, Nat.zero_le _, rfl, HF0.out⟩
    case round =>
      obtain ⟨k, xs, hk, rfl, HX⟩ := hrel
      clear HF0
      obtain ⟨_, c0, c1, c2, c3, c4⟩ := (HA.out.below HX.out.1 hV1).au
      by_cases hkl : k < a.fs.length
      · obtain ⟨b, o, hAA, _, hbl, q1⟩ := Ints.at_ (HR.out.fs.below HX.out.1) hkl
        subst hAA
        obtain ⟨x, hx⟩ : ∃ x, x = a.fs[k] := ⟨_, rfl⟩
        have hxr := HO.out.fr x (by rw [hx]; exact List.getElem_mem hkl)
        have HNX : Hid (FirstS a (k + 1) (xs.set x.toNat true)) := by
          rw [hx]; exact HX.out.2.2.step HO.out hkl
        rw [← hx] at q1
        clear hx
        obtain ⟨hx0, hx1⟩ := hxr
        obtain ⟨F, rfl⟩ := Int.eq_ofNat_of_zero_le hx0
        have hFn : F < n := by have := HN.out; omega
        have hxl : xs.length = n := by have h1 := HX.out.2.2.lx; have h2 := HN.out; omega
        obtain ⟨x1, x2⟩ := HX.out.2.1.getD_ (i := F) (by omega) false
        have HNX2 : Hid (Below W0.heap.size W0 (wr.setCell ⟨g5, F, none⟩ (.bool true)) ∧ BRow (wr.setCell ⟨g5, F, none⟩ (.bool true)) g5 (xs.set F true) ∧ FirstS a (k + 1) (xs.set F true)) :=
          ⟨HX.out.1.setCell (p := ⟨g5, F, none⟩) hg5' _, HX.out.2.1.set_ F true, HNX.out⟩
        clear HNX hx0 hx1
        go_wp2_with fail
        go_roundw
        case rel => exact ⟨k + 1, _, by omega, by go_num, HNX2.out⟩
        case measure => simp [intOf]; omega
      · have HNW : Hid (NwAt W0 a l.at 0 g5 xs wr) := ⟨HX.out.1, HX.out.2.1, HX.out.2.2.now (by omega)⟩
        go_wp2_with fail
        go_meet
        exact ⟨xs, HNW.out⟩
  case rest =>
    obtain ⟨xs0, HNW⟩ := hcut
    obtain ⟨w2, rfl⟩ : ∃ w2 : World, w2 = wc := ⟨_, rfl⟩
    clear HF0
    go_upto_block 2 with fail
    go_cut [5, 7] (fun s5 _ wx => ∃ g xs, s5 = .slice (some ⟨g, 0, none⟩) n n ∧ W0.heap.size ≤ g ∧ Hid (NwAt W0 a l.at l.h.length g xs wx))
    case first =>
      go_wp2_with fail
      go_loopw [5, 7] (fun s5 s7 wr => ∃ (i g : Nat) (xs : List Bool), i ≤ l.h.length ∧ s7 = .int .i64 i ∧ s5 = .slice (some ⟨g, 0, none⟩) n n ∧ W0.heap.size ≤ g ∧ Hid (NwAt W0 a l.at i g xs wr)) (fun _ s _ => l.h.length - (intOf s).toNat)
      case atStart => exact ⟨0, g5, xs0, Nat.zero_le _, rfl, rfl, hg5', HNW.out⟩
      case round =>
        obtain ⟨i, g, xs, hi, rfl, rfl, hg, HX⟩ := hrel
        clear HNW
        have HB := Lib.hid HX.out.below
        obtain ⟨hV1r, ⟨_, c0, c1, c2, c3, c4⟩, d0, d1⟩ := HA.out.below HB.out hV1
        by_cases hil : i < l.h.length
        · obtain ⟨b, o, hDD, _, hbl, q1⟩ := Ints.at_ (HH.out.below HB.out) hil
          subst hDD
          obtain ⟨x, hx⟩ : ∃ x, x = l.h[i] := ⟨_, rfl⟩
          have HXL : Hid (l.at i = x) := by
            show _ = _
            unfold La.at
            rw [if_pos hil, List.getD_eq_getElem?_getD, List.getElem?_eq_getElem hil, hx]
            rfl
          rw [← hx] at q1
          clear hx
          have hxl : xs.length = n := by have h1 := HX.out.now.lx; have h2 := HN.out; omega
          have C9 : Hid (∀ W gz, Below wr.heap.size wr W → BRow W gz (List.replicate n false) → Calls Try.prog 53 #[.agg #[.int .i64 a.st, .int .i64 a.le, .slice A a.fs.length ca, .slice B a.gs.length cb, .slice C a.ss.length cc], .slice (some ⟨g, 0, none⟩) n n, .slice (some ⟨gz, 0, none⟩) n n, .int .i64 x] W (MvPost W a xs (List.replicate n false) x n)) := fun W gz hW hz =>
            moved_ a A B C ca cb cc xs (List.replicate n false) g gz n x W (HR.out.below (HB.out.trans (hW.mono HB.out.size))) HO.out HN.out (HX.out.hx.below hW HX.out.hx.lt) hz hxl (by simp)
          have hmk := HMK.out
          go_wp2_with fail
          go_region_held3 (fun w' => w'.cell? ⟨V, 0, none⟩ = some (.int .i64 a.st) ∧ w'.cell? ⟨V, 1, none⟩ = some (.int .i64 a.le) ∧ w'.cell? ⟨V, 2, none⟩ = some (.slice A a.fs.length ca) ∧ w'.cell? ⟨V, 3, none⟩ = some (.slice B a.gs.length cb) ∧ w'.cell? ⟨V, 4, none⟩ = some (.slice C a.ss.length cc) ∧ w'.cell? ⟨V + 1, 0, none⟩ = some (.slice (some ⟨b, o, none⟩) l.h.length cd) ∧ w'.cell? ⟨b, o + i, none⟩ = some (.int .i64 x))
            (first | go_keep | exact ⟨z0, z1, z2, z3, z4, z6, z5⟩)
            ((go_at_call 53; refine (C9.out _ _ ((Below.refl _ wr).alloc (Nat.le_refl _) _).drew (BRow.new wr n)).mono ?_; rintro e w4 ⟨g5, g6, xs3, ys3, rfl, hg5, hg6, hg56, hbx, hby, hmv, hb4⟩; have hb5 : Below wr.heap.size wr w4 := ((Below.refl _ wr).alloc (Nat.le_refl _) _).drew.trans (hb4.mono (by simp)); have z0 := (hb5.cell (p := ⟨V, 0, none⟩) (by show V < _; omega)).trans c0; have z1 := (hb5.cell (p := ⟨V, 1, none⟩) (by show V < _; omega)).trans c1; have z2 := (hb5.cell (p := ⟨V, 2, none⟩) (by show V < _; omega)).trans c2; have z3 := (hb5.cell (p := ⟨V, 3, none⟩) (by show V < _; omega)).trans c3; have z4 := (hb5.cell (p := ⟨V, 4, none⟩) (by show V < _; omega)).trans c4; have z6 := (hb5.cell (p := ⟨V + 1, 0, none⟩) (by show V + 1 < _; omega)).trans d0; have z5 := (hb5.cell (p := ⟨b, o + i, none⟩) (by show b < _; omega)).trans q1))
          all_goals
            have HC5 : Hid (W0.heap.size ≤ g5 ∧ NwAt W0 a l.at (i + 1) g5 xs3 w4) := by
              have := HX.out.now.step (g := List.replicate n false) (x' := xs3) (y' := ys3) (by rw [HXL.out]; exact hmv)
              refine ⟨?_, Below_on HB.out hb5 HB.out.size, hbx, this⟩
              have h1 := HB.out.size
              have h2 : wr.heap.size ≤ g5 := by simp at hg5; omega
              omega
            clear hbx hby hmv hb4 hb5 z0 z1 z2 z3 z4 z5 z6 hg5 hg6 hmk
            go_wp2_with fail
            go_roundw
            case rel => exact ⟨i + 1, g5, xs3, by omega, by go_num, rfl, HC5.out.1, HC5.out.2⟩
            case measure => simp [intOf]; omega
        · obtain rfl : i = l.h.length := by omega
          go_wp2_with fail
          go_meet
          exact ⟨g, xs, rfl, hg, HX.out⟩
    case rest =>
      obtain ⟨g1, xs1, rfl, hg1, HNX⟩ := hcut
      obtain ⟨w3, rfl⟩ : ∃ w3 : World, w3 = wc := ⟨_, rfl⟩
      clear HNW
      obtain ⟨hV1r, ⟨_, c0, c1, c2, c3, c4⟩, d0, d1⟩ := HA.out.below HNX.out.below hV1
      have hmk := HMK.out
      go_upto_block 4 with fail
      obtain ⟨g8, hg8⟩ : ∃ g, g = w3.heap.size := ⟨_, rfl⟩
      have HS0 : Hid (NwAt W0 a l.at (l.h.length + l.l.length * 0) g1 xs1 (w3.alloc (Obj.cells (madeCells #[Value.bool false] n) 4)) ∧ BRow (w3.alloc (Obj.cells (madeCells #[Value.bool false] n) 4)) g8 (List.replicate n false) ∧ AlSet a l 0 (List.replicate n false)) := by
        have hb : Below w3.heap.size w3 (w3.alloc (Obj.cells (madeCells #[Value.bool false] n) 4)) := (Below.refl _ w3).alloc (Nat.le_refl _) _
        refine ⟨⟨Below_on HNX.out.below hb HNX.out.below.size, HNX.out.hx.below hb HNX.out.hx.lt, HNX.out.now⟩, by rw [hg8]; exact BRow.new w3 n, ⟨by simp; exact HN.out, fun p => ⟨fun h => absurd h InS_rep, fun ⟨i, hi, _⟩ => absurd hi (by omega)⟩⟩⟩
      rw [← hg8]
      have hg18 : g1 < g8 := by rw [hg8]; exact HNX.out.hx.lt
      have hg8' : W0.heap.size ≤ g8 := by rw [hg8]; exact HNX.out.below.size
      generalize w3.alloc (Obj.cells (madeCells #[Value.bool false] n) 4) = w5 at *
      clear hg8 hmk c0 c1 c2 c3 c4 d0 d1 HNX hV1r
      go_cut [5] (fun _ wx => ∃ zs, Below W0.heap.size W0 wx ∧ Hid (BRow wx g8 zs ∧ (zs.length : Int) = a.st ∧ ∀ p, InS zs p ↔ ∃ j, ∃ f ∈ a.fs, Way a l.at false 0 f (l.h.length + l.l.length * j) p))
      case first =>
        go_wp2_with fail
        go_loopw [5, 9, 10, 11] (fun s5 _ _ _ wr => ∃ (j g : Nat) (xs zs : List Bool), s5 = .slice (some ⟨g, 0, none⟩) n n ∧ W0.heap.size ≤ g ∧ g ≠ g8 ∧ Hid (NwAt W0 a l.at (l.h.length + l.l.length * j) g xs wr ∧ BRow wr g8 zs ∧ AlSet a l j zs)) (fun _ _ _ _ wr => rowCnt false g8 wr)
        case atStart => exact ⟨0, g1, xs1, _, rfl, hg1, by omega, HS0.out⟩
        case round =>
          obtain ⟨j, g, xs, zs, rfl, hg, hgg, HX⟩ := hrel
          clear HS0
          have HB := Lib.hid HX.out.1.below
          have HCNT : Hid (rowCnt false g8 wr = zs.count false) := rowCnt_eq HX.out.2.1
          have hxl : xs.length = n := by have h1 := HX.out.1.now.lx; have h2 := HN.out; omega
          obtain ⟨wr0, rfl⟩ : ∃ w : World, w = wr := ⟨_, rfl⟩
          go_upto_block 6 with fail
          go_cut [9, 10] (fun s9 _ wx => ∃ (b : Bool) (zs2 : List Bool), s9 = .bool b ∧ Hid (Below W0.heap.size W0 wx ∧ BRow wx g xs ∧ BRow wx g8 zs2 ∧ AddTo xs zs zs2 n b))
          case first =>
            go_wp2_with fail
            go_loopw [9, 10] (fun s9 s10 wr => ∃ (i : Nat) (b : Bool) (zs2 : List Bool), i ≤ n ∧ s9 = .bool b ∧ s10 = .int .i64 i ∧ Hid (Below W0.heap.size W0 wr ∧ BRow wr g xs ∧ BRow wr g8 zs2 ∧ AddTo xs zs zs2 i b)) (fun _ s _ => n - (intOf s).toNat)
            case atStart => exact ⟨0, false, zs, Nat.zero_le _, rfl, rfl, HB.out, HX.out.1.hx, HX.out.2.1, AddTo.start xs zs⟩
            case round =>
              obtain ⟨i, b, zs2, hi, rfl, rfl, HY⟩ := hrel
              obtain ⟨_, c0, c1, c2, c3, c4⟩ := (HA.out.below HY.out.1 hV1).au
              have hzl : zs2.length = n := by have h1 := HY.out.2.2.2.len; have h2 := HX.out.2.2.lz; have h3 := HN.out; omega
              by_cases hin : i < n
              · have hin2 : (i : Int) < a.st := by have := HN.out; omega
                obtain ⟨x1, x2⟩ := HY.out.2.1.getD_ (i := i) (by omega) false
                obtain ⟨z1, z2⟩ := HY.out.2.2.1.getD_ (i := i) (by omega) false
                obtain ⟨bx, hbx⟩ : ∃ b, b = xs.getD i false := ⟨_, rfl⟩
                obtain ⟨bz, hbz⟩ : ∃ b, b = zs2.getD i false := ⟨_, rfl⟩
                rw [← hbx] at x1
                rw [← hbz] at z1
                have HBX := Lib.hid hbx
                have HBZ := Lib.hid hbz
                clear hbx hbz
                cases bx with
                | false =>
                  have HNX : Hid (Below W0.heap.size W0 wr ∧ BRow wr g xs ∧ BRow wr g8 zs2 ∧ AddTo xs zs zs2 (i + 1) b) := ⟨HY.out.1, HY.out.2.1, HY.out.2.2.1, HY.out.2.2.2.skip (fun h => by rw [← HBX.out] at h; cases h)⟩
                  go_wp2_with fail
                  go_roundw
                  case rel => exact ⟨i + 1, b, zs2, by omega, rfl, by go_num, HNX.out⟩
                  case measure => simp [intOf]; omega
                | true =>
                  cases bz with
                  | true =>
                    have HNX : Hid (Below W0.heap.size W0 wr ∧ BRow wr g xs ∧ BRow wr g8 zs2 ∧ AddTo xs zs zs2 (i + 1) b) := ⟨HY.out.1, HY.out.2.1, HY.out.2.2.1, HY.out.2.2.2.skip (fun _ => HBZ.out.symm)⟩
                    go_wp2_with fail
                    go_roundw
                    case rel => exact ⟨i + 1, b, zs2, by omega, rfl, by go_num, HNX.out⟩
                    case measure => simp [intOf]; omega
                  | false =>
                    have HNX : Hid (Below W0.heap.size W0 (wr.setCell ⟨g8, i, none⟩ (.bool true)) ∧ BRow (wr.setCell ⟨g8, i, none⟩ (.bool true)) g xs ∧ BRow (wr.setCell ⟨g8, i, none⟩ (.bool true)) g8 (zs2.set i true) ∧ AddTo xs zs (zs2.set i true) (i + 1) true) :=
                      ⟨HY.out.1.setCell (p := ⟨g8, i, none⟩) hg8' _, HY.out.2.1.set_far (p := ⟨g8, i, none⟩) hgg _, HY.out.2.2.1.set_ i true, HY.out.2.2.2.put (by omega) HBX.out.symm HBZ.out.symm⟩
                    go_wp2_with fail
                    go_roundw
                    case rel => exact ⟨i + 1, true, _, by omega, rfl, by go_num, HNX.out⟩
                    case measure => simp [intOf]; omega
              · have hin2 : ¬ (i : Int) < a.st := by have := HN.out; omega
                obtain rfl : i = n := by omega
                go_wp2_with fail
                go_meet
                exact ⟨b, zs2, rfl, HY.out⟩
          case rest =>
            obtain ⟨b, zs2, rfl, HY⟩ := hcut
            obtain ⟨w6, rfl⟩ : ∃ w : World, w = wc := ⟨_, rfl⟩
            have hzl : zs2.length = n := by have h1 := HY.out.2.2.2.len; have h2 := HX.out.2.2.lz; have h3 := HN.out; omega
            cases b with
            | false =>
              have HE : Hid (Below W0.heap.size W0 w6 ∧ BRow w6 g8 zs2 ∧ (zs2.length : Int) = a.st ∧ ∀ p, InS zs2 p ↔ ∃ j, ∃ f ∈ a.fs, Way a l.at false 0 f (l.h.length + l.l.length * j) p) :=
                ⟨HY.out.1, HY.out.2.2.1, by rw [hzl]; exact HN.out, HY.out.2.2.2.done hp HX.out.1.now hxl HX.out.2.2⟩
              go_wp2_with fail
              go_meet
              exact ⟨zs2, HE.out.1, HE.out.2⟩
            | true =>
              have HAS : Hid (AlSet a l (j + 1) zs2) := HY.out.2.2.2.more HX.out.1.now hxl HX.out.2.2
              have HST : Hid (NwAt W0 a l.at (l.h.length + l.l.length * j + 0) g xs w6 ∧ BRow w6 g8 zs2) := ⟨⟨HY.out.1, HY.out.2.1, HX.out.1.now⟩, HY.out.2.2.1⟩
              go_wp2_with fail
              go_loopw [5, 11] (fun s5 s11 wr => ∃ (i g : Nat) (xs : List Bool), i ≤ l.l.length ∧ s11 = .int .i64 i ∧ s5 = .slice (some ⟨g, 0, none⟩) n n ∧ W0.heap.size ≤ g ∧ g ≠ g8 ∧ Hid (NwAt W0 a l.at (l.h.length + l.l.length * j + i) g xs wr ∧ BRow wr g8 zs2)) (fun _ s _ => l.l.length - (intOf s).toNat)
              case atStart => exact ⟨0, g, xs, Nat.zero_le _, rfl, rfl, hg, hgg, HST.out⟩
              case round =>
                obtain ⟨i, gn, xn, hi, rfl, rfl, hgn, hgn8, HX5⟩ := hrel
                have HB5 := Lib.hid HX5.out.1.below
                obtain ⟨hV1r, ⟨_, c0, c1, c2, c3, c4⟩, d0, d1⟩ := HA.out.below HB5.out hV1
                by_cases hil : i < l.l.length
                · obtain ⟨b, o, hEE, _, hbl, q1⟩ := Ints.at_ (HL.out.below HB5.out) hil
                  subst hEE
                  obtain ⟨x, hx⟩ : ∃ x, x = l.l[i] := ⟨_, rfl⟩
                  have HXL : Hid (l.at (l.h.length + l.l.length * j + i) = x) := by show _ = _; rw [La.at_loop hil, hx]
                  rw [← hx] at q1
                  clear hx
                  have hxnl : xn.length = n := by have h1 := HX5.out.1.now.lx; have h2 := HN.out; omega
                  have C9 : Hid (∀ W gz, Below wr.heap.size wr W → BRow W gz (List.replicate n false) → Calls Try.prog 53 #[.agg #[.int .i64 a.st, .int .i64 a.le, .slice A a.fs.length ca, .slice B a.gs.length cb, .slice C a.ss.length cc], .slice (some ⟨gn, 0, none⟩) n n, .slice (some ⟨gz, 0, none⟩) n n, .int .i64 x] W (MvPost W a xn (List.replicate n false) x n)) := fun W gz hW hz =>
                    moved_ a A B C ca cb cc xn (List.replicate n false) gn gz n x W (HR.out.below (HB5.out.trans (hW.mono HB5.out.size))) HO.out HN.out (HX5.out.1.hx.below hW HX5.out.1.hx.lt) hz hxnl (by simp)
                  have hmk := HMK.out
                  go_wp2_with fail
                  go_region_held3 (fun w' => w'.cell? ⟨V, 0, none⟩ = some (.int .i64 a.st) ∧ w'.cell? ⟨V, 1, none⟩ = some (.int .i64 a.le) ∧ w'.cell? ⟨V, 2, none⟩ = some (.slice A a.fs.length ca) ∧ w'.cell? ⟨V, 3, none⟩ = some (.slice B a.gs.length cb) ∧ w'.cell? ⟨V, 4, none⟩ = some (.slice C a.ss.length cc) ∧ w'.cell? ⟨V + 1, 1, none⟩ = some (.slice (some ⟨b, o, none⟩) l.l.length ce) ∧ w'.cell? ⟨b, o + i, none⟩ = some (.int .i64 x))
                    (first | go_keep | exact ⟨z0, z1, z2, z3, z4, z6, z5⟩)
                    ((go_at_call 53; refine (C9.out _ _ ((Below.refl _ wr).alloc (Nat.le_refl _) _).drew (BRow.new wr n)).mono ?_; rintro e w4 ⟨g5, g6, xs3, ys3, rfl, hg5, hg6, hg56, hbx, hby, hmv, hb4⟩; have hb5 : Below wr.heap.size wr w4 := ((Below.refl _ wr).alloc (Nat.le_refl _) _).drew.trans (hb4.mono (by simp)); have z0 := (hb5.cell (p := ⟨V, 0, none⟩) (by show V < _; omega)).trans c0; have z1 := (hb5.cell (p := ⟨V, 1, none⟩) (by show V < _; omega)).trans c1; have z2 := (hb5.cell (p := ⟨V, 2, none⟩) (by show V < _; omega)).trans c2; have z3 := (hb5.cell (p := ⟨V, 3, none⟩) (by show V < _; omega)).trans c3; have z4 := (hb5.cell (p := ⟨V, 4, none⟩) (by show V < _; omega)).trans c4; have z6 := (hb5.cell (p := ⟨V + 1, 1, none⟩) (by show V + 1 < _; omega)).trans d1; have z5 := (hb5.cell (p := ⟨b, o + i, none⟩) (by show b < _; omega)).trans q1))
                  all_goals
                    have HC5 : Hid (W0.heap.size ≤ g5 ∧ g5 ≠ g8 ∧ NwAt W0 a l.at (l.h.length + l.l.length * j + (i + 1)) g5 xs3 w4 ∧ BRow w4 g8 zs2) := by
                      have := HX5.out.1.now.step (g := List.replicate n false) (x' := xs3) (y' := ys3) (by rw [HXL.out]; exact hmv)
                      have h1 := HB5.out.size
                      have h2 : wr.heap.size ≤ g5 := by simp at hg5; omega
                      have h3 := HX5.out.2.lt
                      exact ⟨by omega, by omega, ⟨Below_on HB5.out hb5 HB5.out.size, hbx, this⟩, HX5.out.2.below hb5 h3⟩
                    clear hbx hby hmv hb4 hb5 z0 z1 z2 z3 z4 z5 z6 hg5 hg6 hmk
                    go_wp2_with fail
                    go_roundw
                    case rel => exact ⟨i + 1, g5, xs3, by omega, by go_num, rfl, HC5.out.1, HC5.out.2.1, HC5.out.2.2⟩
                    case measure => simp [intOf]; omega
                · obtain rfl : i = l.l.length := by omega
                  have HE : Hid (NwAt W0 a l.at (l.h.length + l.l.length * (j + 1)) gn xn wr ∧ BRow wr g8 zs2 ∧ AlSet a l (j + 1) zs2) := by
                    refine ⟨?_, HX5.out.2, HAS.out⟩
                    rw [Nat.mul_succ, ← Nat.add_assoc]
                    exact HX5.out.1
                  have HCN : Hid (rowCnt false g8 wr < rowCnt false g8 wr0) := by
                    show _ < _
                    rw [HCNT.out, rowCnt_eq HX5.out.2]
                    exact HY.out.2.2.2.yes rfl
                  go_wp2_with fail
                  go_roundw
                  case rel => exact ⟨j + 1, gn, xn, zs2, rfl, hgn, hgn8, HE.out⟩
                  case measure => exact HCN.out
      case rest =>
        obtain ⟨zs, hb7, HZ⟩ := hcut
        obtain ⟨w7, rfl⟩ : ∃ w : World, w = wc := ⟨_, rfl⟩
        have HB7 := Lib.hid hb7
        clear hb7 HMK
        have hzl : zs.length = n := by have h2 := HZ.out.2.1; have h3 := HN.out; omega
        go_wp2_with fail
        go_loopw [12] (fun s12 wr => ∃ i : Nat, i ≤ n ∧ s12 = .int .i64 i ∧ Below W0.heap.size W0 wr ∧ Hid (BRow wr g8 zs ∧ ∀ q : Nat, q < i → zs.getD q false = true → ¬ ∃ m, 0 < m ∧ m ≤ 2 * n ∧ Circle a l q m)) (fun s _ => n - (intOf s).toNat)
        case atStart => exact ⟨0, Nat.zero_le _, rfl, HB7.out, HZ.out.1, fun q h => absurd h (by omega)⟩
        case round =>
          obtain ⟨i, hi, rfl, hb8, HNO⟩ := hrel
          have HB8 := Lib.hid hb8
          obtain ⟨hV1r, ⟨_, c0, c1, c2, c3, c4⟩, d0, d1⟩ := HA.out.below hb8 hV1
          clear hb8
          by_cases hin : i < n
          · have hin2 : (i : Int) < a.st := by have := HN.out; omega
            obtain ⟨z1, z2⟩ := HNO.out.1.getD_ (i := i) (by omega) false
            obtain ⟨bz, hbz⟩ : ∃ b, b = zs.getD i false := ⟨_, rfl⟩
            rw [← hbz] at z1
            have HBZ := Lib.hid hbz
            clear hbz
            cases bz with
            | false =>
              have HNX : Hid (BRow wr g8 zs ∧ ∀ q : Nat, q < i + 1 → zs.getD q false = true → ¬ ∃ m, 0 < m ∧ m ≤ 2 * n ∧ Circle a l q m) := by
                refine ⟨HNO.out.1, fun q h1 h2 => ?_⟩
                rcases Nat.lt_or_ge q i with h3 | h3
                · exact HNO.out.2 q h3 h2
                · obtain rfl : q = i := by omega
                  rw [← HBZ.out] at h2; cases h2
              go_wp2_with fail
              go_roundw
              case rel => exact ⟨i + 1, by omega, by go_num, HB8.out, HNX.out⟩
              case measure => simp [intOf]; omega
            | true =>
              have HC := Lib.hid (circles_ a A B C E ca cb cc ce l i n wr (HR.out.below HB8.out) HO.out HN.out (HL.out.below HB8.out) hin h4 h5)
              go_wp2_with fail
              refine HC.out.mono ?_
              rintro e w9 ⟨bb, rfl, hbb, hb9⟩
              have HBB := Lib.hid hbb
              have HB9 : Hid (Below W0.heap.size W0 w9) := Below_on HB8.out hb9 HB8.out.size
              have HR9 : Hid (BRow w9 g8 zs) := HNO.out.1.below hb9 HNO.out.1.lt
              clear hbb hb9 HC
              cases bb with
              | true =>
                have HP : Hid (SoPost w (TakesU a l.at) (.returned (.bool true)) w9) := by
                  refine ⟨true, rfl, ⟨fun _ => HTK.out.2 ?_, fun _ => rfl⟩, Below_on HBW.out HB9.out HBW.out.size⟩
                  obtain ⟨m, m1, m2, m3⟩ := HBB.out.1 rfl
                  obtain ⟨j, f, hf, hw⟩ := (HZ.out.2.2 (i : Int)).1 ⟨by omega, HBZ.out.symm⟩
                  exact ⟨i, ⟨f, hf, j, hw⟩, m, m1, by rw [HTN.out]; exact m2, m3⟩
                go_wp2_with fail
                go_ret
                exact HP.out
              | false =>
                have HNX : Hid (BRow w9 g8 zs ∧ ∀ q : Nat, q < i + 1 → zs.getD q false = true → ¬ ∃ m, 0 < m ∧ m ≤ 2 * n ∧ Circle a l q m) := by
                  refine ⟨HR9.out, fun q h1 h2 => ?_⟩
                  rcases Nat.lt_or_ge q i with h3 | h3
                  · exact HNO.out.2 q h3 h2
                  · obtain rfl : q = i := by omega
                    intro h4
                    have := HBB.out.2 h4
                    cases this
                go_wp2_with fail
                go_roundw
                case rel => exact ⟨i + 1, by omega, by go_num, HB9.out, HNX.out⟩
                case measure => simp [intOf]; omega
          · have hin2 : ¬ (i : Int) < a.st := by have := HN.out; omega
            have HP : Hid (SoPost w (TakesU a l.at) (.returned (.bool false)) wr) := by
              refine ⟨false, rfl, ⟨fun h => (by cases h), fun h => ?_⟩, Below_on HBW.out HB8.out HBW.out.size⟩
              obtain ⟨q, ⟨f, hf, j, hw⟩, m, m1, m2, m3⟩ := HTK.out.1 h
              have hq := (HZ.out.2.2 q).2 ⟨j, f, hf, hw⟩
              have hq0 := hq.1
              obtain ⟨Q, rfl⟩ := Int.eq_ofNat_of_zero_le hq0
              have hQ := InS_lt hq
              rw [Int.toNat_natCast] at hQ
              exact absurd ⟨m, m1, by rw [← HTN.out]; exact m2, m3⟩ (HNO.out.2 Q (by omega) hq.2)
            go_wp2_with fail
            go_ret
            exact HP.out
end Go.Proofs.Ytoglgeaiiipchaa
