/- Walks: the reference's circles. -/
import Derived.Test.YtoglgeaiiipchaaWMv
namespace Go.Proofs.Ytoglgeaiiipchaa
open Go Go.RowKit Go.Sort

/-- a bool that says whether something is so -/
def SoPost (w : World) (P : Prop) (e : Ending) (w' : World) : Prop := ∃ b : Bool, e = .returned (.bool b) ∧ (b = true ↔ P) ∧ Below w.heap.size w w'
/-- sets of states on their way, in memory -/
structure CrAt (W0 : World) (a : Au) (u : Nat → Int) (i : Nat) (q : Int) (j gx gy : Nat) (xs ys : List Bool) (wr : World) : Prop where
  below : Below W0.heap.size W0 wr
  hx : BRow wr gx xs
  hy : BRow wr gy ys
  ft : FromTo a u i q j xs ys
def Circle (a : Au) (l : La) (q : Int) (m : Nat) : Prop := Way a l.at true l.h.length q (l.h.length + l.l.length * m) q
theorem La.at_loop {l : La} {m i : Nat} (hi : i < l.l.length) : l.at (l.h.length + l.l.length * m + i) = l.l[i] := by
  unfold La.at
  rw [if_neg (by omega), show l.h.length + l.l.length * m + i - l.h.length = i + l.l.length * m by omega, Nat.add_mul_mod_self_left, Nat.mod_eq_of_lt hi, List.getD_eq_getElem?_getD, List.getElem?_eq_getElem hi]
  rfl

set_option maxRecDepth 100000 in
set_option maxHeartbeats 4000000 in
theorem circles_ (a : Au) (A B C D : Option Addr) (ca cb cc cd : Nat) (l : La) (q n : Nat) (w : World) (hr : AuRd w 0 a A B C ca cb cc) (ho : AuOK a) (hn : (n : Int) = a.st)
    (hl : Ints w 0 D cd l.l) (hq : q < n) (h4 : l.l.length ≤ 4000) (h5 : l.h.length ≤ 4000) :
    Calls Try.prog 54 #[.agg #[.int .i64 a.st, .int .i64 a.le, .slice A a.fs.length ca, .slice B a.gs.length cb, .slice C a.ss.length cc], .slice D l.l.length cd, .int .i64 q] w (SoPost w (∃ m, 0 < m ∧ m ≤ 2 * n ∧ Circle a l q m)) := by
  have HW := Lib.hid (auW_is w a A B C ca cb cc)
  have HR := Lib.hid (hr.below HW.out.below)
  have HL := Lib.hid (hl.below HW.out.below)
  have l1 := hl.le
  have l2 := hl.max
  have hst1 := ho.st1
  have hst2 := ho.st2
  have hn3 : n ≤ 300 := by omega
  have HMK := Lib.hid (run_makeBools a.st n hn (by omega))
  have HO := Lib.hid ho
  have HN := Lib.hid hn
  clear hr hl ho hn
  go_enter Try.func54, Try.ntmps54
  go_upto_region 1 with fail
  change Code.wp _ _ _ _ (auW w a A B C ca cb cc)
  generalize auW w a A B C ca cb cc = W0 at *
  have HA := Lib.hid HW.out.at
  have HSZ := Lib.hid HW.out.size
  obtain ⟨V, hV⟩ : ∃ V, V = w.heap.size := ⟨_, rfl⟩
  rw [← hV] at HA HSZ ⊢
  have HBW : Hid (Below w.heap.size w W0) := HW.out.below
  have HVV := Lib.hid hV
  have hV0 := HA.out.lt
  clear hV HW
  go_cut [7, 8] (fun s7 s8 wx => ∃ gx gy, s7 = .slice (some ⟨gx, 0, none⟩) n n ∧ s8 = .slice (some ⟨gy, 0, none⟩) n n ∧ gx ≠ gy ∧ W0.heap.size ≤ gx ∧ W0.heap.size ≤ gy ∧ Below W0.heap.size W0 wx ∧ Hid (BRow wx gx (List.replicate n false) ∧ BRow wx gy (List.replicate n false)))
  case first =>
    obtain ⟨_, c0, c1, c2, c3, c4⟩ := HA.out
    have hmk := HMK.out
    go_region
    all_goals
      go_wp2_with fail
      go_meet
    · exact ⟨_, _, rfl, rfl, by omega, by omega, by omega, (((Below.refl _ W0).alloc (Nat.le_refl _) _).alloc (by simp) _).drew, (BRow.new W0 n).alloc, by have := BRow.new (W0.alloc (Obj.cells (madeCells #[Value.bool false] n) 4)) n; rwa [World.size_alloc] at this⟩
    · exact ⟨_, _, rfl, rfl, by omega, by omega, by omega, (((Below.refl _ W0).alloc (Nat.le_refl _) _).alloc (by simp) _).drew, by have := BRow.new (W0.alloc (Obj.cells (madeCells #[Value.bool false] n) 4)) n; rwa [World.size_alloc] at this, (BRow.new W0 n).alloc⟩
  case rest =>
    obtain ⟨gx, gy, rfl, rfl, hxy, hgx, hgy, hb1, HX⟩ := hcut
    obtain ⟨wo, rfl⟩ : ∃ wo : World, wo = wc := ⟨_, rfl⟩
    clear HMK
    have HB1 := Lib.hid hb1
    obtain ⟨x1, x2⟩ := HX.out.1.getD_ (i := q) (by simp; exact hq) false
    go_upto_region 3 with fail
    have HC0 : Hid (CrAt W0 a l.at l.h.length q l.h.length gx gy ((List.replicate n false).set q true) (List.replicate n false) (wo.setCell ⟨gx, q, none⟩ (.bool true))) := by
      have := FromTo.start (a := a) (u := l.at) (i := l.h.length) (q := (q : Int)) (by have := HN.out; omega)
      rw [show a.st.toNat = n by have := HN.out; omega, Int.toNat_natCast] at this
      exact ⟨HB1.out.setCell (p := ⟨gx, q, none⟩) hgx _, HX.out.1.set_ q true, HX.out.2.set_far (p := ⟨gx, q, none⟩) (fun h => hxy h.symm) _, this⟩
    clear x1 x2 hb1 HB1 HX
    generalize wo.setCell ⟨gx, q, none⟩ (.bool true) = w2 at *
    go_wp2_with fail
    go_loopw [7, 8, 9, 10] (fun s7 s8 s9 _ wr => ∃ (m gx gy : Nat) (xs ys : List Bool), s7 = .slice (some ⟨gx, 0, none⟩) n n ∧ s8 = .slice (some ⟨gy, 0, none⟩) n n ∧ s9 = .int .i64 m ∧ m ≤ 2 * n ∧ Hid (CrAt W0 a l.at l.h.length q (l.h.length + l.l.length * m) gx gy xs ys wr) ∧ Hid (∀ m', 0 < m' → m' ≤ m → ¬ Circle a l q m')) (fun _ _ s _ _ => 2 * n - (intOf s).toNat)
    case atStart => exact ⟨0, gx, gy, _, _, rfl, rfl, rfl, Nat.zero_le _, HC0.out, fun m' h1 h2 => absurd h2 (by omega)⟩
    case round =>
      obtain ⟨m, g7, g8, xs, ys, rfl, rfl, rfl, hm, HCR, HNO⟩ := hrel
      clear HC0
      have HB2 := Lib.hid HCR.out.below
      obtain ⟨_, c0, c1, c2, c3, c4⟩ := HA.out.below HB2.out hV0
      by_cases hmn : m < 2 * n
      · have hN2 : (m : Int) < 2 * a.st := by have := HN.out; omega
        go_wp2_with fail
        obtain ⟨w3, rfl⟩ : ∃ w3 : World, w3 = wr := ⟨_, rfl⟩
        go_loopw [7, 8, 10] (fun s7 s8 s10 wr => ∃ (i gx gy : Nat) (xs ys : List Bool), s7 = .slice (some ⟨gx, 0, none⟩) n n ∧ s8 = .slice (some ⟨gy, 0, none⟩) n n ∧ s10 = .int .i64 i ∧ i ≤ l.l.length ∧ Hid (CrAt W0 a l.at l.h.length q (l.h.length + l.l.length * m + i) gx gy xs ys wr)) (fun _ _ s _ => l.l.length - (intOf s).toNat)
        case atStart => exact ⟨0, g7, g8, _, _, rfl, rfl, rfl, Nat.zero_le _, HCR.out⟩
        case round =>
          obtain ⟨i, p7, p8, xs2, ys2, rfl, rfl, rfl, hi, HC2⟩ := hrel
          clear c0 c1 c2 c3 c4 HCR HB2
          have HB3 := Lib.hid HC2.out.below
          obtain ⟨_, c0, c1, c2, c3, c4⟩ := HA.out.below HB3.out hV0
          have hx2 : xs2.length = n := by have h1 := HC2.out.ft.lx; have h2 := HN.out; omega
          have hy2 : ys2.length = n := by have h1 := HC2.out.ft.ly; have h2 := HN.out; omega
          by_cases hil : i < l.l.length
          · obtain ⟨b, o, hDD, _, _, q1⟩ := Ints.at_ (HL.out.below HB3.out) hil
            subst hDD
            obtain ⟨x, hx⟩ : ∃ x, x = l.l[i] := ⟨_, rfl⟩
            rw [← hx] at q1
            have HXL : Hid (l.at (l.h.length + l.l.length * m + i) = x) := by show _ = _; rw [La.at_loop hil, hx]
            have C9 : Hid (∀ W, Below wr.heap.size wr W → Calls Try.prog 53 #[.agg #[.int .i64 a.st, .int .i64 a.le, .slice A a.fs.length ca, .slice B a.gs.length cb, .slice C a.ss.length cc], .slice (some ⟨p7, 0, none⟩) n n, .slice (some ⟨p8, 0, none⟩) n n, .int .i64 x] W (MvPost W a xs2 ys2 x n)) := fun W hW =>
              moved_ a A B C ca cb cc xs2 ys2 p7 p8 n x W (HR.out.below (HB3.out.trans (hW.mono HB3.out.size))) HO.out HN.out (HC2.out.hx.below hW HC2.out.hx.lt) (HC2.out.hy.below hW HC2.out.hy.lt) hx2 hy2
            clear hx
            go_wp2_with fail
            go_region_held3 (fun w' => w'.cell? ⟨V, 0, none⟩ = some (.int .i64 a.st) ∧ w'.cell? ⟨V, 1, none⟩ = some (.int .i64 a.le) ∧ w'.cell? ⟨V, 2, none⟩ = some (.slice A a.fs.length ca) ∧ w'.cell? ⟨V, 3, none⟩ = some (.slice B a.gs.length cb) ∧ w'.cell? ⟨V, 4, none⟩ = some (.slice C a.ss.length cc) ∧ w'.cell? ⟨b, o + i, none⟩ = some (.int .i64 x))
              (first | go_keep | exact ⟨z0, z1, z2, z3, z4, z5⟩)
              ((go_at_call 53; refine (C9.out _ (Below.refl _ _).drew).mono ?_; rintro e w4 ⟨g5, g6, xs3, ys3, rfl, hg5, hg6, hg56, hbx, hby, hmv, hb4⟩; have hb5 : Below wr.heap.size wr w4 := (Below.refl _ wr).drew.trans hb4; have z0 := (hb5.cell (p := ⟨V, 0, none⟩) (by show V < _; omega)).trans c0; have z1 := (hb5.cell (p := ⟨V, 1, none⟩) (by show V < _; omega)).trans c1; have z2 := (hb5.cell (p := ⟨V, 2, none⟩) (by show V < _; omega)).trans c2; have z3 := (hb5.cell (p := ⟨V, 3, none⟩) (by show V < _; omega)).trans c3; have z4 := (hb5.cell (p := ⟨V, 4, none⟩) (by show V < _; omega)).trans c4; have z5 := (hb5.cell (p := ⟨b, o + i, none⟩) (by show b < _; omega)).trans q1))
            all_goals
              have HC5 : Hid (CrAt W0 a l.at l.h.length q (l.h.length + l.l.length * m + (i + 1)) g5 g6 xs3 ys3 w4) := by
                have := HC2.out.ft.step (by omega) (x' := xs3) (y' := ys3) (by rw [HXL.out]; exact hmv)
                exact ⟨Below_on HB3.out hb5 HB3.out.size, hbx, hby, this⟩
              clear hbx hby hmv hb4 hb5 z0 z1 z2 z3 z4 z5 hg5 hg6
              go_wp2_with fail
              go_roundw
              case rel => exact ⟨i + 1, g5, g6, xs3, ys3, rfl, rfl, by go_num, by omega, HC5.out⟩
              case measure => simp [intOf]; omega
          · obtain rfl : i = l.l.length := by omega
            obtain ⟨y1, y2⟩ := HC2.out.hy.getD_ (i := q) (by rw [hy2]; exact hq) false
            obtain ⟨bb, hbb⟩ : ∃ b, b = ys2.getD q false := ⟨_, rfl⟩
            rw [← hbb] at y1
            have HCI : Hid (bb = true ↔ Circle a l q (m + 1)) := by
              show _ ↔ _
              have := HC2.out.ft.sy (q : Int)
              unfold InS at this
              rw [Int.toNat_natCast, ← hbb] at this
              unfold Circle
              rw [Nat.mul_succ, ← Nat.add_assoc, ← this]
              exact ⟨fun h => ⟨by omega, h⟩, fun h => h.2⟩
            clear hbb
            cases bb with
            | true =>
              have HP : Hid (SoPost w (∃ m, 0 < m ∧ m ≤ 2 * n ∧ Circle a l q m) (.returned (.bool true)) wr) :=
                ⟨true, rfl, ⟨fun _ => ⟨m + 1, by omega, by omega, HCI.out.1 rfl⟩, fun _ => rfl⟩, Below_on HBW.out HB3.out HBW.out.size⟩
              go_wp2_with fail
              go_ret
              exact HP.out
            | false =>
              have HNO2 : Hid (∀ m', 0 < m' → m' ≤ m + 1 → ¬ Circle a l q m') := by
                intro m' h1 h2 h3
                rcases Nat.lt_or_ge m m' with h4 | h4
                · obtain rfl : m' = m + 1 := by omega
                  have := HCI.out.2 h3
                  cases this
                · exact HNO.out m' h1 h4 h3
              have HC6 : Hid (CrAt W0 a l.at l.h.length q (l.h.length + l.l.length * (m + 1)) p7 p8 xs2 ys2 wr) := by
                show CrAt _ _ _ _ _ _ _ _ _ _ _
                rw [Nat.mul_succ, ← Nat.add_assoc]
                exact HC2.out
              go_wp2_with fail
              go_roundw
              case rel => exact ⟨m + 1, p7, p8, _, _, rfl, rfl, by go_num, by omega, HC6.out, HNO2.out⟩
              case measure => simp [intOf]; omega
      · have hN2 : ¬ (m : Int) < 2 * a.st := by have := HN.out; omega
        have HP : Hid (SoPost w (∃ m, 0 < m ∧ m ≤ 2 * n ∧ Circle a l q m) (.returned (.bool false)) wr) :=
          ⟨false, rfl, ⟨fun h => (by cases h), fun ⟨m', h1, h2, h3⟩ => absurd h3 (HNO.out m' h1 (by omega))⟩, Below_on HBW.out HB2.out HBW.out.size⟩
        go_wp2_with fail
        go_ret
        exact HP.out
end Go.Proofs.Ytoglgeaiiipchaa
