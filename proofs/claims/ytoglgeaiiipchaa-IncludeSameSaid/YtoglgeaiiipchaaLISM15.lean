/- Walks: include.step. -/
import Derived.Test.YtoglgeaiiipchaaLISM1
import Derived.Test.YtoglgeaiiipchaaLISM8
import Derived.Test.YtoglgeaiiipchaaLISM2
import Derived.Deep.CutBlock
import Derived.Deep.RegionLaw
import Derived.Deep.DeepCutAuto
set_option linter.unusedSimpArgs false
set_option linter.unusedVariables false
namespace Go.Proofs.Ytoglgeaiiipchaa
open Go Go.RowKit

abbrev PrI := Int × Int
def prC (p : PrI) : List Value := [.int .i64 p.1, .int .i64 p.2]
theorem prC_len (p : PrI) : (prC p).length = 2 := rfl
theorem prC_one (p : PrI) : ∀ u ∈ prC p, u.oneCell' = true := by
  intro u hu
  simp only [prC, List.mem_cons, List.not_mem_nil, or_false] at hu
  rcases hu with rfl | rfl <;> rfl
abbrev PrQ := GQ 159 prC 2
theorem infoPr : (Try.prog.info? 159).map (fun i => (i.zero, i.size, i.bytes)) = some (some (.agg #[.int .i64 0, .int .i64 0]), 2, 16) := by kernel_rfl
theorem pr_app {W : World} {lo : Nat} {v : Value} {xs : List PrI} {y : PrI} {B : Nat} (hown : PrQ W lo v xs) (hB : W.heap[B]? = some (.cells #[.int .i64 y.1, .int .i64 y.2] 159 (0, 0))) (hl : xs.length ≤ 1000000000) (hlo : lo ≤ W.heap.size) :
    ∃ v' W', (Builtin.append_ #[160, 160] 160 #[v, .slice (some ⟨B, 0, none⟩) 1 1]).run Try.prog W = .ok v' W' ∧ PrQ W' lo v' (xs ++ [y]) ∧ W.grownBy W' v.ownBlock ∧ (v'.ownBlock = v.ownBlock ∨ v'.ownBlock = some W.heap.size) := by
  obtain ⟨i0, hi0, hz0, hz1, hz2⟩ := info_parts infoPr
  exact run_append_g 160 160 Try.underlying160 hi0 hz0 hz1 hz2 rfl (by decide) prC_len prC_one hown hB hl (by decide) hlo
/-- the pairs so far: the first one tells -/
structure AhM (w0 w : World) (lo : Nat) (v : Value) (t : PrI) (n : Nat) : Prop where
  q : ∃ r, PrQ w lo v (t :: r) ∧ r.length = n
  below : Below w0.heap.size w0 w
  le0 : w0.heap.size ≤ lo
  lt : lo ≤ w.heap.size
theorem AhM.app {w0 w : World} {lo : Nat} {v : Value} {t : PrI} {n : Nat} (h : AhM w0 w lo v t n) (hn : n ≤ 900000000) (y : PrI) :
    ∃ A c W', (Builtin.append_ #[160, 160] 160 #[v, .slice (some ⟨w.heap.size, 0, none⟩) 1 1]).run Try.prog (w.drew.alloc (Obj.cells #[.int .i64 y.1, .int .i64 y.2] 159)) = .ok (.slice A (n + 2) c) W' ∧
      AhM w0 W' lo (.slice A (n + 2) c) t (n + 1) := by
  obtain ⟨r, hq, hr⟩ := h.q
  have hb : Below w.heap.size w (w.drew.alloc (Obj.cells #[.int .i64 y.1, .int .i64 y.2] 159)) := ((Below.refl _ _).drew).alloc (Nat.le_refl _) _
  have hs : (w.drew.alloc (Obj.cells #[.int .i64 y.1, .int .i64 y.2] 159)).heap.size = w.heap.size + 1 := by simp
  obtain ⟨v', W', h1, h2, h3, h4⟩ := pr_app (y := y) (hq.on hb) (allocNew w.drew _) (by simp; omega) (by have := h.lt; omega)
  obtain ⟨A, c, rfl, _, _⟩ := h2.form
  have hl : ((t :: r) ++ [y]).length = n + 2 := by simp; omega
  rw [hl] at h1 h2 h4
  refine ⟨A, c, W', h1, ⟨⟨r ++ [y], h2, by simp; omega⟩, ?_, h.le0, by have := h.lt; have := h3.size; omega⟩⟩
  have hb2 : Below w0.heap.size w0 (w.drew.alloc (Obj.cells #[.int .i64 y.1, .int .i64 y.2] 159)) := Below_on h.below hb h.below.size
  exact hb2.grown h3 (by have := h.below.size; omega) fun k hk => by have := (hq.lt k hk).1; have := h.le0; omega
theorem AhM.start (w0 w : World) (hb : Below w0.heap.size w0 w) (a b c d : Int) : AhM w0 (w.alloc (Obj.cells #[.int .i64 a, .int .i64 b, .int .i64 c, .int .i64 d] 159)) w.heap.size (.slice (some ⟨w.heap.size, 0, none⟩) 2 2) (a, b) 1 := by
  refine ⟨⟨[(c, d)], .inr ⟨w.heap.size, 0, 2, _, rfl, Nat.le_refl _, allocNew w _, by simp, by simp, by simp [maxLen], fun j u hj => ?_⟩, rfl⟩, Below_on hb ((Below.refl _ _).alloc (Nat.le_refl _) _) hb.size, hb.size, by simp⟩
  rw [Nat.zero_add]
  simpa [prC] using hj
structure AhPost (w : World) (tx ty : Int) (e : Ending) (w' : World) : Prop where
  is : ∃ b : Bool, e = .returned (.bool b) ∧ (b = true → tx ≤ ty) ∧ (b = false → ty ≤ tx)
  below : Below w.heap.size w w'
set_option maxRecDepth 100000 in
set_option maxHeartbeats 8000000 in
theorem ahead_ (x y : La) (A B C D : Option Addr) (ca cb cc cd : Nat) (w : World) (h1 : Ints w 0 A ca x.h) (h2 : Ints w 0 B cb x.l) (h3 : Ints w 0 C cc y.h) (h4 : Ints w 0 D cd y.l)
    (b1 : x.h.length ≤ 400000000) (b2 : x.l.length ≤ 400000000) (b3 : y.h.length ≤ 400000000) (b4 : y.l.length ≤ 400000000) :
    Calls Try.prog 94 #[.agg #[.slice A x.h.length ca, .slice B x.l.length cb], .agg #[.slice C y.h.length cc, .slice D y.l.length cd]] w (AhPost w ((x.h.length : Int) + x.l.length) ((y.h.length : Int) + y.l.length)) := by
  have l1 := h1.le
  have l2 := h2.le
  have l3 := h3.le
  have l4 := h4.le
  obtain ⟨W1, hW1⟩ : ∃ W1, W1 = (w.alloc (Obj.cells #[.slice A x.h.length ca, .slice B x.l.length cb] 26)).alloc (Obj.cells #[.slice C y.h.length cc, .slice D y.l.length cd] 26) := ⟨_, rfl⟩
  have hb1 : Below w.heap.size w W1 := by rw [hW1]; exact ((Below.refl _ _).alloc (Nat.le_refl _) _).alloc (by simp) _
  have hs1 : W1.heap.size = w.heap.size + 1 + 1 := by rw [hW1]; simp
  have c0 : W1.cell? ⟨w.heap.size, 0, none⟩ = some (.slice A x.h.length ca) := by rw [hW1]; go_simp
  have c1 : W1.cell? ⟨w.heap.size, 1, none⟩ = some (.slice B x.l.length cb) := by rw [hW1]; go_simp
  have d0 : W1.cell? ⟨w.heap.size + 1, 0, none⟩ = some (.slice C y.h.length cc) := by rw [hW1]; go_simp
  have d1 : W1.cell? ⟨w.heap.size + 1, 1, none⟩ = some (.slice D y.l.length cd) := by rw [hW1]; go_simp
  go_enter Try.func94, Try.ntmps94
  go_upto_region 1 with fail
  rw [← hW1]
  have HX1 := Lib.hid (h1.below hb1)
  have HX2 := Lib.hid (h2.below hb1)
  have HX3 := Lib.hid (h3.below hb1)
  have HX4 := Lib.hid (h4.below hb1)
  obtain ⟨V1, hv1⟩ : ∃ V, V = w.heap.size := ⟨_, rfl⟩
  obtain ⟨V2, hv2⟩ : ∃ V, V = w.heap.size + 1 := ⟨_, rfl⟩
  have HV : Hid (V1 < W1.heap.size ∧ V2 < W1.heap.size) := by constructor <;> omega
  rw [← hv2] at d0 d1 ⊢
  rw [← hv1] at c0 c1 ⊢
  have HB1 := Lib.hid hb1
  have HC : Hid (∀ W, Below W1.heap.size W1 W → (W.cell? ⟨V1, 0, none⟩ = some (.slice A x.h.length ca) ∧ W.cell? ⟨V1, 1, none⟩ = some (.slice B x.l.length cb)) ∧ W.cell? ⟨V2, 0, none⟩ = some (.slice C y.h.length cc) ∧ W.cell? ⟨V2, 1, none⟩ = some (.slice D y.l.length cd)) := fun W hb =>
    ⟨⟨(hb.cell (p := ⟨V1, 0, none⟩) HV.out.1).trans c0, (hb.cell (p := ⟨V1, 1, none⟩) HV.out.1).trans c1⟩, (hb.cell (p := ⟨V2, 0, none⟩) HV.out.2).trans d0, (hb.cell (p := ⟨V2, 1, none⟩) HV.out.2).trans d1⟩
  have s1 : IntKind.i64.wrap ((x.h.length : Int) + (x.l.length : Int)) = (x.h.length : Int) + (x.l.length : Int) := IntWalk.i64_in _ (by omega)
  have s2 : IntKind.i64.wrap ((y.h.length : Int) + (y.l.length : Int)) = (y.h.length : Int) + (y.l.length : Int) := IntWalk.i64_in _ (by omega)
  have HA0 := Lib.hid (AhM.start W1 W1 (Below.refl _ _) ((x.h.length : Int) + (x.l.length : Int)) ((y.h.length : Int) + (y.l.length : Int)) (x.h.length : Int) (y.h.length : Int))
  clear hW1 hb1 hs1 h1 h2 h3 h4 hv1 hv2
  go_upto_region 2 with fail
  generalize hT : ((x.h.length : Int) + (x.l.length : Int), (y.h.length : Int) + (y.l.length : Int)) = T at *
  have HT := Lib.hid hT
  clear hT
  obtain ⟨L, hL⟩ : ∃ L, L = W1.heap.size := ⟨_, rfl⟩
  rw [← hL] at HA0 ⊢
  clear hL
  generalize W1.alloc (Obj.cells #[.int .i64 ((x.h.length : Int) + (x.l.length : Int)), .int .i64 ((y.h.length : Int) + (y.l.length : Int)), .int .i64 (x.h.length : Int), .int .i64 (y.h.length : Int)] 159) = W2 at *
  clear s1 s2 c0 c1 d0 d1
  obtain ⟨⟨c0, c1⟩, d0, d1⟩ := HC.out W2 HA0.out.below
  go_cut [39, 40] (fun s39 s40 wx => (∃ m : Nat, s39 = .int .i64 (m : Int) ∧ m ≤ x.h.length ∧ m ≤ y.h.length) ∧ s40 = .int .i64 0 ∧ wx = W2)
  case first =>
    by_cases hz : y.h.length < x.h.length
    · have e1 : (y.h.length : Int) < (x.h.length : Int) := by omega
      go_wp2_with fail
      go_meet
      exact ⟨⟨_, rfl, by omega, by omega⟩, rfl, rfl⟩
    · have e1 : ¬ (y.h.length : Int) < (x.h.length : Int) := by omega
      go_wp2_with fail
      go_meet
      exact ⟨⟨_, rfl, by omega, by omega⟩, rfl, rfl⟩
  case rest =>
    obtain ⟨⟨m, rfl, hm1, hm2⟩, rfl, rfl⟩ := hcut
    clear c0 c1 d0 d1
    go_wp2_with fail
    go_loopw [5, 40] (fun v5 v40 wr => ∃ i : Nat, i ≤ m ∧ v40 = .int .i64 (i : Int) ∧ ∃ A c, v5 = .slice A (i + 1 + 1) c ∧ Hid (AhM W1 wr L (.slice A (i + 1 + 1) c) T (i + 1))) (fun _ v40 _ => m - (intOf v40).toNat)
    case atStart => exact ⟨0, Nat.zero_le _, rfl, _, _, rfl, HA0⟩
    case round =>
      clear HA0
      obtain ⟨i, hi, rfl, Aq, cq, rfl, HA⟩ := hrel
      by_cases him : i < m
      · have q1 : (i : Int) < (m : Int) := by omega
        have HI := Lib.hid him
        obtain ⟨⟨c0, _⟩, d0, _⟩ := HC.out wr HA.out.below
        have hix : i < x.h.length := by omega
        have hiy : i < y.h.length := by omega
        have q2 : (i : Int) < (x.h.length : Int) := by omega
        have q3 : (i : Int) < (y.h.length : Int) := by omega
        obtain ⟨bx, ox, rfl, _, _, x0⟩ := Ints.at_ (HX1.out.below HA.out.below) hix
        obtain ⟨bY, oy, rfl, _, _, y0⟩ := Ints.at_ (HX3.out.below HA.out.below) hiy
        obtain ⟨A3, c3, W3, hrun, hA3⟩ := HA.out.app (by omega) (x.h[i], y.h[i])
        have HR := Lib.hid hrun
        have HA3 := Lib.hid hA3
        clear hrun hA3
        generalize x.h[i] = gx at *
        generalize y.h[i] = gy at *
        go_upto_block 1 with fail
        go_cut [5] (fun s5 wx => s5 = .slice A3 (i + 1 + 2) c3 ∧ wx = W3)
        case first =>
          go_wp2_with fail
          go_region_law ((refine step_appRun rfl (.tmp 43) (.tmp 55) _ _ rfl (.slice (Aq) (i + 1 + 1) cq) (.slice (some ⟨wr.heap.size, 0, none⟩) 1 1) (.slice A3 (i + 1 + 2) c3) (by go_simp) (by go_simp) HR.out ?_))
          all_goals (go_wp2_with fail; go_meet; exact ⟨rfl, rfl⟩)
        case rest =>
          obtain ⟨rfl, rfl⟩ := hcut
          clear HR c0 d0 x0 y0
          go_wp2_with fail
          go_roundw
          case rel => exact ⟨i + 1, HI.out, by go_num, A3, c3, rfl, HA3⟩
          case measure => simp [intOf]; have := HI.out; omega
      · have q1 : ¬ (i : Int) < (m : Int) := by omega
        obtain ⟨n, hn⟩ : ∃ n, n = i + 1 := ⟨_, rfl⟩
        have hnl : n ≤ 400000001 := by omega
        rw [← hn] at HA
        go_upto_region 7 with fail
        rw [← hn]
        clear hn q1
        obtain ⟨⟨_, c1⟩, _, d1⟩ := HC.out wr HA.out.below
        go_cut [64, 65] (fun s64 s65 wx => (∃ m : Nat, s64 = .int .i64 (m : Int) ∧ m ≤ x.l.length ∧ m ≤ y.l.length) ∧ s65 = .int .i64 0 ∧ wx = wr)
        case first =>
          by_cases hz : y.l.length < x.l.length
          · have e1 : (y.l.length : Int) < (x.l.length : Int) := by omega
            go_wp2_with fail
            go_meet
            exact ⟨⟨_, rfl, by omega, by omega⟩, rfl, rfl⟩
          · have e1 : ¬ (y.l.length : Int) < (x.l.length : Int) := by omega
            go_wp2_with fail
            go_meet
            exact ⟨⟨_, rfl, by omega, by omega⟩, rfl, rfl⟩
        case rest =>
          obtain ⟨⟨m2, rfl, hm3, hm4⟩, rfl, rfl⟩ := hcut
          clear c1 d1
          go_wp2_with fail
          go_loopw [5, 65] (fun v5 v65 wr => ∃ i : Nat, i ≤ m2 ∧ v65 = .int .i64 (i : Int) ∧ ∃ n A c, n ≤ 400000001 + i ∧ v5 = .slice A (n + 1) c ∧ Hid (AhM W1 wr L (.slice A (n + 1) c) T n)) (fun _ v65 _ => m2 - (intOf v65).toNat)
          case atStart => exact ⟨0, Nat.zero_le _, rfl, n, _, _, hnl, rfl, HA⟩
          case round =>
            clear HA hnl
            obtain ⟨i, hi, rfl, n, Aq, cq, hnl, rfl, HA⟩ := hrel
            by_cases him : i < m2
            · have q1 : (i : Int) < (m2 : Int) := by omega
              have HI := Lib.hid him
              obtain ⟨⟨_, c1⟩, _, d1⟩ := HC.out wr HA.out.below
              have hix : i < x.l.length := by omega
              have hiy : i < y.l.length := by omega
              have q2 : (i : Int) < (x.l.length : Int) := by omega
              have q3 : (i : Int) < (y.l.length : Int) := by omega
              obtain ⟨bx, ox, rfl, _, _, x0⟩ := Ints.at_ (HX2.out.below HA.out.below) hix
              obtain ⟨bY, oy, rfl, _, _, y0⟩ := Ints.at_ (HX4.out.below HA.out.below) hiy
              obtain ⟨A3, c3, W3, hrun, hA3⟩ := HA.out.app (by omega) (x.l[i], y.l[i])
              have HR := Lib.hid hrun
              have HA3 := Lib.hid hA3
              have HNL : Hid (n + 1 ≤ 400000001 + (i + 1)) := by show _ ≤ _; omega
              clear hrun hA3
              generalize x.l[i] = gx at *
              generalize y.l[i] = gy at *
              go_upto_block 3 with fail
              go_cut [5] (fun s5 wx => s5 = .slice A3 (n + 2) c3 ∧ wx = W3)
              case first =>
                go_wp2_with fail
                go_region_law ((refine step_appRun rfl (.tmp 68) (.tmp 80) _ _ rfl (.slice (Aq) (n + 1) cq) (.slice (some ⟨wr.heap.size, 0, none⟩) 1 1) (.slice A3 (n + 2) c3) (by go_simp) (by go_simp) HR.out ?_))
                all_goals (go_wp2_with fail; go_meet; exact ⟨rfl, rfl⟩)
              case rest =>
                obtain ⟨rfl, rfl⟩ := hcut
                clear HR c1 d1 x0 y0
                go_wp2_with fail
                go_roundw
                case rel => exact ⟨i + 1, HI.out, by go_num, n + 1, A3, c3, HNL.out, rfl, HA3⟩
                case measure => simp [intOf]; have := HI.out; omega
            · have q1 : ¬ (i : Int) < (m2 : Int) := by omega
              obtain ⟨r, hq, hr⟩ := HA.out.q
              have hrl : (T :: r).length = n + 1 := by simp [hr]
              obtain ⟨A', c', he, hsl⟩ := hq.read (bt := 16) (by rw [hrl]; omega)
              rw [hrl] at he
              obtain ⟨rfl, _, rfl⟩ : Aq = A' ∧ n + 1 = n + 1 ∧ cq = c' := by simpa using he
              have HSL := Lib.hid hsl
              have hlc := hsl.le
              have hcc := hsl.cap
              rw [hrl] at hlc
              have HRL := Lib.hid hrl
              have HBA := Lib.hid HA.out.below
              clear hq hr hrl he hsl HA him
              generalize wr = W9 at *
              go_wp2_with fail
              go_loopw [85] (fun v85 wq => ∃ q : Nat, q ≤ n + 1 ∧ v85 = .int .i64 (q : Int) ∧ Hid (0 < q → T.1 = T.2) ∧ Hid (Below W9.heap.size W9 wq)) (fun v85 _ => n + 1 - (intOf v85).toNat)
              case atStart => exact ⟨0, Nat.zero_le _, rfl, fun h => absurd h (by omega), Below.refl _ _⟩
              case round =>
                obtain ⟨q, hq, rfl, HQ, HBQ⟩ := hrel
                by_cases hqn : q < n + 1
                · have q2 : (q : Int) < ((n + 1 : Nat) : Int) := by omega
                  rw [show ((n + 1 : Nat) : Int) = (n : Int) + 1 by omega] at q2
                  have HQN := Lib.hid hqn
                  have hql : q < (T :: r).length := by have := HRL.out; omega
                  obtain ⟨gb, go, rfl, _, _, hcell⟩ := SlE.at (fun _ => rfl) (sz := 2) (fun _ => rfl) (by decide) (HSL.out.below HBQ.out) hql
                  have x0 := hcell 0 _ rfl
                  have x1 := hcell 1 _ rfl
                  rw [Nat.add_zero] at x0
                  rw [← Nat.add_assoc] at x1
                  have HP : Hid (0 < q ∨ (T :: r)[q] = T) := by
                    show _ ∨ _
                    rcases Nat.eq_zero_or_pos q with rfl | h
                    · right; rfl
                    · left; exact h
                  generalize (T :: r)[q] = p at *
                  go_upto_region 15 with fail
                  have HZ := Lib.hid (allocNew wr (Obj.cells #[.int .i64 p.1, .int .i64 p.2] 159))
                  have HBZ : Hid (Below W9.heap.size W9 (wr.alloc (Obj.cells #[.int .i64 p.1, .int .i64 p.2] 159))) := Below_on HBQ.out ((Below.refl _ _).alloc (Nat.le_refl _) _) HBQ.out.size
                  obtain ⟨Z, hZ⟩ : ∃ Z, Z = wr.heap.size := ⟨_, rfl⟩
                  rw [← hZ] at HZ ⊢
                  clear hZ x0 x1
                  generalize wr.alloc (Obj.cells #[.int .i64 p.1, .int .i64 p.2] 159) = Wz at *
                  have z0 : Wz.cell? ⟨Z, 0, none⟩ = some (.int .i64 p.1) := by simp [World.cell?, HZ.out]
                  have z1 : Wz.cell? ⟨Z, 1, none⟩ = some (.int .i64 p.2) := by simp [World.cell?, HZ.out]
                  have HT1 : Hid (T.1 = (x.h.length : Int) + x.l.length ∧ T.2 = (y.h.length : Int) + y.l.length) := by rw [← HT.out]; exact ⟨rfl, rfl⟩
                  by_cases hne : p.1 = p.2
                  · have e1 : (p.1 != p.2) = false := by simp [hne]
                    have HN : Hid (T.1 = T.2) := by
                      rcases HP.out with h | h
                      · exact HQ.out h
                      · rw [← h]; exact hne
                    clear hne
                    go_wp2_with fail
                    go_roundw
                    case rel => exact ⟨q + 1, by have := HQN.out; omega, by go_num, fun _ => HN.out, HBZ.out⟩
                    case measure => simp [intOf]; have := HQN.out; omega
                  · have e1 : (p.1 != p.2) = true := by simp [hne]
                    have HPO : Hid (AhPost w ((x.h.length : Int) + x.l.length) ((y.h.length : Int) + y.l.length) (.returned (.bool (decide (p.1 < p.2)))) Wz) := by
                      refine ⟨⟨_, rfl, ?_, ?_⟩, Below_on (Below_on HB1.out HBA.out HB1.out.size) HBZ.out (Nat.le_trans HB1.out.size HBA.out.size)⟩
                      · intro h
                        have h := of_decide_eq_true h
                        obtain ⟨t1, t2⟩ := HT1.out
                        rcases HP.out with h' | h'
                        · have := HQ.out h'; omega
                        · rw [h'] at h; omega
                      · intro h
                        have h := of_decide_eq_false h
                        obtain ⟨t1, t2⟩ := HT1.out
                        rcases HP.out with h' | h'
                        · have := HQ.out h'; omega
                        · rw [h'] at h; omega
                    clear hne
                    go_wp2_with fail
                    go_ret
                    exact HPO.out
                · have q2 : ¬ (q : Int) < (n : Int) + 1 := by omega
                  have HPO : Hid (AhPost w ((x.h.length : Int) + x.l.length) ((y.h.length : Int) + y.l.length) (.returned (.bool false)) wr) := by
                    have HT1 : T.1 = (x.h.length : Int) + x.l.length ∧ T.2 = (y.h.length : Int) + y.l.length := by rw [← HT.out]; exact ⟨rfl, rfl⟩
                    refine ⟨⟨false, rfl, fun h => absurd h (by decide), fun _ => ?_⟩, Below_on (Below_on HB1.out HBA.out HB1.out.size) HBQ.out (Nat.le_trans HB1.out.size HBA.out.size)⟩
                    have := HQ.out (by omega)
                    omega
                  go_wp2_with fail
                  go_ret
                  exact HPO.out
end Go.Proofs.Ytoglgeaiiipchaa

namespace Go.Proofs.Ytoglgeaiiipchaa
open Go Go.RowKit Go.Shelf

def stP (s : Nat) (X : Bx) (n k : Nat) : Prop := ∃ i, i < 3 ∧ 3 * i + k < n ∧ s.testBit i = true ∧ 0 < bg X i k
theorem stP_yes {s : Nat} {X : Bx} {i k : Nat} (hi : i < 3) (hk : k < 3) (h1 : s.testBit i = true) (h2 : 0 < bg X i k) : bits3 (stP s X (3 * i + (k + 1))) = bits3 (stP s X (3 * i + k)) ||| 2 ^ k := by
  refine bits3_or hk fun j hj => ⟨?_, ?_⟩
  · rintro ⟨a, b, c, d, e⟩
    by_cases h : j = k
    · exact .inr h
    · exact .inl ⟨a, b, by omega, d, e⟩
  · rintro (⟨a, b, c, d, e⟩ | rfl)
    · exact ⟨a, b, by omega, d, e⟩
    · exact ⟨i, hi, by omega, h1, h2⟩
theorem stP_no {s : Nat} {X : Bx} {i k : Nat} (hk : k < 3) (h : ¬ (s.testBit i = true ∧ 0 < bg X i k)) : bits3 (stP s X (3 * i + (k + 1))) = bits3 (stP s X (3 * i + k)) := by
  refine bits3_congr fun j hj => ⟨?_, ?_⟩
  · rintro ⟨a, b, c, d, e⟩
    refine ⟨a, b, ?_, d, e⟩
    apply Classical.byContradiction
    intro hn
    obtain rfl : a = i := by omega
    obtain rfl : j = k := by omega
    exact h ⟨d, e⟩
  · rintro ⟨a, b, c, d, e⟩; exact ⟨a, b, by omega, d, e⟩
theorem stP_zero (s : Nat) (X : Bx) : bits3 (stP s X 0) = 0 := bits3_none fun j hj => by rintro ⟨a, b, c, d, e⟩; omega
theorem stP_all (s : Nat) (X : Bx) : bits3 (stP s X 9) = stepN s X := bits3_congr fun j hj => ⟨fun ⟨a, b, c, d, e⟩ => ⟨a, b, d, e⟩, fun ⟨a, b, d, e⟩ => ⟨a, b, by omega, d, e⟩⟩
set_option maxRecDepth 100000 in
set_option maxHeartbeats 2000000 in
theorem step_ (s : Nat) (X : Bx) (hs : s < 8) (hl : X.length = 9) (w : World) :
    Calls Try.prog 110 #[.int .i64 (s : Int), .agg (boxC X)] w fun e w' => e = .returned (.int .i64 (stepN s X : Nat)) ∧ Below w.heap.size w w' := by
  have hal : Below w.heap.size w (w.alloc (Obj.cells (boxC X) 128)) := (Below.refl _ _).alloc (Nat.le_refl _) _
  have HX := Lib.hid (URow.new 128 w X)
  have HB := Lib.hid hal
  have HS := Lib.hid hs
  have HL := Lib.hid hl
  have H0 := Lib.hid (stP_zero s X)
  have H9 := Lib.hid (stP_all s X)
  clear hs hl hal
  go_enter Try.func110, Try.ntmps110
  go_upto_region 1 with fail
  obtain ⟨V, hV⟩ : ∃ V, V = w.heap.size := ⟨_, rfl⟩
  rw [← hV] at HX ⊢
  clear hV
  generalize w.alloc (Obj.cells (boxC X) 128) = W1 at *
  go_wp2_with fail
  go_loopw [5, 9] (fun v5 v9 wr => ∃ i : Nat, i ≤ 3 ∧ v9 = .int .i64 (i : Int) ∧ v5 = .int .i64 ((bits3 (stP s X (3 * i)) : Nat) : Int) ∧ wr = W1) (fun _ v9 _ => 3 - (intOf v9).toNat)
  case atStart => exact ⟨0, by omega, rfl, by rw [Nat.mul_zero, H0.out]; rfl, rfl⟩
  case round =>
    obtain ⟨i, hi, rfl, rfl, rfl⟩ := hrel
    by_cases hi3 : i < 3
    · obtain ⟨r0, r1, r2⟩ := HX.out.row HL.out hi3
      have hz : (8 : Nat) = 8 := rfl
      go_wp2_with fail
      have HI := Lib.hid hi3
      have HIX := Lib.hid (fun (k : Nat) (hk : k < 3) => index_row (w := wr) (B := X) (i := i) hk)
      clear r0 r1 r2
      generalize u8v (bg X i 0) = x0 at *
      generalize u8v (bg X i 1) = x1 at *
      generalize u8v (bg X i 2) = x2 at *
      go_loopw [5, 15] (fun v5 v15 wr' => ∃ k : Nat, k ≤ 3 ∧ v15 = .int .i64 (k : Int) ∧ v5 = .int .i64 ((bits3 (stP s X (3 * i + k)) : Nat) : Int) ∧ wr' = wr) (fun _ v15 _ => 3 - (intOf v15).toNat)
      case atStart => exact ⟨0, by omega, rfl, rfl, rfl⟩
      case round =>
        obtain ⟨k, hk, rfl, rfl, rfl⟩ := hrel
        by_cases hk3 : k < 3
        · have hix := HIX.out k hk3
          have HA := Lib.hid (bit3_and HS.out HI.out)
          have HO := Lib.hid (bit3_or (n := bits3 (stP s X (3 * i + k))) (bits3_lt _) hk3)
          have HK := Lib.hid hk3
          have hw := wrap_pow3 hk3
          go_wp2_with fail
          · have a1 : s.testBit i = true := by rw [← HA.out]; simpa using by assumption
            have a2 : 0 < bg X i k := by assumption
            go_roundw
            case rel => exact ⟨k + 1, HK.out, by go_num, by rw [HO.out, stP_yes HI.out HK.out a1 a2], trivial⟩
            case measure => simp [intOf]; have := HK.out; omega
          · have a2 : ¬ 0 < bg X i k := by assumption
            go_roundw
            case rel => exact ⟨k + 1, HK.out, by go_num, by rw [stP_no HK.out (fun h => a2 h.2)], trivial⟩
            case measure => simp [intOf]; have := HK.out; omega
          · have a1 : ¬ s.testBit i = true := by rw [← HA.out]; simpa using by assumption
            go_roundw
            case rel => exact ⟨k + 1, HK.out, by go_num, by rw [stP_no HK.out (fun h => a1 h.1)], trivial⟩
            case measure => simp [intOf]; have := HK.out; omega
        · obtain rfl : k = 3 := by omega
          go_wp2_with fail
          go_roundw
          case rel => exact ⟨i + 1, HI.out, by go_num, rfl, trivial⟩
          case measure => simp [intOf]; have := HI.out; omega
    · obtain rfl : i = 3 := by omega
      go_wp2_with fail
      go_ret
      exact ⟨ret_int (by rw [← H9.out]), HB.out⟩
end Go.Proofs.Ytoglgeaiiipchaa
