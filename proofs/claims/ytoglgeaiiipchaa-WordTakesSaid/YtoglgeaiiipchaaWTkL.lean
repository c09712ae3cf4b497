/- Walks: the law WordTakes. -/
import Derived.Test.YtoglgeaiiipchaaWWB2
import Derived.Test.YtoglgeaiiipchaaWCL
namespace Go.Proofs.Ytoglgeaiiipchaa
open Go Go.RowKit Go.Shelf

theorem so_takes {w : World} {P : Prop} {a : Au} {u : Nat → Int} (h : P ↔ TakesU a u) {e : Ending} {w' : World} (hp : SoPost w P e w') : e = .returned (.bool (takesB a u)) ∧ Below w.heap.size w w' := by
  obtain ⟨b, rfl, hb, hw⟩ := hp
  have h2 := takesB_iff (a := a) (u := u)
  have : b = takesB a u := by
    cases b <;> cases hx : takesB a u <;> simp_all
  exact ⟨by rw [this], hw⟩
set_option maxRecDepth 100000 in
set_option maxHeartbeats 2000000 in
theorem WordTakes_ (a : Au) (A B C D E : Option Addr) (ca cb cc cd ce : Nat) (l : La) (w : World) (hr : AuRd w 0 a A B C ca cb cc) (hh : Ints w 0 D cd l.h) (hl : Ints w 0 E ce l.l) :
    Calls Try.prog 5 #[.agg #[.int .i64 a.st, .int .i64 a.le, .slice A a.fs.length ca, .slice B a.gs.length cb, .slice C a.ss.length cc], .agg #[.slice D l.h.length cd, .slice E l.l.length ce]] w (BoolPost w true) := by
  have HW := Lib.hid (alW_is w a A B C ca cb cc l D E cd ce)
  have HTK : Hid (∀ W, Below w.heap.size w W → Calls Try.prog 22 #[.agg #[.int .i64 a.st, .int .i64 a.le, .slice A a.fs.length ca, .slice B a.gs.length cb, .slice C a.ss.length cc], .agg #[.slice D l.h.length cd, .slice E l.l.length ce]] W fun e w' => e = .returned (.tuple #[.bool (tkB a l), .int .i64 (taErr a l)]) ∧ Below W.heap.size W w') := fun W hW => Takes_ a A B C D E ca cb cc cd ce l W (hr.below hW) (hh.below hW) (hl.below hW)
  have HCA := Lib.hid (fun W (hW : Below w.heap.size w W) => CheckAuto_ a A B C ca cb cc W (hr.below hW))
  have HCL := Lib.hid (fun W (hW : Below w.heap.size w W) => CheckLasso_ D E cd ce l a.le W (hh.below hW) (hl.below hW))
  have HTO := Lib.hid (fun W (hW : Below w.heap.size w W) (ho : AuOK a) (h0 : 0 < l.l.length) (h4 : l.l.length ≤ 4000) (h5 : l.h.length ≤ 4000) => TakesOf_ a A B C D E ca cb cc cd ce l W (hr.below hW) ho (hh.below hW) (hl.below hW) h0 h4 h5)
  have HWB := Lib.hid (fun W => wordBegun_ W)
  clear hr hh hl
  have HTE : Hid (taErr a l = if ckA a = 0 then ckL l a.le else ckA a) := rfl
  have HTB : Hid (tkB a l = (taErr a l == 0 && takesB a l.at)) := rfl
  go_enter Try.func5, Try.ntmps5
  go_upto_region 1 with fail
  change Code.wp _ _ _ _ (alW w a A B C ca cb cc l D E cd ce)
  generalize alW w a A B C ca cb cc l D E cd ce = W0 at *
  obtain ⟨V, hV⟩ : ∃ V, V = w.heap.size := ⟨_, rfl⟩
  rw [← hV] at HW ⊢
  have HVV := Lib.hid hV
  have HA := Lib.hid HW.out.at_
  have HBW : Hid (Below w.heap.size w W0) := HW.out.below
  have hV1 := HA.out.lt
  clear HW hV
  obtain ⟨_, ⟨_, c0, c1, c2, c3, c4⟩, l0, l1⟩ := HA.out
  generalize htb : tkB a l = tb at *
  generalize hte : taErr a l = te at *
  clear htb hte
  go_wp2_with fail
  refine (HTK.out _ HBW.out).mono ?_
  rintro e W1 ⟨rfl, hb1⟩
  have HB1 := Lib.hid hb1
  obtain ⟨hV2, ⟨_, d0, d1, d2, d3, d4⟩, m0, m1⟩ := HA.out.below hb1 hV1
  clear hb1 c0 c1 c2 c3 c4 l0 l1
  go_wp2_with fail
  refine (HCA.out _ (Below_on HBW.out HB1.out HBW.out.size)).mono ?_
  rintro e W2 ⟨rfl, hb2⟩
  have HB2 : Hid (Below W0.heap.size W0 W2) := Below_on HB1.out hb2 HB1.out.size
  clear hb2 d0 d1 d2 d3 d4 m0 m1 HB1 hV2
  obtain ⟨_, ⟨_, d0, d1, d2, d3, d4⟩, m0, m1⟩ := HA.out.below HB2.out hV1
  have HBW2 : Hid (Below w.heap.size w W2) := Below_on HBW.out HB2.out HBW.out.size
  by_cases hk : ckA a = 0
  · obtain ⟨ho, hos⟩ := ckA_zero.1 hk
    have HOO := Lib.hid ho
    have HTE2 : Hid (te = ckL l a.le) := by show _ = _; rw [HTE.out, if_pos hk]
    rw [hk]
    clear hk HTE HCA HTK ho hos
    go_wp2_with fail
    refine (HCL.out _ HBW2.out).mono ?_
    rintro e W3 ⟨rfl, hb3⟩
    have HB3 : Hid (Below W0.heap.size W0 W3) := Below_on HB2.out hb3 HB2.out.size
    have HBW3 : Hid (Below w.heap.size w W3) := Below_on HBW.out HB3.out HBW.out.size
    clear hb3 d0 d1 d2 d3 d4 m0 m1 HB2 HBW2
    obtain ⟨_, ⟨_, d0, d1, d2, d3, d4⟩, m0, m1⟩ := HA.out.below HB3.out hV1
    by_cases hk2 : ckL l a.le = 0
    · obtain ⟨h8, h9, h10⟩ := ckL_few hk2
      rw [hk2]
      have hte := HTE2.out
      rw [hk2] at hte
      subst hte
      have HTB2 : Hid (tb = takesB a l.at) := by show _ = _; rw [HTB.out]; simp
      have HT2 := Lib.hid (HTO.out W3 HBW3.out HOO.out (by omega) h10 h9)
      clear hk2 h8 h9 h10 HTO HTB HTE2 HCL
      go_wp2_with fail
      refine HT2.out.mono ?_
      intro e W4 hp4
      obtain ⟨rfl, hb4⟩ := so_takes Iff.rfl hp4
      rw [← HTB2.out]
      have HB4 : Hid (Below w.heap.size w W4) := Below_on HBW3.out hb4 HBW3.out.size
      clear hp4 hb4 d0 d1 d2 d3 d4 m0 m1
      go_wp2_with fail
      refine (HWB.out W4).mono ?_
      rintro e W5 ⟨rfl, hb5⟩
      have HP : Hid (BoolPost w true (.returned (.bool true)) W5) := ⟨rfl, Below_on HB4.out hb5 HB4.out.size⟩
      clear hb5
      go_wp2_with fail
      go_ret
      exact HP.out
    · have hte := HTE2.out
      have HTB2 : Hid (tb = false) := by show _ = _; rw [HTB.out, hte]; simp [hk2]
      have htb := HTB2.out
      subst htb
      generalize ckL l a.le = kk at *
      subst hte
      have hk3 : (te == 0) = false := by simpa using hk2
      clear HTO HTB HTE2 HCL
      go_wp2_with fail
      refine (HWB.out W3).mono ?_
      rintro e W5 ⟨rfl, hb5⟩
      have HP : Hid (BoolPost w true (.returned (.bool true)) W5) := ⟨rfl, Below_on HBW3.out hb5 HBW3.out.size⟩
      clear hb5 d0 d1 d2 d3 d4 m0 m1
      go_wp2_with fail
      go_ret
      exact HP.out
  · have hte : te = ckA a := by rw [HTE.out, if_neg hk]
    have HTB2 : Hid (tb = false) := by show _ = _; rw [HTB.out, hte]; simp [hk]
    have htb := HTB2.out
    subst htb
    generalize ckA a = kk at *
    subst hte
    have hk3 : (te == 0) = false := by simpa using hk
    clear HTO HTB HTE HCL
    go_wp2_with fail
    refine (HWB.out W2).mono ?_
    rintro e W5 ⟨rfl, hb5⟩
    have HP : Hid (BoolPost w true (.returned (.bool true)) W5) := ⟨rfl, Below_on HBW2.out hb5 HBW2.out.size⟩
    clear hb5 d0 d1 d2 d3 d4 m0 m1
    go_wp2_with fail
    go_ret
    exact HP.out
end Go.Proofs.Ytoglgeaiiipchaa
