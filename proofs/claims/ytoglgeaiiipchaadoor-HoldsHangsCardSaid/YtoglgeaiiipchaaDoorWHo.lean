/- Walk: holds.Holds. -/
import Derived.Test.YtoglgeaiiipchaaDoorWT
namespace Go.Proofs.YtoglgeaiiipchaaDoor
open Go Go.RowKit Go.Shelf

def holdsV (f : List Nd) (l : La) : Bool := if ckT f l = 0 then gB (tableOf l f) (f.length - 1) 0 else false
theorem ret_bi {a a' : Bool} {b b' : Int} (h1 : a = a') (h2 : b = b') : Ending.returned (.tuple #[.bool a, .int .i64 b]) = Ending.returned (.tuple #[.bool a', .int .i64 b']) := by rw [h1, h2]
theorem ckT_F {f : List Nd} {l : La} (h : ckT f l = 0) : ckF f = 0 ∧ ckL l 8 = 0 := by
  unfold ckT at h
  split at h
  · exact ⟨by assumption, h⟩
  · rename_i h1; exact absurd h h1
theorem mem_tableOf (l : La) (f : List Nd) : ∀ r ∈ tableOf l f, r.length = l.n := mem_rowsOf l f f.length
theorem length_tableOf (l : La) (f : List Nd) : (tableOf l f).length = f.length := length_rowsOf l f f.length
theorem ckT_lim {f : List Nd} {l : La} (h : ckT f l = 0) : 0 < f.length ∧ f.length ≤ 12 ∧ l.n ≤ 8000 ∧ 0 < l.n ∧ l.h.length < l.n := by
  obtain ⟨h1, h2⟩ := ckT_F h
  have a := ckF_ok h1
  have b := okLetters h2
  unfold La.n
  omega

set_option maxRecDepth 100000 in
set_option maxHeartbeats 1000000 in
theorem Holds_ (F : Option Addr) (fc : Nat) (f : List Nd) (A B : Option Addr) (ca cb : Nat) (l : La) (w : World) (hf : Nds w 0 F fc f) (hh : Ints w 0 A ca l.h) (hl : Ints w 0 B cb l.l) :
    Calls Tryd.prog 19 #[.slice F f.length fc, .agg #[.slice A l.h.length ca, .slice B l.l.length cb]] w fun e w' => e = .returned (.tuple #[.bool (holdsV f l), .int .i64 (ckT f l)]) ∧ Below w.heap.size w w' := by
  have hle := hf.le
  have hcp := hf.cap
  have HA := Lib.hid ((Below.refl w.heap.size w).alloc (Nat.le_refl _) (Obj.cells #[Value.slice A l.h.length ca, Value.slice B l.l.length cb] 40))
  have HT := Lib.hid (Table_ F fc f A B ca cb l (w.alloc (Obj.cells #[Value.slice A l.h.length ca, Value.slice B l.l.length cb] 40)) (hf.below HA.out) (hh.below HA.out) (hl.below HA.out))
  go_enter Tryd.func19, Tryd.ntmps19
  go_wp2_with fail
  refine HT.out.mono ?_
  rintro e w1 ⟨hb1, hp⟩
  have HB1 := Lib.hid (Below_on HA.out hb1 (by simp))
  clear hb1
  by_cases hc : ckT f l = 0
  · rw [if_pos hc] at hp
    obtain ⟨v, gs, rfl, htab⟩ := hp
    obtain ⟨T, tc, hv, hjunk⟩ := own_form htab.own
    clear hjunk
    subst hv
    have hlim := ckT_lim hc
    have htl := length_tableOf l f
    have hrows := htab.rows (by omega) (fun r hr => by rw [mem_tableOf l f r hr]; omega)
    have hk : f.length - 1 < (tableOf l f).length := by omega
    have hcp2 := hrows.cap
    have hle2 := hrows.le
    obtain ⟨b, o, rfl, hbl, A', c', hcell, hrow⟩ := hrows.rd (f.length - 1) hk
    have hrl : ((tableOf l f)[f.length - 1]).length = l.n := mem_tableOf l f _ (List.getElem_mem hk)
    have h0 : 0 < ((tableOf l f)[f.length - 1]).length := by omega
    have hcp3 := hrow.cap
    have hle3 := hrow.le
    obtain ⟨b2, o2, rfl, _, _, hc2⟩ := Bools.at_ hrow h0
    rw [Nat.add_zero] at hc2
    have HF := Lib.hid (show holdsV f l = ((tableOf l f)[f.length - 1])[0] by
      unfold holdsV
      rw [if_pos hc]
      simp [gB, hk, h0])
    have HC := Lib.hid hc
    have e1 : ((f.length : Int) - 1) = ((f.length - 1 : Nat) : Int) := by omega
    have e2 : (ckT f l != 0) = false := by simp [hc]
    have hn : f.length - 1 < f.length := by omega
    clear htab hrows hrl hrow hc
    generalize (tableOf l f)[f.length - 1] = rw1 at *
    rw [htl]
    rw [htl] at hle2
    have h00 : (0 : Int) < (rw1.length : Int) := by omega
    clear htl
    go_wp2_with fail
    go_ret2
    exact ⟨ret_bi HF.out.symm HC.out.symm, HB1.out⟩
  · rw [if_neg hc] at hp
    subst hp
    have HF := Lib.hid (show holdsV f l = false by unfold holdsV; rw [if_neg hc])
    have e2 : (ckT f l != 0) = true := by simpa using hc
    clear hc
    go_wp2
    go_ret2
    exact ⟨ret_bi HF.out.symm rfl, HB1.out⟩
end Go.Proofs.YtoglgeaiiipchaaDoor
