import Derived.Test.YtoglgeaiiipchabGreatDoorLMHKM3
import Derived.Shelf.Abstract
import Derived.Test.YtoglgeaiiipchabGreatDoorLMHKM16
import Derived.Test.YtoglgeaiiipchabGreatDoorLMHKM17
import Derived.Test.YtoglgeaiiipchabGreatDoorLMHKM18
set_option linter.unusedSimpArgs false
set_option linter.unusedVariables false
namespace Go.Proofs.YtoglgeaiiipchabGreatDoor
open Go Go.RowKit
theorem NamesA_ (k : Int) (w : World) : Calls Tryz.prog 54 #[.int .i64 k] w fun e w' => e = .returned (.bool (nmA k)) ∧ w = w' := by
  go_enter Tryz.func54, Tryz.ntmps54
  go_wp2_with (go_at_call 44; refine (between_ _ _ _ _).mono ?_; rintro e w' ⟨rfl, rfl⟩)
  go_ret
  exact ⟨rfl, rfl⟩
theorem NamesB_ (k : Int) (w : World) : Calls Tryz.prog 55 #[.int .i64 k] w fun e w' => e = .returned (.bool (nmB k)) ∧ w = w' := by
  go_enter Tryz.func55, Tryz.ntmps55
  go_wp2
  all_goals (go_ret; exact ⟨ret_bool (by simp_all [nmB]), rfl⟩)
theorem TooMany_ (A : Option Addr) (c : Nat) (f : List Nd) (w : World) (hf : Nds w 0 A c f) :
    Calls Tryz.prog 53 #[.slice A f.length c] w fun e w' => e = .returned (.bool (tooMany f)) ∧ Below w.heap.size w w' := by
  have hle := hf.le
  have hmx := hf.max
  go_enter Tryz.func53, Tryz.ntmps53
  go_wp2
  go_loopw [3, 4] (fun n i wr => ∃ k : Nat, k ≤ f.length ∧ i = .int .i64 k ∧ n = .int .i64 (cntT (f.take k)) ∧ Below w.heap.size w wr) (fun _ i _ => f.length - (intOf i).toNat)
  case atStart => exact ⟨0, Nat.zero_le _, rfl, rfl, Below.refl _ _⟩
  case round =>
    obtain ⟨k, hk, rfl, rfl, hb⟩ := hrel
    have hct := cntT_le f k
    by_cases hlt : k < f.length
    · obtain ⟨b, o, rfl, _, _, hc1, hc2, hc3, hc4⟩ := Nds.at_ (hf.below hb) hlt
      have hs := cntT_take hlt
      have HS := Lib.hid hs
      clear hs
      go_wp2_with (go_at_call 44; refine (between_ _ _ _ _).mono ?_; rintro e w' ⟨rfl, rfl⟩)
      · have ht : isTmp f[k].k = true := by assumption
        go_roundw
        case rel => exact ⟨k + 1, by omega, by go_num, by rw [HS.out, if_pos ht]; go_num, hb⟩
        case measure => simp [intOf]; omega
      · have ht : isTmp f[k].k = false := by assumption
        go_roundw
        case rel => exact ⟨k + 1, by omega, by go_num, by rw [HS.out, if_neg (by simp [ht])]; go_num, hb⟩
        case measure => simp [intOf]; omega
    · have hall : f.take k = f := List.take_of_length_le (by omega)
      have HA := Lib.hid hall
      clear hall
      go_wp2
      all_goals (go_ret; refine ⟨ret_bool ?_, hb⟩; have ha := HA.out; (try rw [ha]); unfold tooMany)
      · rfl
      · rw [decide_eq_true (by assumption)]; rfl
set_option maxRecDepth 100000 in
set_option maxHeartbeats 4000000 in
theorem CheckFormula_ (A : Option Addr) (c : Nat) (f : List Nd) (w : World) (hf : Nds w 0 A c f) :
    Calls Tryz.prog 19 #[.slice A f.length c] w fun e w' => e = .returned (.int .i64 (ckF f)) ∧ Below w.heap.size w w' := by
  have hle := hf.le
  have hmx := hf.max
  by_cases h0 : f.length = 0
  · have h0' : ((f.length : Int) == 0) = true := by simp [h0]
    go_enter Tryz.func19, Tryz.ntmps19
    have H0 := Lib.hid h0
    clear h0
    go_wp2
    go_ret
    exact ⟨ret_int (by rw [ckF, if_pos H0.out]), Below.refl _ _⟩
  · have h0' : ((f.length : Int) == 0) = false := by simpa using h0
    by_cases hm : tooMany f = true
    · go_enter Tryz.func19, Tryz.ntmps19
      go_wp2_with (go_at_call 53; refine (TooMany_ _ _ _ _ hf).mono ?_; rintro e w1 ⟨rfl, hb1⟩)
      go_ret
      exact ⟨ret_int (by rw [ckF, if_neg h0, if_pos hm]), hb1⟩
    · have hm' : tooMany f = false := by simpa using hm
      have hfin : ckF f = ckNds (f.drop 0) 0 := by rw [ckF, if_neg h0, if_neg hm]; rfl
      have HF := Lib.hid hfin
      clear hfin hm
      go_enter Tryz.func19, Tryz.ntmps19
      go_wp2_with (go_at_call 53; refine (TooMany_ _ _ _ _ hf).mono ?_; rintro e w1 ⟨rfl, hb1⟩)
      go_loopw [3] (fun i wr => ∃ k : Nat, k ≤ f.length ∧ i = .int .i64 k ∧ ckF f = ckNds (f.drop k) k ∧ Below w.heap.size w wr) (fun i _ => f.length - (intOf i).toNat)
      case atStart => exact ⟨0, Nat.zero_le _, rfl, HF.out, hb1⟩
      case round =>
        obtain ⟨k, hk, rfl, hc, hb⟩ := hrel
        have HC := Lib.hid hc
        clear hc
        by_cases hlt : k < f.length
        · obtain ⟨b, o, rfl, _, hbl, hc1, hc2, hc3, hc4⟩ := Nds.at_ (hf.below hb) hlt
          have hst := ckNds_step hlt
          have HS := Lib.hid hst
          clear hst
          go_wp2_with (first | (go_at_call 44; refine (between_ _ _ _ _).mono ?_; rintro e w' ⟨rfl, rfl⟩) | (go_at_call 54; refine (NamesA_ _ _).mono ?_; rintro e w' ⟨rfl, rfl⟩) | (go_at_call 55; refine (NamesB_ _ _).mono ?_; rintro e w' ⟨rfl, rfl⟩))
          all_goals first
            | (go_ret; refine ⟨ret_int ?_, hb.alloc hb.size _⟩; go_tidy; rw [HC.out, HS.out]; simp_all [ndErr, nmN])
            | (go_roundw
               case rel => exact ⟨k + 1, by omega, by go_num, by go_tidy; rw [HC.out, HS.out, if_pos (by simp_all [ndErr, nmN])], hb.alloc hb.size _⟩
               case measure => simp [intOf]; omega)
        · go_wp2
          go_ret
          exact ⟨ret_int (by rw [HC.out, ckNds_end (by omega)]), hb⟩
end Go.Proofs.YtoglgeaiiipchabGreatDoor

namespace Go.Proofs.YtoglgeaiiipchabGreatDoor
open Go Go.RowKit Go.Shelf
theorem Temporal_ (k : Int) (w : World) : Calls Tryz.prog 96 #[.int .i64 k] w fun e w' => e = .returned (.bool (isTmp k)) ∧ w = w' := by
  go_enter Tryz.func96, Tryz.ntmps96
  go_wp2
  all_goals (go_ret; refine ⟨ret_bool ?_, rfl⟩; unfold isTmp btw; simp [*])
  omega
theorem ret_b3 {a b c a' b' c' : Bool} (h1 : a = a') (h2 : b = b') (h3 : c = c') : Ending.returned (.tuple #[.bool a, .bool b, .bool c]) = Ending.returned (.tuple #[.bool a', .bool b', .bool c']) := by rw [h1, h2, h3]
theorem Names_ (k : Int) (w : World) : Calls Tryz.prog 122 #[.int .i64 k] w fun e w' => e = .returned (.tuple #[.bool (nmA k), .bool (nmB k), .bool (nmN k)]) ∧ w = w' := by
  go_enter Tryz.func122, Tryz.ntmps122
  go_wp2
  all_goals (go_ret3; refine ⟨ret_b3 ?_ ?_ ?_, rfl⟩ <;> simp_all [nmA, nmB, nmN, btw] <;> omega)
set_option maxRecDepth 100000 in
theorem many_ (A : Option Addr) (c : Nat) (f : List Nd) (w : World) (hf : Nds w 0 A c f) :
    Calls Tryz.prog 85 #[.slice A f.length c] w fun e w' => e = .returned (.bool (tooMany f)) ∧ Below w.heap.size w w' := by
  have hle := hf.le
  have hcp := hf.cap
  go_enter Tryz.func85, Tryz.ntmps85
  go_wp2
  go_loopw [3, 8] (fun n i wr => ∃ k : Nat, k ≤ f.length ∧ i = .int .i64 k ∧ n = .int .i64 (cntT (f.take k)) ∧ Below w.heap.size w wr) (fun _ i _ => f.length - (intOf i).toNat)
  case atStart => exact ⟨0, Nat.zero_le _, rfl, rfl, Below.refl _ _⟩
  case round =>
    obtain ⟨k, hk, rfl, rfl, hb⟩ := hrel
    have hct := cntT_le f k
    by_cases hlt : k < f.length
    · obtain ⟨b, o, rfl, _, _, hc1, hc2, hc3, hc4⟩ := Nds.at_ (hf.below hb) hlt
      have hs := cntT_take hlt
      have HS := Lib.hid hs
      clear hs
      have HB := Lib.hid (hb.alloc hb.size (Obj.cells #[.int .i64 f[k].k, .int .i64 f[k].a, .int .i64 f[k].b, .int .i64 f[k].n] 90))
      go_wp2_with (go_at_call 96; refine (Temporal_ _ _).mono ?_; rintro e w' ⟨rfl, rfl⟩)
      · have ht : isTmp f[k].k = true := by assumption
        go_roundw
        case rel => exact ⟨k + 1, by omega, by go_num, by rw [HS.out, if_pos ht]; go_num, HB.out⟩
        case measure => simp [intOf]; omega
      · have ht : isTmp f[k].k = false := by assumption
        go_roundw
        case rel => exact ⟨k + 1, by omega, by go_num, by rw [HS.out, if_neg (by simp [ht])]; go_num, HB.out⟩
        case measure => simp [intOf]; omega
    · have hall : f.take k = f := List.take_of_length_le (by omega)
      have HA := Lib.hid hall
      clear hall
      go_wp2
      all_goals (go_ret; refine ⟨ret_bool ?_, hb⟩; have ha := HA.out; (try rw [ha]); unfold tooMany)
      · rfl
      · rw [decide_eq_true (by assumption)]; rfl
set_option maxRecDepth 100000 in
theorem node1_ (i k : Int) (B : Nat) (w : World) (hc : w.cell? ⟨B, 0, none⟩ = some (.int .i64 i)) :
    Calls Tryz.prog 143 #[.int .i64 k, .pointer (some ⟨B, 0, none⟩)] w fun e w' => e = .returned (.bool (btw k 0 (i - 1))) ∧ w = w' := by
  go_enter Tryz.func143, Tryz.ntmps143
  go_wp2
  all_goals (go_ret; refine ⟨ret_bool ?_, rfl⟩; unfold btw; rw [Bool.eq_iff_iff]; simp; omega)
set_option maxRecDepth 100000 in
set_option maxHeartbeats 4000000 in
theorem node_ (x : Nd) (i : Int) (w : World) :
    Calls Tryz.prog 112 #[.agg #[.int .i64 x.k, .int .i64 x.a, .int .i64 x.b, .int .i64 x.n], .int .i64 i] w fun e w' => e = .returned (.int .i64 (ndErr x i)) ∧ Below w.heap.size w w' := by
  go_enter Tryz.func112, Tryz.ntmps112
  go_wp2_with (first | (go_at_call 122; refine (Names_ _ _).mono ?_; rintro e w' ⟨rfl, rfl⟩) | (go_at_call 143; refine (node1_ i _ (w.heap.size + 1) _ (by go_simp)).mono ?_; rintro e w' ⟨rfl, rfl⟩))
  all_goals (go_ret; refine ⟨ret_int ?_, by go_grown⟩; go_tidy; have hk := btw_iff x.k 1 8; have hn := btw_iff x.n 0 2; cases h1 : btw x.k 1 8 <;> cases h2 : btw x.n 0 2 <;> simp_all [ndErr] <;> omega)
end Go.Proofs.YtoglgeaiiipchabGreatDoor

namespace Go.Proofs.YtoglgeaiiipchabGreatDoor
open Go Go.RowKit Go.Maps Go.Shelf Go.Sort
attribute [local go_sem] Oper.semAt_some
def fairN (f : List Nd) (n : Nat) : List Int := (fairs f n).map fun i : Nat => (i : Int)
theorem fairN_succ (f : List Nd) (n : Nat) : fairN f (n + 1) = fairN f n ++ if isFair (f.getD n nond).k = true then [(n : Int)] else [] := by
  unfold fairN fairs
  rw [List.range_succ, List.filter_append, List.map_append]
  by_cases h : isFair (f.getD n nond).k = true
  · rw [if_pos h, List.filter_cons_of_pos (p := fun i : Nat => isFair (f.getD i nond).k) h]; rfl
  · rw [if_neg h, List.filter_cons_of_neg (p := fun i : Nat => isFair (f.getD i nond).k) h]; rfl
theorem fairN_len (f : List Nd) (n : Nat) : (fairN f n).length ≤ n := by
  unfold fairN fairs
  rw [List.length_map]
  exact Nat.le_trans (List.length_filter_le _ _) (by simp)
theorem at_sizeN {f : List Nd} {n : Nat} (hn : n ≤ f.length) : Maps.size (itD (atD f n)) = tix f n := by
  have h := itD_size_fold (atD f n) (.map []) tidy_empty (atD_nodup _ _) (fun p _ => rfl)
  rw [show Maps.size (.map [] : DataW Unit) = 0 from rfl, Nat.zero_add, atD_len f n hn] at h
  exact h
structure TbL (w0 : World) (Bk M : Nat) (f : List Nd) (FA : Option Addr) (fc : Nat) (D : List (Int × Int)) (L : List Int) (gv : Value) (W : World) : Prop where
  lo : w0.heap.size ≤ Bk
  lM : w0.heap.size ≤ M
  obj : W.heap[Bk]? = some (.cells #[.slice FA f.length fc, .map (some M), gv, .slice none 0 0] 150 (0, 0))
  nd : Nds w0 0 FA fc f
  below : Below w0.heap.size w0 W
  at_ : AtI W M D
  fr : W.ownsRow w0.heap.size 3 1 gv L.length (L.flatMap viL)
section
variable {w0 W W' : World} {Bk M : Nat} {f : List Nd} {FA : Option Addr} {fc : Nat} {gv : Value} {D : List (Int × Int)} {L : List Int}
theorem TbL.lt (h : TbL w0 Bk M f FA fc D L gv W) : Bk < W.heap.size := (Array.getElem?_eq_some_iff.1 h.obj).1
theorem TbL.on (h : TbL w0 Bk M f FA fc D L gv W) (hb : Below W.heap.size W W') : TbL w0 Bk M f FA fc D L gv W' :=
  ⟨h.lo, h.lM, (hb.block _ h.lt).trans h.obj, h.nd, Below_on h.below hb h.below.size, h.at_.on hb, own_below h.fr hb⟩
theorem TbL.put {D' : List (Int × Int)} (h : TbL w0 Bk M f FA fc D L gv W) (hA : AtI W' M D') (hg : W.grownBy W' (some M)) : TbL w0 Bk M f FA fc D' L gv W' := by
  have hBM : Bk ≠ M := fun e => by
    obtain ⟨es', c, h1, _⟩ := h.at_
    have := h.obj
    rw [e, h1] at this
    cases this
  exact ⟨h.lo, h.lM, (hg.block Bk h.lt (fun e => hBM (Option.some.inj e))).trans h.obj, h.nd, h.below.trans (below_of_grown hg h.below.size (fun r e => by cases e; exact h.lM)), hA, World.ownsRow.kept h.fr hg (.inr (at_ne_row h.at_ h.fr))⟩
theorem TbL.app (h : TbL w0 Bk M f FA fc D L gv W) (x : Int) (hl : L.length ≤ 1000000000) :
    AppTo Bk 2 gv 22 3 #[.int .i64 x] L.length W (fun v' W' => TbL w0 Bk M f FA fc D (L ++ [x]) v' W') := by
  obtain ⟨i0, hi0, hz0, hz1, hz2⟩ := info_parts infoInt
  have hlt := h.lt
  have hb : Below W.heap.size W (W.alloc (Obj.cells #[.int .i64 x] 3)) := (Below.refl _ _).alloc (Nat.le_refl _) _
  obtain ⟨A1, c1, e1, hc1, hc2, _⟩ := own_form h.fr
  obtain ⟨v3, w3, hr, hown, hg, hat⟩ := run_app (P := Tryz.prog) (W.alloc (Obj.cells #[.int .i64 x] 3)) w0.heap.size 22 22 3 i0 _ 1 8 Tryz.underlying22 hi0 hz0 hz1 hz2 rfl (by decide) _ L.length _ (own_below h.fr hb) (some ⟨W.heap.size, 0, none⟩) 1 1 [.int .i64 x] rfl
    (Rd.new W #[.int .i64 x] 3) (by simp [Value.oneCell']) (by simp only [maxLen]; omega) (by omega) (by have := h.below.size; simp; omega)
  obtain ⟨T3, c3, rfl, _, _, _⟩ := own_form hown
  have hG3 := obj_appN h.obj h.fr (by decide) hb hg
  obtain ⟨_, _, q, _, _⟩ := cells4 hG3
  have fz : w3.frozen? ⟨Bk, 2, none⟩ = false := by simp [World.frozen?, hG3]
  have hBM : M ≠ Bk := fun e => by
    obtain ⟨es', c, h1, _⟩ := h.at_
    rw [e, h.obj] at h1
    cases h1
  refine ⟨A1, c1, e1, hc1, hc2, T3, c3, w3, by rw [← e1]; exact hr, q, fz, hg, ⟨h.lo, h.lM, ?_, h.nd, h.below.trans (below_appN h.fr hlt h.lo hb hg 2 _), ?_, ?_⟩⟩
  · simp [World.setCell, Array.getElem?_modify, hG3]
  · exact h.at_.heap ((Below.heap_setCell _ ⟨Bk, 2, none⟩ _ _ hBM).trans ((hg.block M (by have := h.at_.lt; have := hb.size; omega) (fun e => at_ne_row h.at_ h.fr e.symm)).trans (hb.block M h.at_.lt)))
  · have := own_set_ty hown hG3 (by decide) 2 (.slice T3 (L.length + 1) c3)
    rw [show (L ++ [x]).length = L.length + 1 by simp, show (L ++ [x]).flatMap viL = L.flatMap viL ++ [.int .i64 x] by simp [viL]]
    exact this
theorem TbL.done (h : TbL w0 Bk M f FA fc (atD f f.length) (fairN f f.length) gv W) : TbW w0 Bk M f FA fc gv (.slice none 0 0) [] W :=
  ⟨h.lo, h.obj, h.nd, h.below, h.at_, h.fr, World.ownsRow_nil _ _ _ _⟩
end
theorem build2_ (f : List Nd) (hf : FmOK f) (w0 : World) (Bk M : Nat) (FA : Option Addr) (fc : Nat) (gv : Value) (w : World) (hT : TbW w0 Bk M f FA fc gv (.slice none 0 0) [] w) :
    Calls Tryz.prog 97 #[.pointer (some ⟨Bk, 0, none⟩)] w fun e w' => ∃ raw tb A B C ca cb cc, EdM f 8 0 raw ∧ tb = tabOf f (dd (sortS raw)) ∧ e = .returned (.agg #[.int .i64 tb.st, .int .i64 tb.le, .slice A tb.fs.length ca, .slice B tb.gs.length cb, .slice C tb.ss.length cc]) ∧ AuRd w' w0.heap.size tb A B C ca cb cc ∧ Below w0.heap.size w0 w' :=
  (build_ f hf w0 Bk M FA fc gv w hT).mono fun e w' ⟨raw, A, B, C, ca, cb, cc, h1, h2, h3, h4⟩ => ⟨raw, _, A, B, C, ca, cb, cc, h1, rfl, h2, h3, h4⟩
structure RawS (f : List Nd) (r : Au) : Prop where
  ok : ckA r = 0
  le : r.le = 8
  takes : ∀ u : Nat → Int, (∀ m, 0 ≤ u m ∧ u m < 8) → (TakesU r u ↔ (treeAt f (f.length - 1)).sem u 0)
  few : r.st ≤ 81
  fewS : r.ss.length ≤ 768
theorem made_few {a : Au} {keep : List Bool} (h1 : 1 ≤ a.st) : (madeOf a keep).st ≤ a.st ∧ (madeOf a keep).ss.length ≤ a.ss.length := by
  have hpl : pos keep a.st.toNat ≤ a.st.toNat := by
    unfold pos
    exact Nat.le_trans (List.count_le_length) (List.length_take_le _ _)
  unfold madeOf
  by_cases h0 : pos keep a.st.toNat = 0
  · rw [if_pos h0]
    exact ⟨h1, Nat.zero_le _⟩
  · rw [if_neg h0]
    refine ⟨by show ((pos keep a.st.toNat : Nat) : Int) ≤ a.st; omega, ?_⟩
    show (keptS a keep a.ss.length).length ≤ a.ss.length
    unfold keptS
    rw [List.length_map]
    exact Nat.le_trans (List.length_filter_le _ _) (List.length_take_le _ _)
theorem tab_few {f : List Nd} (hf : FmOK f) (ss : List Stp) : 1 ≤ (tabOf f ss).st ∧ (tabOf f ss).st ≤ 81 := by
  have ht := tn_le hf
  have h16 : 2 ^ tn f ≤ 16 := Nat.pow_le_pow_right (n := 2) (by decide) ht.1
  have hm : 2 ^ tn f * ((fair f).length + 1) ≤ 16 * 5 := Nat.mul_le_mul h16 (by omega)
  have hst : tnum f (2 ^ tn f) 0 = ((2 ^ tn f * ((fair f).length + 1) + 1 : Nat) : Int) := by
    unfold tnum
    rw [Int.natCast_add, Int.natCast_mul, Int.natCast_add]; simp only [Int.natCast_one]; omega
  show 1 ≤ tnum f (2 ^ tn f) 0 ∧ tnum f (2 ^ tn f) 0 ≤ 81
  rw [hst]
  omega
def RawPost (f : List Nd) (w : World) (e : Ending) (w' : World) : Prop := ∃ r A B C ca cb cc, RawS f r ∧ e = .returned (.agg #[.int .i64 r.st, .int .i64 r.le, .slice A r.fs.length ca, .slice B r.gs.length cb, .slice C r.ss.length cc]) ∧ AuRd w' w.heap.size r A B C ca cb cc ∧ Below w.heap.size w w'
theorem raw_s {f : List Nd} (hf : FmOK f) {raw : List Stp} (h : EdM f 8 0 raw) {out : List Bool} (ho : RchS (tabOf f (dd (sortS raw))) out) : RawS f (madeOf (tabOf f (dd (sortS raw))) out) := by
  have hs := dd_sort raw
  have hck := tab_ok hf h.raw hs (by have := h.len; omega)
  obtain ⟨oa, _⟩ := ckA_zero.1 hck
  exact ⟨made_ok hck ho.len, by unfold madeOf; split <;> rfl, fun u hu => (made_takes oa (ho.ok oa) u).trans (tab_takes hf h.raw hs hu), Int.le_trans (made_few (tab_few hf _).1).1 (tab_few hf _).2, Nat.le_trans (made_few (tab_few hf _).1).2 (Nat.le_trans hs.len (by have := h.len; omega))⟩
set_option maxRecDepth 100000 in
set_option maxHeartbeats 8000000 in
theorem Raw_ (f : List Nd) (hf : FmOK f) (FA : Option Addr) (fc : Nat) (w : World) (hN : Nds w 0 FA fc f) :
    Calls Tryz.prog 52 #[.slice FA f.length fc] w (RawPost f w) := by
  have HF := Lib.hid hf
  have hmm := @run_makeMap Tryz.prog
  have hz : Below w.heap.size w (w.alloc (Obj.cells #[.int .i64 0, .int .i64 0, .slice none 0 0, .slice none 0 0, .slice none 0 0] 26)) := (Below.refl _ _).alloc (Nat.le_refl _) _
  have HZ1 : Hid ((w.alloc (Obj.cells #[.int .i64 0, .int .i64 0, .slice none 0 0, .slice none 0 0, .slice none 0 0] 26)).heap[w.heap.size]? = some (.cells #[.int .i64 0, .int .i64 0, .slice none 0 0, .slice none 0 0, .slice none 0 0] 26 (0, 0))) := World.alloc_heap_new _ _
  have HN1 := Lib.hid (hN.below hz)
  have HB1 := Lib.hid hz
  have hfl := fm_len hf
  clear hN hz hf
  refine (callsIn_wide (n := 9)).1 ?_
  refine callsIn_of_wp Tryz.func52 rfl trivial ?_
  simp only [Tryz.ntmps52, List.size_toArray, List.length_cons, List.length_nil, Nat.reduceAdd, Nat.reduceSub, Array.replicate_succ, Array.replicate_zero, List.push_toArray, List.append_toArray, List.nil_append, List.cons_append]
  gi_upto_region 1 with fail
  obtain ⟨R2, hR2⟩ : ∃ R2, R2 = w.heap.size := ⟨_, rfl⟩
  rw [← hR2] at HZ1 ⊢
  have HRR := Lib.hid hR2
  clear hR2
  generalize w.alloc (Obj.cells #[.int .i64 0, .int .i64 0, .slice none 0 0, .slice none 0 0, .slice none 0 0] 26) = W1 at *
  gi_upto_region 2 with fail
  have hb2 : Below W1.heap.size W1 ((W1.alloc (Obj.map #[] 0)).alloc (Obj.cells #[.slice FA f.length fc, .map (some W1.heap.size), .slice none 0 0, .slice none 0 0] 150)) := ((Below.refl _ _).alloc (Nat.le_refl _) _).alloc (by simp) _
  have hob : ((W1.alloc (Obj.map #[] 0)).alloc (Obj.cells #[.slice FA f.length fc, .map (some W1.heap.size), .slice none 0 0, .slice none 0 0] 150)).heap[W1.heap.size + 1]? = some (.cells #[.slice FA f.length fc, .map (some W1.heap.size), .slice none 0 0, .slice none 0 0] 150 (0, 0)) := by
    have := World.alloc_heap_new (W1.alloc (Obj.map #[] 0)) (Obj.cells #[.slice FA f.length fc, .map (some W1.heap.size), .slice none 0 0, .slice none 0 0] 150)
    rwa [World.size_alloc] at this
  have hmp : AtI ((W1.alloc (Obj.map #[] 0)).alloc (Obj.cells #[.slice FA f.length fc, .map (some W1.heap.size), .slice none 0 0, .slice none 0 0] 150)) W1.heap.size [] := (AtI.made W1).on ((Below.refl _ _).alloc (Nat.le_refl _) _)
  have HL2 : Hid (TbL W1 (W1.heap.size + 1) W1.heap.size f FA fc [] [] (.slice none 0 0) ((W1.alloc (Obj.map #[] 0)).alloc (Obj.cells #[.slice FA f.length fc, .map (some W1.heap.size), .slice none 0 0, .slice none 0 0] 150))) := ⟨by omega, Nat.le_refl _, hob, HN1.out, hb2, hmp, World.ownsRow_nil _ _ _ _⟩
  clear hb2 hob hmp hmm
  obtain ⟨M, hM⟩ : ∃ M, M = W1.heap.size := ⟨_, rfl⟩
  rw [← hM] at HL2 ⊢
  clear hM
  generalize (W1.alloc (Obj.map #[] 0)).alloc (Obj.cells #[.slice FA f.length fc, .map (some M), .slice none 0 0, .slice none 0 0] 150) = W2 at *
  gi_wp2
  gi_loopw [14] (fun v14 wr => ∃ (i : Nat) (gv : Value), i ≤ f.length ∧ v14 = .int .i64 (i : Int) ∧ Hid (TbL W1 (M + 1) M f FA fc (atD f i) (fairN f i) gv wr)) (fun v14 _ => f.length - (intOf v14).toNat)
  case atStart => exact ⟨0, _, Nat.zero_le _, rfl, HL2.out⟩
  case round =>
    obtain ⟨i, gv, hi, rfl, HL⟩ := hrel
    by_cases hil : i < f.length
    · have q1 : (i : Int) < (f.length : Int) := by omega
      have hnd := HN1.out.below HL.out.below
      have hle := hnd.le
      obtain ⟨fb, fo, rfl, _, _, x0, x1, x2, x3⟩ := Nds.at_ hnd hil
      have HXE : Hid (f.getD i nond = f[i]) := by show _ = _; rw [List.getD_eq_getElem?_getD, List.getElem?_eq_getElem hil]; rfl
      have HDS := Lib.hid (atD_succ f i)
      have HFS := Lib.hid (fairN_succ f i)
      rw [HXE.out] at HDS HFS
      have HIL := Lib.hid hil
      generalize f[i] = x at *
      gi_upto_region 5 with fail
      have hba : Below wr.heap.size wr (wr.alloc (Obj.cells #[.int .i64 x.k, .int .i64 x.a, .int .i64 x.b, .int .i64 x.n] 90)) := (Below.refl _ _).alloc (Nat.le_refl _) _
      have HLA := Lib.hid (HL.out.on hba)
      have HZA : Hid ((wr.alloc (Obj.cells #[.int .i64 x.k, .int .i64 x.a, .int .i64 x.b, .int .i64 x.n] 90)).heap[wr.heap.size]? = some (.cells #[.int .i64 x.k, .int .i64 x.a, .int .i64 x.b, .int .i64 x.n] 90 (0, 0))) := World.alloc_heap_new _ _
      obtain ⟨Z, hZ⟩ : ∃ Z, Z = wr.heap.size := ⟨_, rfl⟩
      rw [← hZ] at HZA ⊢
      clear hZ hba x0 x1 x2 x3 hnd HL
      generalize wr.alloc (Obj.cells #[.int .i64 x.k, .int .i64 x.a, .int .i64 x.b, .int .i64 x.n] 90) = Wa at *
      have z0 : Wa.cell? ⟨Z, 0, none⟩ = some (.int .i64 x.k) := by simp [World.cell?, HZA.out]
      have hlen := World.ownsMap.len (show Wa.ownsMap Tryz.prog 3 (plainElem (H := Unit) Tryz.prog 3) M (atD f i).length (itD (atD f i)) from HLA.out.at_) Tryz.underlying148
      rw [at_sizeN hi] at hlen
      obtain ⟨b0, b1, b2, _, _⟩ := cells4 HLA.out.obj
      have HTP := Lib.hid (Temporal_ x.k Wa)
      gi_wp2
      refine ⟨trivial, ?_⟩
      refine (callsIn_wide.2 HTP.out).mono ?_
      rintro e w5 ⟨rfl, rfl⟩
      have hii : (Lit.int .i64 (i : Int)).wf = true := WalkArith.wf_i64 (by omega)
      have htl : tix f i ≤ 4 := by
        have := tix_mono (f := f) (i := i) (j := f.length) hi (Nat.le_refl _)
        have := (tn_le HF.out).1
        unfold tn at this
        omega
      have htw : (Lit.int .i64 ((tix f i : Nat) : Int)).wf = true := WalkArith.wf_i64 (by omega)
      obtain ⟨W5, hput, hA5, hg5⟩ := HLA.out.at_.put (by rw [atD_len f i hi]; omega) hii htw
      have HL5 := Lib.hid (HLA.out.put hA5 hg5)
      have HO5 := Lib.hid HL5.out.obj
      have hZM : Z ≠ M := fun e => by
        obtain ⟨es', c, h1, _⟩ := HLA.out.at_
        have := HZA.out
        rw [e, h1] at this
        cases this
      have hz5 := (hg5.block Z (Array.getElem?_eq_some_iff.1 HZA.out).1 (fun e => hZM (Option.some.inj e))).trans HZA.out
      have y0 : W5.cell? ⟨Z, 0, none⟩ = some (.int .i64 x.k) := by simp [World.cell?, hz5]
      clear hlen HTP hA5 hg5 hZM hz5 hii htw
      by_cases hk : x.k = 6
      · rw [hk] at z0 y0 HDS HFS ⊢
        rw [if_pos (by decide)] at HDS
        rw [if_neg (by decide)] at HFS
        have ht : isTmp 6 = true := by decide
        rw [ht]
        clear hk ht
        have HL6 : Hid (TbL W1 (M + 1) M f (some ⟨fb, fo, none⟩) fc (atD f (i + 1)) (fairN f (i + 1)) gv W5) := by rw [HDS.out, HFS.out, List.append_nil]; exact HL5.out
        gi_wp2
        go_roundw
        case rel => exact ⟨i + 1, _, HIL.out, by go_num, HL6.out⟩
        case measure => simp [intOf]; have := HIL.out; omega
      have k6 : (x.k == 6) = false := by simp [hk]
      have HK6 := Lib.hid hk
      clear hk
      by_cases hk : x.k = 7
      · rw [hk] at z0 y0 HDS HFS ⊢
        rw [if_pos (by decide)] at HDS
        rw [if_pos (by decide)] at HFS
        have ht : isTmp 7 = true := by decide
        rw [ht]
        clear hk ht
        obtain ⟨T, c', rfl, hlc, hcm, T3, c3, w6, hrun, p2, f2, hgr, hL6⟩ := HL5.out.app (i : Int) (by have := fairN_len f i; omega)
        rw [← HFS.out, ← HDS.out] at hL6
        have HL6 := Lib.hid hL6
        generalize (fairN f i).length = gn at *
        have HRUN : Hid ((Builtin.append_ #[22, 22] 22 #[.slice T gn c', .slice (some ⟨W5.heap.size, 0, none⟩) 1 1]).run Tryz.prog (W5.alloc (Obj.cells #[.int .i64 (i : Int)] 3)) = .ok (.slice T3 (gn + 1) c3) w6) := hrun
        clear hrun hgr hL6 HL5
        obtain ⟨e0, e1, e2, _, _⟩ := cells4 HO5.out
        gi_wp2_with (gi_at_builtin; refine wpListIn_appRun rfl (.tmp 45) (.tmp 47) _ _ rfl _ _ _ rfl rfl HRUN.out ?_)
        go_roundw
        case rel => exact ⟨i + 1, _, HIL.out, by go_num, HL6.out⟩
        case measure => simp [intOf]; have := HIL.out; omega
      have k7 : (x.k == 7) = false := by simp [hk]
      have HK7 := Lib.hid hk
      clear hk
      by_cases hk : x.k = 8
      · rw [hk] at z0 y0 HDS HFS ⊢
        rw [if_pos (by decide)] at HDS
        rw [if_pos (by decide)] at HFS
        have ht : isTmp 8 = true := by decide
        rw [ht]
        clear hk ht
        obtain ⟨T, c', rfl, hlc, hcm, T3, c3, w6, hrun, p2, f2, hgr, hL6⟩ := HL5.out.app (i : Int) (by have := fairN_len f i; omega)
        rw [← HFS.out, ← HDS.out] at hL6
        have HL6 := Lib.hid hL6
        generalize (fairN f i).length = gn at *
        have HRUN : Hid ((Builtin.append_ #[22, 22] 22 #[.slice T gn c', .slice (some ⟨W5.heap.size, 0, none⟩) 1 1]).run Tryz.prog (W5.alloc (Obj.cells #[.int .i64 (i : Int)] 3)) = .ok (.slice T3 (gn + 1) c3) w6) := hrun
        clear hrun hgr hL6 HL5
        obtain ⟨e0, e1, e2, _, _⟩ := cells4 HO5.out
        gi_wp2_with (gi_at_builtin; refine wpListIn_appRun rfl (.tmp 45) (.tmp 47) _ _ rfl _ _ _ rfl rfl HRUN.out ?_)
        go_roundw
        case rel => exact ⟨i + 1, _, HIL.out, by go_num, HL6.out⟩
        case measure => simp [intOf]; have := HIL.out; omega
      have k8 : (x.k == 8) = false := by simp [hk]
      have ht : isTmp x.k = false := by
        cases h : isTmp x.k with
        | false => rfl
        | true => have := isTmp_iff.1 h; have := HK6.out; have := HK7.out; omega
      have hfr : isFair x.k = false := by unfold isFair; simp [hk]; exact HK7.out
      rw [if_neg (by rw [ht]; decide), List.append_nil] at HDS
      rw [if_neg (by rw [hfr]; decide), List.append_nil] at HFS
      rw [ht]
      have HL6 : Hid (TbL W1 (M + 1) M f (some ⟨fb, fo, none⟩) fc (atD f (i + 1)) (fairN f (i + 1)) gv Wa) := by rw [HDS.out, HFS.out]; exact HLA.out
      clear hk ht hfr k6 HK6 HK7 hput y0
      gi_wp2
      go_roundw
      case rel => exact ⟨i + 1, _, HIL.out, by go_num, HL6.out⟩
      case measure => simp [intOf]; have := HIL.out; omega
    · have q1 : ¬ (i : Int) < (f.length : Int) := by omega
      obtain rfl : i = f.length := by omega
      have HBD := Lib.hid (build2_ f HF.out W1 (M + 1) M FA fc gv wr HL.out.done)
      gi_wp2
      refine ⟨trivial, ?_⟩
      refine (callsIn_wide.2 HBD.out).mono ?_
      rintro e w5 ⟨raw, tb, A, B, C, ca, cb, cc, hE, htb, rfl, hrd, hb5⟩
      have hs := dd_sort raw
      have hck : ckA tb = 0 := by rw [htb]; exact tab_ok HF.out hE.raw hs (by have := hE.len; omega)
      obtain ⟨oa, so⟩ := ckA_zero.1 hck
      have HOA := Lib.hid oa
      have HSO := Lib.hid so
      have HRS : Hid (∀ out, RchS tb out → RawS f (madeOf tb out)) := fun out ho => by rw [htb] at ho ⊢; exact raw_s HF.out hE ho
      have hal : Below w5.heap.size w5 (w5.alloc (Obj.cells #[.int .i64 tb.st, .int .i64 tb.le, .slice A tb.fs.length ca, .slice B tb.gs.length cb, .slice C tb.ss.length cc] 26)) := (Below.refl _ _).alloc (Nat.le_refl _) _
      have hX := World.alloc_heap_new w5 (Obj.cells #[.int .i64 tb.st, .int .i64 tb.le, .slice A tb.fs.length ca, .slice B tb.gs.length cb, .slice C tb.ss.length cc] 26)
      have HRD := Lib.hid ((hrd.low (Nat.zero_le _)).below hal)
      have hB6 := Below_on hb5 hal hb5.size
      have HBW := Lib.hid (Below_on HB1.out hB6 HB1.out.size)
      have hR2 := (hB6.block R2 (Array.getElem?_eq_some_iff.1 HZ1.out).1).trans HZ1.out
      have HR2 := Lib.hid hR2
      clear hE htb hs hck oa so hrd hb5 hal hB6 hR2 HBD q1 hil hi HL HL2
      gi_upto_region 12 with fail
      obtain ⟨X, hXX⟩ : ∃ X, X = w5.heap.size := ⟨_, rfl⟩
      rw [← hXX] at hX ⊢
      clear hXX
      generalize w5.alloc (Obj.cells #[.int .i64 tb.st, .int .i64 tb.le, .slice A tb.fs.length ca, .slice B tb.gs.length cb, .slice C tb.ss.length cc] 26) = W6 at *
      have hdw : Below W6.heap.size W6 W6.drew := (Below.refl _ _).drew
      have hA6 : AuAt W6.drew X tb A B C ca cb cc := by
        obtain ⟨x0, x1, x2, x3, x4, _⟩ := obj5 hX
        exact (⟨(Array.getElem?_eq_some_iff.1 hX).1, x0, x1, x2, x3, x4⟩ : AuAt W6 X tb A B C ca cb cc).below hdw (Array.getElem?_eq_some_iff.1 hX).1
      have HRC := Lib.hid (Reached_ tb A B C ca cb cc W6.drew (HRD.out.below hdw) HOA.out HSO.out)
      refine wpIn_region_Z (fun w' => AuAt w' X tb A B C ca cb cc) 4 (by kernel_rfl) ?_
      refine wpAnyZIn_take (i := 0) (v := ?v0r) rfl (by kernel_rfl) (by kernel_rfl) (by kernel_rfl) (by kernel_rfl) (by kernel_rfl) (by kernel_rfl) (fun _ _ _ h => h) (yieldsZ_of (fun _ h => (by cases h)) (by rfl) ?hy0r) hA6 ?rest0r
      case hy0r => (intro w' hw'; obtain ⟨_, h0, h1, h2, h3, h4⟩ := hw'; go_simp; (try with_reducible rfl))
      (try simp only [Act.put, List.setIfInBounds_toArray, List.set_cons_zero, List.set_cons_succ])
      refine wpAnyZIn_take (i := 1) (v := ?v1r) rfl (by kernel_rfl) (by kernel_rfl) (by kernel_rfl) (by kernel_rfl) (by kernel_rfl) (by kernel_rfl) (fun _ _ _ h => h) (yieldsZ_of (fun _ h => (by cases h)) (by rfl) ?hy1r) hA6 ?rest1r
      case hy1r => (intro w' hw'; obtain ⟨_, h0, h1, h2, h3, h4⟩ := hw'; go_simp; (try with_reducible rfl))
      (try simp only [Act.put, List.setIfInBounds_toArray, List.set_cons_zero, List.set_cons_succ])
      refine wpAnyZIn_one (i := 2) rfl (by kernel_rfl) rfl (fun K hK => ?_)
      refine step_callIn (f := 40) (args := #[.agg #[.int .i64 tb.st, .int .i64 tb.le, .slice A tb.fs.length ca, .slice B tb.gs.length cb, .slice C tb.ss.length cc]]) (by go_simp; (try with_reducible rfl)) (fun _ h => (by cases h)) (fun _ => trivial) (fun h => (by cases h)) ?_
      refine (callsIn_wide.2 HRC.out).mono ?_
      rintro e w7 ⟨G, out, rfl, hG, hrow, hrs, hb7⟩
      refine ⟨_, rfl, ?_⟩
      have hb67 := Below_on hdw hb7 hdw.size
      have hA7 := hA6.below hb7 hA6.lt
      have hol : out.length ≤ 1000000 := by have := hrs.len; have := HOA.out.st2; omega
      have HMD := Lib.hid (Made_ tb out A B C (some ⟨G, 0, none⟩) ca cb cc out.length w7 (HRD.out.below hb67) ((hrow.bools hol).zero) hrs.len HOA.out)
      have HRW := Lib.hid (HRS.out out hrs)
      have HB7 := Lib.hid (Below_on HBW.out hb67 HBW.out.size)
      have HR7 := Lib.hid ((hb67.block R2 (Array.getElem?_eq_some_iff.1 HR2.out).1).trans HR2.out)
      refine hK.out _ _ (.inr hA7) ?_
      clear hK K
      (try simp only [Act.put, List.setIfInBounds_toArray, List.set_cons_zero, List.set_cons_succ])
      refine wpAnyZIn_one (i := 3) rfl (by kernel_rfl) rfl (fun K hK => ?_)
      refine step_callIn (f := 39) (args := #[.agg #[.int .i64 tb.st, .int .i64 tb.le, .slice A tb.fs.length ca, .slice B tb.gs.length cb, .slice C tb.ss.length cc], .slice (some ⟨G, 0, none⟩) out.length out.length]) (by go_simp; (try with_reducible rfl)) (fun _ h => (by cases h)) (fun _ => trivial) (fun h => (by cases h)) ?_
      refine (callsIn_wide.2 HMD.out).mono ?_
      rintro e w8 ⟨A8, B8, C8, ca8, cb8, cc8, rfl, hrd8, hb8⟩
      refine ⟨_, rfl, ?_⟩
      have hA8 := hA7.below hb8 hA7.lt
      have HR8 := Lib.hid ((hb8.block R2 (Array.getElem?_eq_some_iff.1 HR7.out).1).trans HR7.out)
      have hr2l := (Array.getElem?_eq_some_iff.1 HR7.out).1
      obtain ⟨r0, r1, r2, r3, r4, s0, s1, s2, s3, s4⟩ := obj5 HR8.out
      generalize madeOf tb out = r at *
      have HFI : Hid (RawPost f w (.returned (.agg #[.int .i64 r.st, .int .i64 r.le, .slice A8 r.fs.length ca8, .slice B8 r.gs.length cb8, .slice C8 r.ss.length cc8])) (set5 w8 R2 (.int .i64 r.st) (.int .i64 r.le) (.slice A8 r.fs.length ca8) (.slice B8 r.gs.length cb8) (.slice C8 r.ss.length cc8))) :=
        ⟨r, A8, B8, C8, ca8, cb8, cc8, HRW.out, rfl, (hrd8.set5_ hr2l _ _ _ _ _).low HB7.out.size, below_set5 (Below_on HB7.out hb8 HB7.out.size) (by rw [HRR.out]; exact Nat.le_refl _) _ _ _ _ _⟩
      have HO1 := Lib.hid (set5_heap HR8.out (.int .i64 r.st) (.int .i64 r.le) (.slice A8 r.fs.length ca8) (.slice B8 r.gs.length cb8) (.slice C8 r.ss.length cc8))
      unfold set5 at HFI HO1
      refine hK.out _ _ (.inr hA8) ?_
      clear hK K
      (try simp only [Act.put, List.setIfInBounds_toArray, List.set_cons_zero, List.set_cons_succ])
      refine wpAnyZIn_one (i := 4) rfl (by kernel_rfl) rfl (fun K hK => ?_)
      go_simp
      refine hK.out _ _ (.inl rfl) ?_
      clear hK K
      refine wpAnyZIn_done (by kernel_rfl) (noPanic_normal ?_) _
      clear r0 r1 r2 r3 r4 s0 s1 s2 s3 s4 hA8 hA7 hA6 hX hdw hb67 hb7 hb8 hrow hrs hrd8
      gi_wp2
      exact bodyPost_ret (retA1 Tryz.results52 _ _ R2 rfl HO1.out) rfl HFI.out
end Go.Proofs.YtoglgeaiiipchabGreatDoor
