import Derived.Test.YtoglgeaiiipchabGreatDoorLMHKM32
import Derived.Test.YtoglgeaiiipchabGreatDoorLMHKM37
import Derived.Test.YtoglgeaiiipchabGreatDoorLMHKM26
set_option linter.unusedSimpArgs false
set_option linter.unusedVariables false
namespace Go.Proofs.YtoglgeaiiipchabGreatDoor
open Go Go.RowKit Go.Sort Go.Shelf
def askE (m : Mo) (s : List UInt8) : Int := if ckM m = 0 then (if (readV s).2.2 = 0 then hoE m (readV s).1 else 0) else ckM m
def askS (m : Mo) (s : List UInt8) (D : ByteArray) (ok : Bool) : ByteArray :=
  if ckM m = 0 then (if (readV s).2.2 = 0 then (if hoE m (readV s).1 = 0 then (if ok = true then ⟨#[104, 111, 108, 100, 115, 10]⟩ else ⟨#[102, 97, 105, 108, 115, 10]⟩) else ⟨#[]⟩) else ⟨#[101, 114, 114, 111, 114, 32]⟩ ++ D ++ ⟨#[10]⟩) else ⟨#[]⟩
structure AskPost (m : Mo) (s : List UInt8) (D : ByteArray) (w : World) (e : Ending) (w' : World) : Prop where
  is : ∃ (ok : Bool) (x : La), e = .returned (.tuple #[.string (askS m s D ok), .int .i64 (askE m s)]) ∧ (ckM m = 0 → (readV s).2.2 = 0 → HoIs m (readV s).1 ok x)
  below : Below w.heap.size w w'
theorem AskPost.mk_ {m : Mo} {s : List UInt8} {D : ByteArray} {w : World} {S : ByteArray} {k : Int} {w' : World} {ok : Bool} {x : La} (h1 : askS m s D ok = S) (h2 : askE m s = k) (h3 : ckM m = 0 → (readV s).2.2 = 0 → HoIs m (readV s).1 ok x) (h4 : Below w.heap.size w w') : AskPost m s D w (.returned (.tuple #[.string S, .int .i64 k])) w' := ⟨⟨ok, x, by rw [h1, h2], h3⟩, h4⟩
set_option maxRecDepth 100000 in
set_option maxHeartbeats 8000000 in
theorem modelAsk_ (m : Mo) (hraw : ckM m = 0 → (moRaw m m.ls.length).length ≤ 2000000) (s : List UInt8) (S : ByteArray) (hS : S.size = s.length) (hG : ∀ (i : Nat) (h : i < S.size), S[i]'h = chr s i) (A B C : Option Addr) (ca cb cc : Nat) (vs : List RwS) (D : ByteArray) (hD : D.size ≤ 1000) (w : World) (hr : MoRd w 0 m A B C ca cb cc vs)
    (hit : (readV s).2.2 ≠ 0 → ∀ W, Below w.heap.size w W → Calls Tryz.prog 43 #[.int .i64 (readV s).2.1] W fun e w' => e = .returned (.string D) ∧ Below W.heap.size W w') :
    Calls Tryz.prog 13 #[.agg #[.int .i64 m.pr, .slice A m.ls.length ca, .slice B m.fs.length cb, .slice C m.ss.length cc], .string S] w (AskPost m s D w) := by
  have HW := moW_is w m A B C ca cb cc
  have HB0 := Lib.hid HW.below
  have HV0 := Lib.hid HW.at_
  have HR := Lib.hid (fun W (hW : Below w.heap.size w W) => hr.below hW)
  have HRAW := Lib.hid hraw
  have HIT := Lib.hid hit
  have HP := Lib.hid (fun W => Parse_ s S hS hG W)
  clear hr HW hraw hit hS hG
  go_enter Tryz.func13, Tryz.ntmps13
  go_upto_region 1 with fail
  change Code.wp _ _ _ _ (moW w m A B C ca cb cc)
  generalize moW w m A B C ca cb cc = W0 at *
  obtain ⟨V, hV⟩ : ∃ V, V = w.heap.size := ⟨_, rfl⟩
  rw [← hV] at HV0 ⊢
  clear hV
  obtain ⟨_, c0, c1, c2, c3⟩ := HV0.out
  have HCK := Lib.hid (modelCheck_ m A B C ca cb cc vs W0 (HR.out _ HB0.out))
  go_upto_region 2 with (first
    | (go_at_call 41; refine HCK.out.mono ?_; rintro e w2 ⟨rfl, hb2⟩))
  have HB2 := Lib.hid (Below_on HB0.out hb2 HB0.out.size)
  have HV2 := Lib.hid (HV0.out.below hb2 HV0.out.lt)
  clear c0 c1 c2 c3 hb2 HCK HV0 HB0
  by_cases h0 : ckM m = 0
  · have HH0 := Lib.hid h0
    have HPA := Lib.hid (HP.out w2)
    rw [h0]
    clear h0
    go_upto_region 5 with (first
      | (go_at_call 42; refine HPA.out.mono ?_; rintro e w3 ⟨FA, fc, rfl, hn, hb3⟩))
    have HB3 := Lib.hid (Below_on HB2.out hb3 HB2.out.size)
    have HV3 := Lib.hid (HV2.out.below hb3 HV2.out.lt)
    have HN := Lib.hid (hn.low (Nat.zero_le _))
    clear hb3 hn HPA HV2 HB2
    by_cases hp : (readV s).2.2 = 0
    · have HPP := Lib.hid hp
      rw [hp]
      clear hp
      have HHO := Lib.hid (modelHolds_ m HRAW.out (readV s).1 A B C FA ca cb cc fc vs w3 (HR.out _ HB3.out) HN.out)
      have HAE : Hid (askE m s = hoE m (readV s).1) := by show _ = _; unfold askE; rw [if_pos HH0.out, if_pos HPP.out]
      have HAS : Hid (∀ ok, askS m s D ok = if hoE m (readV s).1 = 0 then (if ok = true then ⟨#[104, 111, 108, 100, 115, 10]⟩ else ⟨#[102, 97, 105, 108, 115, 10]⟩) else ⟨#[]⟩) := fun ok => by unfold askS; rw [if_pos HH0.out, if_pos HPP.out]
      obtain ⟨_, c0, c1, c2, c3⟩ := HV3.out
      go_wp2_with fail
      refine HHO.out.mono ?_
      rintro e w4 ⟨⟨ok, x, H, L, ch, cl, rfl, _, _, his⟩, hb4⟩
      have HIS := Lib.hid his
      have HB4 := Lib.hid (Below_on HB3.out hb4 HB3.out.size)
      clear hb4 his c0 c1 c2 c3 HHO
      have hb5 : Below w4.heap.size w4 (w4.alloc (Obj.cells #[.slice H x.h.length ch, .slice L x.l.length cl] 28)) := (Below.refl _ _).alloc (Nat.le_refl _) _
      have HB5 := Lib.hid (Below_on HB4.out hb5 HB4.out.size)
      clear hb5
      by_cases hh : hoE m (readV s).1 = 0
      · have HA2 : Hid (askE m s = 0) := by show _ = _; rw [HAE.out, hh]
        rw [hh]
        cases ok with
        | true =>
          have HPF := Lib.hid (AskPost.mk_ (D := D) (ok := true) (x := x) (by rw [HAS.out, if_pos hh, if_pos rfl]) HA2.out (fun _ _ => HIS.out) HB5.out)
          clear hh
          go_wp2_with fail
          exact bodyPost_ret (results_tmp2 Tryz.results13 _ _ _) rfl HPF.out
        | false =>
          have HPF := Lib.hid (AskPost.mk_ (D := D) (ok := false) (x := x) (by rw [HAS.out, if_pos hh, if_neg (by decide)]) HA2.out (fun _ _ => HIS.out) HB5.out)
          clear hh
          go_wp2_with fail
          exact bodyPost_ret (results_tmp2 Tryz.results13 _ _ _) rfl HPF.out
      · have hh' : (hoE m (readV s).1 != 0) = true := by simp [hh]
        have HPF := Lib.hid (AskPost.mk_ (D := D) (ok := ok) (x := x) (by rw [HAS.out, if_neg hh]) HAE.out (fun _ _ => HIS.out) HB5.out)
        clear hh
        generalize hoE m (readV s).1 = he at *
        go_wp2_with fail
        exact bodyPost_ret (results_tmp2 Tryz.results13 _ _ _) rfl HPF.out
    · have hp' : ((readV s).2.2 != 0) = true := by simp [hp]
      have HI := Lib.hid (HIT.out hp _ HB3.out)
      have HAE : Hid (askE m s = 0) := by show _ = _; unfold askE; rw [if_pos HH0.out, if_neg hp]
      have HAS : Hid (askS m s D false = ⟨#[101, 114, 114, 111, 114, 32]⟩ ++ D ++ ⟨#[10]⟩) := by show _ = _; unfold askS; rw [if_pos HH0.out, if_neg hp]
      have HPN : Hid (ckM m = 0 → (readV s).2.2 = 0 → HoIs m (readV s).1 false ⟨[], []⟩) := fun _ h => absurd h hp
      clear hp
      go_wp2_with fail
      refine HI.out.mono ?_
      rintro e w4 ⟨rfl, hb4⟩
      have HPF := Lib.hid (AskPost.mk_ (D := D) HAS.out HAE.out HPN.out (Below_on HB3.out hb4 HB3.out.size))
      clear hb4 HI
      go_wp2_with fail
      exact bodyPost_ret (results_tmp2 Tryz.results13 _ _ _) rfl HPF.out
  · have h0' : (ckM m != 0) = true := by simp [h0]
    have HPF := Lib.hid (AskPost.mk_ (m := m) (s := s) (D := D) (w := w) (ok := false) (x := ⟨[], []⟩) (show askS m s D false = ⟨#[]⟩ by unfold askS; rw [if_neg h0]) (show askE m s = ckM m by unfold askE; rw [if_neg h0]) (fun h => absurd h h0) HB2.out)
    clear h0
    go_wp2_with fail
    exact bodyPost_ret (results_tmp2 Tryz.results13 _ _ _) rfl HPF.out
end Go.Proofs.YtoglgeaiiipchabGreatDoor

namespace Go.Proofs.YtoglgeaiiipchabGreatDoor
open Go Go.RowKit Go.Sort Go.Shelf
def zeroAu : Au := ⟨0, 0, [], [], []⟩
noncomputable def moAuto (m : Mo) : Au := if ckM m = 0 then moA m else zeroAu
def MtPost (w : World) (a : Au) (k : Int) (e : Ending) (w' : World) : Prop := ∃ A B C ca cb cc, e = .returned (.tuple #[.agg #[.int .i64 a.st, .int .i64 a.le, .slice A a.fs.length ca, .slice B a.gs.length cb, .slice C a.ss.length cc], .int .i64 k]) ∧ AuRd w' w.heap.size a A B C ca cb cc ∧ Below w.heap.size w w'
theorem zeroAu_rd (w : World) (lo : Nat) : AuRd w lo zeroAu none none none 0 0 0 :=
  ⟨⟨by decide, by omega, by decide, Rd.nil⟩, ⟨by decide, by omega, by decide, Rd.nil⟩, ⟨by decide, by omega, by decide, Rd.nil⟩⟩
set_option maxRecDepth 100000 in
set_option maxHeartbeats 8000000 in
theorem modelAuto_ (m : Mo) (hraw : ckM m = 0 → (moRaw m m.ls.length).length ≤ 2000000) (A B C : Option Addr) (ca cb cc : Nat) (vs : List RwS) (w : World) (hr : MoRd w 0 m A B C ca cb cc vs) :
    Calls Tryz.prog 45 #[.agg #[.int .i64 m.pr, .slice A m.ls.length ca, .slice B m.fs.length cb, .slice C m.ss.length cc]] w (MtPost w (moAuto m) (ckM m)) := by
  have HW := moW_is w m A B C ca cb cc
  have hal : Below (moW w m A B C ca cb cc).heap.size (moW w m A B C ca cb cc) ((moW w m A B C ca cb cc).alloc (Obj.cells #[.int .i64 0, .int .i64 0, .slice none 0 0, .slice none 0 0, .slice none 0 0] 26)) := (Below.refl _ _).alloc (Nat.le_refl _) _
  have HT := Lib.hid (World.alloc_heap_new (moW w m A B C ca cb cc) (Obj.cells #[.int .i64 0, .int .i64 0, .slice none 0 0, .slice none 0 0, .slice none 0 0] 26))
  rw [HW.size] at HT
  have HB0 := Lib.hid (Below_on HW.below hal HW.below.size)
  have HV0 := Lib.hid (HW.at_.below hal HW.at_.lt)
  have HR := Lib.hid (fun W (hW : Below w.heap.size w W) => hr.below hW)
  have HRAW := Lib.hid hraw
  clear hr HW hal hraw
  go_enter Tryz.func45, Tryz.ntmps45
  go_upto_region 1 with fail
  change Code.wp _ _ _ _ ((moW w m A B C ca cb cc).alloc (Obj.cells #[.int .i64 0, .int .i64 0, .slice none 0 0, .slice none 0 0, .slice none 0 0] 26))
  generalize (moW w m A B C ca cb cc).alloc (Obj.cells #[.int .i64 0, .int .i64 0, .slice none 0 0, .slice none 0 0, .slice none 0 0] 26) = W0 at *
  obtain ⟨V, hV⟩ : ∃ V, V = w.heap.size := ⟨_, rfl⟩
  have HVV := Lib.hid hV
  rw [← hV] at HV0 HT ⊢
  clear hV
  obtain ⟨_, c0, c1, c2, c3⟩ := HV0.out
  have HCK := Lib.hid (modelCheck_ m A B C ca cb cc vs W0 (HR.out _ HB0.out))
  go_upto_region 2 with (first
    | (go_at_call 41; refine HCK.out.mono ?_; rintro e w2 ⟨rfl, hb2⟩))
  have HB2 := Lib.hid (Below_on HB0.out hb2 HB0.out.size)
  have HV2 := Lib.hid (HV0.out.below hb2 HV0.out.lt)
  have HT2 : Hid (w2.heap[V + 1]? = _) := (hb2.block _ (Array.getElem?_eq_some_iff.1 HT.out).1).trans HT.out
  have hV1 : V + 1 < w2.heap.size := (Array.getElem?_eq_some_iff.1 HT2.out).1
  clear c0 c1 c2 c3 hb2 HCK HT HV0 HB0
  by_cases h0 : ckM m = 0
  · have HH0 := Lib.hid h0
    have HOF := Lib.hid (of_ m (ckM_ok h0) (HRAW.out h0) A B C ca cb cc vs w2 (HR.out _ HB2.out))
    have HMA : Hid (moAuto m = moA m) := by show _ = _; unfold moAuto; rw [if_pos h0]
    rw [h0]
    clear h0
    obtain ⟨_, c0, c1, c2, c3⟩ := HV2.out
    go_wp2_with fail
    refine HOF.out.mono ?_
    rintro e w3 ⟨A3, B3, C3, ca3, cb3, cc3, rfl, hrd, hb3⟩
    have HT3 : w3.heap[V + 1]? = _ := (hb3.block _ hV1).trans HT2.out
    obtain ⟨s0, s1, s2, s3, s4, t0, t1, t2, t3, t4⟩ := obj5 HT3
    obtain ⟨a, hae⟩ : ∃ a, a = moA m := ⟨_, rfl⟩
    rw [← hae] at hrd HMA ⊢
    clear hae
    have HFI : Hid (MtPost w (moAuto m) (ckM m) (.returned (.tuple #[.agg #[.int .i64 a.st, .int .i64 a.le, .slice A3 a.fs.length ca3, .slice B3 a.gs.length cb3, .slice C3 a.ss.length cc3], .int .i64 0])) (set5 w3 (V + 1) (.int .i64 a.st) (.int .i64 a.le) (.slice A3 a.fs.length ca3) (.slice B3 a.gs.length cb3) (.slice C3 a.ss.length cc3))) :=
      ⟨A3, B3, C3, ca3, cb3, cc3, by rw [HMA.out, HH0.out], by rw [HMA.out]; exact (hrd.set5_ hV1 _ _ _ _ _).low HB2.out.size, below_set5 (Below_on HB2.out hb3 HB2.out.size) (by rw [HVV.out]; omega) _ _ _ _ _⟩
    have HO1 := Lib.hid (set5_heap HT3 (.int .i64 a.st) (.int .i64 a.le) (.slice A3 a.fs.length ca3) (.slice B3 a.gs.length cb3) (.slice C3 a.ss.length cc3))
    unfold set5 at HFI HO1
    clear hrd hb3 HT3 c0 c1 c2 c3 hV1
    go_wp2_with fail
    exact bodyPost_ret (retAuX (x := .int .i64 0) Tryz.results45 _ _ (V + 1) rfl rfl HO1.out) rfl HFI.out
  · have h0' : (ckM m != 0) = true := by simp [h0]
    obtain ⟨s0, s1, s2, s3, s4, t0, t1, t2, t3, t4⟩ := obj5 HT2.out
    have HMA : Hid (moAuto m = zeroAu) := by show _ = _; unfold moAuto; rw [if_neg h0]
    have HFI : Hid (MtPost w (moAuto m) (ckM m) (.returned (.tuple #[.agg #[.int .i64 0, .int .i64 0, .slice none 0 0, .slice none 0 0, .slice none 0 0], .int .i64 (ckM m)])) (set5 w2 (V + 1) (.int .i64 0) (.int .i64 0) (.slice none 0 0) (.slice none 0 0) (.slice none 0 0))) :=
      ⟨none, none, none, 0, 0, 0, by rw [HMA.out]; rfl, by rw [HMA.out]; exact zeroAu_rd _ _, below_set5 HB2.out (by rw [HVV.out]; omega) _ _ _ _ _⟩
    have HO1 := Lib.hid (set5_heap HT2.out (.int .i64 0) (.int .i64 0) (.slice none 0 0) (.slice none 0 0) (.slice none 0 0))
    unfold set5 at HFI HO1
    clear h0 HRAW
    go_wp2_with fail
    exact bodyPost_ret (retAuX (x := .int .i64 (ckM m)) Tryz.results45 _ _ (V + 1) rfl rfl HO1.out) rfl HFI.out
end Go.Proofs.YtoglgeaiiipchabGreatDoor

namespace Go.Proofs.YtoglgeaiiipchabGreatDoor
open Go Go.RowKit Go.Sort Go.Shelf
def smM : Mo := ⟨1, [1], [0], [[0]]⟩
theorem sm_ck : ckM smM = 0 := by decide +kernel
theorem sm_raw : (moRaw smM smM.ls.length).length ≤ 2000000 := by decide +kernel
theorem sm_ok : MoOK smM := ckM_ok sm_ck
theorem sm_in (u : Nat → Int) : ∀ k, (∀ j, j < k → u j = 1) → MoIn smM u k 0
  | 0, _ => by show (0 : Int) ∈ [0]; simp
  | k + 1, h => ⟨0, sm_in u k (fun j hj => h j (by omega)), (h k (by omega)).symm, by show (0 : Int) ∈ ([[0]] : List (List Int)).getD 0 []; simp⟩
theorem sm_goes {l : La} : MoGoes smM l ↔ ∀ k, k < l.h.length + 2 * l.l.length → l.at k = 1 := by
  constructor
  · intro h k hk
    obtain ⟨q, hq, hl⟩ := h k hk
    obtain ⟨h0, h1⟩ := moIn_range sm_ok hq
    have h1 : q < 1 := h1
    obtain rfl : q = 0 := by omega
    exact hl.symm
  · intro h k hk
    have hk : k < l.h.length + 2 * l.l.length := hk
    exact ⟨0, sm_in _ k (fun j hj => h j (by omega)), (h k hk).symm⟩
def prF : List Nd := [⟨2, 0, 0, 0⟩]
def noF : List Nd := [⟨2, 0, 0, 0⟩, ⟨3, 0, 0, 0⟩]
def nxF : List Nd := [⟨2, 0, 0, 0⟩, ⟨6, 0, 0, 0⟩]
def nxS : List UInt8 := [88, 112, 48]
theorem nxS_r : readV nxS = (nxF, 0, 0) := by decide +kernel
theorem prF_e : negE prF = 0 := by decide +kernel
theorem noF_e : negE noF = 0 := by decide +kernel
theorem nxF_e : negE nxF = 0 := by decide +kernel
theorem prF_t : treeAt prF (prF.length - 1) = .pr 0 := by decide +kernel
theorem noF_t : treeAt noF (noF.length - 1) = .no (.pr 0) := by decide +kernel
theorem nxF_t : treeAt nxF (nxF.length - 1) = .nx (.pr 0) := by decide +kernel
theorem holds_sem {f : List Nd} {l : La} (hc : ckF f = 0) (hl : ckL l 8 = 0) : holdsV f l = true ↔ (treeAt f (f.length - 1)).sem l.at 0 := by
  have hT : ckT f l = 0 := by unfold ckT; rw [if_pos hc]; exact hl
  have hne := ckL_ne hl
  have ho := ckF_zero.1 hc
  unfold holdsV
  rw [if_pos hT]
  exact tab_sem (by omega) ho (by have := ho.pos; omega) (by unfold La.n; omega)
theorem sm_pr {ok : Bool} {x : La} (h : HoIs smM prF ok x) : ok = true := by
  unfold HoIs hoE at h
  rw [if_pos sm_ck, if_pos prF_e] at h
  cases ok with
  | true => rfl
  | false =>
    rw [if_neg (by decide)] at h
    obtain ⟨h1, h2, h3⟩ := h
    have h4 := sm_goes.1 h2 0 (by have := ckL_ne h1; omega)
    have h5 : holdsV prF x = true := (holds_sem (by decide +kernel) h1).2 (by rw [prF_t]; show bitOf (x.at 0) 0 = true; rw [h4]; decide)
    rw [h5] at h3
    cases h3
theorem sm_no {ok : Bool} {x : La} (h : HoIs smM noF ok x) : ok = false ∧ 0 < x.l.length := by
  unfold HoIs hoE at h
  rw [if_pos sm_ck, if_pos noF_e] at h
  cases ok with
  | false =>
    rw [if_neg (by decide)] at h
    exact ⟨rfl, by have := ckL_ne h.1; omega⟩
  | true =>
    rw [if_pos rfl] at h
    have hl : ckL (⟨[], [1]⟩ : La) 8 = 0 := by decide +kernel
    have hone : ∀ k, (⟨[], [1]⟩ : La).at k = 1 := fun k => by
      unfold La.at
      simp [Nat.mod_one]
    have h1 := h.2 _ hl (sm_goes.2 fun k _ => hone k)
    have h2 := (holds_sem (by decide +kernel) hl).1 h1
    rw [noF_t] at h2
    exact absurd (show bitOf ((⟨[], [1]⟩ : La).at 0) 0 = true by rw [hone]; decide) h2
theorem sm_nx {ok : Bool} {x : La} (h : HoIs smM nxF ok x) : ok = true := by
  unfold HoIs hoE at h
  rw [if_pos sm_ck, if_pos nxF_e] at h
  cases ok with
  | true => rfl
  | false =>
    rw [if_neg (by decide)] at h
    obtain ⟨h1, h2, h3⟩ := h
    have h4 := sm_goes.1 h2 1 (by have := ckL_ne h1; omega)
    have h5 : holdsV nxF x = true := (holds_sem (by decide +kernel) h1).2 (by rw [nxF_t]; show bitOf (x.at (0 + 1)) 0 = true; rw [h4]; decide)
    rw [h5] at h3
    cases h3
theorem one_int {W : World} {b : Nat} {x : Int} (h : W.cell? ⟨b, 0, none⟩ = some (.int .i64 x)) (hb : b < W.heap.size) : Ints W 0 (some ⟨b, 0, none⟩) 1 [x] :=
  ⟨Nat.le_refl _, by simp, by simp, fun _ => ⟨b, 0, rfl, Nat.zero_le _, hb, fun j u hj => by
    match j, hj with
    | 0, hj => simp at hj; subst hj; exact h
    | j + 1, hj => simp at hj⟩⟩
theorem one_rw {W : World} {b : Nat} {s : RwS} (h : W.cell? ⟨b, 0, none⟩ = some (.slice s.1 s.2.1 s.2.2)) (hb : b < W.heap.size) : SlE rwV 24 W 0 (some ⟨b, 0, none⟩) 1 [s] :=
  ⟨Nat.le_refl _, by simp, by simp, fun _ => ⟨b, 0, rfl, Nat.zero_le _, hb, fun j u hj => by
    match j, hj with
    | 0, hj => simp [rwV] at hj; subst hj; exact h
    | j + 1, hj => simp [rwV] at hj⟩⟩
def smW (w : World) : World := ((((w.alloc (Obj.cells #[.int .i64 1, .slice (some ⟨w.heap.size + 1, 0, none⟩) 1 1, .slice (some ⟨w.heap.size + 1 + 1, 0, none⟩) 1 1, .slice (some ⟨w.heap.size + 1 + 1 + 1 + 1, 0, none⟩) 1 1] 43)).alloc (Obj.cells #[.int .i64 1] 3)).alloc (Obj.cells #[.int .i64 0] 3)).alloc (Obj.cells #[.int .i64 0] 3)).alloc (Obj.cells #[.slice (some ⟨w.heap.size + 1 + 1 + 1, 0, none⟩) 1 1] 22)
theorem smW_is (w : World) : Below w.heap.size w (smW w) ∧ MoRd (smW w) 0 smM (some ⟨w.heap.size + 1, 0, none⟩) (some ⟨w.heap.size + 1 + 1, 0, none⟩) (some ⟨w.heap.size + 1 + 1 + 1 + 1, 0, none⟩) 1 1 1 [(some ⟨w.heap.size + 1 + 1 + 1, 0, none⟩, 1, 1)] := by
  have hs : (smW w).heap.size = w.heap.size + 1 + 1 + 1 + 1 + 1 := by simp [smW]
  refine ⟨by unfold smW; go_grown, one_int (by unfold smW; go_simp) (by rw [hs]; omega), one_int (by unfold smW; go_simp) (by rw [hs]; omega), one_rw (by unfold smW; go_simp) (by rw [hs]; omega), rfl, fun k hk => ?_⟩
  obtain rfl : k = 0 := by
    have : k < 1 := hk
    omega
  exact ⟨_, _, rfl, one_int (by unfold smW; go_simp) (by rw [hs]; omega)⟩
def SmPost (w : World) (e : Ending) (w' : World) : Prop := ∃ (A B C : Option Addr) (vs : List RwS), e = .returned (.agg #[.int .i64 1, .slice A 1 1, .slice B 1 1, .slice C 1 1]) ∧ MoRd w' 0 smM A B C 1 1 1 vs ∧ Below w.heap.size w w'
set_option maxRecDepth 100000 in
theorem small_ (w : World) : Calls Tryz.prog 46 #[] w (SmPost w) := by
  have HP : Hid (SmPost w (.returned (.agg #[.int .i64 1, .slice (some ⟨w.heap.size + 1, 0, none⟩) 1 1, .slice (some ⟨w.heap.size + 1 + 1, 0, none⟩) 1 1, .slice (some ⟨w.heap.size + 1 + 1 + 1 + 1, 0, none⟩) 1 1])) (smW w)) := ⟨_, _, _, _, rfl, (smW_is w).2, (smW_is w).1⟩
  go_enter Tryz.func46, Tryz.ntmps46
  go_wp2_with fail
  exact bodyPost_ret (by simp [results, Tryz.results46, go_sem]) rfl HP.out
theorem SmAuto_ (A B C : Option Addr) (vs : List RwS) (w : World) (hr : MoRd w 0 smM A B C 1 1 1 vs) : Calls Tryz.prog 45 #[.agg #[.int .i64 1, .slice A 1 1, .slice B 1 1, .slice C 1 1]] w fun e w' => ∃ (st : Int) (A B C : Option Addr) (n1 n2 n3 ca cb cc : Nat), e = .returned (.tuple #[.agg #[.int .i64 st, .int .i64 8, .slice A n1 ca, .slice B n2 cb, .slice C n3 cc], .int .i64 0]) ∧ Below w.heap.size w w' := by
  refine (modelAuto_ smM (fun _ => sm_raw) A B C 1 1 1 vs w hr).mono ?_
  rintro e w' ⟨A', B', C', ca, cb, cc, rfl, _, hb⟩
  have h1 : (moAuto smM).le = 8 := by unfold moAuto; rw [if_pos sm_ck]; rfl
  rw [h1, sm_ck]
  exact ⟨_, _, _, _, _, _, _, _, _, _, rfl, hb⟩
theorem SmCheck_ (A B C : Option Addr) (vs : List RwS) (w : World) (hr : MoRd w 0 smM A B C 1 1 1 vs) : Calls Tryz.prog 41 #[.agg #[.int .i64 1, .slice A 1 1, .slice B 1 1, .slice C 1 1]] w fun e w' => e = .returned (.int .i64 0) ∧ Below w.heap.size w w' := by
  refine (modelCheck_ smM A B C 1 1 1 vs w hr).mono ?_
  rintro e w' ⟨rfl, hb⟩
  rw [sm_ck]
  exact ⟨rfl, hb⟩
theorem SmPr_ (A B C F : Option Addr) (fc : Nat) (vs : List RwS) (w : World) (hr : MoRd w 0 smM A B C 1 1 1 vs) (hf : Nds w 0 F fc prF) : Calls Tryz.prog 18 #[.agg #[.int .i64 1, .slice A 1 1, .slice B 1 1, .slice C 1 1], .slice F 1 fc] w fun e w' => ∃ (H L : Option Addr) (hn ch ln cl : Nat), e = .returned (.tuple #[.bool true, .agg #[.slice H hn ch, .slice L ln cl], .int .i64 0]) ∧ Below w.heap.size w w' := by
  refine (modelHolds_ smM (fun _ => sm_raw) prF A B C F 1 1 1 fc vs w hr hf).mono ?_
  rintro e w' ⟨⟨ok, x, H, L, ch, cl, rfl, _, _, his⟩, hb⟩
  obtain rfl := sm_pr his
  have h1 : hoE smM prF = 0 := by unfold hoE; rw [if_pos sm_ck]; exact prF_e
  rw [h1]
  exact ⟨H, L, _, ch, _, cl, rfl, hb⟩
theorem SmNo_ (A B C F : Option Addr) (fc : Nat) (vs : List RwS) (w : World) (hr : MoRd w 0 smM A B C 1 1 1 vs) (hf : Nds w 0 F fc noF) : Calls Tryz.prog 18 #[.agg #[.int .i64 1, .slice A 1 1, .slice B 1 1, .slice C 1 1], .slice F 2 fc] w fun e w' => ∃ (H L : Option Addr) (hn ch ln cl : Nat), e = .returned (.tuple #[.bool false, .agg #[.slice H hn ch, .slice L ln cl], .int .i64 0]) ∧ 0 < ln ∧ Below w.heap.size w w' := by
  refine (modelHolds_ smM (fun _ => sm_raw) noF A B C F 1 1 1 fc vs w hr hf).mono ?_
  rintro e w' ⟨⟨ok, x, H, L, ch, cl, rfl, _, _, his⟩, hb⟩
  obtain ⟨rfl, hp⟩ := sm_no his
  have h1 : hoE smM noF = 0 := by unfold hoE; rw [if_pos sm_ck]; exact noF_e
  rw [h1]
  exact ⟨H, L, _, ch, _, cl, rfl, hp, hb⟩
theorem SmAsk_ (A B C : Option Addr) (vs : List RwS) (w : World) (hr : MoRd w 0 smM A B C 1 1 1 vs) : Calls Tryz.prog 13 #[.agg #[.int .i64 1, .slice A 1 1, .slice B 1 1, .slice C 1 1], .string ⟨#[88, 112, 48]⟩] w fun e w' => e = .returned (.tuple #[.string ⟨#[104, 111, 108, 100, 115, 10]⟩, .int .i64 0]) ∧ Below w.heap.size w w' := by
  refine (modelAsk_ smM (fun _ => sm_raw) nxS ⟨#[88, 112, 48]⟩ rfl (fun i h => by
    have h : i < 3 := h
    match i, h with
    | 0, _ => rfl
    | 1, _ => rfl
    | 2, _ => rfl) A B C 1 1 1 vs ⟨#[]⟩ (by decide) w hr (fun h => absurd (by rw [nxS_r]) h)).mono ?_
  rintro e w' ⟨⟨ok, x, rfl, his⟩, hb⟩
  have h0 : (readV nxS).2.2 = 0 := by rw [nxS_r]
  have h1 : (readV nxS).1 = nxF := by rw [nxS_r]
  have h2 := his sm_ck h0
  rw [h1] at h2
  obtain rfl := sm_nx h2
  have h3 : hoE smM nxF = 0 := by unfold hoE; rw [if_pos sm_ck]; exact nxF_e
  refine ⟨?_, hb⟩
  unfold askS askE
  rw [if_pos sm_ck, if_pos sm_ck, if_pos h0, if_pos h0, h1, if_pos h3, if_pos rfl, h3]
end Go.Proofs.YtoglgeaiiipchabGreatDoor

namespace Go.Proofs.YtoglgeaiiipchabGreatDoor
open Go Go.RowKit Go.Sort Go.Shelf
theorem nodes_row {W : World} {b : Nat} {f : List Nd} (h : W.heap[b]? = some (.cells (f.flatMap Nd.cells).toArray 90 (0, 0))) (hl : f.length ≤ 1000) : Nds W 0 (some ⟨b, 0, none⟩) f.length f :=
  ⟨Nat.le_refl _, by omega, by omega, fun _ => ⟨b, 0, rfl, Nat.zero_le _, (Array.getElem?_eq_some_iff.1 h).1, fun j u hj => by
    rw [Nat.zero_add]
    simp only [World.cell?, h]
    simpa using hj⟩⟩
theorem prN (W : World) : Nds (W.alloc (Obj.cells #[.int .i64 2, .int .i64 0, .int .i64 0, .int .i64 0] 90)) 0 (some ⟨W.heap.size, 0, none⟩) 1 prF := nodes_row (f := prF) (World.alloc_heap_new W _) (by decide)
theorem noN (W : World) : Nds (W.alloc (Obj.cells #[.int .i64 2, .int .i64 0, .int .i64 0, .int .i64 0, .int .i64 3, .int .i64 0, .int .i64 0, .int .i64 0] 90)) 0 (some ⟨W.heap.size, 0, none⟩) 2 noF := nodes_row (f := noF) (World.alloc_heap_new W _) (by decide)
set_option maxRecDepth 100000 in
set_option maxHeartbeats 8000000 in
theorem modelBegun_ (w : World) : Calls Tryz.prog 15 #[] w (BoolPost w true) := by
  go_enter Tryz.func15, Tryz.ntmps15
  go_wp2_with fail
  refine (small_ _).mono ?_
  rintro e w1 ⟨A1, B1, C1, vs1, rfl, hr1, hb1⟩
  have HR1 := Lib.hid hr1
  have HB1 := Lib.hid hb1
  clear hr1 hb1
  go_wp2_with fail
  refine (SmAuto_ _ _ _ _ _ HR1.out).mono ?_
  rintro e w2 ⟨st, A2, B2, C2, n1, n2, n3, ca, cb, cc, rfl, hb2⟩
  have hba : Below w2.heap.size w2 (w2.alloc (Obj.cells #[.int .i64 st, .int .i64 8, .slice A2 n1 ca, .slice B2 n2 cb, .slice C2 n3 cc] 26)) := (Below.refl _ _).alloc (Nat.le_refl _) _
  have HX := Lib.hid (World.alloc_heap_new w2 (Obj.cells #[.int .i64 st, .int .i64 8, .slice A2 n1 ca, .slice B2 n2 cb, .slice C2 n3 cc] 26))
  have HB2 := Lib.hid (Below_on (Below_on HB1.out hb2 HB1.out.size) hba (Nat.le_trans HB1.out.size hb2.size))
  clear hb2 hba HR1 HB1
  go_upto_region 2 with fail
  obtain ⟨X, hX⟩ : ∃ X, X = w2.heap.size := ⟨_, rfl⟩
  rw [← hX] at HX ⊢
  clear hX
  generalize w2.alloc (Obj.cells #[.int .i64 st, .int .i64 8, .slice A2 n1 ca, .slice B2 n2 cb, .slice C2 n3 cc] 26) = W2 at *
  go_wp2_with fail
  refine (small_ _).mono ?_
  rintro e w3 ⟨A3, B3, C3, vs3, rfl, hr3, hb3⟩
  have hba : Below w3.heap.size w3 (w3.alloc (Obj.cells #[.int .i64 2, .int .i64 0, .int .i64 0, .int .i64 0] 90)) := (Below.refl _ _).alloc (Nat.le_refl _) _
  have HR3 := Lib.hid (hr3.below hba)
  have HF3 := Lib.hid (prN w3)
  have HB3 := Lib.hid (Below_on hb3 hba hb3.size)
  clear hr3 hb3 hba
  go_wp2_with fail
  refine (SmPr_ _ _ _ _ _ _ _ HR3.out HF3.out).mono ?_
  rintro e w4 ⟨H4, L4, hn4, ch4, ln4, cl4, rfl, hb4⟩
  have hba : Below w4.heap.size w4 (w4.alloc (Obj.cells #[.slice H4 hn4 ch4, .slice L4 ln4 cl4] 28)) := (Below.refl _ _).alloc (Nat.le_refl _) _
  have HB4 := Lib.hid (Below_on (Below_on HB3.out hb4 HB3.out.size) hba (Nat.le_trans HB3.out.size hb4.size))
  clear hb4 hba HR3 HF3 HB3
  go_upto_region 3 with fail
  generalize w4.alloc (Obj.cells #[.slice H4 hn4 ch4, .slice L4 ln4 cl4] 28) = W4 at *
  go_wp2_with fail
  refine (small_ _).mono ?_
  rintro e w5 ⟨A5, B5, C5, vs5, rfl, hr5, hb5⟩
  have hba : Below w5.heap.size w5 (w5.alloc (Obj.cells #[.int .i64 2, .int .i64 0, .int .i64 0, .int .i64 0, .int .i64 3, .int .i64 0, .int .i64 0, .int .i64 0] 90)) := (Below.refl _ _).alloc (Nat.le_refl _) _
  have HR5 := Lib.hid (hr5.below hba)
  have HF5 := Lib.hid (noN w5)
  have HB5 := Lib.hid (Below_on (Below_on HB4.out hb5 HB4.out.size) hba (Nat.le_trans HB4.out.size hb5.size))
  clear hr5 hb5 hba HB4
  go_wp2_with fail
  refine (SmNo_ _ _ _ _ _ _ _ HR5.out HF5.out).mono ?_
  rintro e w6 ⟨H6, L6, hn6, ch6, ln6, cl6, rfl, hp6, hb6⟩
  have hba : Below w6.heap.size w6 (w6.alloc (Obj.cells #[.slice H6 hn6 ch6, .slice L6 ln6 cl6] 28)) := (Below.refl _ _).alloc (Nat.le_refl _) _
  have HZ := Lib.hid (World.alloc_heap_new w6 (Obj.cells #[.slice H6 hn6 ch6, .slice L6 ln6 cl6] 28))
  have HB6 := Lib.hid (Below_on (Below_on HB5.out hb6 HB5.out.size) hba (Nat.le_trans HB5.out.size hb6.size))
  have HP6 := Lib.hid hp6
  clear hb6 hba hp6 HR5 HF5 HB5
  go_upto_region 4 with fail
  obtain ⟨Z, hZ⟩ : ∃ Z, Z = w6.heap.size := ⟨_, rfl⟩
  rw [← hZ] at HZ ⊢
  clear hZ
  generalize w6.alloc (Obj.cells #[.slice H6 hn6 ch6, .slice L6 ln6 cl6] 28) = W6 at *
  go_wp2_with fail
  refine (small_ _).mono ?_
  rintro e w7 ⟨A7, B7, C7, vs7, rfl, hr7, hb7⟩
  have HR7 := Lib.hid hr7
  have HB7 := Lib.hid hb7
  clear hr7 hb7
  go_wp2_with fail
  refine (SmAsk_ _ _ _ _ _ HR7.out).mono ?_
  rintro e w8 ⟨rfl, hb8⟩
  have HB8 := Lib.hid (Below_on HB7.out hb8 HB7.out.size)
  clear hb8 HR7 HB7
  go_wp2_with fail
  refine (small_ _).mono ?_
  rintro e w9 ⟨A9, B9, C9, vs9, rfl, hr9, hb9⟩
  have HR9 := Lib.hid hr9
  have HB9 := Lib.hid (Below_on HB8.out hb9 HB8.out.size)
  clear hr9 hb9 HB8
  go_wp2_with fail
  refine (SmCheck_ _ _ _ _ _ HR9.out).mono ?_
  rintro e w10 ⟨rfl, hb10⟩
  have HB10 := Lib.hid (Below_on HB9.out hb10 HB9.out.size)
  have hz := (HB10.out.block Z (Array.getElem?_eq_some_iff.1 HZ.out).1).trans HZ.out
  have hx4 := (HB6.out.block X (Array.getElem?_eq_some_iff.1 HX.out).1).trans HX.out
  have hx := (HB10.out.block X (Array.getElem?_eq_some_iff.1 hx4).1).trans hx4
  obtain ⟨x0, x1, x2, x3, x4, _⟩ := obj5 hx
  obtain ⟨z0, z1, _, _⟩ := moh_cells hz
  have HP : Hid (BoolPost w true (.returned (.bool true)) w10) := ⟨rfl, Below_on (Below_on HB2.out HB6.out HB2.out.size) HB10.out (Nat.le_trans HB2.out.size HB6.out.size)⟩
  have hp6 := HP6.out
  clear hb10 hz hx4 hx HR9 HB9 HB10 HP6
  go_wp2_with fail
  go_ret
  exact HP.out
end Go.Proofs.YtoglgeaiiipchabGreatDoor
