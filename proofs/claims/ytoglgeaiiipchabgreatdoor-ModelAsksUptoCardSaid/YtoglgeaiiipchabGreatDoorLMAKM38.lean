import Derived.Test.YtoglgeaiiipchabGreatDoorLMAKM37
import Derived.Test.YtoglgeaiiipchabGreatDoorLMAKM33
import Derived.Test.YtoglgeaiiipchabGreatDoorLMAKM6
import Derived.Test.YtoglgeaiiipchabGreatDoorLMAKM2
import Derived.Lib.ItoaNum
import Derived.Lib.AtoiAll
import Derived.Test.YtoglgeaiiipchabGreatDoorShelf
import Derived.Test.YtoglgeaiiipchabGreatDoorLMAKM3
import Derived.Lib.SmallJoins
import Derived.Lib.AppendIntMem
import Derived.Laws.IdiomStrings
set_option linter.unusedSimpArgs false
set_option linter.unusedVariables false
namespace Go.Proofs.YtoglgeaiiipchabGreatDoor
open Go Go.RowKit Go.Sort Go.Shelf
def smM : Mo := ⟨1, [1], [0], [[0]]⟩
theorem sm_ck : ckM smM = 0 := by decide +kernel
theorem sm_raw : (moRaw smM smM.ls.length).length ≤ 2000000 := by decide +kernel
theorem sm_ok : MoOK smM := ckM_ok sm_ck
theorem sm_in (u : Nat → Int) : ∀ k, (∀ j, j < k → u j = 1) → MoIn smM u k 0
  | 0, _ => by show (0 : Int) ∈ [0]; simp
  | k + 1, h => ⟨0, sm_in u k (fun j hj => h j (by omega)), (h k (by omega)).symm, by show (0 : Int) ∈ ([[0]] : List (List Int)).getD 0 []; simp⟩
theorem sm_goes {l : La} : MoGoes smM l ↔ ∀ k, k < l.h.length + 2 * l.l.length → l.at k = 1 := by
  constructor
  · intro h k hk
    obtain ⟨q, hq, hl⟩ := h k hk
    obtain ⟨h0, h1⟩ := moIn_range sm_ok hq
    have h1 : q < 1 := h1
    obtain rfl : q = 0 := by omega
    exact hl.symm
  · intro h k hk
    have hk : k < l.h.length + 2 * l.l.length := hk
    exact ⟨0, sm_in _ k (fun j hj => h j (by omega)), (h k hk).symm⟩
def prF : List Nd := [⟨2, 0, 0, 0⟩]
def noF : List Nd := [⟨2, 0, 0, 0⟩, ⟨3, 0, 0, 0⟩]
def nxF : List Nd := [⟨2, 0, 0, 0⟩, ⟨6, 0, 0, 0⟩]
def nxS : List UInt8 := [88, 112, 48]
theorem nxS_r : readV nxS = (nxF, 0, 0) := by decide +kernel
theorem prF_e : negE prF = 0 := by decide +kernel
theorem noF_e : negE noF = 0 := by decide +kernel
theorem nxF_e : negE nxF = 0 := by decide +kernel
theorem prF_t : treeAt prF (prF.length - 1) = .pr 0 := by decide +kernel
theorem noF_t : treeAt noF (noF.length - 1) = .no (.pr 0) := by decide +kernel
theorem nxF_t : treeAt nxF (nxF.length - 1) = .nx (.pr 0) := by decide +kernel
theorem holds_sem {f : List Nd} {l : La} (hc : ckF f = 0) (hl : ckL l 8 = 0) : holdsV f l = true ↔ (treeAt f (f.length - 1)).sem l.at 0 := by
  have hT : ckT f l = 0 := by unfold ckT; rw [if_pos hc]; exact hl
  have hne := ckL_ne hl
  have ho := ckF_zero.1 hc
  unfold holdsV
  rw [if_pos hT]
  exact tab_sem (by omega) ho (by have := ho.pos; omega) (by unfold La.n; omega)
theorem sm_pr {ok : Bool} {x : La} (h : HoIs smM prF ok x) : ok = true := by
  unfold HoIs hoE at h
  rw [if_pos sm_ck, if_pos prF_e] at h
  cases ok with
  | true => rfl
  | false =>
    rw [if_neg (by decide)] at h
    obtain ⟨h1, h2, h3⟩ := h
    have h4 := sm_goes.1 h2 0 (by have := ckL_ne h1; omega)
    have h5 : holdsV prF x = true := (holds_sem (by decide +kernel) h1).2 (by rw [prF_t]; show bitOf (x.at 0) 0 = true; rw [h4]; decide)
    rw [h5] at h3
    cases h3
theorem sm_no {ok : Bool} {x : La} (h : HoIs smM noF ok x) : ok = false ∧ 0 < x.l.length := by
  unfold HoIs hoE at h
  rw [if_pos sm_ck, if_pos noF_e] at h
  cases ok with
  | false =>
    rw [if_neg (by decide)] at h
    exact ⟨rfl, by have := ckL_ne h.1; omega⟩
  | true =>
    rw [if_pos rfl] at h
    have hl : ckL (⟨[], [1]⟩ : La) 8 = 0 := by decide +kernel
    have hone : ∀ k, (⟨[], [1]⟩ : La).at k = 1 := fun k => by
      unfold La.at
      simp [Nat.mod_one]
    have h1 := h.2 _ hl (sm_goes.2 fun k _ => hone k)
    have h2 := (holds_sem (by decide +kernel) hl).1 h1
    rw [noF_t] at h2
    exact absurd (show bitOf ((⟨[], [1]⟩ : La).at 0) 0 = true by rw [hone]; decide) h2
theorem sm_nx {ok : Bool} {x : La} (h : HoIs smM nxF ok x) : ok = true := by
  unfold HoIs hoE at h
  rw [if_pos sm_ck, if_pos nxF_e] at h
  cases ok with
  | true => rfl
  | false =>
    rw [if_neg (by decide)] at h
    obtain ⟨h1, h2, h3⟩ := h
    have h4 := sm_goes.1 h2 1 (by have := ckL_ne h1; omega)
    have h5 : holdsV nxF x = true := (holds_sem (by decide +kernel) h1).2 (by rw [nxF_t]; show bitOf (x.at (0 + 1)) 0 = true; rw [h4]; decide)
    rw [h5] at h3
    cases h3
theorem one_int {W : World} {b : Nat} {x : Int} (h : W.cell? ⟨b, 0, none⟩ = some (.int .i64 x)) (hb : b < W.heap.size) : Ints W 0 (some ⟨b, 0, none⟩) 1 [x] :=
  ⟨Nat.le_refl _, by simp, by simp, fun _ => ⟨b, 0, rfl, Nat.zero_le _, hb, fun j u hj => by
    match j, hj with
    | 0, hj => simp at hj; subst hj; exact h
    | j + 1, hj => simp at hj⟩⟩
theorem one_rw {W : World} {b : Nat} {s : RwS} (h : W.cell? ⟨b, 0, none⟩ = some (.slice s.1 s.2.1 s.2.2)) (hb : b < W.heap.size) : SlE rwV 24 W 0 (some ⟨b, 0, none⟩) 1 [s] :=
  ⟨Nat.le_refl _, by simp, by simp, fun _ => ⟨b, 0, rfl, Nat.zero_le _, hb, fun j u hj => by
    match j, hj with
    | 0, hj => simp [rwV] at hj; subst hj; exact h
    | j + 1, hj => simp [rwV] at hj⟩⟩
def smW (w : World) : World := ((((w.alloc (Obj.cells #[.int .i64 1, .slice (some ⟨w.heap.size + 1, 0, none⟩) 1 1, .slice (some ⟨w.heap.size + 1 + 1, 0, none⟩) 1 1, .slice (some ⟨w.heap.size + 1 + 1 + 1 + 1, 0, none⟩) 1 1] 43)).alloc (Obj.cells #[.int .i64 1] 3)).alloc (Obj.cells #[.int .i64 0] 3)).alloc (Obj.cells #[.int .i64 0] 3)).alloc (Obj.cells #[.slice (some ⟨w.heap.size + 1 + 1 + 1, 0, none⟩) 1 1] 22)
theorem smW_is (w : World) : Below w.heap.size w (smW w) ∧ MoRd (smW w) 0 smM (some ⟨w.heap.size + 1, 0, none⟩) (some ⟨w.heap.size + 1 + 1, 0, none⟩) (some ⟨w.heap.size + 1 + 1 + 1 + 1, 0, none⟩) 1 1 1 [(some ⟨w.heap.size + 1 + 1 + 1, 0, none⟩, 1, 1)] := by
  have hs : (smW w).heap.size = w.heap.size + 1 + 1 + 1 + 1 + 1 := by simp [smW]
  refine ⟨by unfold smW; go_grown, one_int (by unfold smW; go_simp) (by rw [hs]; omega), one_int (by unfold smW; go_simp) (by rw [hs]; omega), one_rw (by unfold smW; go_simp) (by rw [hs]; omega), rfl, fun k hk => ?_⟩
  obtain rfl : k = 0 := by
    have : k < 1 := hk
    omega
  exact ⟨_, _, rfl, one_int (by unfold smW; go_simp) (by rw [hs]; omega)⟩
def SmPost (w : World) (e : Ending) (w' : World) : Prop := ∃ (A B C : Option Addr) (vs : List RwS), e = .returned (.agg #[.int .i64 1, .slice A 1 1, .slice B 1 1, .slice C 1 1]) ∧ MoRd w' 0 smM A B C 1 1 1 vs ∧ Below w.heap.size w w'
set_option maxRecDepth 100000 in
theorem small_ (w : World) : Calls Tryz.prog 46 #[] w (SmPost w) := by
  have HP : Hid (SmPost w (.returned (.agg #[.int .i64 1, .slice (some ⟨w.heap.size + 1, 0, none⟩) 1 1, .slice (some ⟨w.heap.size + 1 + 1, 0, none⟩) 1 1, .slice (some ⟨w.heap.size + 1 + 1 + 1 + 1, 0, none⟩) 1 1])) (smW w)) := ⟨_, _, _, _, rfl, (smW_is w).2, (smW_is w).1⟩
  go_enter Tryz.func46, Tryz.ntmps46
  go_wp2_with fail
  exact bodyPost_ret (by simp [results, Tryz.results46, go_sem]) rfl HP.out
theorem SmAuto_ (A B C : Option Addr) (vs : List RwS) (w : World) (hr : MoRd w 0 smM A B C 1 1 1 vs) : Calls Tryz.prog 45 #[.agg #[.int .i64 1, .slice A 1 1, .slice B 1 1, .slice C 1 1]] w fun e w' => ∃ (st : Int) (A B C : Option Addr) (n1 n2 n3 ca cb cc : Nat), e = .returned (.tuple #[.agg #[.int .i64 st, .int .i64 8, .slice A n1 ca, .slice B n2 cb, .slice C n3 cc], .int .i64 0]) ∧ Below w.heap.size w w' := by
  refine (modelAuto_ smM (fun _ => sm_raw) A B C 1 1 1 vs w hr).mono ?_
  rintro e w' ⟨A', B', C', ca, cb, cc, rfl, _, hb⟩
  have h1 : (moAuto smM).le = 8 := by unfold moAuto; rw [if_pos sm_ck]; rfl
  rw [h1, sm_ck]
  exact ⟨_, _, _, _, _, _, _, _, _, _, rfl, hb⟩
theorem SmCheck_ (A B C : Option Addr) (vs : List RwS) (w : World) (hr : MoRd w 0 smM A B C 1 1 1 vs) : Calls Tryz.prog 41 #[.agg #[.int .i64 1, .slice A 1 1, .slice B 1 1, .slice C 1 1]] w fun e w' => e = .returned (.int .i64 0) ∧ Below w.heap.size w w' := by
  refine (modelCheck_ smM A B C 1 1 1 vs w hr).mono ?_
  rintro e w' ⟨rfl, hb⟩
  rw [sm_ck]
  exact ⟨rfl, hb⟩
theorem SmPr_ (A B C F : Option Addr) (fc : Nat) (vs : List RwS) (w : World) (hr : MoRd w 0 smM A B C 1 1 1 vs) (hf : Nds w 0 F fc prF) : Calls Tryz.prog 18 #[.agg #[.int .i64 1, .slice A 1 1, .slice B 1 1, .slice C 1 1], .slice F 1 fc] w fun e w' => ∃ (H L : Option Addr) (hn ch ln cl : Nat), e = .returned (.tuple #[.bool true, .agg #[.slice H hn ch, .slice L ln cl], .int .i64 0]) ∧ Below w.heap.size w w' := by
  refine (modelHolds_ smM (fun _ => sm_raw) prF A B C F 1 1 1 fc vs w hr hf).mono ?_
  rintro e w' ⟨⟨ok, x, H, L, ch, cl, rfl, _, _, his⟩, hb⟩
  obtain rfl := sm_pr his
  have h1 : hoE smM prF = 0 := by unfold hoE; rw [if_pos sm_ck]; exact prF_e
  rw [h1]
  exact ⟨H, L, _, ch, _, cl, rfl, hb⟩
theorem SmNo_ (A B C F : Option Addr) (fc : Nat) (vs : List RwS) (w : World) (hr : MoRd w 0 smM A B C 1 1 1 vs) (hf : Nds w 0 F fc noF) : Calls Tryz.prog 18 #[.agg #[.int .i64 1, .slice A 1 1, .slice B 1 1, .slice C 1 1], .slice F 2 fc] w fun e w' => ∃ (H L : Option Addr) (hn ch ln cl : Nat), e = .returned (.tuple #[.bool false, .agg #[.slice H hn ch, .slice L ln cl], .int .i64 0]) ∧ 0 < ln ∧ Below w.heap.size w w' := by
  refine (modelHolds_ smM (fun _ => sm_raw) noF A B C F 1 1 1 fc vs w hr hf).mono ?_
  rintro e w' ⟨⟨ok, x, H, L, ch, cl, rfl, _, _, his⟩, hb⟩
  obtain ⟨rfl, hp⟩ := sm_no his
  have h1 : hoE smM noF = 0 := by unfold hoE; rw [if_pos sm_ck]; exact noF_e
  rw [h1]
  exact ⟨H, L, _, ch, _, cl, rfl, hp, hb⟩
theorem SmAsk_ (A B C : Option Addr) (vs : List RwS) (w : World) (hr : MoRd w 0 smM A B C 1 1 1 vs) : Calls Tryz.prog 13 #[.agg #[.int .i64 1, .slice A 1 1, .slice B 1 1, .slice C 1 1], .string ⟨#[88, 112, 48]⟩] w fun e w' => e = .returned (.tuple #[.string ⟨#[104, 111, 108, 100, 115, 10]⟩, .int .i64 0]) ∧ Below w.heap.size w w' := by
  refine (modelAsk_ smM (fun _ => sm_raw) nxS ⟨#[88, 112, 48]⟩ rfl (fun i h => by
    have h : i < 3 := h
    match i, h with
    | 0, _ => rfl
    | 1, _ => rfl
    | 2, _ => rfl) A B C 1 1 1 vs ⟨#[]⟩ (by decide) w hr (fun h => absurd (by rw [nxS_r]) h)).mono ?_
  rintro e w' ⟨⟨ok, x, rfl, his⟩, hb⟩
  have h0 : (readV nxS).2.2 = 0 := by rw [nxS_r]
  have h1 : (readV nxS).1 = nxF := by rw [nxS_r]
  have h2 := his sm_ck h0
  rw [h1] at h2
  obtain rfl := sm_nx h2
  have h3 : hoE smM nxF = 0 := by unfold hoE; rw [if_pos sm_ck]; exact nxF_e
  refine ⟨?_, hb⟩
  unfold askS askE
  rw [if_pos sm_ck, if_pos sm_ck, if_pos h0, if_pos h0, h1, if_pos h3, if_pos rfl, h3]
end Go.Proofs.YtoglgeaiiipchabGreatDoor

namespace Go.Proofs.YtoglgeaiiipchabGreatDoor
open Go Go.RowKit Go.Sort Go.Shelf
theorem nodes_row {W : World} {b : Nat} {f : List Nd} (h : W.heap[b]? = some (.cells (f.flatMap Nd.cells).toArray 90 (0, 0))) (hl : f.length ≤ 1000) : Nds W 0 (some ⟨b, 0, none⟩) f.length f :=
  ⟨Nat.le_refl _, by omega, by omega, fun _ => ⟨b, 0, rfl, Nat.zero_le _, (Array.getElem?_eq_some_iff.1 h).1, fun j u hj => by
    rw [Nat.zero_add]
    simp only [World.cell?, h]
    simpa using hj⟩⟩
theorem prN (W : World) : Nds (W.alloc (Obj.cells #[.int .i64 2, .int .i64 0, .int .i64 0, .int .i64 0] 90)) 0 (some ⟨W.heap.size, 0, none⟩) 1 prF := nodes_row (f := prF) (World.alloc_heap_new W _) (by decide)
theorem noN (W : World) : Nds (W.alloc (Obj.cells #[.int .i64 2, .int .i64 0, .int .i64 0, .int .i64 0, .int .i64 3, .int .i64 0, .int .i64 0, .int .i64 0] 90)) 0 (some ⟨W.heap.size, 0, none⟩) 2 noF := nodes_row (f := noF) (World.alloc_heap_new W _) (by decide)
set_option maxRecDepth 100000 in
set_option maxHeartbeats 8000000 in
theorem modelBegun_ (w : World) : Calls Tryz.prog 15 #[] w (BoolPost w true) := by
  go_enter Tryz.func15, Tryz.ntmps15
  go_wp2_with fail
  refine (small_ _).mono ?_
  rintro e w1 ⟨A1, B1, C1, vs1, rfl, hr1, hb1⟩
  have HR1 := Lib.hid hr1
  have HB1 := Lib.hid hb1
  clear hr1 hb1
  go_wp2_with fail
  refine (SmAuto_ _ _ _ _ _ HR1.out).mono ?_
  rintro e w2 ⟨st, A2, B2, C2, n1, n2, n3, ca, cb, cc, rfl, hb2⟩
  have hba : Below w2.heap.size w2 (w2.alloc (Obj.cells #[.int .i64 st, .int .i64 8, .slice A2 n1 ca, .slice B2 n2 cb, .slice C2 n3 cc] 26)) := (Below.refl _ _).alloc (Nat.le_refl _) _
  have HX := Lib.hid (World.alloc_heap_new w2 (Obj.cells #[.int .i64 st, .int .i64 8, .slice A2 n1 ca, .slice B2 n2 cb, .slice C2 n3 cc] 26))
  have HB2 := Lib.hid (Below_on (Below_on HB1.out hb2 HB1.out.size) hba (Nat.le_trans HB1.out.size hb2.size))
  clear hb2 hba HR1 HB1
  go_upto_region 2 with fail
  obtain ⟨X, hX⟩ : ∃ X, X = w2.heap.size := ⟨_, rfl⟩
  rw [← hX] at HX ⊢
  clear hX
  generalize w2.alloc (Obj.cells #[.int .i64 st, .int .i64 8, .slice A2 n1 ca, .slice B2 n2 cb, .slice C2 n3 cc] 26) = W2 at *
  go_wp2_with fail
  refine (small_ _).mono ?_
  rintro e w3 ⟨A3, B3, C3, vs3, rfl, hr3, hb3⟩
  have hba : Below w3.heap.size w3 (w3.alloc (Obj.cells #[.int .i64 2, .int .i64 0, .int .i64 0, .int .i64 0] 90)) := (Below.refl _ _).alloc (Nat.le_refl _) _
  have HR3 := Lib.hid (hr3.below hba)
  have HF3 := Lib.hid (prN w3)
  have HB3 := Lib.hid (Below_on hb3 hba hb3.size)
  clear hr3 hb3 hba
  go_wp2_with fail
  refine (SmPr_ _ _ _ _ _ _ _ HR3.out HF3.out).mono ?_
  rintro e w4 ⟨H4, L4, hn4, ch4, ln4, cl4, rfl, hb4⟩
  have hba : Below w4.heap.size w4 (w4.alloc (Obj.cells #[.slice H4 hn4 ch4, .slice L4 ln4 cl4] 28)) := (Below.refl _ _).alloc (Nat.le_refl _) _
  have HB4 := Lib.hid (Below_on (Below_on HB3.out hb4 HB3.out.size) hba (Nat.le_trans HB3.out.size hb4.size))
  clear hb4 hba HR3 HF3 HB3
  go_upto_region 3 with fail
  generalize w4.alloc (Obj.cells #[.slice H4 hn4 ch4, .slice L4 ln4 cl4] 28) = W4 at *
  go_wp2_with fail
  refine (small_ _).mono ?_
  rintro e w5 ⟨A5, B5, C5, vs5, rfl, hr5, hb5⟩
  have hba : Below w5.heap.size w5 (w5.alloc (Obj.cells #[.int .i64 2, .int .i64 0, .int .i64 0, .int .i64 0, .int .i64 3, .int .i64 0, .int .i64 0, .int .i64 0] 90)) := (Below.refl _ _).alloc (Nat.le_refl _) _
  have HR5 := Lib.hid (hr5.below hba)
  have HF5 := Lib.hid (noN w5)
  have HB5 := Lib.hid (Below_on (Below_on HB4.out hb5 HB4.out.size) hba (Nat.le_trans HB4.out.size hb5.size))
  clear hr5 hb5 hba HB4
  go_wp2_with fail
  refine (SmNo_ _ _ _ _ _ _ _ HR5.out HF5.out).mono ?_
  rintro e w6 ⟨H6, L6, hn6, ch6, ln6, cl6, rfl, hp6, hb6⟩
  have hba : Below w6.heap.size w6 (w6.alloc (Obj.cells #[.slice H6 hn6 ch6, .slice L6 ln6 cl6] 28)) := (Below.refl _ _).alloc (Nat.le_refl _) _
  have HZ := Lib.hid (World.alloc_heap_new w6 (Obj.cells #[.slice H6 hn6 ch6, .slice L6 ln6 cl6] 28))
  have HB6 := Lib.hid (Below_on (Below_on HB5.out hb6 HB5.out.size) hba (Nat.le_trans HB5.out.size hb6.size))
  have HP6 := Lib.hid hp6
  clear hb6 hba hp6 HR5 HF5 HB5
  go_upto_region 4 with fail
  obtain ⟨Z, hZ⟩ : ∃ Z, Z = w6.heap.size := ⟨_, rfl⟩
  rw [← hZ] at HZ ⊢
  clear hZ
  generalize w6.alloc (Obj.cells #[.slice H6 hn6 ch6, .slice L6 ln6 cl6] 28) = W6 at *
  go_wp2_with fail
  refine (small_ _).mono ?_
  rintro e w7 ⟨A7, B7, C7, vs7, rfl, hr7, hb7⟩
  have HR7 := Lib.hid hr7
  have HB7 := Lib.hid hb7
  clear hr7 hb7
  go_wp2_with fail
  refine (SmAsk_ _ _ _ _ _ HR7.out).mono ?_
  rintro e w8 ⟨rfl, hb8⟩
  have HB8 := Lib.hid (Below_on HB7.out hb8 HB7.out.size)
  clear hb8 HR7 HB7
  go_wp2_with fail
  refine (small_ _).mono ?_
  rintro e w9 ⟨A9, B9, C9, vs9, rfl, hr9, hb9⟩
  have HR9 := Lib.hid hr9
  have HB9 := Lib.hid (Below_on HB8.out hb9 HB8.out.size)
  clear hr9 hb9 HB8
  go_wp2_with fail
  refine (SmCheck_ _ _ _ _ _ HR9.out).mono ?_
  rintro e w10 ⟨rfl, hb10⟩
  have HB10 := Lib.hid (Below_on HB9.out hb10 HB9.out.size)
  have hz := (HB10.out.block Z (Array.getElem?_eq_some_iff.1 HZ.out).1).trans HZ.out
  have hx4 := (HB6.out.block X (Array.getElem?_eq_some_iff.1 HX.out).1).trans HX.out
  have hx := (HB10.out.block X (Array.getElem?_eq_some_iff.1 hx4).1).trans hx4
  obtain ⟨x0, x1, x2, x3, x4, _⟩ := obj5 hx
  obtain ⟨z0, z1, _, _⟩ := moh_cells hz
  have HP : Hid (BoolPost w true (.returned (.bool true)) w10) := ⟨rfl, Below_on (Below_on HB2.out HB6.out HB2.out.size) HB10.out (Nat.le_trans HB2.out.size HB6.out.size)⟩
  have hp6 := HP6.out
  clear hb10 hz hx4 hx HR9 HB9 HB10 HP6
  go_wp2_with fail
  go_ret
  exact HP.out
end Go.Proofs.YtoglgeaiiipchabGreatDoor

namespace Go.Proofs.YtoglgeaiiipchabGreatDoor
open Go Go.RowKit Go.Sort
end Go.Proofs.YtoglgeaiiipchabGreatDoor

namespace Go.Proofs.YtoglgeaiiipchabGreatDoor
open Go Go.RowKit Go.Sort
set_option maxRecDepth 100000 in
set_option maxHeartbeats 1000000 in
theorem ReadFormula_ (s : List UInt8) (S : ByteArray) (hS : S.size = s.length) (hG : ∀ (i : Nat) (h : i < S.size), S[i]'h = chr s i) (w : World) :
    Calls Tryz.prog 16 #[.string S] w (ParsePost w (readV s)) := by
  by_cases hl : 2000 < s.length
  · have HR : Hid (readV s = ([], 0, 2)) := by unfold Hid readV; rw [if_pos hl]
    have hq : (2000 : Int) < (s.length : Int) := by omega
    clear hG
    go_enter Tryz.func16, Tryz.ntmps16
    go_wp2_with fail
    go_ret3
    rw [HR.out]
    exact ⟨none, 0, rfl, Nds.none _ _, Below.refl _ _⟩
  · have hq : ¬ (2000 : Int) < (s.length : Int) := by omega
    have HP := Lib.hid (nodeAt_ s (by omega) S hS hG w.heap.size (s.length + 1) 0 [] w (.slice none 0 0) (Nat.zero_le _) (by omega) (Nat.le_refl _) (Nat.le_refl _) (World.ownsRow_nil _ _ _ _))
    have HR : Hid (readV s = if (parseV s).2.2 = 0 then (if ckF (parseV s).1 = 0 then ((parseV s).1, 0, 0) else ([], 0, ckF (parseV s).1)) else ([], (parseV s).2.1, 1)) := by unfold Hid readV; rw [if_neg hl]
    clear hG
    go_enter Tryz.func16, Tryz.ntmps16
    go_wp2_with fail
    refine HP.out.mono ?_
    cases hr : prs s (s.length + 1) 0 with
    | error j =>
      have HR2 : Hid (readV s = ([], (j : Int), 1)) := by
        show _ = _
        rw [HR.out]
        unfold parseV
        rw [hr]
        rfl
      rintro e w1 ⟨rfl, hg⟩
      have HB : Hid (Below w.heap.size w w1) := (Below.refl _ _).grown hg (Nat.le_refl _) (fun k hk => by simp [Value.ownBlock] at hk)
      clear hg HP
      go_wp2_with fail
      go_ret3
      rw [HR2.out]
      exact ⟨none, 0, rfl, Nds.none _ _, HB.out⟩
    | ok q =>
      obtain ⟨t, j⟩ := q
      obtain ⟨p2, p6⟩ : j ≤ s.length ∧ (t.flat []).length ≤ 100000 := by
        obtain ⟨p1, _, _, p2⟩ := prs_ok _ _ hr
        have p3 := size_show t
        have p4 := t.flat_len []
        simp at p4
        omega
      rintro e w1 ⟨v, rfl, hown⟩
      obtain ⟨A, c, rfl, hn⟩ := hown.form (by omega)
      have HB : Hid (Below w.heap.size w w1) := (Below.refl _ _).grown hown.gr (Nat.le_refl _) (fun k hk => by simp [Value.ownBlock] at hk)
      have HN := Lib.hid hn
      have hle := hn.le
      have hcp := hn.cap
      have HK := Lib.hid (CheckFormula_ A c (t.flat []) w1 hn.zero)
      clear hown hn HP
      by_cases hj : j < s.length
      · have HR2 : Hid (readV s = ([], (j : Int), 1)) := by
          show _ = _
          rw [HR.out]
          unfold parseV
          rw [hr]
          simp [hj]
        have hq1 : (j : Int) < (s.length : Int) := by omega
        have hq2 : decide ((j : Int) < (s.length : Int)) = true := by simp; omega
        clear hj
        go_wp2_with fail
        go_ret3
        rw [HR2.out]
        exact ⟨none, 0, rfl, Nds.none _ _, HB.out⟩
      · have HR2 : Hid (readV s = if ckF (t.flat []) = 0 then (t.flat [], 0, 0) else ([], 0, ckF (t.flat []))) := by
          show _ = _
          rw [HR.out]
          unfold parseV
          rw [hr]
          simp [hj]
        have hq2 : decide ((j : Int) < (s.length : Int)) = false := by simp; omega
        have hq3 : decide (j < s.length) = false := by simp; omega
        clear hj
        generalize t.flat [] = o at *
        go_wp2_with fail
        refine HK.out.mono ?_
        rintro e w2 ⟨rfl, hb2⟩
        have HB2 := Lib.hid (Below_on HB.out hb2 HB.out.size)
        have HN2 := Lib.hid (HN.out.below hb2)
        clear hb2 HK
        by_cases hc : ckF o = 0
        · have HR3 : Hid (readV s = (o, 0, 0)) := by show _ = _; rw [HR2.out, if_pos hc]
          have e2 : (ckF o != 0) = false := by simp [hc]
          go_wp2_with fail
          go_ret3
          rw [HR3.out]
          exact ⟨A, c, rfl, HN2.out, HB2.out⟩
        · have HR3 : Hid (readV s = ([], 0, ckF o)) := by show _ = _; rw [HR2.out, if_neg hc]
          have e2 : (ckF o != 0) = true := by simpa using hc
          clear hc
          go_wp2_with fail
          go_ret3
          rw [HR3.out]
          exact ⟨none, 0, rfl, Nds.none _ _, HB2.out⟩
end Go.Proofs.YtoglgeaiiipchabGreatDoor

namespace Go.Proofs.YtoglgeaiiipchabGreatDoor
open Go.Lib
theorem decDigits_len6 {n : Nat} (h : n ≤ 999999) : (decDigits n).length ≤ 6 := by
  rw [decDigits_length]
  rcases Nat.lt_or_ge (nDigits n) 7 with h1 | h1
  · omega
  · exfalso
    have h2 : ∀ (k u : Nat), k + 1 ≤ nDigits u → 10 ^ k ≤ u ∨ k = 0 := by
      intro k
      induction k with
      | zero => intro u _; exact .inr rfl
      | succ k ih =>
        intro u hu
        by_cases h3 : u < 10
        · rw [nDigits_small h3] at hu; omega
        · rw [nDigits_big h3] at hu
          rcases ih (u / 10) (by omega) with h4 | h4
          · left; rw [Nat.pow_succ]; omega
          · subst h4; left; simp; omega
    rcases h2 6 n h1 with h3 | h3
    · have : (10 : Nat) ^ 6 = 1000000 := by decide
      omega
    · omega
end Go.Proofs.YtoglgeaiiipchabGreatDoor
namespace Go.Proofs.YtoglgeaiiipchabGreatDoor
open Go.Lib
def bStates : List UInt8 := [115, 116, 97, 116, 101, 115]
def bLetters : List UInt8 := [108, 101, 116, 116, 101, 114, 115]
def bFirst : List UInt8 := [102, 105, 114, 115, 116]
def bGood : List UInt8 := [103, 111, 111, 100]
def dn (n : Int) : List UInt8 := decDigits n.toNat
def sp (ns : List Int) : List UInt8 := ns.flatMap fun n => 32 :: dn n
def goodIdx (gs : List Bool) : List Int := ((List.range gs.length).filter fun i => gs.getD i false).map fun (i : Nat) => (i : Int)
def line0 (a : Au) : List UInt8 := bStates ++ 32 :: (dn a.st ++ 32 :: (bLetters ++ 32 :: dn a.le))
def line1 (a : Au) : List UInt8 := bFirst ++ sp a.fs
def line2 (a : Au) : List UInt8 := bGood ++ sp (goodIdx a.gs)
def stepX (s : Stp) : List UInt8 := dn s.f ++ 32 :: (dn s.l ++ 32 :: dn s.t)
def stepsT (ss : List Stp) : List UInt8 := ss.flatMap fun s => stepX s ++ [10]
def printA (a : Au) : List UInt8 := line0 a ++ 10 :: (line1 a ++ 10 :: (line2 a ++ 10 :: stepsT a.ss))
def nulA : Au := ⟨0, 0, [], [], []⟩
def pr (a : Au) : Nat → List UInt8
  | 0 => []
  | 1 => line0 a ++ [10]
  | 2 => line0 a ++ 10 :: (line1 a ++ [10])
  | _ + 3 => printA a
def Inv (a : Au) : Nat → Prop
  | 0 => a = nulA
  | 1 => 1 ≤ a.st ∧ a.gs = List.replicate a.st.toNat false ∧ a.ss = []
  | 2 => 1 ≤ a.st ∧ a.gs = List.replicate a.st.toNat false ∧ a.ss = []
  | _ + 3 => True
end Go.Proofs.YtoglgeaiiipchabGreatDoor
namespace Go.Proofs.YtoglgeaiiipchabGreatDoor
end Go.Proofs.YtoglgeaiiipchabGreatDoor

namespace Go.Proofs.YtoglgeaiiipchabGreatDoor
open Go Go.RowKit
def sB (bs : List UInt8) : ByteArray := ⟨bs.toArray⟩
theorem sB_app (a b : List UInt8) : sB a ++ sB b = sB (a ++ b) := by
  apply ByteArray.ext
  simp [sB, ByteArray.data_append]
theorem sB_size (a : List UInt8) : (sB a).size = a.length := by simp [sB, ByteArray.size]
end Go.Proofs.YtoglgeaiiipchabGreatDoor

namespace Go.Proofs.YtoglgeaiiipchabGreatDoor
open Go Go.RowKit
theorem convD1 (w : World) (n : Int) : (convert 93 9 (.slice (some ⟨w.heap.size, 0, none⟩) 1 1)).run Tryz.prog (w.alloc (Obj.cells #[.int .u8 n] 5)) = .ok (.string (sB [UInt8.ofNat n.toNat])) (w.alloc (Obj.cells #[.int .u8 n] 5)) := by
  rw [run_convert_bytes_string _ 93 9 5 _ 1 1 Tryz.underlying93 Tryz.underlying5 Tryz.underlying9]
  have hl := run_loadCells_list (P := Tryz.prog) (w.alloc (Obj.cells #[.int .u8 n] 5)) ⟨w.heap.size, 0, none⟩ [Value.int .u8 n] (fun j v hj => by
    have hj' : j < 1 := by
      have := (List.getElem?_eq_some_iff.1 hj).1
      simpa using this
    obtain rfl : j = 0 := by omega
    simp at hj
    rw [Addr_add_off, ← hj]
    go_simp)
  rw [run_bytesToString _ _ 1 1 [n] hl]
  rfl
set_option maxRecDepth 100000 in
theorem Digits0_ (n : Nat) (hn : n ≤ 9) (w : World) : Calls Tryz.prog 17 #[.int .i64 n] w fun e w' => e = .returned (.string (sB (Lib.decDigits n))) ∧ Below w.heap.size w w' := by
  have hcv := convD1
  have hd : Lib.decDigits n = [UInt8.ofNat (48 + n)] := Lib.decDigits_one (by omega)
  rw [hd]
  clear hd
  go_enter Tryz.func17, Tryz.ntmps17
  have h : n = 0 ∨ n = 1 ∨ n = 2 ∨ n = 3 ∨ n = 4 ∨ n = 5 ∨ n = 6 ∨ n = 7 ∨ n = 8 ∨ n = 9 := by omega
  rcases h with rfl | rfl | rfl | rfl | rfl | rfl | rfl | rfl | rfl | rfl
  all_goals
    go_wp2_with fail
    go_ret
    exact ⟨by rfl, by go_grown⟩
set_option maxRecDepth 100000 in
theorem DigitsN_ (n : Nat) : n ≤ 999999 → ∀ w : World, Calls Tryz.prog 17 #[.int .i64 n] w fun e w' => e = .returned (.string (sB (Lib.decDigits n))) ∧ Below w.heap.size w w' := by
  induction n using Nat.strongRecOn with
  | _ n ih =>
    intro hn w
    by_cases h9 : n ≤ 9
    · exact Digits0_ n h9 w
    · have HI := Lib.hid (ih (n / 10) (by omega) (by omega))
      have HJ := Lib.hid (Digits0_ (n % 10) (by omega))
      have hd : Lib.decDigits n = Lib.decDigits (n / 10) ++ Lib.decDigits (n % 10) := by
        rw [Lib.decDigits, dif_neg (by omega), Lib.decDigits_one (show n % 10 < 10 by omega)]
      have l1 := decDigits_len6 (n := n / 10) (by omega)
      have l2 := decDigits_len6 (n := n % 10) (by omega)
      have hz : ¬ 9223372036854775807 < (sB (Lib.decDigits (n / 10))).size + (sB (Lib.decDigits (n % 10))).size := by rw [sB_size, sB_size]; omega
      have HP : Hid (sB (Lib.decDigits (n / 10)) ++ sB (Lib.decDigits (n % 10)) = sB (Lib.decDigits n)) := by show _ = _; rw [hd, sB_app]
      have q1 : ¬ (n : Int) < 10 := by omega
      have d1 : (n : Int).tdiv 10 = ((n / 10 : Nat) : Int) := by rw [Int.tdiv_eq_ediv_of_nonneg (by omega)]; omega
      have d2 : (n : Int).tmod 10 = ((n % 10 : Nat) : Int) := by rw [Int.tmod_eq_emod_of_nonneg (by omega)]; omega
      clear ih hd l1 l2 h9
      generalize sB (Lib.decDigits (n / 10)) = S1 at *
      generalize sB (Lib.decDigits (n % 10)) = S2 at *
      generalize sB (Lib.decDigits n) = S3 at *
      go_enter Tryz.func17, Tryz.ntmps17
      go_wp2_with fail
      refine (HI.out w).mono ?_
      rintro e w1 ⟨rfl, hb1⟩
      have HB1 := Lib.hid hb1
      clear hb1
      go_wp2_with fail
      refine (HJ.out w1).mono ?_
      rintro e w2 ⟨rfl, hb2⟩
      have HB2 := Lib.hid (Below_on HB1.out hb2 HB1.out.size)
      clear hb2
      go_wp2_with fail
      go_ret
      exact ⟨by show Ending.returned (.string _) = _; first | rfl | rw [HP.out], HB2.out⟩
theorem Digits_ (n : Int) (h0 : 0 ≤ n) (h1 : n ≤ 999999) (w : World) : Calls Tryz.prog 17 #[.int .i64 n] w fun e w' => e = .returned (.string (sB (dn n))) ∧ Below w.heap.size w w' := by
  have := DigitsN_ n.toNat (by omega) w
  rwa [show ((n.toNat : Nat) : Int) = n by omega] at this
end Go.Proofs.YtoglgeaiiipchabGreatDoor
