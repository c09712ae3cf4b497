/- Spots as keys: what a key of such a map is. -/
import Derived.Test.YtoglgeaiiipchaaLBTM10
import Derived.Test.YtoglgeaiiipchaaLBTM11
import Derived.Test.YtoglgeaiiipchaaLBTM20
import Derived.Maps.OwnIn
import Derived.Maps.Ext
import Derived.DeepKeys4
import Derived.Test.YtoglgeaiiipchaaLBTM1
import Derived.Test.YtoglgeaiiipchaaProg
import Derived.ChangeKeysEq
set_option linter.unusedSimpArgs false
set_option linter.unusedVariables false
namespace Go.Proofs.Ytoglgeaiiipchaa
open Go Go.RowKit Go.Sort

def boErr (a b : Au) : Int := if rdErr a b = 0 then (if 300 < 3 * a.st * b.st ∨ 6000 < stepsN a b then 2 else 0) else rdErr a b
noncomputable def bothV (a b : Au) : Au := if boErr a b = 0 then pairOf a b (dd (sortS (rawP a b))) else nulAu
set_option maxRecDepth 100000 in
set_option maxHeartbeats 4000000 in
theorem Both_ (a b : Au) (A B C D E F : Option Addr) (ca cb cc cd ce cf : Nat) (w : World) (ha : AuRd w 0 a A B C ca cb cc) (hb : AuRd w 0 b D E F cd ce cf) :
    Calls Try.prog 29 #[.agg #[.int .i64 a.st, .int .i64 a.le, .slice A a.fs.length ca, .slice B a.gs.length cb, .slice C a.ss.length cc], .agg #[.int .i64 b.st, .int .i64 b.le, .slice D b.fs.length cd, .slice E b.gs.length ce, .slice F b.ss.length cf]] w (TnPost w (bothV a b) (boErr a b)) := by
  have HZ := au2z_is w a b A B C D E F ca cb cc cd ce cf
  unfold auW2 auW at HZ
  go_enter Try.func29, Try.ntmps29
  go_upto_region 1 with fail
  obtain ⟨V, hV⟩ : ∃ V, V = w.heap.size := ⟨_, rfl⟩
  rw [← hV] at HZ
  rw [show w.heap.size + 1 + 1 = V + 2 by omega, show w.heap.size + 1 = V + 1 by omega, ← hV]
  generalize ((w.alloc (Obj.cells #[.int .i64 a.st, .int .i64 a.le, .slice A a.fs.length ca, .slice B a.gs.length cb, .slice C a.ss.length cc] 49)).alloc (Obj.cells #[.int .i64 b.st, .int .i64 b.le, .slice D b.fs.length cd, .slice E b.gs.length ce, .slice F b.ss.length cf] 49)).alloc (Obj.cells #[.int .i64 0, .int .i64 0, .slice none 0 0, .slice none 0 0, .slice none 0 0] 49) = W0 at *
  have HB0 := Lib.hid HZ.below
  have HSZ := Lib.hid HZ.size
  have HV1 : Hid (∀ W, Below W0.heap.size W0 W → AuAt W V a A B C ca cb cc) := fun W h => HZ.at1.below h HZ.at1.lt
  have HV2 : Hid (∀ W, Below W0.heap.size W0 W → AuAt W (V + 1) b D E F cd ce cf) := fun W h => HZ.at2.below h HZ.at2.lt
  have HOB := Lib.hid HZ.obj
  have HA0 : Hid (∀ W, Below W0.heap.size W0 W → AuRd W 0 a A B C ca cb cc) := fun W h => (ha.below HZ.below).below h
  have HBR : Hid (∀ W, Below W0.heap.size W0 W → AuRd W 0 b D E F cd ce cf) := fun W h => (hb.below HZ.below).below h
  have HVV := Lib.hid hV
  have HRW : Hid (∀ W, Below W0.heap.size W0 W → W.heap[V + 2]? = some (.cells #[.int .i64 0, .int .i64 0, .slice none 0 0, .slice none 0 0, .slice none 0 0] 49 (0, 0))) := fun W h => (h.block _ (by have := HZ.size; omega)).trans HZ.obj
  have HBF : Hid (∀ W, Below W0.heap.size W0 W → ∀ u0 u1 u2 u3 u4, Below w.heap.size w (set5 W (V + 2) u0 u1 u2 u3 u4)) := fun W h u0 u1 u2 u3 u4 =>
    below_set5 (Below_on HB0.out h HB0.out.size) (by rw [← hV]; omega) _ _ _ _ _
  have HNUL : Hid (∀ W, Below W0.heap.size W0 W → ∀ n, boErr a b = n → n ≠ 0 → TnPost w (bothV a b) (boErr a b) (.returned (.tuple #[.agg #[.int .i64 0, .int .i64 0, .slice none 0 0, .slice none 0 0, .slice none 0 0], .int .i64 n])) (set5 W (V + 2) (.int .i64 0) (.int .i64 0) (.slice none 0 0) (.slice none 0 0) (.slice none 0 0))) := fun W h n hn h0 => by
    unfold bothV
    rw [if_neg (by rw [hn]; exact h0), hn]
    exact ⟨none, none, none, 0, 0, 0, rfl, nulAu_rd _ _, HBF.out _ h _ _ _ _ _⟩
  have HOO : Hid (∀ W, Below W0.heap.size W0 W → ∀ v0 v1 v2 v3 v4, (set5 W (V + 2) v0 v1 v2 v3 v4).heap[V + 2]? = some (.cells #[v0, v1, v2, v3, v4] 49 (0, 0))) := fun W h v0 v1 v2 v3 v4 => set5_heap (HRW.out W h) _ _ _ _ _
  obtain ⟨_, c0, c1, c2, c3, c4⟩ := HZ.at1
  obtain ⟨_, d0, d1, d2, d3, d4⟩ := HZ.at2
  have HRY := Lib.hid (ready_ a b A B C D E F ca cb cc cd ce cf W0 (HA0.out _ (Below.refl _ _)) (HBR.out _ (Below.refl _ _)))
  clear HZ ha hb hV
  go_wp2_with fail
  refine HRY.out.mono ?_
  rintro e w1 ⟨rfl, hb1⟩
  have HB1 := Lib.hid hb1
  clear hb1 HRY c0 c1 c2 c3 c4 d0 d1 d2 d3 d4
  obtain ⟨r0, r1, r2, r3, r4, rf0, rf1, rf2, rf3, rf4⟩ := obj5 (HRW.out _ HB1.out)
  by_cases hr0 : rdErr a b = 0
  · have hr1 : (rdErr a b != 0) = false := by simp [hr0]
    obtain ⟨hka, hkb, hle⟩ := rdErr_zero.1 hr0
    obtain ⟨hoa, hsoa⟩ := ckA_zero.1 hka
    obtain ⟨hob, hsob⟩ := ckA_zero.1 hkb
    have HFA := Lib.hid (hoa.fit hsoa)
    have HFB := Lib.hid (hob.fit hsob)
    have HR0 := Lib.hid hr0
    have sa1 := hoa.st1
    have sa2 := hoa.st2
    have sb1 := hob.st1
    have sb2 := hob.st2
    have la := hoa.sl
    have lb := hob.sl
    obtain ⟨NA, hNA⟩ := Int.eq_ofNat_of_zero_le (show 0 ≤ a.st by omega)
    obtain ⟨NB, hNB⟩ := Int.eq_ofNat_of_zero_le (show 0 ≤ b.st by omega)
    have hmul : a.st * b.st = ((NA * NB : Nat) : Int) := by rw [hNA, hNB]; simp
    have hM : NA * NB ≤ 300 * 300 := Nat.mul_le_mul (by omega) (by omega)
    obtain ⟨P, hP⟩ : ∃ P : Int, P = 3 * a.st * b.st := ⟨_, rfl⟩
    have hP2 : P = 3 * ((NA * NB : Nat) : Int) := by rw [hP, Int.mul_assoc, hmul]
    have hPb : 0 ≤ P ∧ P ≤ 1000000 := by rw [hP2]; omega
    have q1 : IntKind.i64.wrap (3 * a.st) = 3 * a.st := wr64 (by omega) (by omega)
    have q2 : IntKind.i64.wrap (3 * a.st * b.st) = P := by rw [wr64 (by omega) (by omega), hP]
    have HSN := Lib.hid (stepsTo_all a b)
    have hsn : stepsN a b ≤ 6000 * (3 * 6000) := by
      rw [← stepsTo_all]
      exact Nat.le_trans (stepsTo_le a b _) (Nat.mul_le_mul la (by omega))
    have HST := Lib.hid (fun W (hW : Below W0.heap.size W0 W) => bothSteps_ a b A B C D E F ca cb cc cd ce cf W (HA0.out W hW) (HBR.out W hW) hoa hob hle)
    have HPAR := Lib.hid (fun (hsn6 : stepsN a b ≤ 6000) W (hW : Below W0.heap.size W0 W) => Pair_ a b A B C D E F ca cb cc cd ce cf W (HA0.out W hW) (HBR.out W hW) HFA.out HFB.out (by omega) (by omega) (by omega) (by omega))
    have HNO : Hid (∀ W, Below W0.heap.size W0 W → (300 < P ∨ 6000 < stepsN a b) → TnPost w (bothV a b) (boErr a b) (.returned (.tuple #[.agg #[.int .i64 0, .int .i64 0, .slice none 0 0, .slice none 0 0, .slice none 0 0], .int .i64 2])) (set5 W (V + 2) (.int .i64 0) (.int .i64 0) (.slice none 0 0) (.slice none 0 0) (.slice none 0 0))) := fun W h hc => HNUL.out W h 2 (by unfold boErr; rw [if_pos HR0.out, if_pos (by rw [← hP]; exact hc)]) (by decide)
    have HYE : Hid (¬ (300 < P ∨ 6000 < stepsN a b) → boErr a b = 0 ∧ bothV a b = pairOf a b (dd (sortS (rawP a b)))) := fun hc => by
      have h1 : boErr a b = 0 := by unfold boErr; rw [if_pos HR0.out, if_neg (by rw [← hP]; exact hc)]
      exact ⟨h1, by unfold bothV; rw [if_pos h1]⟩
    obtain ⟨_, c0, c1, c2, c3, c4⟩ := HV1.out _ HB1.out
    obtain ⟨_, d0, d1, d2, d3, d4⟩ := HV2.out _ HB1.out
    clear hr0 hka hkb hle HNUL hoa hob hsoa hsob hmul hM hP2 hP hNA hNB
    by_cases h3 : 300 < P
    · have HP := Lib.hid (HNO.out _ HB1.out (.inl h3))
      have HO1 := Lib.hid (HOO.out _ HB1.out (.int .i64 0) (.int .i64 0) (.slice none 0 0) (.slice none 0 0) (.slice none 0 0))
      go_wp2_with fail
      exact bodyPost_ret (retAuX Try.results29 _ _ (V + 2) rfl rfl HO1.out) rfl HP.out
    · go_wp2_with fail
      refine (HST.out _ HB1.out).mono ?_
      rintro e w2 ⟨rfl, hb2⟩
      have HB2 := Lib.hid (Below_on HB1.out hb2 HB1.out.size)
      clear hb2 HST c0 c1 c2 c3 c4 d0 d1 d2 d3 d4 r0 r1 r2 r3 r4 rf0 rf1 rf2 rf3 rf4
      obtain ⟨r0, r1, r2, r3, r4, rf0, rf1, rf2, rf3, rf4⟩ := obj5 (HRW.out _ HB2.out)
      by_cases h6 : 6000 < stepsN a b
      · have HP := Lib.hid (HNO.out _ HB2.out (.inr h6))
        have HO1 := Lib.hid (HOO.out _ HB2.out (.int .i64 0) (.int .i64 0) (.slice none 0 0) (.slice none 0 0) (.slice none 0 0))
        have h6' : (6000 : Int) < ((stepsN a b : Nat) : Int) := by omega
        generalize stepsN a b = sn at *
        go_wp2_with fail
        exact bodyPost_ret (retAuX Try.results29 _ _ (V + 2) rfl rfl HO1.out) rfl HP.out
      · obtain ⟨hz, hv⟩ := HYE.out (by omega)
        have HZ2 := Lib.hid hz
        have HVV2 := Lib.hid hv
        have h6' : ¬ (6000 : Int) < ((stepsN a b : Nat) : Int) := by omega
        obtain ⟨_, c0, c1, c2, c3, c4⟩ := HV1.out _ HB2.out
        obtain ⟨_, d0, d1, d2, d3, d4⟩ := HV2.out _ HB2.out
        have HPAR2 := Lib.hid (HPAR.out (by omega))
        clear hz hv HNO HYE HPAR
        generalize stepsN a b = sn at *
        go_wp2_with fail
        refine (HPAR2.out _ HB2.out).mono ?_
        rintro e w3 ⟨A', B', C', ca', cb', cc', rfl, hrd, hb3⟩
        have HB3 := Lib.hid (Below_on HB2.out hb3 HB2.out.size)
        have HRD := Lib.hid hrd
        have HS3 := Lib.hid hb3.size
        clear hb3 hrd HPAR2 c0 c1 c2 c3 c4 d0 d1 d2 d3 d4 r0 r1 r2 r3 r4 rf0 rf1 rf2 rf3 rf4
        obtain ⟨r0, r1, r2, r3, r4, rf0, rf1, rf2, rf3, rf4⟩ := obj5 (HRW.out _ HB3.out)
        generalize pairOf a b (dd (sortS (rawP a b))) = p at *
        have HP : Hid (TnPost w (bothV a b) (boErr a b) (.returned (.tuple #[.agg #[.int .i64 p.st, .int .i64 p.le, .slice A' p.fs.length ca', .slice B' p.gs.length cb', .slice C' p.ss.length cc'], .int .i64 0])) (set5 w3 (V + 2) (.int .i64 p.st) (.int .i64 p.le) (.slice A' p.fs.length ca') (.slice B' p.gs.length cb') (.slice C' p.ss.length cc'))) := by
          rw [HZ2.out, HVV2.out]
          exact ⟨A', B', C', ca', cb', cc', rfl, (HRD.out.set5_ (by have := HSZ.out; have := HB2.out.size; omega) _ _ _ _ _).low (by have := HB0.out.size; have := HB2.out.size; omega), HBF.out _ HB3.out _ _ _ _ _⟩
        have HO1 := Lib.hid (HOO.out _ HB3.out (.int .i64 p.st) (.int .i64 p.le) (.slice A' p.fs.length ca') (.slice B' p.gs.length cb') (.slice C' p.ss.length cc'))
        go_wp2_with fail
        exact bodyPost_ret (retAuX Try.results29 _ _ (V + 2) rfl rfl HO1.out) rfl HP.out
  · have hr1 : (rdErr a b != 0) = true := by simp [hr0]
    have HP := Lib.hid (HNUL.out _ HB1.out (rdErr a b) (by unfold boErr; rw [if_neg hr0]) hr0)
    have HO1 := Lib.hid (HOO.out _ HB1.out (.int .i64 0) (.int .i64 0) (.slice none 0 0) (.slice none 0 0) (.slice none 0 0))
    clear hr0
    generalize rdErr a b = rd at *
    go_wp2_with fail
    exact bodyPost_ret (retAuX Try.results29 _ _ (V + 2) rfl rfl HO1.out) rfl HP.out
end Go.Proofs.Ytoglgeaiiipchaa

namespace Go.Proofs.Ytoglgeaiiipchaa
open Go Go.RowKit Go.Maps

def spC (y : Int × Nat) : List Value := [.int .i64 y.1, .int .i64 y.2]
def spKey (y : Int × Nat) : Lit := .string (keyBytes [.int .i64 y.1, .int .i64 y.2])
/-- a spot whose numbers are of Go's ints -/
def SpW (y : Int × Nat) : Prop := (Lit.int .i64 y.1).wf = true ∧ (Lit.int .i64 (y.2 : Int)).wf = true
theorem spLaid : laidOutB Try.prog = true := by kernel_rfl
theorem spWide : (match Try.prog.underlying 85 with | some (.array _ _) | some (.struct _) => true | _ => false) = true := by kernel_rfl
theorem spRow : (85 : TypeId) < Try.prog.types.size := of_decide_eq_true (by kernel_rfl)
set_option maxRecDepth 100000 in
theorem spLaw : Keyed Try.prog 85 := Keyed.of_law (deep_law_laid spLaid (m := 2) (by decide) spRow (by kernel_rfl) spWide)
theorem ex_succ {n m : Nat} (h : m < n) : ∃ k, n = k + 1 := ⟨n - 1, by omega⟩
theorem spKeyOf {y : Int × Nat} (h : SpW y) : keyOf Try.prog 85 (.agg #[.int .i64 y.1, .int .i64 y.2]) = some (spKey y) := by
  obtain ⟨k, hk⟩ : ∃ k, Try.prog.types.size = k + 1 := ex_succ spRow
  have h1 : ∀ (a : Int), (Lit.int .i64 a).wf = true → Try.prog.keyLits (k + 1) 3 [.int .i64 a] = some [.int .i64 a] := fun a ha => by
    simp [Program.keyLits, Try.underlying3, ha]
  have hc : Try.prog.cellsOf 85 = 2 := by kernel_rfl
  have hc1 : Try.prog.cellsOf 3 = 1 := by kernel_rfl
  have ht : Try.prog.keyType 85 = true := by kernel_rfl
  have hf : (Value.agg #[.int .i64 y.1, .int .i64 (y.2 : Int)]).formed Try.prog 85 = true := by simp [Value.formed, Try.underlying85, hc]
  have hl : Try.prog.keyLits (Try.prog.types.size + 1) 85 [.int .i64 y.1, .int .i64 (y.2 : Int)] = some [.int .i64 y.1, .int .i64 (y.2 : Int)] := by
    rw [hk]
    unfold Program.keyLits
    simp only [Try.underlying85, hc]
    simp [hc1, h1 _ h.1, h1 _ h.2]
  unfold keyOf
  simp only [Try.underlying85, ht, hf, Bool.and_self, if_true]
  show (Option.map _ (Try.prog.keyLits (Try.prog.types.size + 1) 85 [.int .i64 y.1, .int .i64 (y.2 : Int)])) = _
  rw [hl]
  rfl
theorem spKey_inj {y z : Int × Nat} (hy : SpW y) (hz : SpW z) (h : spKey y = spKey z) : y = z := by
  unfold spKey at h
  have h := keyBytes_inj (l := [.int .i64 y.1, .int .i64 y.2]) (l' := [.int .i64 z.1, .int .i64 z.2]) ⟨rfl, rfl, trivial⟩ (fun a ha => by rcases List.mem_cons.1 ha with rfl | ha; exact hy.1; rw [List.mem_singleton.1 ha]; exact hy.2) (fun a ha => by rcases List.mem_cons.1 ha with rfl | ha; exact hz.1; rw [List.mem_singleton.1 ha]; exact hz.2) (by simpa using h)
  simp at h
  exact Prod.ext h.1 (by omega)
/-- the set of the spots of a list, as a map -/
def oneU : DataW Unit := .lit (.int .i64 1)
def MapAt (W : World) (M : Nat) (L : List (Int × Nat)) : Prop := W.ownsMap Try.prog 85 (plainElem (H := Unit) Try.prog 3) M L.length (setOf oneU (L.map spKey))
theorem isMap_setOf (u : DataW Unit) (acc : List Lit) : IsMap (setOf u acc) := by
  unfold setOf
  have : ∀ (acc : List Lit) (m : DataW Unit), IsMap m → IsMap (acc.foldl (fun m x => m.put x u) m) := by
    intro acc
    induction acc with
    | nil => exact fun m h => h
    | cons x r ih => exact fun m h => ih _ (h.put x u)
  exact this acc _ isMap_empty
theorem atKey_fold_not (u z : DataW Unit) {k : Lit} : ∀ (acc : List Lit) (m : DataW Unit), k ∉ acc → (acc.foldl (fun m x => m.put x u) m).atKey k z = m.atKey k z
  | [], m, _ => rfl
  | x :: r, m, h => by
    rw [List.foldl_cons, atKey_fold_not u z r (m.put x u) (fun h' => h (List.mem_cons_of_mem _ h')), atKey_put_other (fun e => h (by rw [e]; exact List.mem_cons_self ..))]
theorem atKey_fold_in (u z : DataW Unit) {k : Lit} (hk : WideAt.IsKeyLit k) : ∀ (acc : List Lit) (m : DataW Unit), IsMap m → k ∈ acc → (acc.foldl (fun m x => m.put x u) m).atKey k z = u
  | [], m, _, h => by cases h
  | x :: r, m, hm, h => by
    rw [List.foldl_cons]
    by_cases hr : k ∈ r
    · exact atKey_fold_in u z hk r (m.put x u) (hm.put x u) hr
    · obtain rfl : k = x := (List.mem_cons.1 h).resolve_right hr
      rw [atKey_fold_not u z r _ hr, atKey_put_same hm hk]
theorem spKey_mem {L : List (Int × Nat)} (hL : ∀ y ∈ L, SpW y) {y : Int × Nat} (hy : SpW y) : spKey y ∈ L.map spKey ↔ y ∈ L := by
  constructor
  · intro h
    obtain ⟨z, hz, he⟩ := List.mem_map.1 h
    rw [← spKey_inj (hL z hz) hy he]
    exact hz
  · exact fun h => List.mem_map_of_mem h
theorem MapAt.at_ {L : List (Int × Nat)} (hL : ∀ y ∈ L, SpW y) {y : Int × Nat} (hy : SpW y) : (setOf oneU (L.map spKey)).atKey (spKey y) (.lit (.int .i64 0)) = .lit (.int .i64 (if y ∈ L then 1 else 0)) := by
  unfold setOf
  by_cases h : y ∈ L
  · rw [atKey_fold_in oneU _ (show WideAt.IsKeyLit (spKey y) from trivial) _ _ isMap_empty ((spKey_mem hL hy).2 h), if_pos h]; rfl
  · rw [atKey_fold_not oneU _ _ _ (fun h' => h ((spKey_mem hL hy).1 h')), if_neg h]; rfl
theorem MapAt.has {L : List (Int × Nat)} (hL : ∀ y ∈ L, SpW y) {y : Int × Nat} (hy : SpW y) : Maps.has (setOf oneU (L.map spKey)) (spKey y) = true ↔ y ∈ L := by
  rw [has_setOf oneU _ _ (fun x hx => by obtain ⟨z, _, rfl⟩ := List.mem_map.1 hx; exact trivial), List.any_eq_true]
  constructor
  · rintro ⟨x, hx, he⟩
    rw [WideAt.sameKey_eq he] at hx
    exact (spKey_mem hL hy).1 hx
  · exact fun h => ⟨spKey y, List.mem_map_of_mem h, WideAt.sameKey_self trivial⟩
theorem MapAt.made (w : World) : MapAt (w.alloc (.map #[] 0)) w.heap.size [] := World.ownsMap_made _ _ _ _
theorem MapAt.below {W W' : World} {M : Nat} {L : List (Int × Nat)} (h : MapAt W M L) (hb : Below W.heap.size W W') : MapAt W' M L :=
  World.ownsMap.kept (row := none) h ⟨hb.os, hb.tape, hb.output, hb.size, fun k hk _ => hb.block k hk⟩ (by simp)
theorem MapAt.lt {W : World} {M : Nat} {L : List (Int × Nat)} (h : MapAt W M L) : M < W.heap.size := World.ownsMap.lt h
theorem MapAt.step {L : List (Int × Nat)} {y : Int × Nat} {W : World} {M : Nat} (h : W.ownsMap Try.prog 85 (plainElem (H := Unit) Try.prog 3) M (L.length + 1) ((setOf oneU (L.map spKey)).put (spKey y) oneU)) : MapAt W M (L ++ [y]) := by
  unfold MapAt
  rw [List.map_append, List.map_cons, List.map_nil, setOf_snoc, List.length_append]
  exact h

/-- a row that the call made, of spots -/
def FromIs (W : World) (lo : Nat) (v : Value) (fr : List (Int × Nat)) : Prop := W.ownsRow lo 85 2 v fr.length (fr.flatMap spC)
theorem infoSpot : (Try.prog.info? 85).map (fun i => (i.zero, i.size, i.bytes)) = some (some (.agg #[.int .i64 0, .int .i64 0]), 2, 16) := by kernel_rfl
theorem spC_len (y : Int × Nat) : (spC y).length = 2 := rfl
theorem FromIs.pop {W : World} {lo n c : Nat} {A : Option Addr} {fr : List (Int × Nat)} {y : Int × Nat} (h : FromIs W lo (.slice A n c) (fr ++ [y])) : FromIs W lo (.slice A fr.length c) fr := by
  obtain ⟨h1, h2⟩ := h
  refine ⟨flatMap_len spC_len fr, ?_⟩
  rcases h2 with ⟨_, h2⟩ | ⟨g, cap, cur, hv, hg, hh, hn, hc, hs, ht⟩
  · simp at h2
  · simp at hv
    obtain ⟨rfl, rfl, rfl⟩ := hv
    rw [List.length_append] at hn ht
    refine .inr ⟨g, c, cur, rfl, hg, hh, by simp at hn; omega, hc, hs, ?_⟩
    have h3 := congrArg (List.take (fr.length * 2)) ht
    rw [List.take_take, Nat.min_eq_left (by simp; omega), List.flatMap_append, ← flatMap_len spC_len fr, List.take_left] at h3
    rw [← flatMap_len spC_len fr]
    exact h3
/-- the first n elements of a row are spots of a set -/
def RowIn (W : World) (r n : Nat) (S : Int × Nat → Prop) : Prop :=
  ∃ cur, W.heap[r]? = some (.cells cur 85 (0, 0)) ∧ n * 2 ≤ cur.size ∧ ∀ j, j < n → ∃ y, S y ∧ cur.toList[j * 2]? = some (.int .i64 y.1) ∧ cur.toList[j * 2 + 1]? = some (.int .i64 (y.2 : Int))
theorem RowIn.mono {W : World} {r n : Nat} {S S' : Int × Nat → Prop} (h : RowIn W r n S) (hs : ∀ y, S y → S' y) : RowIn W r n S' := by
  obtain ⟨cur, h1, h2, h3⟩ := h
  exact ⟨cur, h1, h2, fun j hj => by obtain ⟨y, hy, h4⟩ := h3 j hj; exact ⟨y, hs y hy, h4⟩⟩
theorem RowIn.heap {W W' : World} {r n : Nat} {S : Int × Nat → Prop} (h : RowIn W r n S) (he : W'.heap[r]? = W.heap[r]?) : RowIn W' r n S := by
  obtain ⟨cur, h1, h2⟩ := h
  exact ⟨cur, he.trans h1, h2⟩
theorem RowIn.lt {W : World} {r n : Nat} {S : Int × Nat → Prop} (h : RowIn W r n S) : r < W.heap.size := by
  obtain ⟨cur, h1, _⟩ := h
  exact (Array.getElem?_eq_some_iff.1 h1).1
theorem RowIn.of_from {W : World} {lo n r c : Nat} {fr : List (Int × Nat)} (h : FromIs W lo (.slice (some ⟨r, 0, none⟩) n c) fr) : RowIn W r fr.length (· ∈ fr) := by
  obtain ⟨h1, h2⟩ := h
  rcases h2 with ⟨h2, _⟩ | ⟨g, cap, cur, hv, hg, hh, hn, hc, hs, ht⟩
  · simp at h2
  · simp at hv
    obtain ⟨rfl, rfl, rfl⟩ := hv
    have hle := Nat.mul_le_mul_right 2 hn
    refine ⟨cur, hh, by omega, fun j hj => ⟨fr[j], List.getElem_mem hj, ?_⟩⟩
    have e : ∀ i u, (spC fr[j])[i]? = some u → cur.toList[j * 2 + i]? = some u := fun i u hu => by
      have := flatMap_get spC_len fr j hj i u hu
      rw [← ht] at this
      rw [List.getElem?_take] at this
      split at this
      · exact this
      · cases this
    exact ⟨e 0 _ rfl, e 1 _ rfl⟩
set_option maxRecDepth 100000 in
theorem run_append_sp {W : World} {lo : Nat} {v : Value} {fr : List (Int × Nat)} {y : Int × Nat} {B : Nat} (ty : TypeId) (hown : FromIs W lo v fr) (hB : W.heap[B]? = some (.cells #[.int .i64 y.1, .int .i64 (y.2 : Int)] 85 (0, 0))) (hl : fr.length ≤ 10000000) (hlo : lo ≤ W.heap.size) :
    ∃ v' W', (Builtin.append_ #[83, 83] ty #[v, .slice (some ⟨B, 0, none⟩) 1 1]).run Try.prog W = .ok v' W' ∧ FromIs W' lo v' (fr ++ [y]) ∧ W.grownBy W' v.ownBlock ∧
      (v'.ownBlock = v.ownBlock ∨ v'.ownBlock = some W.heap.size) ∧ ∀ r n S, RowIn W r n S → S y → RowIn W' r n S := by
  obtain ⟨i0, hi0, hz0, hz1, hz2⟩ := info_parts infoSpot
  have hnews : ∀ j u, (spC y)[j]? = some u → W.cell? ((⟨B, 0, none⟩ : Addr).add j) = some u := fun j u hu => by
    rw [Addr_add_off]
    simp only [World.cell?, hB, Nat.zero_add]
    match j, hu with
    | 0, hu => simpa [spC] using hu
    | 1, hu => simpa [spC] using hu
  have h1 : ∀ u ∈ spC y, u.oneCell' = true := by
    intro u hu
    simp only [spC, List.mem_cons, List.not_mem_nil, or_false] at hu
    rcases hu with rfl | rfl <;> rfl
  obtain ⟨v', W', hrun, ho, hg, _, hat⟩ := run_append_own_at (P := Try.prog) W lo 83 ty 85 i0 _ 2 16 Try.underlying83 hi0 hz0 hz1 hz2 rfl (by decide) v fr.length _ hown ⟨B, 0, none⟩ 1 1 (spC y) rfl hnews h1 (by unfold maxLen; omega) (by omega) hlo
  refine ⟨v', W', hrun, ?_, hg, hat, fun r n S hr hy => ?_⟩
  · unfold FromIs
    rw [List.length_append, List.flatMap_append]
    simpa using ho
  · by_cases hrv : v.ownBlock = some r
    · rcases hown.2 with ⟨rfl, _⟩ | ⟨g, cap, cur, rfl, hgl, hh, hn, hc, hs, ht⟩
      · cases hrv
      · obtain rfl : g = r := by simpa [Value.ownBlock] using hrv
        obtain ⟨cur', hh', hn2, hall⟩ := hr
        obtain rfl : cur' = cur := by rw [hh] at hh'; injection hh' with e; injection e with e1; exact e1.symm
        by_cases hroom : fr.length + 1 ≤ cap
        · have hR := run_append_room (P := Try.prog) W 83 ty 85 i0 Try.underlying83 hi0 g fr.length cap cur' hh ⟨B, 0, none⟩ 1 1 (spC y) (by rw [hz1]; rfl) hnews h1 hroom (by rw [hz1, hs, spC_len]; omega)
          rw [hrun] at hR
          injection hR with _ hW
          rw [hz1] at hW
          subst hW
          refine ⟨_, setRow_heap W g cur' _ _ _ hh, ?_, fun j hj => ?_⟩
          · simp only [List.size_toArray, List.length_append, List.length_take, List.length_drop, Array.length_toList, spC_len]
            omega
          · have hL : (cur'.toList.take (fr.length * 2)).length = fr.length * 2 := by simp; omega
            rcases Nat.lt_trichotomy j fr.length with h2 | h2 | h2
            · obtain ⟨z, hz, z1, z2⟩ := hall j hj
              refine ⟨z, hz, ?_, ?_⟩
              · rw [List.append_assoc, List.getElem?_append_left (by omega), List.getElem?_take_of_lt (by omega)]; exact z1
              · rw [List.append_assoc, List.getElem?_append_left (by omega), List.getElem?_take_of_lt (by omega)]; exact z2
            · subst h2
              refine ⟨y, hy, ?_, ?_⟩
              · rw [List.append_assoc, List.getElem?_append_right (by omega), hL, Nat.sub_self]; rfl
              · rw [List.append_assoc, List.getElem?_append_right (by omega), hL, show fr.length * 2 + 1 - fr.length * 2 = 1 by omega]; rfl
            · obtain ⟨z, hz, z1, z2⟩ := hall j hj
              have hL2 : (cur'.toList.take (fr.length * 2) ++ spC y).length = fr.length * 2 + 2 := by rw [List.length_append, hL, spC_len]
              refine ⟨z, hz, ?_, ?_⟩
              · rw [List.getElem?_append_right (by omega), hL2, List.getElem?_drop, spC_len, show fr.length * 2 + 2 + (j * 2 - (fr.length * 2 + 2)) = j * 2 by omega]; exact z1
              · rw [List.getElem?_append_right (by omega), hL2, List.getElem?_drop, spC_len, show fr.length * 2 + 2 + (j * 2 + 1 - (fr.length * 2 + 2)) = j * 2 + 1 by omega]; exact z2
        · have holds : ∀ j u, (fr.flatMap spC)[j]? = some u → W.cell? ((⟨g, 0, none⟩ : Addr).add j) = some u := World.ownsRow.cells hown (g := g) rfl
          have hR := run_append_grow (P := Try.prog) W 83 ty 85 i0 _ Try.underlying83 hi0 hz0 ⟨g, 0, none⟩ fr.length cap (fr.flatMap spC) (by rw [hz1]; exact flatMap_len spC_len fr) holds ⟨B, 0, none⟩ 1 1 (spC y) (by rw [hz1]; rfl) hnews (by omega) (by omega) (growslice_fits (by omega) (by rw [hz2]; omega))
          rw [hrun] at hR
          injection hR with _ hW
          subst hW
          refine RowIn.heap ⟨cur', hh', hn2, hall⟩ ?_
          exact Below.heap_alloc W.drew _ _ (Array.getElem?_eq_some_iff.1 hh).1
    · exact hr.heap (hg.block r hr.lt fun e => hrv e.symm)
end Go.Proofs.Ytoglgeaiiipchaa

namespace Go.Proofs.Ytoglgeaiiipchaa
open Go Go.RowKit Go.Maps

set_option maxRecDepth 100000 in
theorem keyOf_spot_inv {key : Value} {kl : Lit} (h : keyOf Try.prog 85 key = some kl) : ∃ z : Int × Int, key = .agg #[.int .i64 z.1, .int .i64 z.2] ∧ kl = .string (keyBytes [.int .i64 z.1, .int .i64 z.2]) ∧ (Lit.int .i64 z.1).wf = true ∧ (Lit.int .i64 z.2).wf = true := by
  have hc : Try.prog.cellsOf 85 = 2 := by kernel_rfl
  have hc1 : Try.prog.cellsOf 3 = 1 := by kernel_rfl
  have ht : Try.prog.keyType 85 = true := by kernel_rfl
  unfold keyOf at h
  simp only [Try.underlying85, ht, Bool.true_and] at h
  split at h
  · rename_i hf
    cases key <;> simp only [Value.formed, Try.underlying85, Bool.false_eq_true] at hf
    rename_i cs
    rw [hc] at hf
    obtain ⟨cl⟩ := cs
    match cl, hf with
    | [c0, c1], _ =>
      simp only [Value.cells] at h
      obtain ⟨ls, hls, rfl⟩ := Option.map_eq_some_iff.1 h
      unfold Program.keyLits at hls
      simp only [Try.underlying85, hc] at hls
      simp [hc1] at hls
      obtain ⟨l0, h0, hls⟩ := Option.bind_eq_some_iff.1 hls
      obtain ⟨n0, e0, rfl⟩ := keyLits_int' Try.underlying3 h0
      obtain ⟨l1, hls, hl1⟩ := Option.map_eq_some_iff.1 hls
      obtain ⟨l2, hl2, hls⟩ := Option.bind_eq_some_iff.1 hls
      obtain ⟨l3, h3, hl3⟩ := Option.bind_eq_some_iff.1 hl2
      obtain ⟨n1, e1, rfl⟩ := keyLits_int' Try.underlying3 h3
      obtain rfl : c0 = .int .i64 n0 := by simpa using e0
      obtain rfl : c1 = .int .i64 n1 := by simpa using e1
      have w0 := keyLits_wf h0 _ (List.mem_singleton.2 rfl)
      have w1 := keyLits_wf h3 _ (List.mem_singleton.2 rfl)
      obtain rfl := Option.some.inj hl3
      obtain rfl := Option.some.inj hls
      subst hl1
      exact ⟨(n0, n1), rfl, rfl, w0, w1⟩
  · cases h
/-- a key that is a spot's is that spot -/
theorem spot_of_key {z : Int × Int} {y : Int × Nat} (hz : (Lit.int .i64 z.1).wf = true ∧ (Lit.int .i64 z.2).wf = true) (hy : SpW y) (h : (Lit.string (keyBytes [.int .i64 z.1, .int .i64 z.2])) = spKey y) : z = (y.1, (y.2 : Int)) := by
  unfold spKey at h
  have h := keyBytes_inj (l := [.int .i64 z.1, .int .i64 z.2]) (l' := [.int .i64 y.1, .int .i64 y.2]) ⟨rfl, rfl, trivial⟩ (fun a ha => by rcases List.mem_cons.1 ha with rfl | ha; exact hz.1; rw [List.mem_singleton.1 ha]; exact hz.2) (fun a ha => by rcases List.mem_cons.1 ha with rfl | ha; exact hy.1; rw [List.mem_singleton.1 ha]; exact hy.2) (by simpa using h)
  simp at h
  exact Prod.ext h.1 h.2
theorem has_key {L : List (Int × Nat)} {kl : Lit} (h : Maps.has (setOf oneU (L.map spKey)) kl = true) : ∃ y ∈ L, kl = spKey y := by
  rw [has_setOf oneU _ _ (fun x hx => by obtain ⟨z, _, rfl⟩ := List.mem_map.1 hx; exact trivial), List.any_eq_true] at h
  obtain ⟨x, hx, he⟩ := h
  obtain ⟨y, hy, rfl⟩ := List.mem_map.1 hx
  exact ⟨y, hy, (WideAt.sameKey_eq he).symm⟩
end Go.Proofs.Ytoglgeaiiipchaa
