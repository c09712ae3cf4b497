/- The statement BothTake: for every input the law returns true, and its input reads as it did. -/
import Derived.Test.YtoglgeaiiipchaaLBTM36
import Derived.Test.YtoglgeaiiipchaaLBTM1
import Derived.WalkKit
import Derived.ProofKit
import Derived.OpenShut
import Derived.ShutString
import Derived.ChangeOld
import Derived.Below
import Derived.Carry
import Derived.SizedLaws
import Derived.Lib.SmallJoins
import Derived.Deep.Slices
import Derived.Deep.Fields
import Derived.Test.YtoglgeaiiipchaaLBTM3
import Derived.Test.YtoglgeaiiipchaaRows
set_option linter.unusedSimpArgs false
set_option linter.unusedVariables false
namespace Go.Proofs.Ytoglgeaiiipchaa
open Go Go.RowKit Go.Shelf Go.Sort

theorem ei_ok (a b : Au) (l : La) : EiOK a b (eitherV a b) l (eiErr a b) := by
  refine ⟨fun h => ?_, fun h => by unfold eitherV; rw [if_neg h]; rfl⟩
  obtain ⟨h1, h2, h3, h4⟩ := either_all h
  have hr : rdErr a b = 0 := by
    unfold eiErr at h
    split at h
    · assumption
    · exact h
  obtain ⟨ka, kb, kl⟩ := rdErr_zero.1 hr
  obtain ⟨oa, _⟩ := ckA_zero.1 ka
  obtain ⟨ob, _⟩ := ckA_zero.1 kb
  obtain ⟨t1, t2, t3⟩ := tk_or (l := l) ka kb h1 kl h3 h4
  exact ⟨h1, h2, h3, wr64 (by have := oa.st1; have := ob.st1; omega) (by have := oa.st2; have := ob.st2; omega), t1, t2, t3⟩
theorem bo_ok (a b : Au) (l : La) : BoOK a b (bothV a b) l (boErr a b) := by
  refine ⟨fun h => ?_, fun h => by unfold bothV; rw [if_neg h]; rfl⟩
  obtain ⟨h1, h2, h3, h4⟩ := both_all h
  have hr : rdErr a b = 0 := by
    unfold boErr at h
    split at h
    · assumption
    · exact h
  obtain ⟨ka, kb, kl⟩ := rdErr_zero.1 hr
  obtain ⟨oa, _⟩ := ckA_zero.1 ka
  obtain ⟨ob, _⟩ := ckA_zero.1 kb
  obtain ⟨t1, t2, t3⟩ := tk_and (l := l) ka kb h1 kl h3 h4
  obtain ⟨P, hP⟩ : ∃ P, P = 3 * a.st * b.st := ⟨_, rfl⟩
  have hPB : IntKind.i64.wrap (3 * a.st) = 3 * a.st ∧ IntKind.i64.wrap (3 * a.st * b.st) = P := by
    have sa1 := oa.st1
    have sa2 := oa.st2
    have sb1 := ob.st1
    have sb2 := ob.st2
    obtain ⟨NA, hNA⟩ := Int.eq_ofNat_of_zero_le (show 0 ≤ a.st by omega)
    obtain ⟨NB, hNB⟩ := Int.eq_ofNat_of_zero_le (show 0 ≤ b.st by omega)
    have hmul : a.st * b.st = ((NA * NB : Nat) : Int) := by rw [hNA, hNB]; simp
    have hM : NA * NB ≤ 300 * 300 := Nat.mul_le_mul (by omega) (by omega)
    have hP2 : P = 3 * ((NA * NB : Nat) : Int) := by rw [hP, Int.mul_assoc, hmul]
    have hPb : 0 ≤ P ∧ P ≤ 1000000 := by rw [hP2]; omega
    exact ⟨wr64 (by omega) (by omega), by rw [← hP]; exact wr64 (by omega) (by omega)⟩
  exact ⟨P, h1, by rw [h2, hP], h3, hPB.1, hPB.2, t1, t2, t3⟩
theorem rd_is (a b : Au) : (if (if ckA a = 0 then ckA b else ckA a) = 0 then (if a.le = b.le then 0 else 1) else (if ckA a = 0 then ckA b else ckA a)) = rdErr a b := by
  unfold rdErr
  by_cases h1 : ckA a = 0
  · rw [if_pos h1, if_pos h1]
  · rw [if_neg h1, if_neg h1, if_neg h1]
set_option maxRecDepth 100000 in
set_option maxHeartbeats 4000000 in
theorem btTail {a b : Au} {l : La} {A B C D E F G K : Option Addr} {ca cb cc cd ce cf cg ck : Nat} {A1 B1 C1 A2 B2 C2 : Option Addr} {ca1 cb1 cc1 ca2 cb2 cc2 : Nat} {V X Y : Nat} {w W : World} {v12 v13 v14 v15 v16 : Value} {ac : Act}
    (ha : BtP V X Y (eiErr a b) (boErr a b) (.int .i64 (ckA a)) v12 v13 v14 v15 v16 ac) (HM : Hid (BtM a b (eitherV a b) (bothV a b) l A B C D E F G K ca cb cc cd ce cf cg ck A1 B1 C1 A2 B2 C2 ca1 cb1 cc1 ca2 cb2 cc2 V X Y w W)) : Code.wp Try.prog (btC 4) (bodyPost Try.prog Try.f8 (BoolPost w true)) ac W := by
  have hok : Hid (rdErr a b = 0 → AuOK a ∧ AuOK b) := fun h => ⟨(ckA_zero.1 (rdErr_zero.1 h).1).1, (ckA_zero.1 (rdErr_zero.1 h).2.1).1⟩
  have HE := Lib.hid (ei_ok a b l)
  have HO := Lib.hid (bo_ok a b l)
  rw [show btC 4 = .seq (headC (btC 4)) (btC 5) from rfl]
  refine wp_seq (bt4_ (Lib.hid fun ac W h m => ?_) ha HM)
  rw [show btC 5 = .seq (headC (btC 5)) (btC 6) from rfl]
  refine wp_seq (bt5_ (Lib.hid fun ac W h m => ?_) h (Lib.hid m))
  rw [rd_is] at h
  rw [show btC 6 = .seq (headC (btC 6)) (btC 7) from rfl]
  refine wp_seq (bt6_ (Lib.hid fun ac W h m => ?_) h (Lib.hid m))
  rw [show btC 7 = .seq (headC (btC 7)) (btC 8) from rfl]
  refine wp_seq (bt7_ hok (Lib.hid fun ac W h m => ?_) h (Lib.hid m))
  rw [show btC 8 = .seq (headC (btC 8)) (btC 9) from rfl]
  refine wp_seq (bt8_ hok (Lib.hid fun ac W h m => ?_) h (Lib.hid m))
  change BtP V X Y (eiErr a b) (boErr a b) (.int .i64 (eiErr a b)) (.int .i64 (boErr a b)) v13 v14 v15 v16 ac at h
  rw [show btC 9 = .seq (headC (btC 9)) (btC 10) from rfl]
  refine wp_seq (bt9_ (Lib.hid fun ac W h m => ?_) h (Lib.hid m))
  rw [show btC 10 = .seq (headC (btC 10)) (btC 11) from rfl]
  refine wp_seq (bt10_ (Lib.hid fun ac W h m => ?_) h (Lib.hid m))
  rw [show btC 11 = .seq (headC (btC 11)) (btC 12) from rfl]
  refine wp_seq (bt11_ (Lib.hid fun ac W h m => ?_) h (Lib.hid m))
  rw [show btC 12 = .seq (headC (btC 12)) (btC 13) from rfl]
  refine wp_seq (bt12_ HE (Lib.hid fun ac W h m => ?_) h (Lib.hid m))
  rw [show btC 13 = .seq (headC (btC 13)) (btC 14) from rfl]
  refine wp_seq (bt13_ HO (Lib.hid fun hz ac W h m => ?_) h (Lib.hid m))
  rw [hz] at h HO
  rw [show btC 14 = .seq (headC (btC 14)) (btC 15) from rfl]
  refine wp_seq (bt14_ HO (Lib.hid fun ac W h m => ?_) h (Lib.hid m))
  exact bt15_ HO h (Lib.hid m)
set_option maxRecDepth 100000 in
set_option maxHeartbeats 8000000 in
theorem BothTake_ (a b : Au) (A B C D E F G K : Option Addr) (ca cb cc cd ce cf cg ck : Nat) (l : La) (w : World) (ha : AuRd w 0 a A B C ca cb cc) (hb : AuRd w 0 b D E F cd ce cf) (hh : Ints w 0 G cg l.h) (hl : Ints w 0 K ck l.l) :
    Calls Try.prog 8 #[.agg #[.int .i64 a.st, .int .i64 a.le, .slice A a.fs.length ca, .slice B a.gs.length cb, .slice C a.ss.length cc], .agg #[.int .i64 b.st, .int .i64 b.le, .slice D b.fs.length cd, .slice E b.gs.length ce, .slice F b.ss.length cf], .agg #[.slice G l.h.length cg, .slice K l.l.length ck]] w (BoolPost w true) := by
  have H3 := Lib.hid (bt3_is w a b A B C D E F ca cb cc cd ce cf l G K cg ck)
  have HRA := Lib.hid (fun W (hW : Below w.heap.size w W) => ha.below hW)
  have HRB := Lib.hid (fun W (hW : Below w.heap.size w W) => hb.below hW)
  have HLH := Lib.hid (fun W (hW : Below w.heap.size w W) => hh.below hW)
  have HLL := Lib.hid (fun W (hW : Below w.heap.size w W) => hl.below hW)
  clear ha hb hh hl
  go_enter Try.func8, Try.ntmps8
  go_upto_region 1 with fail
  change Code.wp _ _ _ _ (bt3W w a b A B C D E F ca cb cc cd ce cf l G K cg ck)
  generalize bt3W w a b A B C D E F ca cb cc cd ce cf l G K cg ck = W0 at *
  obtain ⟨V, hV⟩ : ∃ V, V = w.heap.size := ⟨_, rfl⟩
  rw [show w.heap.size + 1 + 1 = V + 2 by omega, show w.heap.size + 1 = V + 1 by omega, ← hV]
  have HA0 := Lib.hid H3.out.at1
  have HA1 := Lib.hid H3.out.at2
  have HLA := Lib.hid H3.out.la
  rw [← hV] at HA0 HA1 HLA
  have HB0 := Lib.hid H3.out.below
  have HEC := Lib.hid (Either_ a b A B C D E F ca cb cc cd ce cf W0 (HRA.out _ HB0.out) (HRB.out _ HB0.out))
  obtain ⟨_, c0, c1, c2, c3, c4⟩ := HA0.out
  obtain ⟨_, d0, d1, d2, d3, d4⟩ := HA1.out
  clear H3 hV
  go_wp2_with fail
  refine HEC.out.mono ?_
  rintro e w1 ⟨A1, B1, C1, ca1, cb1, cc1, rfl, hr1, hb1⟩
  have hal : Below w1.heap.size w1 (w1.alloc (Obj.cells #[.int .i64 (eitherV a b).st, .int .i64 (eitherV a b).le, .slice A1 (eitherV a b).fs.length ca1, .slice B1 (eitherV a b).gs.length cb1, .slice C1 (eitherV a b).ss.length cc1] 49)) := (Below.refl _ _).alloc (Nat.le_refl _) _
  have HX1 : Hid ((w1.alloc (Obj.cells #[.int .i64 (eitherV a b).st, .int .i64 (eitherV a b).le, .slice A1 (eitherV a b).fs.length ca1, .slice B1 (eitherV a b).gs.length cb1, .slice C1 (eitherV a b).ss.length cc1] 49)).heap[w1.heap.size]? = some (.cells #[.int .i64 (eitherV a b).st, .int .i64 (eitherV a b).le, .slice A1 (eitherV a b).fs.length ca1, .slice B1 (eitherV a b).gs.length cb1, .slice C1 (eitherV a b).ss.length cc1] 49 (0, 0))) := World.alloc_heap_new _ _
  have HRP := Lib.hid ((hr1.low (Nat.zero_le _)).below hal)
  have HB1 := Lib.hid (Below_on hb1 hal hb1.size)
  clear hr1 hb1 hal c0 c1 c2 c3 c4 d0 d1 d2 d3 d4 HEC
  go_upto_region 2 with fail
  obtain ⟨X, hX⟩ : ∃ X, X = w1.heap.size := ⟨_, rfl⟩
  rw [← hX] at HX1 ⊢
  clear hX
  generalize w1.alloc (Obj.cells #[.int .i64 (eitherV a b).st, .int .i64 (eitherV a b).le, .slice A1 (eitherV a b).fs.length ca1, .slice B1 (eitherV a b).gs.length cb1, .slice C1 (eitherV a b).ss.length cc1] 49) = W1 at *
  have HBO1 := Lib.hid (Below_on HB0.out HB1.out HB0.out.size)
  have HEC := Lib.hid (Both_ a b A B C D E F ca cb cc cd ce cf W1 (HRA.out _ HBO1.out) (HRB.out _ HBO1.out))
  obtain ⟨_, c0, c1, c2, c3, c4⟩ := HA0.out.below HB1.out HA0.out.lt
  obtain ⟨_, d0, d1, d2, d3, d4⟩ := HA1.out.below HB1.out HA1.out.lt
  go_wp2_with fail
  refine HEC.out.mono ?_
  rintro e w2 ⟨A2, B2, C2, ca2, cb2, cc2, rfl, hr2, hb2⟩
  have hal : Below w2.heap.size w2 (w2.alloc (Obj.cells #[.int .i64 (bothV a b).st, .int .i64 (bothV a b).le, .slice A2 (bothV a b).fs.length ca2, .slice B2 (bothV a b).gs.length cb2, .slice C2 (bothV a b).ss.length cc2] 49)) := (Below.refl _ _).alloc (Nat.le_refl _) _
  have HX2 : Hid ((w2.alloc (Obj.cells #[.int .i64 (bothV a b).st, .int .i64 (bothV a b).le, .slice A2 (bothV a b).fs.length ca2, .slice B2 (bothV a b).gs.length cb2, .slice C2 (bothV a b).ss.length cc2] 49)).heap[w2.heap.size]? = some (.cells #[.int .i64 (bothV a b).st, .int .i64 (bothV a b).le, .slice A2 (bothV a b).fs.length ca2, .slice B2 (bothV a b).gs.length cb2, .slice C2 (bothV a b).ss.length cc2] 49 (0, 0))) := World.alloc_heap_new _ _
  have HRQ := Lib.hid ((hr2.low (Nat.zero_le _)).below hal)
  have HB2 := Lib.hid (Below_on hb2 hal hb2.size)
  clear hr2 hb2 hal c0 c1 c2 c3 c4 d0 d1 d2 d3 d4 HEC
  go_upto_region 3 with fail
  rename_i K3 hK3
  obtain ⟨Y, hY⟩ : ∃ Y, Y = w2.heap.size := ⟨_, rfl⟩
  rw [← hY] at HX2 ⊢
  clear hY
  generalize w2.alloc (Obj.cells #[.int .i64 (bothV a b).st, .int .i64 (bothV a b).le, .slice A2 (bothV a b).fs.length ca2, .slice B2 (bothV a b).gs.length cb2, .slice C2 (bothV a b).ss.length cc2] 49) = W2 at *
  have HM : Hid (BtM a b (eitherV a b) (bothV a b) l A B C D E F G K ca cb cc cd ce cf cg ck A1 B1 C1 A2 B2 C2 ca1 cb1 cc1 ca2 cb2 cc2 V X Y w W2) := by
    have k1 := Below_on HB1.out HB2.out HB1.out.size
    have hla := (k1.block (V + 2) (Array.getElem?_eq_some_iff.1 HLA.out).1).trans HLA.out
    have kk := Below_on HB0.out k1 HB0.out.size
    exact ⟨kk, HA0.out.below k1 HA0.out.lt, HA1.out.below k1 HA1.out.lt, (la_cells hla).1, (la_cells hla).2.1, auAt_of ((HB2.out.block X (Array.getElem?_eq_some_iff.1 HX1.out).1).trans HX1.out), auAt_of HX2.out, HRA.out _ kk, HRB.out _ kk, HRP.out.below HB2.out, HRQ.out, HLH.out _ kk, HLL.out _ kk, (Array.getElem?_eq_some_iff.1 hla).1⟩
  have HT := Lib.hid hK3
  clear HBO1 HB0 HB1 HB2 HA0 HA1 HLA HX1 HX2 HRP HRQ hK3
  exact bt3_ (Q := bodyPost Try.prog Try.f8 (BoolPost w true)) (ei := eiErr a b) (bo := boErr a b) (Lib.hid fun ac' W' h m => HT.out ac' W' (btTail h (Lib.hid m))) (BtP.mk rfl) HM
end Go.Proofs.Ytoglgeaiiipchaa

namespace Go.Proofs.Ytoglgeaiiipchaa
open Go Go.ChangeShapes Go.WideShapes Go.ChangeAt Go.RowKit Go.Deep Go.Joins

theorem rd_flat {α : Type} {enc : α → List Value} {sz : Nat} (hsz : ∀ x, (enc x).length = sz) {w : World} {b : Nat} : ∀ (xs : List α) (off : Nat),
    (∀ (k : Nat) (hk : k < xs.length) (i : Nat) (u : Value), (enc xs[k])[i]? = some u → w.cell? ⟨b, off + (k * sz + i), none⟩ = some u) →
    ∀ (j : Nat) (u : Value), (xs.flatMap enc)[j]? = some u → w.cell? ⟨b, off + j, none⟩ = some u
  | [], _, _, j, u, hu => by simp at hu
  | x :: r, off, h, j, u, hu => by
    rw [List.flatMap_cons] at hu
    rcases Nat.lt_or_ge j sz with hj | hj
    · rw [List.getElem?_append_left (by rw [hsz]; exact hj)] at hu
      have := h 0 (by simp) j u (by simpa using hu)
      simpa using this
    · rw [List.getElem?_append_right (by rw [hsz]; exact hj), hsz] at hu
      have := rd_flat hsz r (off + sz) (fun k hk i v hv => by
        have := h (k + 1) (by simpa using hk) i v (by simpa using hv)
        rw [show off + sz + (k * sz + i) = off + ((k + 1) * sz + i) by rw [Nat.add_mul]; omega]
        exact this) (j - sz) u hu
      rw [show off + sz + (j - sz) = off + j by omega] at this
      exact this
theorem slE_of {α : Type} {enc : α → List Value} {sz bt : Nat} (hsz : ∀ x, (enc x).length = sz) (hp : 0 < sz) {w : World} {a : Addr} {len cap : Nat} (hl : len ≤ cap) (hm : cap ≤ maxLen) (hb : len * bt ≤ 140737488351232)
    (hx : ∀ i, i < len → ∃ x : α, ∀ j u, (enc x)[j]? = some u → w.cell? (a.add (i * sz + j)) = some u) : ∃ xs : List α, xs.length = len ∧ SlE enc bt w 0 (some a) cap xs := by
  have hc : ∀ i : Fin len, ∃ x : α, ∀ j u, (enc x)[j]? = some u → w.cell? (a.add (i.1 * sz + j)) = some u := fun i => hx i.1 i.2
  refine ⟨List.ofFn fun i => (hc i).choose, by simp, ⟨by simpa using hl, hm, by simpa using hb, fun hne => ?_⟩⟩
  have hlen : 0 < len := by
    rcases Nat.eq_zero_or_pos len with h | h
    · subst h; simp at hne
    · exact h
  obtain ⟨b, off, spot⟩ := a
  have h0 := (hc ⟨0, hlen⟩).choose_spec 0 _ (List.getElem?_eq_getElem (by rw [hsz]; exact hp))
  have hlt := World.block_lt_of_cell? _ _ h0
  have hs : spot = none := by
    have := World.cell?_spot h0
    simpa [Addr.add] using this
  subst hs
  refine ⟨b, off, rfl, Nat.zero_le _, by simpa [Addr.add] using hlt, rd_flat hsz _ off fun k hk i u hu => ?_⟩
  have hkl : k < len := by simpa using hk
  have := (hc ⟨k, hkl⟩).choose_spec i u (by simpa using hu)
  rw [Addr_add_off] at this
  exact this

section
variable {H : Type} {enc : TypeId × Value → H} {P : Program} {w : World} {spare : Nat → Bool} {held : Bool}
theorem struct_int {e : TypeId} {fs : Array Field} {n base : Nat} {cs : List Value} {y : DataW H × List MemPlace} (he : P.underlying e = some (.struct fs)) (h : DataW.trod enc P w base spare held n e cs = some y) (j : Nat) (f : Field)
    (hf : fs[j]? = some f) (ho : f.offset = j) (hc : P.cellsOf f.type = 1) (hi : P.underlying f.type = some (.int .i64)) : ∃ z, cs[j]? = some (.int .i64 z) := by
  obtain ⟨ys, n', hn', hy, hlen, hyl, hg⟩ := DataW.trod_struct he h
  have h1 := hg j f hf
  rw [ho, hc] at h1
  have hj : j < ys.length := by rw [hyl]; exact (Array.getElem?_eq_some_iff.1 hf).1
  rw [List.getElem?_eq_getElem hj] at h1
  obtain ⟨z, hz, _⟩ := DataW.trod_int hi h1
  have h2 := congrArg (fun l => l[0]?) hz
  exact ⟨z, by simpa using h2⟩

/-- a slice of numbers, as a reading -/
theorem ints_in {t e : TypeId} {n : Nat} {v : Value} {y : DataW H × List MemPlace} (ht : P.underlying t = some (.slice e)) (he : P.underlying e = some (.int .i64)) (hc : P.cellsOf e = 1) (hby : P.bytesOf e = 8)
    (h : DataW.trod enc P w 0 spare held n t [v] = some y) (hw : ∀ k ∈ y.1.weights P t, k ≤ reachBytes) : ∃ A c xs, v = .slice A xs.length c ∧ Ints w 0 A c xs := by
  rcases open_ints ht he hc h with ⟨hcs, _⟩ | ⟨a, len, cap, zs, hcs, _, hl, hm, hz, hx, hcell, _⟩
  · simp only [List.cons.injEq, and_true] at hcs
    exact ⟨none, 0, [], hcs, ⟨by simp, by omega, by simp, Rd.nil⟩⟩
  · simp only [List.cons.injEq, and_true] at hcs
    have hzl : len ≤ zs.length := by rw [hz]; split <;> omega
    have hwt := hw (zs.length * 8) (by
      rw [hx]
      simp only [DataW.weights, ht, lits, List.length_map, List.length_take, List.length_drop, hby]
      rw [show min len zs.length + (zs.length - len) = zs.length by omega]
      simp)
    obtain ⟨xs, hxl, hxs⟩ := slE_of (enc := fun n : Int => [Value.int .i64 n]) (sz := 1) (bt := 8) (fun _ => rfl) (by decide) (w := w) (a := a) hl hm (by simp only [reachBytes] at hwt; omega) (fun i hi => ⟨zs.getD i 0, fun j u hu => by
      have hj : j = 0 := by
        have := (List.getElem?_eq_some_iff.1 hu).1
        simp at this
        exact this
      subst hj
      simp at hu
      subst hu
      simpa using hcell i (by omega)⟩)
    exact ⟨some a, cap, xs, by rw [hcs, hxl], hxs⟩
/-- a slice of nodes, as a reading -/
theorem nds_in {t e ti : TypeId} {n : Nat} {v : Value} {y : DataW H × List MemPlace} {f0 f1 f2 f3 : Field} (ht : P.underlying t = some (.slice e)) (he : P.underlying e = some (.struct #[f0, f1, f2, f3])) (hc : P.cellsOf e = 4) (hby : P.bytesOf e = 32)
    (hi : P.underlying ti = some (.int .i64)) (hci : P.cellsOf ti = 1) (t0 : f0.type = ti) (t1 : f1.type = ti) (t2 : f2.type = ti) (t3 : f3.type = ti) (o0 : f0.offset = 0) (o1 : f1.offset = 1) (o2 : f2.offset = 2) (o3 : f3.offset = 3)
    (h : DataW.trod enc P w 0 spare held n t [v] = some y) (hw : ∀ k ∈ y.1.weights P t, k ≤ reachBytes) : ∃ A c xs, v = .slice A xs.length c ∧ Nds w 0 A c xs := by
  rcases open_slice ht h with ⟨hcs, _⟩ | ⟨a, len, cap, m, n', D, Pl, hcs, _, hl, hm, hmm, hx, hel⟩
  · simp only [List.cons.injEq, and_true] at hcs
    exact ⟨none, 0, [], hcs, ⟨by simp, by omega, by simp, Rd.nil⟩⟩
  · simp only [List.cons.injEq, and_true] at hcs
    have hml : len ≤ m := by rw [hmm]; split <;> omega
    have hwt := hw (m * 32) (by
      rw [hx]
      simp only [DataW.weights, ht, List.length_map, List.length_range, hby]
      rw [show len + (m - len) = m by omega]
      simp)
    obtain ⟨xs, hxl, hxs⟩ := slE_of (enc := Nd.cells) (sz := 4) (bt := 32) (fun _ => rfl) (by decide) (w := w) (a := a) hl hm (by simp only [reachBytes] at hwt; omega) (fun i hi' => by
      obtain ⟨cs', hcc, ht'⟩ := hel i (by omega)
      rw [hc] at hcc
      obtain ⟨_, hcl, hat⟩ := World.cells?_some hcc
      obtain ⟨z0, e0⟩ := struct_int he ht' 0 f0 rfl o0 (by rw [t0]; exact hci) (by rw [t0]; exact hi)
      obtain ⟨z1, e1⟩ := struct_int he ht' 1 f1 rfl o1 (by rw [t1]; exact hci) (by rw [t1]; exact hi)
      obtain ⟨z2, e2⟩ := struct_int he ht' 2 f2 rfl o2 (by rw [t2]; exact hci) (by rw [t2]; exact hi)
      obtain ⟨z3, e3⟩ := struct_int he ht' 3 f3 rfl o3 (by rw [t3]; exact hci) (by rw [t3]; exact hi)
      refine ⟨⟨z0, z1, z2, z3⟩, fun j u hu => ?_⟩
      rw [← Go.Deep.add_add]
      match j, hu with
      | 0, hu => rw [hat 0 (by decide), e0]; simpa [Nd.cells] using hu
      | 1, hu => rw [hat 1 (by decide), e1]; simpa [Nd.cells] using hu
      | 2, hu => rw [hat 2 (by decide), e2]; simpa [Nd.cells] using hu
      | 3, hu => rw [hat 3 (by decide), e3]; simpa [Nd.cells] using hu
      | j + 4, hu => simp [Nd.cells] at hu)
    exact ⟨some a, cap, xs, by rw [hcs, hxl], hxs⟩
end
end Go.Proofs.Ytoglgeaiiipchaa

namespace Go.Proofs.Ytoglgeaiiipchaa
open Go Go.ChangeShapes Go.WideShapes Go.ChangeAt Go.RowKit Go.Deep Go.Joins

section
variable {H : Type} {enc : TypeId × Value → H} {P : Program} {w : World} {spare : Nat → Bool} {held : Bool}
theorem array5 {α : Type} {cs : Array α} (h : cs.size = 5) : ∃ c0 c1 c2 c3 c4, cs = #[c0, c1, c2, c3, c4] := by
  obtain ⟨l⟩ := cs
  match l, h with
  | [c0, c1, c2, c3, c4], _ => exact ⟨c0, c1, c2, c3, c4, rfl⟩
/-- one field of a struct of one-cell fields -/
theorem field_in {t : TypeId} {fs : Array Field} {n base : Nat} {cs : List Value} {x : DataW H × List MemPlace} (hs : P.underlying t = some (.struct fs)) (hone : oneCellFields P fs = true) (h : DataW.trod enc P w base spare held n t cs = some x) :
    ∃ (ys : List (DataW H × List MemPlace)) (m : Nat), x.1 = .agg (ys.map Prod.fst) ∧ ys.length = fs.size ∧ ∀ j f, fs[j]? = some f → DataW.trod enc P w base spare held m f.type ((cs.drop j).take 1) = ys[j]? := by
  obtain ⟨ys, n', hn', rfl, hlen, hyl, hg⟩ := DataW.trod_struct hs h
  refine ⟨ys, n', rfl, hyl, fun j f hf => ?_⟩
  obtain ⟨o, k⟩ := hone_of hone j f hf
  have := hg j f hf
  rwa [o, k] at this
/-- a slice of bools, as a reading -/
theorem bools_in {t e : TypeId} {n : Nat} {v : Value} {y : DataW H × List MemPlace} (ht : P.underlying t = some (.slice e)) (he : P.underlying e = some .bool) (hc : P.cellsOf e = 1) (hby : P.bytesOf e = 1)
    (h : DataW.trod enc P w 0 spare held n t [v] = some y) (hw : ∀ k ∈ y.1.weights P t, k ≤ reachBytes) : ∃ A c xs, v = .slice A xs.length c ∧ Bools w 0 A c xs := by
  rcases open_slice ht h with ⟨hcs, _⟩ | ⟨a, len, cap, m, n', D, Pl, hcs, _, hl, hm, hmm, hx, hel⟩
  · simp only [List.cons.injEq, and_true] at hcs
    exact ⟨none, 0, [], hcs, ⟨by simp, by omega, by simp, Rd.nil⟩⟩
  · simp only [List.cons.injEq, and_true] at hcs
    have hml : len ≤ m := by rw [hmm]; split <;> omega
    have hwt := hw (m * 1) (by
      rw [hx]
      simp only [DataW.weights, ht, List.length_map, List.length_range, hby]
      rw [show len + (m - len) = m by omega]
      simp)
    obtain ⟨xs, hxl, hxs⟩ := slE_of (enc := fun b : Bool => [Value.bool b]) (sz := 1) (bt := 1) (fun _ => rfl) (by decide) (w := w) (a := a) hl hm (by simp only [reachBytes] at hwt; omega) (fun i hi' => by
      obtain ⟨cs', hcc, ht'⟩ := hel i (by omega)
      rw [hc] at hcc
      obtain ⟨_, hcl, hat⟩ := World.cells?_some hcc
      obtain ⟨b, hb, _⟩ := DataW.trod_bool he ht'
      refine ⟨b, fun j u hu => ?_⟩
      rw [← Go.Deep.add_add]
      match j, hu with
      | 0, hu => rw [hat 0 (by decide), hb]; simpa using hu
      | j + 1, hu => simp at hu)
    exact ⟨some a, cap, xs, by rw [hcs, hxl], hxs⟩
/-- a slice of steps, as a reading -/
theorem stps_in {t e ti : TypeId} {n : Nat} {v : Value} {y : DataW H × List MemPlace} {f0 f1 f2 : Field} (ht : P.underlying t = some (.slice e)) (he : P.underlying e = some (.struct #[f0, f1, f2])) (hc : P.cellsOf e = 3) (hby : P.bytesOf e = 24)
    (hi : P.underlying ti = some (.int .i64)) (hci : P.cellsOf ti = 1) (t0 : f0.type = ti) (t1 : f1.type = ti) (t2 : f2.type = ti) (o0 : f0.offset = 0) (o1 : f1.offset = 1) (o2 : f2.offset = 2)
    (h : DataW.trod enc P w 0 spare held n t [v] = some y) (hw : ∀ k ∈ y.1.weights P t, k ≤ reachBytes) : ∃ A c xs, v = .slice A xs.length c ∧ Stps w 0 A c xs := by
  rcases open_slice ht h with ⟨hcs, _⟩ | ⟨a, len, cap, m, n', D, Pl, hcs, _, hl, hm, hmm, hx, hel⟩
  · simp only [List.cons.injEq, and_true] at hcs
    exact ⟨none, 0, [], hcs, ⟨by simp, by omega, by simp, Rd.nil⟩⟩
  · simp only [List.cons.injEq, and_true] at hcs
    have hml : len ≤ m := by rw [hmm]; split <;> omega
    have hwt := hw (m * 24) (by
      rw [hx]
      simp only [DataW.weights, ht, List.length_map, List.length_range, hby]
      rw [show len + (m - len) = m by omega]
      simp)
    obtain ⟨xs, hxl, hxs⟩ := slE_of (enc := Stp.cells) (sz := 3) (bt := 24) (fun _ => rfl) (by decide) (w := w) (a := a) hl hm (by simp only [reachBytes] at hwt; omega) (fun i hi' => by
      obtain ⟨cs', hcc, ht'⟩ := hel i (by omega)
      rw [hc] at hcc
      obtain ⟨_, hcl, hat⟩ := World.cells?_some hcc
      obtain ⟨z0, e0⟩ := struct_int he ht' 0 f0 rfl o0 (by rw [t0]; exact hci) (by rw [t0]; exact hi)
      obtain ⟨z1, e1⟩ := struct_int he ht' 1 f1 rfl o1 (by rw [t1]; exact hci) (by rw [t1]; exact hi)
      obtain ⟨z2, e2⟩ := struct_int he ht' 2 f2 rfl o2 (by rw [t2]; exact hci) (by rw [t2]; exact hi)
      refine ⟨⟨z0, z1, z2⟩, fun j u hu => ?_⟩
      rw [← Go.Deep.add_add]
      match j, hu with
      | 0, hu => rw [hat 0 (by decide), e0]; simpa [Stp.cells] using hu
      | 1, hu => rw [hat 1 (by decide), e1]; simpa [Stp.cells] using hu
      | 2, hu => rw [hat 2 (by decide), e2]; simpa [Stp.cells] using hu
      | j + 3, hu => simp [Stp.cells] at hu)
    exact ⟨some a, cap, xs, by rw [hcs, hxl], hxs⟩
/-- an automaton by value, as a reading -/
theorem au_in {t tF tG tS ti tb ts : TypeId} {f0 f1 f2 f3 f4 s0 s1 s2 : Field} {r : Reach} {b0 : Nat} {v : Value} {d : DataW H} {p : List MemPlace} (hs : P.underlying t = some (.struct #[f0, f1, f2, f3, f4])) (hone : oneCellFields P #[f0, f1, f2, f3, f4] = true) (hC : P.cellsOf t = 5)
    (hi : P.underlying ti = some (.int .i64)) (hci : P.cellsOf ti = 1) (hbi : P.bytesOf ti = 8) (hb : P.underlying tb = some .bool) (hcb : P.cellsOf tb = 1) (hbb : P.bytesOf tb = 1) (hss : P.underlying ts = some (.struct #[s0, s1, s2])) (hcs : P.cellsOf ts = 3) (hbs : P.bytesOf ts = 24)
    (t0 : f0.type = ti) (t1 : f1.type = ti) (t2 : f2.type = tF) (t3 : f3.type = tG) (t4 : f4.type = tS) (hF : P.underlying tF = some (.slice ti)) (hG : P.underlying tG = some (.slice tb)) (hS : P.underlying tS = some (.slice ts))
    (u0 : s0.type = ti) (u1 : s1.type = ti) (u2 : s2.type = ti) (o0 : s0.offset = 0) (o1 : s1.offset = 1) (o2 : s2.offset = 2)
    (hv : Value.okWide P w r b0 t v) (h : DataW.Trod enc P w 0 spare held t v d p) (hw : ∀ k ∈ d.weights P t, k ≤ reachBytes) :
    ∃ a A B C ca cb cc, v = .agg #[.int .i64 a.st, .int .i64 a.le, .slice A a.fs.length ca, .slice B a.gs.length cb, .slice C a.ss.length cc] ∧ AuRd w 0 a A B C ca cb cc := by
  obtain ⟨cs, rfl, hsz⟩ := okWide_struct hs hv
  obtain ⟨c0, c1, c2, c3, c4, rfl⟩ := array5 (hsz.trans hC)
  obtain ⟨fuel, hf⟩ := h
  obtain ⟨ys, m, hd, hyl, hy⟩ := field_in hs hone hf
  simp only [Value.cells] at hy
  match ys, hyl with
  | [y0, y1, y2, y3, y4], _ =>
    have e0 := hy 0 f0 rfl
    have e1 := hy 1 f1 rfl
    have e2 := hy 2 f2 rfl
    have e3 := hy 3 f3 rfl
    have e4 := hy 4 f4 rfl
    simp only [t0, t1, t2, t3, t4, List.drop_zero, List.drop_succ_cons, List.take_succ_cons, List.take_zero, List.getElem?_cons_zero, List.getElem?_cons_succ] at e0 e1 e2 e3 e4
    obtain ⟨z0, hz0, _⟩ := DataW.trod_int hi e0
    obtain ⟨z1, hz1, _⟩ := DataW.trod_int hi e1
    have hw' : ∀ k, k ∈ y2.1.weights P tF ∨ k ∈ y3.1.weights P tG ∨ k ∈ y4.1.weights P tS → k ≤ reachBytes := fun k hk => hw k (by
      rw [show d = _ from hd]
      simp only [DataW.weights, hs]
      simp only [List.map_cons, List.map_nil, DataW.weightsEach, List.mem_append, t0, t1, t2, t3, t4]
      simp
      rcases hk with hk | hk | hk
      · exact .inr (.inr (.inl hk))
      · exact .inr (.inr (.inr (.inl hk)))
      · exact .inr (.inr (.inr (.inr hk))))
    obtain ⟨A, ca, fs, rfl, hA⟩ := ints_in hF hi hci hbi e2 (fun k hk => hw' k (.inl hk))
    obtain ⟨B, cb, gs, rfl, hB⟩ := bools_in hG hb hcb hbb e3 (fun k hk => hw' k (.inr (.inl hk)))
    obtain ⟨C, cc, ss, rfl, hSS⟩ := stps_in hS hss hcs hbs hi hci u0 u1 u2 o0 o1 o2 e4 (fun k hk => hw' k (.inr (.inr hk)))
    obtain rfl : c0 = .int .i64 z0 := by simpa using hz0
    obtain rfl : c1 = .int .i64 z1 := by simpa using hz1
    exact ⟨⟨z0, z1, fs, gs, ss⟩, A, B, C, ca, cb, cc, rfl, hA, hB, hSS⟩
end
end Go.Proofs.Ytoglgeaiiipchaa

namespace Go.Proofs.Ytoglgeaiiipchaa.bothTake
open Go Go.ChangeShapes Go.WideShapes Go.ChangeAt Go.RowKit Go.Deep Go.Joins

theorem own : ownKnob Try.prog.godebug = none := by kernel_rfl
theorem laidOut : laidOutB Try.prog = true := by kernel_rfl
theorem all_le {l : List Nat} (h : l.all (· ≤ reachBytes) = true) : ∀ k ∈ l, k ≤ reachBytes := fun k hk => by simpa using List.all_eq_true.1 h k hk

set_option maxRecDepth 100000 in
set_option maxHeartbeats 2000000 in
theorem lifted (os : Os) (started : os.Started) (H : Type) (enc : TypeId × Value → H) :
    ReturnsInHanded {} Try.checked os 8 .any (Rows.bothTakeSpec.pre6 enc Try.prog Try.f8 Rows.bothTakeRow.domain false) (Rows.bothTakeSpec.post enc Try.prog Try.f8 false true false false) := by
  refine returnsInHanded_of_change_sized (C := Try.checked) own started (by kernel_rfl) Try.func8
    (ChangeSpec.witness6 (enc := enc) (C := Try.checked) false ⟨#[], #[.agg #[.int .i64 0, .int .i64 0, .slice none 0 0, .slice none 0 0, .slice none 0 0], .agg #[.int .i64 0, .int .i64 0, .slice none 0 0, .slice none 0 0, .slice none 0 0], .agg #[.slice none 0 0, .slice none 0 0]], []⟩ 8 (by kernel_rfl) (by kernel_rfl) (by kernel_rfl) (by kernel_rfl)) ?_
  intro W base args ds gs before hval0 hW hcnd hwts _
  have hval : ∀ (j : Nat) t v, Try.f8.params[j]? = some t → args[j]? = some v → Value.okWide Try.prog W .any base t v := hval0
  have hW' := hW
  obtain ⟨p, q, hA0, hV, rfl, hfz, hnd⟩ := hW
  have hA : DataW.TrodAll enc Try.prog W 0 (fun _ => true) true Try.f8.params.toList args.toList ds p := hA0
  rw [Try.params8] at hA hval hwts
  obtain ⟨v0, vs0, d0, ds0, p0, q0, hargs, rfl, rfl, h0, r0⟩ := trodAll_cons hA
  obtain ⟨v1, vs1, d1, ds1, p1, q1, rfl, rfl, rfl, h1, r1⟩ := trodAll_cons r0
  obtain ⟨v2, vs2, d2, ds2, p2, q2, rfl, rfl, rfl, h2, r2⟩ := trodAll_cons r1
  obtain ⟨rfl, rfl, rfl⟩ := trodAll_nil r2
  obtain rfl : args = #[v0, v1, v2] := by cases args; simp_all
  obtain ⟨rfl, rfl⟩ := trodVars_none hV
  have k0 := h0
  have k1 := h1
  have k2 := h2
  have lt0 : ∀ x ∈ p0, x.block < W.heap.size := by obtain ⟨m, hm⟩ := k0; exact DataW.trod_lt m _ _ _ hm
  have lt1 : ∀ x ∈ p1, x.block < W.heap.size := by obtain ⟨m, hm⟩ := k1; exact DataW.trod_lt m _ _ _ hm
  have lt2 : ∀ x ∈ p2, x.block < W.heap.size := by obtain ⟨m, hm⟩ := k2; exact DataW.trod_lt m _ _ _ hm
  have hw : ∀ k ∈ d0.weights Try.prog 49 ++ (d1.weights Try.prog 49 ++ d2.weights Try.prog 26), k ≤ reachBytes := fun k hk => all_le hwts k (by
    simp only [List.mem_append] at hk
    change k ∈ DataW.weightsEach Try.prog [49, 49, 26] [d0, d1, d2]
    simp only [DataW.weightsEach, List.mem_append]
    rcases hk with hk | hk | hk
    · exact .inl hk
    · exact .inr (.inl hk)
    · exact .inr (.inr (.inl hk)))
  obtain ⟨a, A, B, C, ca, cb, cc, rfl, hau⟩ : ∃ a A B C ca cb cc, v0 = .agg #[.int .i64 a.st, .int .i64 a.le, .slice A a.fs.length ca, .slice B a.gs.length cb, .slice C a.ss.length cc] ∧ AuRd W 0 a A B C ca cb cc :=
    au_in Try.underlying49 (by kernel_rfl) (by kernel_rfl) Try.underlying3 (by kernel_rfl) (by kernel_rfl) Try.underlying4 (by kernel_rfl) (by kernel_rfl) Try.underlying90 (by kernel_rfl) (by kernel_rfl) rfl rfl rfl rfl rfl Try.underlying24 Try.underlying37 Try.underlying47 rfl rfl rfl rfl rfl rfl (hval 0 49 v0 rfl rfl) h0 (fun k hk => hw k (List.mem_append_left _ hk))
  obtain ⟨b, D, E, F, cd, ce, cf, rfl, hbu⟩ : ∃ a A B C ca cb cc, v1 = .agg #[.int .i64 a.st, .int .i64 a.le, .slice A a.fs.length ca, .slice B a.gs.length cb, .slice C a.ss.length cc] ∧ AuRd W 0 a A B C ca cb cc :=
    au_in Try.underlying49 (by kernel_rfl) (by kernel_rfl) Try.underlying3 (by kernel_rfl) (by kernel_rfl) Try.underlying4 (by kernel_rfl) (by kernel_rfl) Try.underlying90 (by kernel_rfl) (by kernel_rfl) rfl rfl rfl rfl rfl Try.underlying24 Try.underlying37 Try.underlying47 rfl rfl rfl rfl rfl rfl (hval 1 49 v1 rfl rfl) h1 (fun k hk => hw k (List.mem_append_right _ (List.mem_append_left _ hk)))
  obtain ⟨v0, v1, y0, y1, n, rfl, rfl, rfl, g0, g1⟩ := open_agg2 Try.underlying26 (by kernel_rfl) (by kernel_rfl) (hval 2 26 _ rfl rfl) h2
  have hw1 : ∀ k ∈ y0.1.weights Try.prog 24 ++ y1.1.weights Try.prog 24, k ≤ reachBytes := fun k hk => hw k (List.mem_append_right _ (List.mem_append_right _ (by
    simp only [DataW.weights, Try.underlying26]
    simpa [DataW.weightsEach] using hk)))
  obtain ⟨G, cg, xs, rfl, hh⟩ := ints_in Try.underlying24 Try.underlying3 (by kernel_rfl) (by kernel_rfl) g0 (fun k hk => hw1 k (List.mem_append_left _ hk))
  obtain ⟨K, ck, ys, rfl, hl⟩ := ints_in Try.underlying24 Try.underlying3 (by kernel_rfl) (by kernel_rfl) g1 (fun k hk => hw1 k (List.mem_append_right _ hk))
  clear hA0 hval0 hval hwts hw hw1
  refine (BothTake_ a b A B C D E F G K ca cb cc cd ce cf cg ck ⟨xs, ys⟩ W hau hbu hh hl).mono fun e W' ⟨he, bel⟩ => ?_
  subst he
  exact ⟨_, rfl, _, _, _, [], _, [], hW', trodAll_mk1 (shut_bool Try.underlying4 _), (trodAll_cons_mk (Below.trod laidOut (by kernel_rfl) (of_decide_eq_true (by kernel_rfl)) k0 bel lt0) (trodAll_cons_mk (Below.trod laidOut (by kernel_rfl) (of_decide_eq_true (by kernel_rfl)) k1 bel lt1) (trodAll_cons_mk (Below.trod laidOut (by kernel_rfl) (of_decide_eq_true (by kernel_rfl)) k2 bel lt2) trodAll_mk0))), rfl, bel.frame _, fun h => by cases h⟩

theorem over : Rows.bothTakeRow.holds Try.pinned (OpenSpec.ofChange Rows.bothTakeSpec) :=
  OpenClaim.holds_of_wide 8 Try.f8 rfl rfl rfl rfl rfl rfl rfl ⟨rfl, rfl, rfl, rfl, rfl⟩ rfl rfl rfl rfl rfl (by kernel_rfl) Try.func8 (by kernel_rfl)
    (of_decide_eq_true (by kernel_rfl)) (by unfold Func.isWrapper; first | (rw [if_pos (by decide +kernel)]; kernel_rfl) | (rw [if_neg (by decide +kernel)]; exact ⟨rfl, rfl⟩))
    (fun os started H enc _ => lifted os started H enc)

/-- the statement -/
theorem proved : Rows.BothTakeSaid := over
#print axioms proved
end Go.Proofs.Ytoglgeaiiipchaa.bothTake
