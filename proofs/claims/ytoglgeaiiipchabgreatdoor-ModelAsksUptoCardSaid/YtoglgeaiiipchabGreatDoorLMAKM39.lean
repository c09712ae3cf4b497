import Derived.Test.YtoglgeaiiipchabGreatDoorLMAKM38
import Derived.Test.YtoglgeaiiipchabGreatDoorLMAKM37
import Derived.Deep.CutBlock
import Derived.Deep.DeepCutAuto
import Derived.Test.YtoglgeaiiipchabGreatDoorLMAKM1
import Derived.WalkKit
import Derived.ProofKit
import Derived.OpenShut
import Derived.ShutString
import Derived.ChangeOld
import Derived.Below
import Derived.Carry
import Derived.SizedLaws
import Derived.Lib.SmallJoins
import Derived.Deep.Slices
import Derived.Deep.Fields
import Derived.Test.YtoglgeaiiipchabGreatDoorLMAKM24
import Derived.Test.YtoglgeaiiipchabGreatDoorRows
set_option linter.unusedSimpArgs false
set_option linter.unusedVariables false
namespace Go.Proofs.YtoglgeaiiipchabGreatDoor
open Go Go.RowKit Go.Sort Go.Shelf
theorem needs_le {s : List UInt8} : ∀ (l : List UInt8) (i : Nat), i ≤ s.length → (∀ j, needs s l i = .error j → j ≤ s.length) ∧ (∀ j, needs s l i = .ok j → j ≤ s.length)
  | [], i, hi => ⟨fun j h => by simp [needs] at h, fun j h => by simp only [needs, Except.ok.injEq] at h; omega⟩
  | c :: r, i, hi => by
    unfold needs
    split
    · rename_i h
      exact needs_le r (i + 1) h.1
    · exact ⟨fun j h => by simp only [Except.error.injEq] at h; omega, fun j h => by cases h⟩
theorem prs_err {s : List UInt8} : ∀ (m i j : Nat), i ≤ s.length → prs s m i = .error j → j ≤ s.length
  | 0, i, j, hi, h => by simp only [prs, Except.error.injEq] at h; omega
  | m + 1, i, j, hi, h => by
    unfold prs at h
    split at h
    · simp only [Except.error.injEq] at h; omega
    · rename_i h1
      have hi1 : i + 1 ≤ s.length := by omega
      split at h
      · have h2 := (needs_le [116, 114, 117, 101] i hi).1
        split at h
        · rename_i e he
          simp only [Except.error.injEq] at h
          subst h
          exact h2 _ he
        · cases h
      · split at h
        · split at h
          · cases h
          · simp only [Except.error.injEq] at h; omega
        · split at h
          · split at h
            · rename_i e he
              simp only [Except.error.injEq] at h
              subst h
              exact prs_err m _ _ hi1 he
            · cases h
          · split at h
            · split at h
              · rename_i e he
                simp only [Except.error.injEq] at h
                subst h
                exact prs_err m _ _ hi1 he
              · cases h
            · split at h
              · split at h
                · rename_i e he
                  simp only [Except.error.injEq] at h
                  subst h
                  exact prs_err m _ _ hi1 he
                · rename_i a j1 ha
                  have hj1 := (prs_ok m (i + 1) ha).2.2.2
                  have n1 := needs_le [32] j1 hj1
                  split at h
                  · rename_i e he
                    simp only [Except.error.injEq] at h
                    subst h
                    exact n1.1 _ he
                  · rename_i j2 hj2
                    have hj2' := n1.2 _ hj2
                    split at h
                    · rename_i hc
                      have n2 := needs_le [32] (j2 + 1) hc.1
                      split at h
                      · rename_i e he
                        simp only [Except.error.injEq] at h
                        subst h
                        exact n2.1 _ he
                      · rename_i j3 hj3
                        have hj3' := n2.2 _ hj3
                        split at h
                        · rename_i e he
                          simp only [Except.error.injEq] at h
                          subst h
                          exact prs_err m _ _ hj3' he
                        · rename_i b j4 hb
                          have hj4 := (prs_ok m j3 hb).2.2.2
                          have n3 := needs_le [41] j4 hj4
                          split at h
                          · rename_i e he
                            simp only [Except.error.injEq] at h
                            subst h
                            exact n3.1 _ he
                          · cases h
                    · simp only [Except.error.injEq] at h
                      omega
              · simp only [Except.error.injEq] at h
                omega
theorem readV_at (s : List UInt8) : 0 ≤ (readV s).2.1 ∧ (readV s).2.1 ≤ 2000 := by
  unfold readV
  split
  · exact ⟨by decide, by decide⟩
  · rename_i h1
    split
    · split <;> exact ⟨Int.le_refl 0, show (0 : Int) ≤ 2000 by decide⟩
    · show 0 ≤ (parseV s).2.1 ∧ (parseV s).2.1 ≤ 2000
      unfold parseV
      cases h : prs s (s.length + 1) 0 with
      | error j =>
        have := prs_err _ _ _ (Nat.zero_le _) h
        simp only
        omega
      | ok q =>
        obtain ⟨t, j⟩ := q
        have := (prs_ok _ _ h).2.2.2
        simp only
        split <;> simp only <;> omega
theorem itoa_tab (n : Int) (h0 : 0 ≤ n) (h1 : n ≤ 999999) (w : World) (hL : Lib.TabIs Tryz.prog w "internal/strconv.uint64pow10" .u64 Lib.pow10Tab) : Calls Tryz.prog 43 #[.int .i64 n] w fun e w' => e = .returned (.string (sB (dn n))) ∧ Below w.heap.size w w' := by
  have h : Calls Tryz.prog 43 #[.int .i64 n] w fun e w' => e = .returned (.string (sB (Lib.itoa n))) ∧ Below w.heap.size w w' :=
    (Tryz.strconv_Itoa n (by omega) (by omega) w hL).mono fun e w' ⟨he, k, os, hw⟩ => ⟨he, by rw [hw]; exact Lib.below_grow _ _ (Nat.le_refl _) _ _⟩
  rwa [show Lib.itoa n = dn n by unfold Lib.itoa dn; rw [if_neg (by omega)]] at h
theorem ho_same {m : Mo} {f : List Nd} {o1 o2 : Bool} {x1 x2 : La} (he : hoE m f = 0) (h1 : HoIs m f o1 x1) (h2 : HoIs m f o2 x2) : o1 = o2 := by
  unfold HoIs at h1 h2
  rw [if_pos he] at h1 h2
  cases o1 <;> cases o2
  · rfl
  · rw [if_neg (by decide)] at h1
    rw [if_pos rfl] at h2
    have := h2.2 x1 h1.1 h1.2.1
    rw [h1.2.2] at this
    cases this
  · rw [if_pos rfl] at h1
    rw [if_neg (by decide)] at h2
    have := h1.2 x2 h2.1 h2.2.1
    rw [h2.2.2] at this
    cases this
  · rfl
set_option maxRecDepth 100000 in
set_option maxHeartbeats 8000000 in
theorem ModelAsks_ (m : Mo) (hraw : ckM m = 0 → (moRaw m m.ls.length).length ≤ 2000000) (s : List UInt8) (S : ByteArray) (hS : S.size = s.length) (hG : ∀ (i : Nat) (h : i < S.size), S[i]'h = chr s i) (A B C : Option Addr) (ca cb cc : Nat) (vs : List RwS) (w : World) (hr : MoRd w 0 m A B C ca cb cc vs) (hLD : Lib.TabIs Tryz.prog w "internal/strconv.uint64pow10" .u64 Lib.pow10Tab) :
    Calls Tryz.prog 4 #[.agg #[.int .i64 m.pr, .slice A m.ls.length ca, .slice B m.fs.length cb, .slice C m.ss.length cc], .string S] w (BoolPost w true) := by
  have HW := moW_is w m A B C ca cb cc
  have hat := readV_at s
  have hd : (sB (dn (readV s).2.1)).size ≤ 1000 := by
    have : (Lib.decDigits (readV s).2.1.toNat).length ≤ 6 := decDigits_len6 (by omega)
    simp only [sB, ByteArray.size, List.size_toArray]
    unfold dn
    omega
  have hHIT : ∀ W0, Below w.heap.size w W0 → (readV s).2.2 ≠ 0 → ∀ W, Below W0.heap.size W0 W → Calls Tryz.prog 43 #[.int .i64 (readV s).2.1] W fun e w' => e = .returned (.string (sB (dn (readV s).2.1))) ∧ Below W.heap.size W w' := fun W0 h0 _ W hW =>
    itoa_tab _ hat.1 (by omega) W (Go.Joins.tab_stays (g := 1) (by kernel_rfl) hLD (Below_on h0 hW h0.size) (Nat.le_refl _))
  have HDG := Lib.hid (fun W => Digits_ (readV s).2.1 hat.1 (by omega) W)
  have HAS := Lib.hid (modelAsk_ m hraw s S hS hG A B C ca cb cc vs (sB (dn (readV s).2.1)) hd (moW w m A B C ca cb cc) (hr.below HW.below) (hHIT _ HW.below))
  have HRF := Lib.hid (fun W => ReadFormula_ s S hS hG W)
  have HB0 := Lib.hid HW.below
  have HV0 := Lib.hid HW.at_
  have HR := Lib.hid (fun W (hW : Below w.heap.size w W) => hr.below hW)
  have HRAW := Lib.hid hraw
  have HDS := Lib.hid hd
  clear hr HW hraw hS hG hLD hat hd hHIT
  go_enter Tryz.func4, Tryz.ntmps4
  go_upto_region 1 with fail
  change Code.wp _ _ _ _ (moW w m A B C ca cb cc)
  generalize moW w m A B C ca cb cc = W0 at *
  obtain ⟨V, hV⟩ : ∃ V, V = w.heap.size := ⟨_, rfl⟩
  rw [← hV] at HV0 ⊢
  have HALL : Hid (∀ W, Below W0.heap.size W0 W → Below w.heap.size w W ∧ MoAt W V m A B C ca cb cc ∧ MoRd W 0 m A B C ca cb cc vs) := fun W hW => by
    have h1 := Below_on HB0.out hW HB0.out.size
    exact ⟨h1, HV0.out.below hW HV0.out.lt, HR.out _ h1⟩
  clear hV HB0 HV0 HR
  obtain ⟨_, c0, c1, c2, c3⟩ := (HALL.out _ (Below.refl _ _)).2.1
  go_wp2_with fail
  refine HAS.out.mono ?_
  rintro e w1 ⟨⟨ok, x, rfl, hif⟩, hb1⟩
  have HIF := Lib.hid hif
  have HB1 := Lib.hid hb1
  clear hif hb1 c0 c1 c2 c3 HAS
  obtain ⟨_, c0, c1, c2, c3⟩ := (HALL.out _ HB1.out).2.1
  have HCM := Lib.hid (CheckModel_ m A B C ca cb cc vs w1 (HALL.out _ HB1.out).2.2)
  obtain ⟨aS, has⟩ : ∃ k, k = askS m s (sB (dn (readV s).2.1)) ok := ⟨_, rfl⟩
  obtain ⟨ae, hae⟩ : ∃ k, k = askE m s := ⟨_, rfl⟩
  rw [← has, ← hae]
  have HAS := Lib.hid has
  have HAE := Lib.hid hae
  clear has hae
  go_upto_region 3 with (first
    | (go_at_call 14; refine HCM.out.mono ?_; rintro e w2 ⟨rfl, hb2⟩))
  have HB2 := Lib.hid (Below_on HB1.out hb2 HB1.out.size)
  clear hb2 c0 c1 c2 c3 HCM HB1
  go_wp2_with fail
  refine (modelBegun_ w2).mono ?_
  rintro e w3 ⟨rfl, hb3⟩
  have HB3 := Lib.hid (Below_on HB2.out hb3 HB2.out.size)
  clear hb3 HB2
  by_cases h0 : ckM m = 0
  · have HH0 := Lib.hid h0
    rw [h0]
    clear h0
    go_wp2_with fail
    refine (HRF.out w3).mono ?_
    rintro e w4 ⟨FA, fc, rfl, hn, hb4⟩
    have HB4 := Lib.hid (Below_on HB3.out hb4 HB3.out.size)
    have HN := Lib.hid (hn.low (Nat.zero_le _))
    clear hn hb4 HB3
    by_cases hp : (readV s).2.2 = 0
    · have HPP := Lib.hid hp
      rw [hp]
      clear hp
      have HHO := Lib.hid (modelHolds_ m HRAW.out (readV s).1 A B C FA ca cb cc fc vs w4 (HALL.out _ HB4.out).2.2 HN.out)
      have HE1 : Hid (ae = hoE m (readV s).1) := by show _ = _; rw [HAE.out]; unfold askE; rw [if_pos HH0.out, if_pos HPP.out]
      have HS1 : Hid (aS = if hoE m (readV s).1 = 0 then (if ok = true then ⟨#[104, 111, 108, 100, 115, 10]⟩ else ⟨#[102, 97, 105, 108, 115, 10]⟩) else ⟨#[]⟩) := by show _ = _; rw [HAS.out]; unfold askS; rw [if_pos HH0.out, if_pos HPP.out]
      obtain ⟨_, c0, c1, c2, c3⟩ := (HALL.out _ HB4.out).2.1
      go_wp2_with fail
      refine HHO.out.mono ?_
      rintro e w5 ⟨⟨ok2, x2, H, L, ch, cl, rfl, hH, hL, hif2⟩, hb5⟩
      have hal : Below w5.heap.size w5 (w5.alloc (Obj.cells #[.slice H x2.h.length ch, .slice L x2.l.length cl] 28)) := (Below.refl _ _).alloc (Nat.le_refl _) _
      have HP : Hid (BoolPost w true (.returned (.bool true)) (w5.alloc (Obj.cells #[.slice H x2.h.length ch, .slice L x2.l.length cl] 28))) := ⟨rfl, by
        have h1 := (HALL.out _ HB4.out).1
        have h2 := Below_on hb5 hal hb5.size
        exact Below_on h1 h2 h1.size⟩
      have HIF2 := Lib.hid hif2
      clear hH hL hif2 hb5 hal c0 c1 c2 c3 HHO
      obtain ⟨k, hk⟩ : ∃ k, k = hoE m (readV s).1 := ⟨_, rfl⟩
      have HK := Lib.hid hk
      have ha1 : ae = k := by rw [hk]; exact HE1.out
      rw [← hk]
      clear hk
      subst ha1
      by_cases hk0 : ae = 0
      · have HZ : Hid (hoE m (readV s).1 = 0) := by show _ = _; rw [← HK.out]; exact hk0
        have hoo : ok2 = ok := ho_same HZ.out HIF2.out (HIF.out HH0.out HPP.out)
        subst hoo
        have hs1 := HS1.out
        rw [if_pos HZ.out] at hs1
        cases ok2 with
        | true =>
          rw [if_pos rfl] at hs1
          clear HIF HIF2 HAS HAE HK HE1 HS1 HZ
          subst hs1 hk0
          go_wp2_with fail
          go_ret
          exact HP.out
        | false =>
          rw [if_neg (by decide)] at hs1
          clear HIF HIF2 HAS HAE HK HE1 HS1 HZ
          subst hs1 hk0
          go_wp2_with fail
          go_ret
          exact HP.out
      · have hk' : (ae != 0) = true := by simp [hk0]
        have hs1 := HS1.out
        rw [if_neg (by rw [← HK.out]; exact hk0)] at hs1
        clear HIF HIF2 HAS HAE HK HE1 HS1 hk0
        subst hs1
        go_wp2_with fail
        go_ret
        exact HP.out
    · have hp' : ((readV s).2.2 != 0) = true := by simp [hp]
      have ha : ae = 0 := by rw [HAE.out]; unfold askE; rw [if_pos HH0.out, if_neg hp]
      have hs : aS = ⟨#[101, 114, 114, 111, 114, 32]⟩ ++ sB (dn (readV s).2.1) ++ ⟨#[10]⟩ := by rw [HAS.out]; unfold askS; rw [if_pos HH0.out, if_neg hp]
      have HDD := Lib.hid (HDG.out w4)
      clear HAS HAE HIF
      subst ha hs
      obtain ⟨kr, hkr⟩ : ∃ k, k = (readV s).2.2 := ⟨_, rfl⟩
      obtain ⟨at_, hat⟩ : ∃ k, k = (readV s).2.1 := ⟨_, rfl⟩
      obtain ⟨D, hD⟩ : ∃ k, k = sB (dn at_) := ⟨_, rfl⟩
      rw [← hkr] at hp'
      rw [← hat] at HDD
      rw [← hD] at HDD
      rw [← hkr, ← hat, ← hD]
      have hds : D.size ≤ 1000 := by rw [hD, hat]; exact HDS.out
      have q1 : ¬ 9223372036854775807 < 6 + D.size := by omega
      have q2 : ¬ 9223372036854775807 < 6 + D.size + 1 := by omega
      clear hds hp hkr hat hD HDG HRF HRAW
      go_wp2_with fail
      refine HDD.out.mono ?_
      rintro e w5 ⟨rfl, hb5⟩
      have HP : Hid (BoolPost w true (.returned (.bool true)) w5) := ⟨rfl, by
        have h1 := (HALL.out _ HB4.out).1
        exact Below_on h1 hb5 h1.size⟩
      clear hb5 HDD
      go_wp2_with fail
      go_ret
      exact HP.out
  · have h0' : (ckM m != 0) = true := by simp [h0]
    have ha : ae = ckM m := by rw [HAE.out]; unfold askE; rw [if_neg h0]
    have hs : aS = ⟨#[]⟩ := by rw [HAS.out]; unfold askS; rw [if_neg h0]
    have HP : Hid (BoolPost w true (.returned (.bool true)) w3) := ⟨rfl, (HALL.out _ HB3.out).1⟩
    clear h0 HAS HAE HIF HRAW
    subst ha hs
    generalize ckM m = k at *
    go_wp2_with fail
    go_ret
    exact HP.out
end Go.Proofs.YtoglgeaiiipchabGreatDoor

namespace Go.Proofs.YtoglgeaiiipchabGreatDoor
open Go Go.ChangeShapes Go.WideShapes Go.ChangeAt Go.RowKit Go.Deep Go.Joins
theorem rd_flat {α : Type} {enc : α → List Value} {sz : Nat} (hsz : ∀ x, (enc x).length = sz) {w : World} {b : Nat} : ∀ (xs : List α) (off : Nat),
    (∀ (k : Nat) (hk : k < xs.length) (i : Nat) (u : Value), (enc xs[k])[i]? = some u → w.cell? ⟨b, off + (k * sz + i), none⟩ = some u) →
    ∀ (j : Nat) (u : Value), (xs.flatMap enc)[j]? = some u → w.cell? ⟨b, off + j, none⟩ = some u
  | [], _, _, j, u, hu => by simp at hu
  | x :: r, off, h, j, u, hu => by
    rw [List.flatMap_cons] at hu
    rcases Nat.lt_or_ge j sz with hj | hj
    · rw [List.getElem?_append_left (by rw [hsz]; exact hj)] at hu
      have := h 0 (by simp) j u (by simpa using hu)
      simpa using this
    · rw [List.getElem?_append_right (by rw [hsz]; exact hj), hsz] at hu
      have := rd_flat hsz r (off + sz) (fun k hk i v hv => by
        have := h (k + 1) (by simpa using hk) i v (by simpa using hv)
        rw [show off + sz + (k * sz + i) = off + ((k + 1) * sz + i) by rw [Nat.add_mul]; omega]
        exact this) (j - sz) u hu
      rw [show off + sz + (j - sz) = off + j by omega] at this
      exact this
theorem slE_of {α : Type} {enc : α → List Value} {sz bt : Nat} (hsz : ∀ x, (enc x).length = sz) (hp : 0 < sz) {w : World} {a : Addr} {len cap : Nat} (hl : len ≤ cap) (hm : cap ≤ maxLen) (hb : len * bt ≤ 140737488351232)
    (hx : ∀ i, i < len → ∃ x : α, ∀ j u, (enc x)[j]? = some u → w.cell? (a.add (i * sz + j)) = some u) : ∃ xs : List α, xs.length = len ∧ SlE enc bt w 0 (some a) cap xs := by
  have hc : ∀ i : Fin len, ∃ x : α, ∀ j u, (enc x)[j]? = some u → w.cell? (a.add (i.1 * sz + j)) = some u := fun i => hx i.1 i.2
  refine ⟨List.ofFn fun i => (hc i).choose, by simp, ⟨by simpa using hl, hm, by simpa using hb, fun hne => ?_⟩⟩
  have hlen : 0 < len := by
    rcases Nat.eq_zero_or_pos len with h | h
    · subst h; simp at hne
    · exact h
  obtain ⟨b, off, spot⟩ := a
  have h0 := (hc ⟨0, hlen⟩).choose_spec 0 _ (List.getElem?_eq_getElem (by rw [hsz]; exact hp))
  have hlt := World.block_lt_of_cell? _ _ h0
  have hs : spot = none := by
    have := World.cell?_spot h0
    simpa [Addr.add] using this
  subst hs
  refine ⟨b, off, rfl, Nat.zero_le _, by simpa [Addr.add] using hlt, rd_flat hsz _ off fun k hk i u hu => ?_⟩
  have hkl : k < len := by simpa using hk
  have := (hc ⟨k, hkl⟩).choose_spec i u (by simpa using hu)
  rw [Addr_add_off] at this
  exact this
section
variable {H : Type} {enc : TypeId × Value → H} {P : Program} {w : World} {spare : Nat → Bool} {held : Bool}
theorem ints_in {t e : TypeId} {n : Nat} {v : Value} {y : DataW H × List MemPlace} (ht : P.underlying t = some (.slice e)) (he : P.underlying e = some (.int .i64)) (hc : P.cellsOf e = 1) (hby : P.bytesOf e = 8)
    (h : DataW.trod enc P w 0 spare held n t [v] = some y) (hw : ∀ k ∈ y.1.weights P t, k ≤ reachBytes) : ∃ A c xs, v = .slice A xs.length c ∧ Ints w 0 A c xs := by
  rcases open_ints ht he hc h with ⟨hcs, _⟩ | ⟨a, len, cap, zs, hcs, _, hl, hm, hz, hx, hcell, _⟩
  · simp only [List.cons.injEq, and_true] at hcs
    exact ⟨none, 0, [], hcs, ⟨by simp, by omega, by simp, Rd.nil⟩⟩
  · simp only [List.cons.injEq, and_true] at hcs
    have hzl : len ≤ zs.length := by rw [hz]; split <;> omega
    have hwt := hw (zs.length * 8) (by
      rw [hx]
      simp only [DataW.weights, ht, lits, List.length_map, List.length_take, List.length_drop, hby]
      rw [show min len zs.length + (zs.length - len) = zs.length by omega]
      simp)
    obtain ⟨xs, hxl, hxs⟩ := slE_of (enc := fun n : Int => [Value.int .i64 n]) (sz := 1) (bt := 8) (fun _ => rfl) (by decide) (w := w) (a := a) hl hm (by simp only [reachBytes] at hwt; omega) (fun i hi => ⟨zs.getD i 0, fun j u hu => by
      have hj : j = 0 := by
        have := (List.getElem?_eq_some_iff.1 hu).1
        simp at this
        exact this
      subst hj
      simp at hu
      subst hu
      simpa using hcell i (by omega)⟩)
    exact ⟨some a, cap, xs, by rw [hcs, hxl], hxs⟩
end
end Go.Proofs.YtoglgeaiiipchabGreatDoor

namespace Go.Proofs.YtoglgeaiiipchabGreatDoor
open Go Go.ChangeShapes Go.WideShapes Go.ChangeAt Go.RowKit Go.Deep Go.Joins
section
variable {H : Type}
theorem bulk_one (d : DataW H) : 1 ≤ Rows.uptoBulk d := by
  cases d with
  | lit l => cases l <;> simp [Rows.uptoBulk]
  | _ => simp [Rows.uptoBulk]
theorem bulk_part {d : DataW H} : ∀ {l : List (DataW H)}, d ∈ l → Rows.uptoBulk d ≤ Rows.uptoBulkAll l
  | x :: r, h => by
    simp only [Rows.uptoBulkAll]
    rcases List.mem_cons.1 h with e | e
    · subst e; omega
    · have := bulk_part e; omega
theorem bulk_len : ∀ l : List (DataW H), l.length ≤ Rows.uptoBulkAll l
  | [] => by simp [Rows.uptoBulkAll]
  | x :: r => by have h1 := bulk_one x; have h2 := bulk_len r; simp only [Rows.uptoBulkAll, List.length_cons]; omega
theorem bulk_sum {α : Type} {f : Nat → List α} {D : Nat → DataW H} : ∀ {l : List Nat}, (∀ i ∈ l, (f i).length ≤ Rows.uptoBulk (D i)) → ((l.map f).map List.length).sum ≤ Rows.uptoBulkAll (l.map D)
  | [], _ => by simp [Rows.uptoBulkAll]
  | i :: r, h => by
    have h1 := h i (by simp)
    have h2 := bulk_sum (f := f) (D := D) (l := r) (fun j hj => h j (List.mem_cons_of_mem _ hj))
    simp only [List.map_cons, List.sum_cons, Rows.uptoBulkAll]
    omega
variable {enc : TypeId × Value → H} {P : Program} {w : World} {spare : Nat → Bool} {held : Bool}
theorem weights_all_mem {e : TypeId} {d : DataW H} {k : Nat} (hk : k ∈ d.weights P e) : ∀ {l : List (DataW H)}, d ∈ l → k ∈ DataW.weightsAll P e l
  | x :: r, h => by
    simp only [DataW.weightsAll, List.mem_append]
    rcases List.mem_cons.1 h with rfl | h
    · exact .inl hk
    · exact .inr (weights_all_mem hk h)
theorem ints_bulk {t e : TypeId} {n : Nat} {v : Value} {y : DataW H × List MemPlace} (ht : P.underlying t = some (.slice e)) (he : P.underlying e = some (.int .i64)) (hc : P.cellsOf e = 1) (hby : P.bytesOf e = 8)
    (h : DataW.trod enc P w 0 spare held n t [v] = some y) (hw : ∀ k ∈ y.1.weights P t, k ≤ reachBytes) : ∃ A c xs, v = .slice A xs.length c ∧ Ints w 0 A c xs ∧ xs.length ≤ Rows.uptoBulk y.1 := by
  obtain ⟨A, c, xs, rfl, hi⟩ := ints_in ht he hc hby h hw
  refine ⟨A, c, xs, rfl, hi, ?_⟩
  rcases open_ints ht he hc h with ⟨hcs, _⟩ | ⟨a, len, cap, zs, hcs, _, hl, hm, hz, hx, hcell, _⟩
  · simp only [List.cons.injEq, and_true, Value.slice.injEq] at hcs
    omega
  · simp only [List.cons.injEq, and_true, Value.slice.injEq] at hcs
    have hzl : len ≤ zs.length := by rw [hz]; split <;> omega
    have h1 := bulk_len (lits (H := H) .i64 (zs.take len))
    rw [hx]
    simp only [Rows.uptoBulk]
    simp only [lits, List.length_map, List.length_take] at h1
    simp only [lits]
    omega
theorem rows_in {t e ti : TypeId} {n : Nat} {v : Value} {y : DataW H × List MemPlace} (ht : P.underlying t = some (.slice e)) (hce : P.cellsOf e = 1) (hbe : P.bytesOf e = 24) (he : P.underlying e = some (.slice ti)) (hi : P.underlying ti = some (.int .i64)) (hc : P.cellsOf ti = 1) (hby : P.bytesOf ti = 8)
    (h : DataW.trod enc P w 0 spare held n t [v] = some y) (hw : ∀ k ∈ y.1.weights P t, k ≤ reachBytes) :
    ∃ (C : Option Addr) (cc : Nat) (vs : List RwS) (ss : List (List Int)), v = .slice C ss.length cc ∧ SlE rwV 24 w 0 C cc vs ∧ vs.length = ss.length ∧ (∀ k, k < ss.length → ∃ D cd, vs.getD k rw0 = (D, (ss.getD k []).length, cd) ∧ Ints w 0 D cd (ss.getD k [])) ∧ (ss.map List.length).sum ≤ Rows.uptoBulk y.1 := by
  rcases open_slice ht h with ⟨hcs, _⟩ | ⟨a, len, cap, m, n', D, Pl, hcs, _, hl, hm, hmm, hx, hel⟩
  · simp only [List.cons.injEq, and_true] at hcs
    exact ⟨none, 0, [], [], hcs, ⟨by simp, by omega, by simp, Rd.nil⟩, rfl, fun k hk => by simp at hk, by simp⟩
  · simp only [List.cons.injEq, and_true] at hcs
    have hml : len ≤ m := by rw [hmm]; split <;> omega
    have hwt := hw (m * 24) (by
      rw [hx]
      simp only [DataW.weights, ht, List.length_map, List.length_range, hbe]
      rw [show len + (m - len) = m by omega]
      simp)
    have each : ∀ i : Fin len, ∃ q : RwS × List Int, w.cell? (a.add (i.1 * 1)) = some (.slice q.1.1 q.1.2.1 q.1.2.2) ∧ q.1.2.1 = q.2.length ∧ Ints w 0 q.1.1 q.1.2.2 q.2 ∧ q.2.length ≤ Rows.uptoBulk (D i.1) := by
      intro ⟨i, hi'⟩
      obtain ⟨cs', hcc, ht'⟩ := hel i (by omega)
      rw [hce] at hcc
      obtain ⟨_, hcl, hat⟩ := World.cells?_some hcc
      match cs', hcl with
      | [u], _ =>
        obtain ⟨A, c, xs, rfl, hI, hb⟩ := ints_bulk he hi hc hby ht' (fun k hk => hw k (by
          rw [hx]
          simp only [DataW.weights, ht, List.mem_cons, List.mem_append]
          exact .inr (.inl (weights_all_mem hk (List.mem_map.2 ⟨i, List.mem_range.2 hi', rfl⟩)))))
        have h0 := hat 0 (by decide)
        rw [show (a.add (i * 1)).add 0 = a.add (i * 1) by simp [Addr.add]] at h0
        exact ⟨((A, xs.length, c), xs), by simpa using h0, rfl, hI, hb⟩
    obtain ⟨f, hf⟩ : ∃ f : Nat → RwS × List Int, ∀ i, i < len → w.cell? (a.add (i * 1)) = some (.slice (f i).1.1 (f i).1.2.1 (f i).1.2.2) ∧ (f i).1.2.1 = (f i).2.length ∧ Ints w 0 (f i).1.1 (f i).1.2.2 (f i).2 ∧ (f i).2.length ≤ Rows.uptoBulk (D i) :=
      ⟨fun i => if h : i < len then (each ⟨i, h⟩).choose else (rw0, []), fun i hi' => by
        simp only [dif_pos hi']
        exact (each ⟨i, hi'⟩).choose_spec⟩
    obtain ⟨vs, hvl, hvs⟩ := slE_of (enc := rwV) (sz := 1) (bt := 24) (fun _ => rfl) (by decide) (w := w) (a := a) hl hm (by simp only [reachBytes] at hwt; omega) (fun i hi' => ⟨(f i).1, fun j u hu => by
      have hj : j = 0 := by
        have := (List.getElem?_eq_some_iff.1 hu).1
        simp [rwV] at this
        exact this
      subst hj
      simp only [rwV, List.getElem?_cons_zero, Option.some.injEq] at hu
      subst hu
      simpa using (hf i hi').1⟩)
    refine ⟨some a, cap, vs, (List.range len).map fun i => (f i).2, by rw [hcs]; simp, hvs, by simp [hvl], fun k hk => ?_, ?_⟩
    · simp only [List.length_map, List.length_range] at hk
      obtain ⟨h1, h2, h3, _⟩ := hf k hk
      have hk' : k < vs.length := by omega
      obtain ⟨b, off, e1, _, _, h5⟩ := SlE.at (fun _ => rfl) (sz := 1) (fun _ => rfl) (by decide) hvs hk'
      have h6 := h5 0 (.slice vs[k].1 vs[k].2.1 vs[k].2.2) (by rfl)
      cases e1
      have h7 : w.cell? ⟨b, off + k, none⟩ = some (.slice vs[k].1 vs[k].2.1 vs[k].2.2) := by simpa using h6
      have h8 : w.cell? ⟨b, off + k, none⟩ = some (.slice (f k).1.1 (f k).1.2.1 (f k).1.2.2) := by
        rw [Addr_add_off, Nat.mul_one] at h1
        exact h1
      rw [h7] at h8
      simp only [Option.some.injEq, Value.slice.injEq] at h8
      have hss : ((List.range len).map fun i => (f i).2).getD k [] = (f k).2 := by simp [List.getD_eq_getElem?_getD, hk]
      refine ⟨(f k).1.1, (f k).1.2.2, ?_, by rw [hss]; exact h3⟩
      rw [hss, List.getD_eq_getElem?_getD, List.getElem?_eq_getElem hk', Option.getD_some, ← h2]
      exact Prod.ext h8.1 (Prod.ext h8.2.1 h8.2.2)
    · have := bulk_sum (f := fun i => (f i).2) (D := D) (l := List.range len) (fun i hi' => (hf i (List.mem_range.1 hi')).2.2.2)
      rw [hx]
      simp only [Rows.uptoBulk]
      omega
theorem raw_sum (m : Mo) (n : Nat) : (moRaw m n).length ≤ (m.ss.map List.length).sum := by
  have key : ∀ (ss : List (List Int)) (n : Nat), ((List.range n).map fun i => (ss.getD i []).length).sum ≤ (ss.map List.length).sum := by
    intro ss
    induction ss with
    | nil =>
      intro n
      have : ∀ l : List Nat, (l.map fun i => (([] : List (List Int)).getD i []).length).sum = 0 := by
        intro l
        induction l with
        | nil => rfl
        | cons x r ih => simpa using ih
      rw [this]
      exact Nat.zero_le _
    | cons x r ih =>
      intro n
      cases n with
      | zero => simp
      | succ n =>
        rw [List.range_succ_eq_map]
        have := ih n
        simp only [List.map_cons, List.map_map, List.sum_cons]
        simp only [Function.comp_def, Nat.succ_eq_add_one, List.getD_cons_succ, List.getD_cons_zero]
        omega
  unfold moRaw
  rw [List.length_flatMap]
  simp only [List.length_map]
  exact key m.ss n
theorem mo_in {t tF tS ti : TypeId} {f0 f1 f2 f3 : Field} {r : Reach} {b0 : Nat} {v : Value} {d : DataW H} {p : List MemPlace} (hs : P.underlying t = some (.struct #[f0, f1, f2, f3])) (hone : oneCellFields P #[f0, f1, f2, f3] = true) (hC : P.cellsOf t = 4)
    (hi : P.underlying ti = some (.int .i64)) (hci : P.cellsOf ti = 1) (hbi : P.bytesOf ti = 8) (hF : P.underlying tF = some (.slice ti)) (hcF : P.cellsOf tF = 1) (hbF : P.bytesOf tF = 24) (hS : P.underlying tS = some (.slice tF))
    (t0 : f0.type = ti) (t1 : f1.type = tF) (t2 : f2.type = tF) (t3 : f3.type = tS)
    (hv : Value.okWide P w r b0 t v) (h : DataW.Trod enc P w 0 spare held t v d p) (hw : ∀ k ∈ d.weights P t, k ≤ reachBytes) :
    ∃ m A B C ca cb cc vs, v = .agg #[.int .i64 m.pr, .slice A m.ls.length ca, .slice B m.fs.length cb, .slice C m.ss.length cc] ∧ MoRd w 0 m A B C ca cb cc vs ∧ ∀ n, (moRaw m n).length ≤ Rows.uptoBulk d := by
  obtain ⟨v0, v1, v2, v3, y0, y1, y2, y3, n, rfl, rfl, rfl, g0, g1, g2, g3⟩ := open_agg4 hs hone hC hv h
  rw [t0] at g0
  rw [t1] at g1
  rw [t2] at g2
  rw [t3] at g3
  obtain ⟨z0, hz0, _⟩ := DataW.trod_int hi g0
  obtain rfl : v0 = .int .i64 z0 := by simpa using hz0
  have hw' : ∀ k, k ∈ y1.1.weights P tF ∨ k ∈ y2.1.weights P tF ∨ k ∈ y3.1.weights P tS → k ≤ reachBytes := fun k hk => hw k (by
    simp only [DataW.weights, hs]
    simp only [List.map_cons, List.map_nil, DataW.weightsEach, List.mem_append, t0, t1, t2, t3]
    simp
    rcases hk with hk | hk | hk
    · exact .inr (.inl hk)
    · exact .inr (.inr (.inl hk))
    · exact .inr (.inr (.inr hk)))
  obtain ⟨A, ca, ls, rfl, hA⟩ := ints_in hF hi hci hbi g1 (fun k hk => hw' k (.inl hk))
  obtain ⟨B, cb, fs, rfl, hB⟩ := ints_in hF hi hci hbi g2 (fun k hk => hw' k (.inr (.inl hk)))
  obtain ⟨C, cc, vs, ss, rfl, hSS, hl, hrow, hb⟩ := rows_in hS hcF hbF hF hi hci hbi g3 (fun k hk => hw' k (.inr (.inr hk)))
  refine ⟨⟨z0, ls, fs, ss⟩, A, B, C, ca, cb, cc, vs, rfl, ⟨hA, hB, hSS, hl, hrow⟩, fun n => Nat.le_trans (raw_sum _ n) (Nat.le_trans hb ?_)⟩
  simp only [Rows.uptoBulk, Rows.uptoBulkAll]
  omega
end
end Go.Proofs.YtoglgeaiiipchabGreatDoor
