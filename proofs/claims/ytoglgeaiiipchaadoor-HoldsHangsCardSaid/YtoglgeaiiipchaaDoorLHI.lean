/- The statement HoldsHangs, and its card: for every input the law returns true, and its input reads as it did. -/
import Derived.Test.YtoglgeaiiipchaaDoorPBk
import Derived.Test.YtoglgeaiiipchaaDoorPSem2
import Derived.Test.YtoglgeaiiipchaaDoorWHo
import Derived.Test.YtoglgeaiiipchaaDoorWHB
import Derived.Deep.CutBlock
import Derived.Deep.DeepCutAuto
import Derived.Test.YtoglgeaiiipchaaDoorFr
import Derived.ChangeMaps5
import Derived.Test.YtoglgeaiiipchaaDoorCards
import Derived.Test.YtoglgeaiiipchaaDoorTie
import Derived.LaidMore
import Derived.LaidLaws
import Derived.Stop.Joined
import Derived.SevenTiedAt
namespace Go.Proofs.YtoglgeaiiipchaaDoor

theorem until_step {A B : Nat → Prop} (i : Nat) : (∃ j, i ≤ j ∧ B j ∧ ∀ m, i ≤ m → m < j → A m) ↔ B i ∨ A i ∧ ∃ j, i + 1 ≤ j ∧ B j ∧ ∀ m, i + 1 ≤ m → m < j → A m := by
  constructor
  · rintro ⟨j, h1, h2, h3⟩
    rcases Nat.eq_or_lt_of_le h1 with rfl | h4
    · exact .inl h2
    · exact .inr ⟨h3 i (Nat.le_refl _) h4, j, h4, h2, fun m h5 h6 => h3 m (by omega) h6⟩
  · rintro (h | ⟨h0, j, h1, h2, h3⟩)
    · exact ⟨i, Nat.le_refl _, h, fun m h1 h2 => absurd h1 (by omega)⟩
    · refine ⟨j, by omega, h2, fun m h4 h5 => ?_⟩
      rcases Nat.eq_or_lt_of_le h4 with rfl | h6
      · exact h0
      · exact h3 m h6 h5
theorem release_step {A B : Nat → Prop} (i : Nat) : (∀ j, i ≤ j → B j ∨ ∃ m, i ≤ m ∧ m < j ∧ A m) ↔ B i ∧ (A i ∨ ∀ j, i + 1 ≤ j → B j ∨ ∃ m, i + 1 ≤ m ∧ m < j ∧ A m) := by
  constructor
  · intro h
    refine ⟨?_, ?_⟩
    · rcases h i (Nat.le_refl _) with h1 | ⟨m, h1, h2, _⟩
      · exact h1
      · omega
    · by_cases ha : A i
      · exact .inl ha
      · refine .inr fun j hj => ?_
        rcases h j (by omega) with h1 | ⟨m, h1, h2, h3⟩
        · exact .inl h1
        · refine .inr ⟨m, ?_, h2, h3⟩
          rcases Nat.eq_or_lt_of_le h1 with rfl | h4
          · exact absurd h3 ha
          · exact h4
  · rintro ⟨hb, h⟩ j hj
    rcases Nat.eq_or_lt_of_le hj with rfl | h1
    · exact .inl hb
    · rcases h with ha | h
      · exact .inr ⟨i, Nat.le_refl _, h1, ha⟩
      · rcases h j h1 with h2 | ⟨m, h2, h3, h4⟩
        · exact .inl h2
        · exact .inr ⟨m, by omega, h3, h4⟩
theorem bool_iff {a b : Bool} (h : a = true ↔ b = true) : a = b := by cases a <;> cases b <;> simp_all
section
variable {l : La} {f : List Nd} (hp : 0 < l.l.length) (hf : FmOK f)
include hp hf
theorem tab_sem {i p : Nat} (hi : i < f.length) (hpn : p < l.n) : gB (tableOf l f) i p = true ↔ (treeAt f i).sem l.at p := by
  have := table_sem hp hf i hi p f.length hi
  rwa [plc_self hpn] at this
theorem tab_nx {i p : Nat} (hi : i < f.length) (hpn : p < l.n) : gB (tableOf l f) i (nx l.n l.h.length p) = true ↔ (treeAt f i).sem l.at (p + 1) := by
  have hh : l.h.length < l.n := by unfold La.n; omega
  have := table_sem hp hf i hi (p + 1) f.length hi
  rw [← plc_succ hh, plc_self hpn] at this
  exact this
theorem hangs_next {i p : Nat} (hi : i < f.length) (hpn : p < l.n) (hk : f[i].k = 6) : gB (tableOf l f) i p = gB (tableOf l f) f[i].a.toNat (nx l.n l.h.length p) := by
  have hx := ndErr_zero.1 (hf.nd i hi)
  have ha := hx.a (by omega)
  apply bool_iff
  rw [tab_sem hp hf hi hpn, tab_nx hp hf (i := f[i].a.toNat) (by omega) hpn, treeAt_eq hi _ rfl]
  unfold treeN
  rw [if_neg (by omega), if_neg (by omega), if_neg (by omega), if_pos hk, treesOf_get _ _ _ (by omega)]
  rfl
theorem hangs_until {i p : Nat} (hi : i < f.length) (hpn : p < l.n) (hk : f[i].k = 7) : gB (tableOf l f) i p = (gB (tableOf l f) f[i].b.toNat p || (gB (tableOf l f) f[i].a.toNat p && gB (tableOf l f) i (nx l.n l.h.length p))) := by
  have hx := ndErr_zero.1 (hf.nd i hi)
  have ha := hx.a (by omega)
  have hb := hx.b (by omega)
  have ht : treeAt f i = .bi 7 (treeAt f f[i].a.toNat) (treeAt f f[i].b.toNat) := by
    rw [treeAt_eq hi _ rfl]
    unfold treeN
    rw [if_neg (by omega), if_neg (by omega), if_neg (by omega), if_neg (by omega), treesOf_get _ _ _ (by omega), treesOf_get _ _ _ (by omega), hk]
  apply bool_iff
  rw [Bool.or_eq_true, Bool.and_eq_true, tab_sem hp hf hi hpn, tab_nx hp hf hi hpn, tab_sem hp hf (i := f[i].a.toNat) (by omega) hpn, tab_sem hp hf (i := f[i].b.toNat) (by omega) hpn, ht]
  simp only [Fm.sem, show ¬ (7 : Int) = 4 by decide, show ¬ (7 : Int) = 5 by decide, if_true, if_false]
  exact until_step (A := fun m => (treeAt f f[i].a.toNat).sem l.at m) (B := fun m => (treeAt f f[i].b.toNat).sem l.at m) p
theorem hangs_release {i p : Nat} (hi : i < f.length) (hpn : p < l.n) (hk : f[i].k = 8) : gB (tableOf l f) i p = (gB (tableOf l f) f[i].b.toNat p && (gB (tableOf l f) f[i].a.toNat p || gB (tableOf l f) i (nx l.n l.h.length p))) := by
  have hx := ndErr_zero.1 (hf.nd i hi)
  have ha := hx.a (by omega)
  have hb := hx.b (by omega)
  have ht : treeAt f i = .bi 8 (treeAt f f[i].a.toNat) (treeAt f f[i].b.toNat) := by
    rw [treeAt_eq hi _ rfl]
    unfold treeN
    rw [if_neg (by omega), if_neg (by omega), if_neg (by omega), if_neg (by omega), treesOf_get _ _ _ (by omega), treesOf_get _ _ _ (by omega), hk]
  apply bool_iff
  rw [Bool.and_eq_true, Bool.or_eq_true, tab_sem hp hf hi hpn, tab_nx hp hf hi hpn, tab_sem hp hf (i := f[i].a.toNat) (by omega) hpn, tab_sem hp hf (i := f[i].b.toNat) (by omega) hpn, ht]
  simp only [Fm.sem, show ¬ (8 : Int) = 4 by decide, show ¬ (8 : Int) = 5 by decide, show ¬ (8 : Int) = 7 by decide, if_false]
  exact release_step (A := fun m => (treeAt f f[i].a.toNat).sem l.at m) (B := fun m => (treeAt f f[i].b.toNat).sem l.at m) p
end
theorem neg_okS {t : Fm} (h : t.okS) : ∀ b, (t.neg b).okS := by
  induction t with
  | tt => intro b; cases b <;> trivial
  | pr n => intro b; cases b <;> exact h
  | no a ih => intro b; exact ih h _
  | nx a ih => intro b; exact ih h _
  | bi k x y ihx ihy =>
    intro b
    refine ⟨?_, ihx h.2.1 b, ihy h.2.2 b⟩
    cases b
    · exact h.1
    · rcases h.1 with rfl | rfl | rfl | rfl <;> decide
/-- the opposite is a formula, and holds just where it does not -/
theorem holds_neg {f : List Nd} {l : La} (hc : ckT f l = 0) (he : negE f = 0) : ckT (negF f) l = 0 ∧ (holdsV f l != holdsV (negF f) l) = true := by
  obtain ⟨hcf, hcl⟩ := ckT_F hc
  have hlim := ckT_lim hc
  have ho := ckF_zero.1 hcf
  have hlt : f.length - 1 < f.length := by have := ho.pos; omega
  have hs := treeAt_okS ho _ hlt
  have hm : tooMany (negO f) = false := by
    unfold negE at he
    rw [if_pos hcf] at he
    cases h : tooMany (negO f) with
    | false => rfl
    | true => rw [if_pos h] at he; cases he
  have hn : negF f = ((treeAt f (f.length - 1)).neg true).flat [] := by
    unfold negF
    rw [if_pos hcf, if_neg (by simp [hm])]
    exact Fm.negV_few _ _ _ hm
  have hs2 := neg_okS hs true
  have hpl := ((treeAt f (f.length - 1)).neg true).flat_len []
  have hsp := ((treeAt f (f.length - 1)).neg true).size_pos
  have hm2 : tooMany (((treeAt f (f.length - 1)).neg true).flat []) = false := by
    rw [← Fm.negV_few _ _ _ hm]; exact hm
  have ho2 : FmOK (negF f) := by
    rw [hn]
    exact ⟨by simp at hpl; omega, hm2, flat_ok hs2 [] (fun i h => absurd h (by simp))⟩
  have hc2 : ckT (negF f) l = 0 := by
    unfold ckT
    rw [ckF_zero.2 ho2]
    exact hcl
  refine ⟨hc2, ?_⟩
  have hp : 0 < l.l.length := by unfold La.n at hlim; omega
  have hlt2 : (negF f).length - 1 < (negF f).length := by have := ho2.pos; omega
  have e1 := tab_sem hp ho hlt (p := 0) (by omega)
  have e2 := tab_sem hp ho2 hlt2 (p := 0) (by omega)
  have e3 : treeAt (negF f) ((negF f).length - 1) = (treeAt f (f.length - 1)).neg true := by
    rw [hn]
    have := treeAt_flat ((treeAt f (f.length - 1)).neg true) (Fm.okS_ok hs2) []
    rwa [show ([] : List Nd).length + ((treeAt f (f.length - 1)).neg true).size - 1 = (((treeAt f (f.length - 1)).neg true).flat []).length - 1 by rw [hpl]] at this
  rw [e3, Fm.sem_neg _ (Fm.okS_ok hs), if_pos rfl] at e2
  unfold holdsV
  rw [if_pos hc, if_pos hc2]
  cases h1 : gB (tableOf l f) (f.length - 1) 0 <;> cases h2 : gB (tableOf l (negF f)) ((negF f).length - 1) 0 <;> simp_all
end Go.Proofs.YtoglgeaiiipchaaDoor

namespace Go.Proofs.YtoglgeaiiipchaaDoor
open Go Go.RowKit Go.Sort

theorem tab_at {w : World} {lo : Nat} {T : Option Addr} {tc : Nat} {rows : List (List Bool)} {gs : List Nat} (h : TabAt w lo (.slice T rows.length tc) rows gs) (h0 : 0 < rows.length) :
    ∃ tb tof, T = some ⟨tb, tof, none⟩ ∧ rows.length ≤ tc ∧ tc ≤ 9223372036854775807 ∧ ∀ W, Below w.heap.size w W → ∀ (k : Nat) (hk : k < rows.length), ∃ g, W.cell? ⟨tb, tof + k, none⟩ = some (.slice (some ⟨g, 0, none⟩) rows[k].length rows[k].length) ∧ ∀ (p : Nat) (hp : p < rows[k].length), W.cell? ⟨g, p, none⟩ = some (.bool rows[k][p]) := by
  obtain ⟨A, c, hv, h1, h2, h3, _⟩ := own_form h.own
  simp only [Value.slice.injEq, true_and] at hv
  obtain ⟨rfl, rfl⟩ := hv
  have hz : ∀ (k : Nat) (hk : k < rows.length) (hkg : k < gs.length), (gs.zipWith (fun g r => Value.slice (some ⟨g, 0, none⟩) r.length r.length) rows)[k]? = some (.slice (some ⟨gs[k], 0, none⟩) rows[k].length rows[k].length) := fun k hk hkg => by
    rw [List.getElem?_zipWith, List.getElem?_eq_getElem hkg, List.getElem?_eq_getElem hk]
  have hkg : ∀ k, k < rows.length → k < gs.length := fun k hk => by rw [h.len]; exact hk
  obtain ⟨b, off, hA, _, hb, hc⟩ := h3 (by intro e; have := hz 0 h0 (hkg 0 h0); rw [e] at this; simp at this)
  refine ⟨b, off, hA, h1, h2, fun W hW k hk => ?_⟩
  obtain ⟨h4, h5, h6⟩ := h.row k hk (hkg k hk)
  refine ⟨gs[k]'(hkg k hk), (hW.cell (p := ⟨b, off + k, none⟩) hb).trans (hc k _ (hz k hk (hkg k hk))), fun p hp => ?_⟩
  exact (hW.cell (p := ⟨gs[k]'(hkg k hk), p, none⟩) h6).trans ((h4.cell (i := p) hp).1)
theorem tableOf_get {l : La} {f : List Nd} {k p : Nat} (hk : k < (tableOf l f).length) (hp : p < (tableOf l f)[k].length) : (tableOf l f)[k][p] = gB (tableOf l f) k p := by
  have e1 : (tableOf l f).getD k [] = (tableOf l f)[k] := by rw [List.getD_eq_getElem?_getD, List.getElem?_eq_getElem hk]; rfl
  unfold gB
  rw [e1, List.getD_eq_getElem?_getD, List.getElem?_eq_getElem hp]
  rfl
set_option maxRecDepth 100000 in
set_option maxHeartbeats 4000000 in
theorem HoldsHangs_ (F : Option Addr) (fc : Nat) (f : List Nd) (A B : Option Addr) (ca cb : Nat) (l : La) (w : World) (hf : Nds w 0 F fc f) (hh : Ints w 0 A ca l.h) (hl : Ints w 0 B cb l.l) :
    Calls Tryd.prog 6 #[.slice F f.length fc, .agg #[.slice A l.h.length ca, .slice B l.l.length cb]] w (FbPost w) := by
  have hcp := hf.cap
  have hle := hf.le
  have hb0 : Below w.heap.size w (w.alloc (Obj.cells #[Value.slice A l.h.length ca, Value.slice B l.l.length cb] 40)) := (Below.refl _ _).alloc (Nat.le_refl _) _
  have HB0 := Lib.hid hb0
  have HF := Lib.hid (hf.below hb0)
  have HH := Lib.hid (hh.below hb0)
  have HL := Lib.hid (hl.below hb0)
  have HV0 : Hid ((w.alloc (Obj.cells #[Value.slice A l.h.length ca, Value.slice B l.l.length cb] 40)).cell? ⟨w.heap.size, 0, none⟩ = some (.slice A l.h.length ca) ∧ (w.alloc (Obj.cells #[Value.slice A l.h.length ca, Value.slice B l.l.length cb] 40)).cell? ⟨w.heap.size, 1, none⟩ = some (.slice B l.l.length cb) ∧ w.heap.size < (w.alloc (Obj.cells #[Value.slice A l.h.length ca, Value.slice B l.l.length cb] 40)).heap.size) := by
    refine ⟨by go_simp, by go_simp, by simp⟩
  clear hf hh hl hb0
  go_enter Tryd.func6, Tryd.ntmps6
  go_wp2_with fail
  generalize w.alloc (Obj.cells #[Value.slice A l.h.length ca, Value.slice B l.l.length cb] 40) = W0 at *
  have HBW : Hid (∀ W, Below W0.heap.size W0 W → Below w.heap.size w W) := fun W hW => Below_on HB0.out hW HB0.out.size
  obtain ⟨V, hV⟩ : ∃ V, V = w.heap.size := ⟨_, rfl⟩
  have HVX : Hid (∀ W, Below W0.heap.size W0 W → W.cell? ⟨V, 0, none⟩ = some (.slice A l.h.length ca) ∧ W.cell? ⟨V, 1, none⟩ = some (.slice B l.l.length cb)) := fun W hW => by
    rw [hV]
    exact ⟨(hW.cell (p := ⟨w.heap.size, 0, none⟩) HV0.out.2.2).trans HV0.out.1, (hW.cell (p := ⟨w.heap.size, 1, none⟩) HV0.out.2.2).trans HV0.out.2.1⟩
  rw [← hV]
  clear hV HV0 HB0
  refine (holdsBegun_ W0).mono ?_
  rintro e w1 ⟨rfl, hb1⟩
  have HB1 := Lib.hid hb1
  clear hb1
  go_wp2_with fail
  refine (formulaBegun_ w1).mono ?_
  rintro e w2 ⟨rfl, hb2⟩
  have HB2 := Lib.hid (Below_on HB1.out hb2 HB1.out.size)
  clear hb2 HB1
  obtain ⟨c0, c1⟩ := HVX.out w2 HB2.out
  have HT2 := Lib.hid (Table_ F fc f A B ca cb l w2 (HF.out.below HB2.out) (HH.out.below HB2.out) (HL.out.below HB2.out))
  go_wp2_with fail
  refine HT2.out.mono ?_
  rintro e w3 ⟨hb3, hp⟩
  have HB3 := Lib.hid (Below_on HB2.out hb3 HB2.out.size)
  clear hb3 HT2 c0 c1
  by_cases hc : ckT f l = 0
  · rw [if_pos hc] at hp
    obtain ⟨v, gs, rfl, htab⟩ := hp
    obtain ⟨T, tc, hv, hjunk⟩ := own_form htab.own
    clear hjunk
    subst hv
    have hlim := ckT_lim hc
    have htl := length_tableOf l f
    have hck := ckT_F hc
    have ho := ckF_zero.1 hck.1
    have hlp : 0 < l.l.length := (okLetters hck.2).2.2.1
    obtain ⟨tb, tof, rfl, ht1, ht2, htc⟩ := tab_at htab (by omega)
    have HTB : Hid (∀ W, Below w3.heap.size w3 W → ∀ k, k < f.length → ∃ g, W.cell? ⟨tb, tof + k, none⟩ = some (.slice (some ⟨g, 0, none⟩) l.n l.n) ∧ ∀ p, p < l.n → W.cell? ⟨g, p, none⟩ = some (.bool (gB (tableOf l f) k p))) := by
      intro W hW k hk
      have hk' : k < (tableOf l f).length := by omega
      obtain ⟨g, h1, h2⟩ := htc W hW k hk'
      have hr : (tableOf l f)[k].length = l.n := mem_tableOf l f _ (List.getElem_mem hk')
      rw [hr] at h1
      exact ⟨g, h1, fun p hp => (h2 p (by omega)).trans (by rw [tableOf_get])⟩
    have HO := Lib.hid ho
    have HCC := Lib.hid hc
    have HNX : Hid (∀ p, p < l.n → nx l.n l.h.length p < l.n) := fun p hp => nx_lt hp hlim.2.2.2.2
    have HG6 : Hid (∀ (i p : Nat) (hi : i < f.length), p < l.n → f[i].k = 6 → gB (tableOf l f) i p = gB (tableOf l f) f[i].a.toNat (nx l.n l.h.length p)) := fun i p hi hp hk => hangs_next hlp ho hi hp hk
    have HG7 : Hid (∀ (i p : Nat) (hi : i < f.length), p < l.n → f[i].k = 7 → gB (tableOf l f) i p = (gB (tableOf l f) f[i].b.toNat p || (gB (tableOf l f) f[i].a.toNat p && gB (tableOf l f) i (nx l.n l.h.length p)))) := fun i p hi hp hk => hangs_until hlp ho hi hp hk
    have HG8 : Hid (∀ (i p : Nat) (hi : i < f.length), p < l.n → f[i].k = 8 → gB (tableOf l f) i p = (gB (tableOf l f) f[i].b.toNat p && (gB (tableOf l f) f[i].a.toNat p || gB (tableOf l f) i (nx l.n l.h.length p)))) := fun i p hi hp hk => hangs_release hlp ho hi hp hk
    rw [htl] at ht1
    rw [htl]
    obtain ⟨n, hn⟩ : ∃ n, n = l.n := ⟨_, rfl⟩
    have hn2 : n = l.h.length + l.l.length := hn
    have hsum : (l.h.length : Int) + (l.l.length : Int) = (n : Int) := by omega
    have hwr : IntKind.i64.wrap ((l.h.length : Int) + (l.l.length : Int)) = (n : Int) := by rw [hsum]; exact IntWalk.i64_in _ (by omega)
    have hwr2 : IntKind.i64.wrap (n : Int) = (n : Int) := IntWalk.i64_in _ (by omega)
    obtain ⟨hlh, hfl, hn8⟩ : l.h.length < n ∧ f.length ≤ 12 ∧ n ≤ 8000 := by omega
    rw [← hn] at HTB HNX HG6 HG7 HG8
    obtain ⟨c0, c1⟩ := HVX.out w3 HB3.out
    clear hc htab hlim htl hck ho hlp htc hn hn2
    generalize tableOf l f = tab at *
    go_wp2_with fail
    go_loopw [8] (fun s8 wr => ∃ i : Nat, i ≤ f.length ∧ s8 = .int .i64 (i : Int) ∧ Hid (Below w3.heap.size w3 wr)) (fun s8 _ => f.length - (intOf s8).toNat)
    case atStart => exact ⟨0, Nat.zero_le _, rfl, Below.refl _ _⟩
    case round =>
      obtain ⟨i, hi, rfl, HBR⟩ := hrel
      by_cases hil : i < f.length
      · have q1 : (i : Int) < (f.length : Int) := by omega
        obtain ⟨fb, fo, rfl, _, hfbl, y0, y1, y2, y3⟩ := Nds.at_ (HF.out.below (Below_on HB3.out HBR.out HB3.out.size)) hil
        have hG6 := HG6.out i
        have hG7 := HG7.out i
        have hG8 := HG8.out i
        have hnd := ndErr_zero.1 (HO.out.nd i hil)
        have HX6 : Hid (∀ p, p < n → f[i].k = 6 → gB tab i p = gB tab f[i].a.toNat (nx n l.h.length p)) := fun p hp hk => hG6 p hil hp hk
        have HX7 : Hid (∀ p, p < n → f[i].k = 7 → gB tab i p = (gB tab f[i].b.toNat p || (gB tab f[i].a.toNat p && gB tab i (nx n l.h.length p)))) := fun p hp hk => hG7 p hil hp hk
        have HX8 : Hid (∀ p, p < n → f[i].k = 8 → gB tab i p = (gB tab f[i].b.toNat p && (gB tab f[i].a.toNat p || gB tab i (nx n l.h.length p)))) := fun p hp hk => hG8 p hil hp hk
        clear hG6 hG7 hG8
        obtain ⟨x, hx⟩ : ∃ x, x = f[i] := ⟨_, rfl⟩
        rw [← hx] at y0 y1 y2 y3 hnd HX6 HX7 HX8
        clear hx
        obtain ⟨k, a, b, m⟩ := x
        simp only at y0 y1 y2 y3
        have HND := Lib.hid hnd
        clear hnd
        have HXB : Hid (Below w3.heap.size w3 (wr.alloc (Obj.cells #[.int .i64 k, .int .i64 a, .int .i64 b, .int .i64 m] 45))) := HBR.out.alloc HBR.out.size _
        have HXX : Hid (∀ W, Below (wr.heap.size + 1) (wr.alloc (Obj.cells #[.int .i64 k, .int .i64 a, .int .i64 b, .int .i64 m] 45)) W → W.cell? ⟨wr.heap.size, 0, none⟩ = some (.int .i64 k) ∧ W.cell? ⟨wr.heap.size, 1, none⟩ = some (.int .i64 a) ∧ W.cell? ⟨wr.heap.size, 2, none⟩ = some (.int .i64 b)) := fun W hW =>
          ⟨(hW.cell (p := ⟨wr.heap.size, 0, none⟩) (Nat.lt_succ_self _)).trans (by go_simp), (hW.cell (p := ⟨wr.heap.size, 1, none⟩) (Nat.lt_succ_self _)).trans (by go_simp), (hW.cell (p := ⟨wr.heap.size, 2, none⟩) (Nat.lt_succ_self _)).trans (by go_simp)⟩
        have hxs : wr.heap.size + 1 ≤ (wr.alloc (Obj.cells #[.int .i64 k, .int .i64 a, .int .i64 b, .int .i64 m] 45)).heap.size := by simp
        have HXS := Lib.hid hxs
        clear hxs
        go_wp2_with fail
        generalize wr.alloc (Obj.cells #[.int .i64 k, .int .i64 a, .int .i64 b, .int .i64 m] 45) = w4 at *
        generalize wr.heap.size = X at *
        clear y0 y1 y2 y3 hfbl HBR
        go_loopw [10, 11, 12] (fun s10 _ _ wx => ∃ p : Nat, p ≤ n ∧ s10 = .int .i64 (p : Int) ∧ wx = w4) (fun s10 _ _ _ => n - (intOf s10).toNat)
        case atStart => exact ⟨0, Nat.zero_le _, rfl, rfl⟩
        case round =>
          obtain ⟨p, hpn, rfl, rfl⟩ := hrel
          by_cases hpl : p < n
          · have q2 : (p : Int) < (n : Int) := by omega
            have d1 : IntKind.i64.wrap ((p : Int) + 1) = (p : Int) + 1 := IntWalk.i64_in _ (by omega)
            obtain ⟨x0, x1, x2⟩ := HXX.out _ (Below.refl _ _)
            obtain ⟨c0, c1⟩ := HVX.out _ (Below_on HB3.out HXB.out HB3.out.size)
            obtain ⟨gi, ri, vi⟩ := HTB.out _ HXB.out i hil
            obtain ⟨q, hq⟩ : ∃ q, q = nx n l.h.length p := ⟨_, rfl⟩
            have hqn : q < n := by rw [hq]; exact HNX.out p hpl
            have hqn' : (q : Int) < (n : Int) := by omega
            have hvp := vi p hpl
            have hvq := vi q hqn
            have HA : Hid (3 ≤ k → ∃ (aa ga : Nat), a = (aa : Int) ∧ aa < f.length ∧ wr.cell? ⟨tb, tof + aa, none⟩ = some (.slice (some ⟨ga, 0, none⟩) n n) ∧ wr.cell? ⟨ga, p, none⟩ = some (.bool (gB tab a.toNat p)) ∧ wr.cell? ⟨ga, q, none⟩ = some (.bool (gB tab a.toNat q))) := fun h3 => by
              have := HND.out.a h3
              simp only at this
              obtain ⟨aa, rfl⟩ := Int.eq_ofNat_of_zero_le this.1
              obtain ⟨ga, ra, va⟩ := HTB.out _ HXB.out aa (by omega)
              exact ⟨aa, ga, rfl, by omega, ra, va p hpl, va q hqn⟩
            have HBb : Hid ((k = 4 ∨ k = 5 ∨ k = 7 ∨ k = 8) → ∃ (bb gb : Nat), b = (bb : Int) ∧ bb < f.length ∧ wr.cell? ⟨tb, tof + bb, none⟩ = some (.slice (some ⟨gb, 0, none⟩) n n) ∧ wr.cell? ⟨gb, p, none⟩ = some (.bool (gB tab b.toNat p))) := fun h3 => by
              have := HND.out.b h3
              simp only at this
              obtain ⟨bb, rfl⟩ := Int.eq_ofNat_of_zero_le this.1
              obtain ⟨gb, rb, vb⟩ := HTB.out _ HXB.out bb (by omega)
              exact ⟨bb, gb, rfl, by omega, rb, vb p hpl⟩
            have HP6 : Hid (k = 6 → gB tab i p = gB tab a.toNat q) := fun h => by rw [hq]; exact HX6.out p hpl h
            have HP7 : Hid (k = 7 → gB tab i p = (gB tab b.toNat p || (gB tab a.toNat p && gB tab i q))) := fun h => by rw [hq]; exact HX7.out p hpl h
            have HP8 : Hid (k = 8 → gB tab i p = (gB tab b.toNat p && (gB tab a.toNat p || gB tab i q))) := fun h => by rw [hq]; exact HX8.out p hpl h
            have HQQ := Lib.hid hq
            clear hq vi
            generalize gB tab i p = vip at *
            generalize gB tab i q = viq at *
            have HQL : Hid (if p + 1 = n then (l.h.length : Int) = (q : Int) else (p : Int) + 1 = (q : Int)) := by
              show ite _ _ _
              rw [HQQ.out]
              unfold nx
              by_cases h : p + 1 = n
              · rw [if_pos h, if_pos h]
              · rw [if_neg h, if_neg h]; omega
            go_upto_if 66 with fail
            go_cut [11] (fun s11 wx => s11 = .int .i64 (q : Int) ∧ wx = wr)
            case first =>
              by_cases hnx : p + 1 = n
              · have e1 : ((p : Int) + 1 == (n : Int)) = true := by simp; omega
                have hql := HQL.out
                rw [if_pos hnx] at hql
                go_wp2_with fail
                go_meet
                first | exact ⟨rfl, rfl⟩ | exact ⟨by rw [hql], rfl⟩
              · have e1 : ((p : Int) + 1 == (n : Int)) = false := by simp; omega
                have hql := HQL.out
                rw [if_neg hnx] at hql
                go_wp2_with fail
                go_meet
                first | exact ⟨rfl, rfl⟩ | exact ⟨by rw [hql], rfl⟩
            case rest =>
              obtain ⟨rfl, rfl⟩ := hcut
              clear c0 c1 d1
              go_upto_block 4 with fail
              go_cut [12] (fun s12 wx => s12 = .bool vip ∧ wx = wc)
              case first =>
                by_cases h6 : k = 6
                · subst h6
                  obtain ⟨aa, ga, rfl, haf, ra, vap, vaq⟩ := HA.out (by decide)
                  have hv := HP6.out rfl
                  rw [← hv] at vaq
                  have haf' : (aa : Int) < (f.length : Int) := by omega
                  clear HA HBb HP6 HP7 HP8 hv vap
                  go_wp2_with fail
                  go_meet
                  exact ⟨rfl, rfl⟩
                · have k6 : (k == 6) = false := by simp [h6]
                  by_cases h7 : k = 7
                  · subst h7
                    obtain ⟨aa, ga, rfl, haf, ra, vap, vaq⟩ := HA.out (by decide)
                    obtain ⟨bb, gb, rfl, hbf, rb, vbp⟩ := HBb.out (by decide)
                    have hv := HP7.out rfl
                    have haf' : (aa : Int) < (f.length : Int) := by omega
                    have hbf' : (bb : Int) < (f.length : Int) := by omega
                    clear HA HBb HP6 HP7 HP8 vaq
                    generalize gB tab ((aa : Int)).toNat p = va at *
                    generalize gB tab ((bb : Int)).toNat p = vb at *
                    cases vb with
                    | true =>
                      obtain rfl : vip = true := by simpa using hv
                      clear hv
                      go_wp2_with fail
                      go_meet
                      exact ⟨rfl, rfl⟩
                    | false =>
                      cases va with
                      | false =>
                        obtain rfl : vip = false := by simpa using hv
                        clear hv
                        go_wp2_with fail
                        go_meet
                        exact ⟨rfl, rfl⟩
                      | true =>
                        obtain rfl : vip = viq := by simpa using hv
                        clear hv
                        go_wp2_with fail
                        go_meet
                        exact ⟨rfl, rfl⟩
                  · have k7 : (k == 7) = false := by simp [h7]
                    by_cases h8 : k = 8
                    · subst h8
                      obtain ⟨aa, ga, rfl, haf, ra, vap, vaq⟩ := HA.out (by decide)
                      obtain ⟨bb, gb, rfl, hbf, rb, vbp⟩ := HBb.out (by decide)
                      have hv := HP8.out rfl
                      have haf' : (aa : Int) < (f.length : Int) := by omega
                      have hbf' : (bb : Int) < (f.length : Int) := by omega
                      clear HA HBb HP6 HP7 HP8 vaq
                      generalize gB tab ((aa : Int)).toNat p = va at *
                      generalize gB tab ((bb : Int)).toNat p = vb at *
                      cases vb with
                      | false =>
                        obtain rfl : vip = false := by simpa using hv
                        clear hv
                        go_wp2_with fail
                        go_meet
                        exact ⟨rfl, rfl⟩
                      | true =>
                        cases va with
                        | true =>
                          obtain rfl : vip = true := by simpa using hv
                          clear hv
                          go_wp2_with fail
                          go_meet
                          exact ⟨rfl, rfl⟩
                        | false =>
                          obtain rfl : vip = viq := by simpa using hv
                          clear hv
                          go_wp2_with fail
                          go_meet
                          exact ⟨rfl, rfl⟩
                    · have k8 : (k == 8) = false := by simp [h8]
                      clear HA HBb HP6 HP7 HP8 h6 h7 h8
                      go_wp2_with fail
                      go_meet
                      exact ⟨rfl, rfl⟩
              case rest =>
                obtain ⟨rfl, rfl⟩ := hcut
                have d1 : IntKind.i64.wrap ((p : Int) + 1) = (p : Int) + 1 := IntWalk.i64_in _ (by omega)
                clear HA HBb HP6 HP7 HP8
                go_wp2_with fail
                go_roundw
                case rel => exact ⟨p + 1, by omega, by go_num, by first | rfl | trivial⟩
                case measure => simp [intOf]; omega
          · obtain rfl : p = n := by omega
            have q2 : ¬ (p : Int) < (p : Int) := by omega
            have d2 : IntKind.i64.wrap ((i : Int) + 1) = (i : Int) + 1 := IntWalk.i64_in _ (by omega)
            go_wp2_with fail
            go_roundw
            case rel => exact ⟨i + 1, by omega, by go_num, HXB⟩
            case measure => simp [intOf]; omega
      · have q1 : ¬ (i : Int) < (f.length : Int) := by omega
        obtain ⟨hneg, hho⟩ : (negE f = 0 → ckT (negF f) l = 0 ∧ (holdsV f l != holdsV (negF f) l) = true) ∧ ckT f l = 0 := ⟨fun he => holds_neg HCC.out he, HCC.out⟩
        have HNE := Lib.hid hneg
        have HHO := Lib.hid hho
        have HBE := Lib.hid (Below_on HB3.out HBR.out HB3.out.size)
        have HNG := Lib.hid (Negate_ F fc f wr (HF.out.below HBE.out))
        clear hneg hho HCC HO HTB HNX HG6 HG7 HG8 HBR
        generalize negF f = g at *
        generalize negE f = en at *
        go_wp2_with fail
        refine HNG.out.mono ?_
        rintro e w4 ⟨G, gc, rfl, hng, hb4⟩
        have HB4 := Lib.hid (Below_on HBE.out hb4 HBE.out.size)
        have HN4 := Lib.hid hng.zero
        have hgl := hng.le
        have hgc := hng.cap
        clear hng hb4 HNG
        by_cases hen : en = 0
        · obtain ⟨hc2, hdif⟩ := HNE.out hen
          have HH4 := Lib.hid (Holds_ F fc f A B ca cb l w4 (HF.out.below HB4.out) (HH.out.below HB4.out) (HL.out.below HB4.out))
          rw [HHO.out] at HH4
          have HHG : Hid (∀ W, Below w4.heap.size w4 W → Calls Tryd.prog 19 #[.slice G g.length gc, .agg #[.slice A l.h.length ca, .slice B l.l.length cb]] W fun e w' => e = .returned (.tuple #[.bool (holdsV g l), .int .i64 0]) ∧ Below W.heap.size W w') := fun W hW => by
            have := Holds_ G gc g A B ca cb l W (HN4.out.below hW) (HH.out.below (Below_on HB4.out hW HB4.out.size)) (HL.out.below (Below_on HB4.out hW HB4.out.size))
            rwa [hc2] at this
          obtain ⟨d0, d1⟩ := HVX.out w4 HB4.out
          subst hen
          clear hc2 HNE HHO
          generalize holdsV f l = v1 at *
          generalize holdsV g l = v2 at *
          go_wp2_with fail
          refine HH4.out.mono ?_
          rintro e w5 ⟨rfl, hb5⟩
          have HB5 := Lib.hid (Below_on HB4.out hb5 HB4.out.size)
          have HH5 := Lib.hid (HHG.out w5 hb5)
          obtain ⟨f0, f1⟩ := HVX.out w5 HB5.out
          clear hb5 HH4 HHG d0 d1
          go_wp2_with fail
          refine HH5.out.mono ?_
          rintro e w6 ⟨rfl, hb6⟩
          have HP : Hid (FbPost w (.returned (.bool true)) w6) := ⟨rfl, HBW.out _ (Below_on HB5.out hb6 HB5.out.size)⟩
          clear hb6 HH5 f0 f1
          go_wp2_with fail
          go_ret
          have hdif' : (!(v1 == v2)) = true := hdif
          show FbPost w (.returned (.bool (!(v1 == v2)))) w6
          rw [hdif']
          exact HP.out
        · have hen' : (en != 0) = true := by simpa using hen
          have HP : Hid (FbPost w (.returned (.bool true)) w4) := ⟨rfl, HBW.out _ HB4.out⟩
          clear hen HNE HHO
          go_wp2_with fail
          go_ret
          exact HP.out
  · rw [if_neg hc] at hp
    subst hp
    have hne : (ckT f l != 0) = true := by simpa using hc
    have HP : Hid (FbPost w (.returned (.bool true)) w3) := ⟨rfl, HBW.out _ HB3.out⟩
    generalize ckT f l = ec at *
    clear hc
    go_wp2_with fail
    go_ret
    exact HP.out
end Go.Proofs.YtoglgeaiiipchaaDoor

namespace Go.Proofs.YtoglgeaiiipchaaDoor.holdsHangs
open Go Go.ChangeShapes Go.WideShapes Go.ChangeAt Go.RowKit Go.Deep Go.Joins Go.ChangeMaps

theorem own : ownKnob Tryd.prog.godebug = none := by kernel_rfl
theorem laidOut : laidOutB Tryd.prog = true := by kernel_rfl
theorem all_le {l : List Nat} (h : l.all (· ≤ reachBytes) = true) : ∀ k ∈ l, k ≤ reachBytes := fun k hk => by simpa using List.all_eq_true.1 h k hk
/-- the door's own heap meets the condition -/
theorem door_met (os : Os) (args : Array Value) : laidMetH Tryd.prog Rows.holdsHangsRow.laid ((World.doorLaid Tryd.prog 400 os).forCall (fun _ _ => 0) ⟨#[], args, []⟩).memory :=
  laidMetH_of_parts (laidMet_of_run' 8 (by kernel_rfl) (by kernel_rfl)) (by kernel_rfl)

set_option maxRecDepth 100000 in
set_option maxHeartbeats 2000000 in
theorem lifted (os : Os) (started : os.Started) (H : Type) (enc : TypeId × Value → H) :
    ReturnsInHanded {} Tryd.checked os 6 .any (fun w args => (Rows.holdsHangsSpec.pre enc Tryd.prog Tryd.f6 [] false w args ∧ laidMetH Tryd.prog Rows.holdsHangsRow.laid w) ∧ sizedMet enc Tryd.prog Tryd.f6 (OpenSpec.ofChange Rows.holdsHangsSpec) false w args)
      (Rows.holdsHangsSpec.post enc Tryd.prog Tryd.f6 false true false false) := by
  refine returnsInHanded_of_change_and (C := Tryd.checked) (X := fun w _ => laidMetH Tryd.prog Rows.holdsHangsRow.laid w) (fun _ _ _ hh h => h.of_heap hh) own started (by kernel_rfl) Tryd.func6
    (ChangeSpec.witness_shaped (enc := enc) (C := Tryd.checked) (os := os) (X := fun w _ => laidMetH Tryd.prog Rows.holdsHangsRow.laid w) false (World.doorLaid Tryd.prog 400 os) #[.slice none 0 0, .agg #[.slice none 0 0, .slice none 0 0]] 8 rfl (World.shaped_of_RefB (by kernel_rfl) (by kernel_rfl)) (by kernel_rfl) (by kernel_rfl) (by kernel_rfl) (door_met os _)) ?_
  intro W base args ds gs before hval0 hW _ hwts _ _
  have hval : ∀ (j : Nat) t v, Tryd.f6.params[j]? = some t → args[j]? = some v → Value.okWide Tryd.prog W .any base t v := hval0
  have hW' := hW
  obtain ⟨p, q, hA0, hV, rfl, hfz, hnd⟩ := hW
  have hA : DataW.TrodAll enc Tryd.prog W 0 (fun _ => true) true Tryd.f6.params.toList args.toList ds p := hA0
  rw [Tryd.params6] at hA hval hwts
  obtain ⟨v0, vs0, d0, ds0, p0, q0, hargs, rfl, rfl, h0, r0⟩ := trodAll_cons hA
  obtain ⟨v1, vs1, d1, ds1, p1, q1, rfl, rfl, rfl, h1, r1⟩ := trodAll_cons r0
  obtain ⟨rfl, rfl, rfl⟩ := trodAll_nil r1
  obtain rfl : args = #[v0, v1] := by cases args; simp_all
  obtain ⟨rfl, rfl⟩ := trodVars_none hV
  have k0 := h0
  have k1 := h1
  have lt0 : ∀ x ∈ p0, x.block < W.heap.size := by obtain ⟨m, hm⟩ := k0; exact DataW.trod_lt m _ _ _ hm
  have lt1 : ∀ x ∈ p1, x.block < W.heap.size := by obtain ⟨m, hm⟩ := k1; exact DataW.trod_lt m _ _ _ hm
  have hw : ∀ k ∈ d0.weights Tryd.prog 23 ++ d1.weights Tryd.prog 40, k ≤ reachBytes := fun k hk => all_le hwts k (by
    simp only [List.mem_append] at hk
    change k ∈ DataW.weightsEach Tryd.prog [23, 40] [d0, d1]
    simp only [DataW.weightsEach, List.mem_append]
    rcases hk with hk | hk
    · exact .inl hk
    · exact .inr (.inl hk))
  obtain ⟨a0, len0, cap0, rfl⟩ := okWide_slice Tryd.underlying23 (hval 0 23 v0 rfl rfl)
  obtain ⟨F, fc, f, hfv, hf⟩ : ∃ F fc f, Value.slice a0 len0 cap0 = .slice F f.length fc ∧ Nds W 0 F fc f := by
    obtain ⟨fuel, hh⟩ := h0
    exact nds_in Tryd.underlying23 Tryd.underlying45 (by kernel_rfl) (by kernel_rfl) Tryd.underlying3 (by kernel_rfl) rfl rfl rfl rfl rfl rfl rfl rfl hh (fun k hk => hw k (List.mem_append_left _ hk))
  obtain ⟨v0, v1, y0, y1, n, rfl, rfl, rfl, g0, g1⟩ := open_agg2 Tryd.underlying40 (by kernel_rfl) (by kernel_rfl) (hval 1 40 _ rfl rfl) h1
  have hw1 : ∀ k ∈ y0.1.weights Tryd.prog 38 ++ y1.1.weights Tryd.prog 38, k ≤ reachBytes := fun k hk => hw k (List.mem_append_right _ (by
    simp only [DataW.weights, Tryd.underlying40]
    simpa [DataW.weightsEach] using hk))
  obtain ⟨A, ca, xs, rfl, hh⟩ := ints_in Tryd.underlying38 Tryd.underlying3 (by kernel_rfl) (by kernel_rfl) g0 (fun k hk => hw1 k (List.mem_append_left _ hk))
  obtain ⟨B, cb, ys, rfl, hl⟩ := ints_in Tryd.underlying38 Tryd.underlying3 (by kernel_rfl) (by kernel_rfl) g1 (fun k hk => hw1 k (List.mem_append_right _ hk))
  obtain ⟨rfl, rfl, rfl⟩ := by simpa using hfv
  clear hA0 hval0 hval hwts hw hw1
  refine (HoldsHangs_ _ _ f A B ca cb ⟨xs, ys⟩ W hf hh hl).mono fun e W' ⟨he, bel⟩ => ?_
  subst he
  exact ⟨_, rfl, _, _, _, [], _, [], hW', trodAll_mk1 (shut_bool Tryd.underlying4 _), (trodAll_cons_mk (Below.trod laidOut (by kernel_rfl) (of_decide_eq_true (by kernel_rfl)) k0 bel lt0) (trodAll_cons_mk (Below.trod laidOut (by kernel_rfl) (of_decide_eq_true (by kernel_rfl)) k1 bel lt1) trodAll_mk0)), rfl, bel.frame _, fun h => by cases h⟩

theorem over : Rows.HoldsHangsSaid :=
  OpenClaim.holds_of_wide 6 Tryd.f6 rfl rfl rfl rfl rfl rfl rfl ⟨rfl, rfl, rfl, rfl, rfl⟩ rfl rfl rfl rfl rfl (by kernel_rfl) Tryd.func6 (by kernel_rfl)
    (of_decide_eq_true (by kernel_rfl)) (by unfold Func.isWrapper; first | (rw [if_pos (by decide +kernel)]; kernel_rfl) | (rw [if_neg (by decide +kernel)]; exact ⟨rfl, rfl⟩))
    (fun os started H enc _ => lifted os started H enc)

theorem plain (f : FuncId) (fn : Func) (hf : Tryd.pinned.checked.prog.funcNamed "lassowork/lassoworklaw.HoldsHangs" = some f) (hfn : Tryd.pinned.checked.prog.funcs[f]? = some fn) :
    true = Tryd.pinned.checked.prog.looks [] ∧ ∀ (j : Nat) t, fn.params[j]? = some t → Tryd.pinned.checked.prog.wantsStandIn t = false := by
  obtain rfl : f = 6 := Option.some.inj ((show Tryd.prog.funcNamed "lassowork/lassoworklaw.HoldsHangs" = some 6 by kernel_rfl).symm.trans hf) |>.symm
  obtain rfl : fn = Tryd.f6 := (Option.some.inj (Tryd.func6.symm.trans hfn)).symm
  refine ⟨by kernel_rfl, fun j t ht => ?_⟩
  rw [Tryd.params6] at ht
  have hm : t ∈ [23, 40] := by simpa using Array.mem_of_getElem? ht
  have hall : ([23, 40].all fun u => !Tryd.prog.wantsStandIn u) = true := by kernel_rfl
  exact (show Tryd.prog.wantsStandIn t = false by simpa using List.all_eq_true.1 hall t hm)

/-- the statement -/
theorem proved : Rows.HoldsHangsCardSaid :=
  Claim7.holds_tied_plain_at .later [] _ _ _ _ over (fun _ h => by cases h) (by kernel_rfl) (fun _ h => by cases h) holdsHangs_row_tie rfl ⟨rfl, rfl⟩ (by kernel_rfl) rfl plain (by kernel_rfl)
#print axioms proved
end Go.Proofs.YtoglgeaiiipchaaDoor.holdsHangs
