import Derived.Test.YtoglgeaiiipchabGreatDoorLMHKM13
import Derived.Test.YtoglgeaiiipchabGreatDoorLMHKM14
import Derived.Test.YtoglgeaiiipchabGreatDoorLMHKM15
set_option linter.unusedSimpArgs false
set_option linter.unusedVariables false
namespace Go.Proofs.YtoglgeaiiipchabGreatDoor
open Go Go.RowKit Go.Maps Go.Shelf Go.Sort
attribute [local go_sem] Oper.semAt_some
structure BuA (lo Y FZ GR : Nat) (st : Int) (gs : List Bool) (W : World) : Prop where
  lY : lo ≤ Y
  lF : lo ≤ FZ
  lG : lo ≤ GR
  obj : W.heap[Y]? = some (.cells #[.int .i64 st, .int .i64 8, .slice (some ⟨FZ, 0, none⟩) 1 1, .slice (some ⟨GR, 0, none⟩) gs.length gs.length, .slice none 0 0] 26 (0, 0))
  fz : W.heap[FZ]? = some (.cells #[.int .i64 0] 3 (0, 0))
  row : BRow W GR gs
section
variable {lo Y FZ GR Bk : Nat} {st : Int} {gs : List Bool} {W W' : World}
theorem BuA.on (h : BuA lo Y FZ GR st gs W) (hb : Below W.heap.size W W') : BuA lo Y FZ GR st gs W' :=
  ⟨h.lY, h.lF, h.lG, (hb.block Y (Array.getElem?_eq_some_iff.1 h.obj).1).trans h.obj, (hb.block FZ (Array.getElem?_eq_some_iff.1 h.fz).1).trans h.fz, h.row.below hb h.row.lt⟩
theorem BuA.keep (h : BuA lo Y FZ GR st gs W) (hk : KeepS Bk W W') (h1 : Y ≠ Bk) (h2 : FZ ≠ Bk) (h3 : GR ≠ Bk) : BuA lo Y FZ GR st gs W' :=
  ⟨h.lY, h.lF, h.lG, hk Y _ h.obj h1 (fun cs m e => by injection e with _ e2 _; exact absurd e2 (by decide)), hk FZ _ h.fz h2 (fun cs m e => by injection e with _ e2 _; exact absurd e2 (by decide)), hk.brow h3 h.row⟩
theorem BuA.set (h : BuA lo Y FZ GR st gs W) (i : Nat) (v : Bool) : BuA lo Y FZ GR st (gs.set i v) (W.setCell ⟨GR, i, none⟩ (.bool v)) := by
  have hr : W.heap[GR]? = _ := h.row
  have hY : Y ≠ GR := fun e => by have := h.obj; rw [e, hr] at this; simp at this
  have hF : FZ ≠ GR := fun e => by have := h.fz; rw [e, hr] at this; simp at this
  refine ⟨h.lY, h.lF, h.lG, ?_, (Below.heap_setCell _ ⟨GR, i, none⟩ _ _ hF).trans h.fz, h.row.set_ i v⟩
  rw [List.length_set]
  exact (Below.heap_setCell _ ⟨GR, i, none⟩ _ _ hY).trans h.obj
end
section
variable {w0 W W' : World} {Bk M : Nat} {f : List Nd} {FA : Option Addr} {fc : Nat} {gv sv : Value} {es : List Stp}
theorem TbW.setRow {G : Nat} {t : List Bool} (h : TbW w0 Bk M f FA fc gv sv es W) (hR : BRow W G t) (hG : w0.heap.size ≤ G) (i : Nat) (v : Value) : TbW w0 Bk M f FA fc gv sv es (W.setCell ⟨G, i, none⟩ v) := by
  refine ⟨h.lo, (Below.heap_setCell _ ⟨G, i, none⟩ _ _ (fun e => h.brow_ne hR e.symm)).trans h.obj, h.nd, h.below.setCell (p := ⟨G, i, none⟩) hG _, h.at_.heap (Below.heap_setCell _ ⟨G, i, none⟩ _ _ fun e => ?_), own_set_ty h.fr hR (by decide) i v, own_set_ty h.s hR (by decide) i v⟩
  obtain ⟨es', c, h1, _⟩ := h.at_
  have h2 : W.heap[G]? = _ := hR
  rw [show M = G from e, h2] at h1
  cases h1
theorem TbW.setObj {Y : Nat} {cs : Array Value} (h : TbW w0 Bk M f FA fc gv sv es W) (hY : W.heap[Y]? = some (.cells cs 26 (0, 0))) (hG : w0.heap.size ≤ Y) (i : Nat) (v : Value) : TbW w0 Bk M f FA fc gv sv es (W.setCell ⟨Y, i, none⟩ v) := by
  refine ⟨h.lo, (Below.heap_setCell _ ⟨Y, i, none⟩ _ _ (fun e => ?_)).trans h.obj, h.nd, h.below.setCell (p := ⟨Y, i, none⟩) hG _, h.at_.heap (Below.heap_setCell _ ⟨Y, i, none⟩ _ _ fun e => ?_), own_set_ty h.fr hY (by decide) i v, own_set_ty h.s hY (by decide) i v⟩
  · have := h.obj
    rw [e, hY] at this
    simp at this
  · obtain ⟨es', c, h1, _⟩ := h.at_
    rw [show M = Y from e, hY] at h1
    cases h1
end
theorem own_heap {W W' : World} {B n sz : Nat} {e : TypeId} {v : Value} {xs : List Value} (h : W.ownsRow B e sz v n xs) (he : ∀ k, v.ownBlock = some k → W'.heap[k]? = W.heap[k]?) : W'.ownsRow B e sz v n xs := by
  obtain ⟨h1, h2⟩ := h
  refine ⟨h1, ?_⟩
  rcases h2 with h2 | ⟨g, cap, cur, hv, hg, hh, r⟩
  · exact .inl h2
  · exact .inr ⟨g, cap, cur, hv, hg, (he g (by rw [hv]; rfl)).trans hh, r⟩
theorem set5_off (w : World) (V : Nat) (v0 v1 v2 v3 v4 : Value) {k : Nat} (hk : k ≠ V) : (set5 w V v0 v1 v2 v3 v4).heap[k]? = w.heap[k]? := by
  unfold set5
  rw [Below.heap_setCell _ ⟨V, 4, none⟩ _ _ hk, Below.heap_setCell _ ⟨V, 3, none⟩ _ _ hk, Below.heap_setCell _ ⟨V, 2, none⟩ _ _ hk, Below.heap_setCell _ ⟨V, 1, none⟩ _ _ hk, Below.heap_setCell _ ⟨V, 0, none⟩ _ _ hk]
theorem ints_cell {W : World} {B lo : Nat} {x : Int} (h : W.heap[B]? = some (.cells #[.int .i64 x] 3 (0, 0))) (hl : lo ≤ B) : Ints W lo (some ⟨B, 0, none⟩) 1 [x] := by
  refine ⟨Nat.le_refl _, by omega, by simp, fun _ => ⟨B, 0, rfl, hl, (Array.getElem?_eq_some_iff.1 h).1, fun j u hu => ?_⟩⟩
  match j, hu with
  | 0, hu => simp at hu; subst hu; simp [World.cell?, h]
  | j + 1, hu => simp at hu
theorem pow_wrap {n : Nat} (h : n ≤ 4) : wrap64 (2 ^ n) = ((2 ^ n : Nat) : Int) := by
  have : ∀ n : Fin 5, wrap64 (2 ^ (n : Nat)) = ((2 ^ (n : Nat) : Nat) : Int) := by decide +kernel
  exact this ⟨n, by omega⟩
set_option maxRecDepth 100000 in
set_option maxHeartbeats 8000000 in
theorem build_ (f : List Nd) (hf : FmOK f) (w0 : World) (Bk M : Nat) (FA : Option Addr) (fc : Nat) (gv : Value) (w : World) (hT : TbW w0 Bk M f FA fc gv (.slice none 0 0) [] w) :
    Calls Tryz.prog 97 #[.pointer (some ⟨Bk, 0, none⟩)] w fun e w' => ∃ raw A B C ca cb cc, EdM f 8 0 raw ∧ e = .returned (.agg #[.int .i64 (tnum f (2 ^ tn f) 0), .int .i64 8, .slice A 1 ca, .slice B (tabGs f).length cb, .slice C (dd (sortS raw)).length cc]) ∧ AuRd w' w0.heap.size (tabOf f (dd (sortS raw))) A B C ca cb cc ∧ Below w0.heap.size w0 w' := by
  have HF := Lib.hid hf
  have hn4 := (tn_le hf).1
  have hfn := (tn_le hf).2
  obtain ⟨P, hP⟩ : ∃ P, P = 2 ^ tn f := ⟨_, rfl⟩
  have hP16 : P ≤ 16 := by rw [hP]; exact Nat.pow_le_pow_right (n := 2) (by decide) hn4
  have hpw := pow_wrap hn4
  rw [← hP] at hpw
  have HPP := Lib.hid hP
  obtain ⟨GA, gc, rfl, _⟩ := hT.rd hf
  have hz : Below w.heap.size w (w.alloc (Obj.cells #[.int .i64 0, .int .i64 0, .slice none 0 0, .slice none 0 0, .slice none 0 0] 26)) := (Below.refl _ _).alloc (Nat.le_refl _) _
  have HT1 := Lib.hid (hT.on hz)
  have HZ1 : Hid ((w.alloc (Obj.cells #[.int .i64 0, .int .i64 0, .slice none 0 0, .slice none 0 0, .slice none 0 0] 26)).heap[w.heap.size]? = some (.cells #[.int .i64 0, .int .i64 0, .slice none 0 0, .slice none 0 0, .slice none 0 0] 26 (0, 0))) := World.alloc_heap_new _ _
  have HLW : Hid (w0.heap.size ≤ w.heap.size ∧ Bk < w.heap.size) := ⟨hT.below.size, hT.lt⟩
  clear hT hf hP hz
  refine (callsIn_wide (n := 9)).1 ?_
  refine callsIn_of_wp Tryz.func97 rfl trivial ?_
  simp only [Tryz.ntmps97, List.size_toArray, List.length_cons, List.length_nil, Nat.reduceAdd, Nat.reduceSub, Array.replicate_succ, Array.replicate_zero, List.push_toArray, List.append_toArray, List.nil_append, List.cons_append]
  gi_upto_region 1 with fail
  obtain ⟨R2, hR2⟩ : ∃ R2, R2 = w.heap.size := ⟨_, rfl⟩
  rw [← hR2] at HZ1 HLW ⊢
  clear hR2
  generalize w.alloc (Obj.cells #[.int .i64 0, .int .i64 0, .slice none 0 0, .slice none 0 0, .slice none 0 0] 26) = W1 at *
  have hlen := World.ownsMap.len (show W1.ownsMap Tryz.prog 3 (plainElem (H := Unit) Tryz.prog 3) M (atD f f.length).length (itD (atD f f.length)) from HT1.out.at_) Tryz.underlying148
  rw [at_size] at hlen
  obtain ⟨GA1, gc1, he1, hA1⟩ := HT1.out.rd HF.out
  obtain ⟨rfl, rfl⟩ : GA = GA1 ∧ gc = gc1 := by simpa using he1
  have HNM := Lib.hid (tnumber_ f HF.out P 0 hP16 (by omega) Bk M FA GA fc gc W1 hA1)
  have c1 := hA1.c1
  clear he1 hA1
  gi_wp2
  refine ⟨trivial, ?_⟩
  refine (callsIn_wide.2 HNM.out).mono ?_
  rintro e w2 ⟨rfl, rfl⟩
  clear hlen c1 HNM
  gi_upto_region 3 with fail
  obtain ⟨FZ, hFZ⟩ : ∃ FZ, FZ = w2.heap.size := ⟨_, rfl⟩
  obtain ⟨Y, hY⟩ : ∃ Y, Y = w2.heap.size + 1 := ⟨_, rfl⟩
  have hb3 : Below w2.heap.size w2 ((w2.alloc (Obj.cells #[.int .i64 0] 3)).alloc (Obj.cells #[.int .i64 (tnum f P 0), .int .i64 8, .slice (some ⟨w2.heap.size, 0, none⟩) 1 1, .slice none 0 0, .slice none 0 0] 26)) := ((Below.refl _ _).alloc (Nat.le_refl _) _).alloc (by simp) _
  have HT3 := Lib.hid (HT1.out.on hb3)
  have HO3 : Hid (((w2.alloc (Obj.cells #[.int .i64 0] 3)).alloc (Obj.cells #[.int .i64 (tnum f P 0), .int .i64 8, .slice (some ⟨w2.heap.size, 0, none⟩) 1 1, .slice none 0 0, .slice none 0 0] 26)).heap[Y]? = some (.cells #[.int .i64 (tnum f P 0), .int .i64 8, .slice (some ⟨w2.heap.size, 0, none⟩) 1 1, .slice none 0 0, .slice none 0 0] 26 (0, 0))) := by
    have := World.alloc_heap_new (w2.alloc (Obj.cells #[.int .i64 0] 3)) (Obj.cells #[.int .i64 (tnum f P 0), .int .i64 8, .slice (some ⟨w2.heap.size, 0, none⟩) 1 1, .slice none 0 0, .slice none 0 0] 26)
    rw [World.size_alloc, ← hY] at this
    exact this
  have HF3 : Hid (((w2.alloc (Obj.cells #[.int .i64 0] 3)).alloc (Obj.cells #[.int .i64 (tnum f P 0), .int .i64 8, .slice (some ⟨w2.heap.size, 0, none⟩) 1 1, .slice none 0 0, .slice none 0 0] 26)).heap[FZ]? = some (.cells #[.int .i64 0] 3 (0, 0))) := by
    show _ = _
    rw [hFZ, Below.heap_alloc _ _ _ (by simp)]
    exact World.alloc_heap_new _ _
  have HZ3 : Hid (((w2.alloc (Obj.cells #[.int .i64 0] 3)).alloc (Obj.cells #[.int .i64 (tnum f P 0), .int .i64 8, .slice (some ⟨w2.heap.size, 0, none⟩) 1 1, .slice none 0 0, .slice none 0 0] 26)).heap[R2]? = _) := (hb3.block R2 (Array.getElem?_eq_some_iff.1 HZ1.out).1).trans HZ1.out
  have HLY : Hid (w0.heap.size ≤ FZ ∧ w0.heap.size ≤ Y ∧ Bk < FZ ∧ Bk < Y ∧ R2 < FZ ∧ FZ < Y ∧ Y < ((w2.alloc (Obj.cells #[.int .i64 0] 3)).alloc (Obj.cells #[.int .i64 (tnum f P 0), .int .i64 8, .slice (some ⟨w2.heap.size, 0, none⟩) 1 1, .slice none 0 0, .slice none 0 0] 26)).heap.size) := by
    have h1 := HT1.out.below.size
    have h2 := HT1.out.lt
    have h3 := (Array.getElem?_eq_some_iff.1 HZ1.out).1
    have h4 := (Array.getElem?_eq_some_iff.1 HO3.out).1
    exact ⟨by omega, by omega, by omega, by omega, by omega, by omega, h4⟩
  rw [← hFZ, ← hY] at *
  clear hFZ hY hb3 HT1 HZ1
  generalize (w2.alloc (Obj.cells #[.int .i64 0] 3)).alloc (Obj.cells #[.int .i64 (tnum f P 0), .int .i64 8, .slice (some ⟨FZ, 0, none⟩) 1 1, .slice none 0 0, .slice none 0 0] 26) = W3 at *
  obtain ⟨N, hN⟩ : ∃ N : Nat, N = P * ((fair f).length + 1) + 1 := ⟨_, rfl⟩
  have hst : ((N : Nat) : Int) = tnum f P 0 := by
    rw [hN]
    unfold tnum
    rw [Int.natCast_add, Int.natCast_mul, Int.natCast_add]
    simp only [Int.natCast_one]
    omega
  have hN6 : N ≤ 1000000 := by
    rw [hN]
    have : P * ((fair f).length + 1) ≤ 16 * 5 := Nat.mul_le_mul hP16 (by omega)
    omega
  have hmk := run_makeBools (tnum f P 0) N hst hN6 W3
  obtain ⟨GR, hGR⟩ : ∃ GR, GR = W3.heap.size := ⟨_, rfl⟩
  have hb4 : Below W3.heap.size W3 (W3.alloc (Obj.cells (madeCells #[Value.bool false] N) 4)) := (Below.refl _ _).alloc (Nat.le_refl _) _
  have hrow := BRow.new W3 N
  rw [← hGR] at hrow
  have ho4 := (hb4.block Y HLY.out.2.2.2.2.2.2).trans HO3.out
  obtain ⟨a0, a1, a2, a3, a4, z0, z1, z2, z3, z4⟩ := obj5 ho4
  obtain ⟨b0, _⟩ := obj5 HO3.out
  have HG0 : Hid (List.replicate N false = gsTo f 0 ∧ (gsTo f 0).length = N) := by
    rw [gsTo_len, gsTo_zero, ← HPP.out, ← hN]
    exact ⟨rfl, rfl⟩
  have HB4 : Hid (BuA w0.heap.size Y FZ GR (tnum f P 0) (gsTo f 0) ((W3.alloc (Obj.cells (madeCells #[Value.bool false] N) 4)).setCell ⟨Y, 3, none⟩ (.slice (some ⟨GR, 0, none⟩) N N))) := by
    have hYG : GR ≠ Y := by have := HLY.out; omega
    refine ⟨HLY.out.2.1, HLY.out.1, by have := HLY.out; omega, ?_, ?_, ?_⟩
    · rw [HG0.out.2]
      simp [World.setCell, Array.getElem?_modify, ho4]
    · exact (Below.heap_setCell _ ⟨Y, 3, none⟩ _ _ (show FZ ≠ Y by have := HLY.out; omega)).trans ((hb4.block FZ (by have := HLY.out; omega)).trans HF3.out)
    · rw [← HG0.out.1]
      exact (Below.heap_setCell _ ⟨Y, 3, none⟩ _ _ hYG).trans hrow
  have HT4 : Hid (TbW w0 Bk M f FA fc (.slice GA (fairI f).length gc) (.slice none 0 0) [] ((W3.alloc (Obj.cells (madeCells #[Value.bool false] N) 4)).setCell ⟨Y, 3, none⟩ (.slice (some ⟨GR, 0, none⟩) N N))) := (HT3.out.on hb4).setObj ho4 HLY.out.2.1 3 _
  have HZ4 : Hid (((W3.alloc (Obj.cells (madeCells #[Value.bool false] N) 4)).setCell ⟨Y, 3, none⟩ (.slice (some ⟨GR, 0, none⟩) N N)).heap[R2]? = some (.cells #[.int .i64 0, .int .i64 0, .slice none 0 0, .slice none 0 0, .slice none 0 0] 26 (0, 0))) := (Below.heap_setCell _ ⟨Y, 3, none⟩ _ _ (show R2 ≠ Y by have := HLY.out; omega)).trans ((hb4.block R2 (by have := HLY.out; omega)).trans HZ3.out)
  have HLR : Hid (R2 ≠ Y ∧ R2 ≠ FZ ∧ R2 ≠ GR ∧ GR ≠ Bk ∧ Y ≠ Bk ∧ FZ ≠ Bk ∧ R2 ≠ Bk ∧ w0.heap.size ≤ R2) := by have := HLY.out; have := HLW.out; exact ⟨by omega, by omega, by omega, by omega, by omega, by omega, by omega, by omega⟩
  have HNN := Lib.hid hN
  rw [← hGR] at hmk
  clear hb4 hrow ho4 hN hst HO3 HF3 HZ3 HT3 hGR
  gi_upto_region 4 with fail
  clear a0 a1 a2 a3 a4 z0 z1 z2 z3 z4 b0 hmk
  generalize (W3.alloc (Obj.cells (madeCells #[Value.bool false] N) 4)).setCell ⟨Y, 3, none⟩ (.slice (some ⟨GR, 0, none⟩) N N) = W4 at *
  gi_wp2
  gi_loopw [5, 24] (fun _ v24 wr => ∃ k : Nat, k ≤ P ∧ v24 = .int .i64 (k : Int) ∧ Hid (BuA w0.heap.size Y FZ GR (tnum f P 0) (gsTo f k) wr) ∧ Hid (TbW w0 Bk M f FA fc (.slice GA (fairI f).length gc) (.slice none 0 0) [] wr) ∧ Hid (wr.heap[R2]? = some (.cells #[.int .i64 0, .int .i64 0, .slice none 0 0, .slice none 0 0, .slice none 0 0] 26 (0, 0)))) (fun _ v24 _ => P - (intOf v24).toNat)
  case atStart => exact ⟨0, Nat.zero_le _, rfl, HB4.out, HT4.out, HZ4.out⟩
  case round =>
    obtain ⟨k, hk, rfl, HB, HT, HZ⟩ := hrel
    by_cases hkP : k < P
    · have q1 : (k : Int) < (P : Int) := by omega
      gi_wp2
      have hdw : Below wr.heap.size wr wr.drew := (Below.refl _ _).drew
      have HBD := Lib.hid (HB.out.on hdw)
      have HTD := Lib.hid (HT.out.on hdw)
      have HZD : Hid (wr.drew.heap[R2]? = _) := HZ.out
      have HKP := Lib.hid hkP
      obtain ⟨GA2, gc2, he2, hA6⟩ := HTD.out.rd HF.out
      obtain ⟨rfl, rfl⟩ : GA = GA2 ∧ gc = gc2 := by simpa using he2
      obtain ⟨_, _, _, s6, _⟩ := obj5 HBD.out.obj
      have hk16 : k ≤ 16 := by omega
      obtain ⟨ix, hix⟩ : ∃ ix : Nat, ix = 1 + k * ((fair f).length + 1) + (fair f).length := ⟨_, rfl⟩
      have hti : tnum f k (fair f).length = (ix : Int) := by
        rw [hix]
        unfold tnum
        rw [Int.natCast_add, Int.natCast_add, Int.natCast_mul, Int.natCast_add]
        simp only [Int.natCast_one]
      have hgl := gsTo_len f k
      have hixl : ix < (gsTo f k).length := by
        rw [hgl, hix, ← HPP.out]
        have : (k + 1) * ((fair f).length + 1) ≤ P * ((fair f).length + 1) := Nat.mul_le_mul_right _ hkP
        rw [Nat.succ_mul] at this
        omega
      have HGS : Hid ((gsTo f k).set ix true = gsTo f (k + 1)) := by
        show _ = _
        rw [hix]
        exact gsTo_succ f (by rw [← HPP.out]; exact hkP)
      obtain ⟨g0, g1⟩ := HBD.out.row.getD_ (i := ix) hixl false
      have hixl2 : (ix : Int) < ((gsTo f k).length : Int) := by omega
      have hn5 : (fair f).length ≤ 5 := by omega
      clear he2 hix hgl hixl HB HT HZ
      refine wpIn_region_Z (fun w' => TbAt w' Bk M f FA fc GA gc ∧ w'.cell? ⟨Y, 3, none⟩ = some (.slice (some ⟨GR, 0, none⟩) (gsTo f k).length (gsTo f k).length) ∧ True) 11 (by kernel_rfl) ?_
      generalize wr.drew = W6 at *
      refine wpAnyZIn_take (i := 0) (v := ?v0h) rfl (by kernel_rfl) (by kernel_rfl) (by kernel_rfl) (by kernel_rfl) (by kernel_rfl) (by kernel_rfl) (fun _ _ _ h => h) (yieldsZ_of (fun _ h => (by cases h)) (by rfl) ?hy0h) ⟨hA6, s6, trivial⟩ ?rest0h
      case hy0h => (intro w' hw'; obtain ⟨h0, h1, h2⟩ := hw'; have h3 := h0.c2; go_simp; (try with_reducible rfl))
      (try simp only [Act.put, List.setIfInBounds_toArray, List.set_cons_zero, List.set_cons_succ])
      refine wpAnyZIn_take (i := 1) (v := ?v1h) rfl (by kernel_rfl) (by kernel_rfl) (by kernel_rfl) (by kernel_rfl) (by kernel_rfl) (by kernel_rfl) (fun _ _ _ h => h) (yieldsZ_of (fun _ h => (by cases h)) (by rfl) ?hy1h) ⟨hA6, s6, trivial⟩ ?rest1h
      case hy1h => (intro w' hw'; obtain ⟨h0, h1, h2⟩ := hw'; have h3 := h0.c2; go_simp; (try with_reducible rfl))
      (try simp only [Act.put, List.setIfInBounds_toArray, List.set_cons_zero, List.set_cons_succ])
      refine wpAnyZIn_take (i := 2) (v := ?v2h) rfl (by kernel_rfl) (by kernel_rfl) (by kernel_rfl) (by kernel_rfl) (by kernel_rfl) (by kernel_rfl) (fun _ _ _ h => h) (yieldsZ_of (fun _ h => (by cases h)) (by rfl) ?hy2h) ⟨hA6, s6, trivial⟩ ?rest2h
      case hy2h => (intro w' hw'; obtain ⟨h0, h1, h2⟩ := hw'; have h3 := h0.c2; go_simp; (try with_reducible rfl))
      (try simp only [Act.put, List.setIfInBounds_toArray, List.set_cons_zero, List.set_cons_succ])
      refine wpAnyZIn_take (i := 3) (v := ?v3h) rfl (by kernel_rfl) (by kernel_rfl) (by kernel_rfl) (by kernel_rfl) (by kernel_rfl) (by kernel_rfl) (fun _ _ _ h => h) (yieldsZ_of (fun _ h => (by cases h)) (by rfl) ?hy3h) ⟨hA6, s6, trivial⟩ ?rest3h
      case hy3h => (intro w' hw'; obtain ⟨h0, h1, h2⟩ := hw'; have h3 := h0.c2; go_simp; (try with_reducible rfl))
      (try simp only [Act.put, List.setIfInBounds_toArray, List.set_cons_zero, List.set_cons_succ])
      refine wpAnyZIn_take (i := 4) (v := ?v4h) rfl (by kernel_rfl) (by kernel_rfl) (by kernel_rfl) (by kernel_rfl) (by kernel_rfl) (by kernel_rfl) (fun _ _ _ h => h) (yieldsZ_of (fun _ h => (by cases h)) (by rfl) ?hy4h) ⟨hA6, s6, trivial⟩ ?rest4h
      case hy4h => (intro w' hw'; obtain ⟨h0, h1, h2⟩ := hw'; have h3 := h0.c2; go_simp; (try with_reducible rfl))
      (try simp only [Act.put, List.setIfInBounds_toArray, List.set_cons_zero, List.set_cons_succ])
      refine wpAnyZIn_take (i := 5) (v := ?v5h) rfl (by kernel_rfl) (by kernel_rfl) (by kernel_rfl) (by kernel_rfl) (by kernel_rfl) (by kernel_rfl) (fun _ _ _ h => h) (yieldsZ_of (fun _ h => (by cases h)) (by rfl) ?hy5h) ⟨hA6, s6, trivial⟩ ?rest5h
      case hy5h => (intro w' hw'; obtain ⟨h0, h1, h2⟩ := hw'; have h3 := h0.c2; go_simp; (try with_reducible rfl))
      (try simp only [Act.put, List.setIfInBounds_toArray, List.set_cons_zero, List.set_cons_succ])
      refine wpAnyZIn_take (i := 6) (v := ?v6h) rfl (by kernel_rfl) (by kernel_rfl) (by kernel_rfl) (by kernel_rfl) (by kernel_rfl) (by kernel_rfl) (fun _ _ _ h => h) (yieldsZ_of (fun _ h => (by cases h)) (by rfl) ?hy6h) ⟨hA6, s6, trivial⟩ ?rest6h
      case hy6h => (intro w' hw'; obtain ⟨h0, h1, h2⟩ := hw'; have h3 := h0.c2; go_simp; (try with_reducible rfl))
      (try simp only [Act.put, List.setIfInBounds_toArray, List.set_cons_zero, List.set_cons_succ])
      refine wpAnyZIn_take (i := 7) (v := ?v7h) rfl (by kernel_rfl) (by kernel_rfl) (by kernel_rfl) (by kernel_rfl) (by kernel_rfl) (by kernel_rfl) (fun _ _ _ h => h) (yieldsZ_of (fun _ h => (by cases h)) (by rfl) ?hy7h) ⟨hA6, s6, trivial⟩ ?rest7h
      case hy7h => (intro w' hw'; obtain ⟨h0, h1, h2⟩ := hw'; have h3 := h0.c2; go_simp; (try with_reducible rfl))
      (try simp only [Act.put, List.setIfInBounds_toArray, List.set_cons_zero, List.set_cons_succ])
      rw [fairI_len]
      refine wpAnyZIn_one (i := 8) rfl (by kernel_rfl) rfl (fun K hK => ?_)
      go_simp
      refine hK.out _ _ (.inr ⟨hA6, s6, trivial⟩) ?_
      clear hK K
      (try simp only [Act.put, List.setIfInBounds_toArray, List.set_cons_zero, List.set_cons_succ])
      refine wpAnyZIn_take (i := 9) (v := .int .i64 (ix : Int)) rfl (by kernel_rfl) (by kernel_rfl) (by kernel_rfl) (by kernel_rfl) (by kernel_rfl) (by kernel_rfl) (fun _ _ _ h => h) (yieldsZ_call (f := 120) (args := #[.pointer (some ⟨Bk, 0, none⟩), .int .i64 (k : Int), .int .i64 ((fair f).length : Int)]) (fun _ _ _ _ => trivial) (by rfl) ?hx9h (fun h => (by cases h)) ?hc9h) ⟨hA6, s6, trivial⟩ ?rest9h
      case hx9h => (intro w'; go_simp; (try with_reducible rfl))
      case hc9h => (intro w' hw'; exact (callsIn_wide.2 (hti ▸ tnumber_ f HF.out k (fair f).length hk16 hn5 Bk M FA GA fc gc w' hw'.1)).mono (fun e w'' h => ⟨h.1, h.2⟩))
      (try simp only [Act.put, List.setIfInBounds_toArray, List.set_cons_zero, List.set_cons_succ])
      refine wpAnyZIn_take (i := 10) (v := ?v10h) rfl (by kernel_rfl) (by kernel_rfl) (by kernel_rfl) (by kernel_rfl) (by kernel_rfl) (by kernel_rfl) (fun _ _ _ h => h) (yieldsZ_of (fun _ h => (by cases h)) (by rfl) ?hy10h) ⟨hA6, s6, trivial⟩ ?rest10h
      case hy10h => (intro w' hw'; obtain ⟨h0, h1, h2⟩ := hw'; have h3 := h0.c2; go_simp; (try with_reducible rfl))
      (try simp only [Act.put, List.setIfInBounds_toArray, List.set_cons_zero, List.set_cons_succ])
      refine wpAnyZIn_one (i := 11) rfl (by kernel_rfl) rfl (fun K hK => ?_)
      go_simp
      refine hK.out _ _ (.inl rfl) ?_
      clear hK K
      refine wpAnyZIn_done (by kernel_rfl) (noPanic_normal ?_) _
      have HB9 := Lib.hid (HBD.out.set ix true)
      rw [HGS.out] at HB9
      have HT9 := Lib.hid (HTD.out.setRow HBD.out.row HBD.out.lG ix (.bool true))
      have HZ9 : Hid ((W6.setCell ⟨GR, ix, none⟩ (.bool true)).heap[R2]? = _) := (Below.heap_setCell _ ⟨GR, ix, none⟩ _ _ HLR.out.2.2.1).trans HZD.out
      clear hA6 s6 g0 g1
      gi_wp2
      go_roundw
      case rel => exact ⟨k + 1, HKP.out, by go_num, HB9.out, HT9.out, HZ9.out⟩
      case measure => simp [intOf]; have := HKP.out; omega
    · have q1 : ¬ (k : Int) < (P : Int) := by omega
      obtain rfl : k = P := by omega
      clear q1 hk hkP
      gi_wp2
      gi_loopw [39] (fun v39 wr => ∃ (c : Nat) (es : List Stp) (sv : Value), c ≤ 8 ∧ v39 = .int .i64 (c : Int) ∧ Hid (EdM f c 0 es) ∧ Hid (BuA w0.heap.size Y FZ GR (tnum f k 0) (gsTo f k) wr) ∧ Hid (TbW w0 Bk M f FA fc (.slice GA (fairI f).length gc) sv es wr) ∧ Hid (wr.heap[R2]? = some (.cells #[.int .i64 0, .int .i64 0, .slice none 0 0, .slice none 0 0, .slice none 0 0] 26 (0, 0)))) (fun v39 _ => 8 - (intOf v39).toNat)
      case atStart => exact ⟨0, [], _, by omega, rfl, EdM.start f, HB.out, HT.out, HZ.out⟩
      case round =>
        clear HB HT HZ
        obtain ⟨c, es, sv, hc, rfl, HE, HB, HT, HZ⟩ := hrel
        by_cases hc8 : c < 8
        · have q1 : (c : Int) < 8 := by omega
          have HC8 := Lib.hid hc8
          gi_wp2
          gi_loopw [43] (fun v43 wr => ∃ (j : Nat) (es : List Stp) (sv : Value), j ≤ k ∧ v43 = .int .i64 (j : Int) ∧ Hid (EdM f c j es) ∧ Hid (BuA w0.heap.size Y FZ GR (tnum f k 0) (gsTo f k) wr) ∧ Hid (TbW w0 Bk M f FA fc (.slice GA (fairI f).length gc) sv es wr) ∧ Hid (wr.heap[R2]? = some (.cells #[.int .i64 0, .int .i64 0, .slice none 0 0, .slice none 0 0, .slice none 0 0] 26 (0, 0)))) (fun v43 _ => k - (intOf v43).toNat)
          case atStart => exact ⟨0, es, sv, Nat.zero_le _, rfl, HE.out, HB.out, HT.out, HZ.out⟩
          case round =>
            clear HE HB HT HZ
            obtain ⟨j, es, sv, hj, rfl, HE, HB, HT, HZ⟩ := hrel
            by_cases hjk : j < k
            · have q2 : (j : Int) < (k : Int) := by omega
              have HJ := Lib.hid hjk
              have hjt : j < 2 ^ tn f := by rw [← HPP.out]; exact hjk
              have HED := Lib.hid (edge_ f HF.out c j hc8 hjt w0 Bk M FA fc _ sv es (by have := HE.out.len; omega) wr HT.out)
              gi_wp2
              refine ⟨trivial, ?_⟩
              refine (callsIn_wide.2 HED.out).mono ?_
              rintro e w5 ⟨rfl, sv', p, hkp, hT5, hK5⟩
              have HE5 := Lib.hid (HE.out.add HF.out hjt hkp)
              have HB5 := Lib.hid (HB.out.keep hK5 HLR.out.2.2.2.2.1 HLR.out.2.2.2.2.2.1 HLR.out.2.2.2.1)
              have HT5 := Lib.hid hT5
              have HZ5 := Lib.hid (hK5 R2 _ HZ.out HLR.out.2.2.2.2.2.2.1 (fun cs m e => by injection e with _ e2 _; exact absurd e2 (by decide)))
              clear hkp hT5 hK5 hjt HED
              gi_wp2
              go_roundw
              case rel => exact ⟨j + 1, _, sv', HJ.out, by go_num, HE5.out, HB5.out, HT5.out, HZ5.out⟩
              case measure => simp [intOf]; have := HJ.out; omega
            · have q2 : ¬ (j : Int) < (k : Int) := by omega
              obtain rfl : j = k := by omega
              have HE2 : Hid (EdM f (c + 1) 0 es) := by
                have := HE.out
                rw [HPP.out] at this
                exact this.next HF.out
              gi_wp2
              go_roundw
              case rel => exact ⟨c + 1, es, sv, HC8.out, by go_num, HE2.out, HB.out, HT.out, HZ.out⟩
              case measure => simp [intOf]; have := HC8.out; omega
        · have q1 : ¬ (c : Int) < 8 := by omega
          obtain rfl : c = 8 := by omega
          clear hc hc8
          obtain ⟨_, _, _, b3, _⟩ := cells4 HT.out.obj
          have hraw : es.length ≤ 768 := by have := HE.out.len; omega
          have HSC := Lib.hid (SortS_ wr w0.heap.size sv es HT.out.s (by omega))
          gi_wp2
          refine ⟨trivial, ?_⟩
          refine (callsIn_wide.2 HSC.out).mono ?_
          rintro e ws ⟨rfl, hown, hgs⟩
          have hks : KeepS Bk wr ws := fun k o ho h1 h2 => (hgs.block k (Array.getElem?_eq_some_iff.1 ho).1 (fun e => own_notS HT.out.s ho h2 e.symm)).trans ho
          have hauto : ∀ (cs : Array Value) (cs' : Array Value) (m : Nat × Nat), Obj.cells cs 26 (0, 0) ≠ .cells cs' 108 m := fun cs cs' m e => by injection e with _ e2 _; exact absurd e2 (by decide)
          have HBs := Lib.hid (HB.out.keep hks HLR.out.2.2.2.2.1 HLR.out.2.2.2.2.2.1 HLR.out.2.2.2.1)
          have HZs := Lib.hid (hks R2 _ HZ.out HLR.out.2.2.2.2.2.2.1 (hauto _))
          have hobs := (hgs.block Bk HT.out.lt (fun e => own_ty HT.out.s HT.out.obj (by decide) e.symm)).trans HT.out.obj
          have HOs := Lib.hid hobs
          have HRs := Lib.hid hown
          have HWs := Lib.hid (HT.out.below.grown hgs (by have := HT.out.below.size; omega) (fun k hk => (HT.out.s.lt k hk).1))
          obtain ⟨_, _, _, d3, _⟩ := cells4 hobs
          have HCC := Lib.hid (CompactS_ ws w0.heap.size sv (sortS es) HRs.out (by rw [sortS_len]; omega))
          clear hown hgs hks hobs b3 HSC HB HZ HT
          gi_wp2
          refine ⟨trivial, ?_⟩
          refine (callsIn_wide.2 HCC.out).mono ?_
          rintro e wc ⟨vc, rfl, hown, hgs, hvb⟩
          have hks : KeepS Bk ws wc := fun k o ho h1 h2 => (hgs.block k (Array.getElem?_eq_some_iff.1 ho).1 (fun e => own_notS HRs.out ho h2 e.symm)).trans ho
          have HBc := Lib.hid (HBs.out.keep hks HLR.out.2.2.2.2.1 HLR.out.2.2.2.2.2.1 HLR.out.2.2.2.1)
          have HZc := Lib.hid (hks R2 _ HZs.out HLR.out.2.2.2.2.2.2.1 (hauto _))
          have HWc := Lib.hid (HWs.out.grown hgs (by have := HWs.out.size; omega) (fun k hk => (HRs.out.lt k hk).1))
          have hgl : (gsTo f k) = tabGs f := by rw [HPP.out]; exact gsTo_end f
          have hdl : (dd (sortS es)).length ≤ 768 := Nat.le_trans (ddTo_len _ _) (by rw [sortS_len]; exact hraw)
          obtain ⟨TC, cC, rfl, hss⟩ := SlE.of_own (enc := Stp.cells) (bt := 24) hown (by omega)
          have hY := HBc.out.obj
          obtain ⟨-, -, -, -, y4, -, -, -, -, g4⟩ := obj5 hY
          have hY5 := heap_set4 hY (.slice TC (dd (sortS es)).length cC)
          obtain ⟨x0, x1, x2, x3, x4, -⟩ := obj5 hY5
          have hR5 := (Below.heap_setCell wc ⟨Y, 4, none⟩ (.slice TC (dd (sortS es)).length cC) R2 HLR.out.1).trans HZc.out
          obtain ⟨r0, r1, r2, r3, r4, s0, s1, s2, s3, s4⟩ := obj5 hR5
          have HFI : Hid (∃ raw A B C ca cb cc, EdM f 8 0 raw ∧ Ending.returned (.agg #[.int .i64 (tnum f k 0), .int .i64 8, .slice (some ⟨FZ, 0, none⟩) 1 1, .slice (some ⟨GR, 0, none⟩) (gsTo f k).length (gsTo f k).length, .slice TC (dd (sortS es)).length cC]) = .returned (.agg #[.int .i64 (tnum f (2 ^ tn f) 0), .int .i64 8, .slice A 1 ca, .slice B (tabGs f).length cb, .slice C (dd (sortS raw)).length cc]) ∧
              AuRd (set5 (wc.setCell ⟨Y, 4, none⟩ (.slice TC (dd (sortS es)).length cC)) R2 (.int .i64 (tnum f k 0)) (.int .i64 8) (.slice (some ⟨FZ, 0, none⟩) 1 1) (.slice (some ⟨GR, 0, none⟩) (gsTo f k).length (gsTo f k).length) (.slice TC (dd (sortS es)).length cC)) w0.heap.size (tabOf f (dd (sortS raw))) A B C ca cb cc ∧
              Below w0.heap.size w0 (set5 (wc.setCell ⟨Y, 4, none⟩ (.slice TC (dd (sortS es)).length cC)) R2 (.int .i64 (tnum f k 0)) (.int .i64 8) (.slice (some ⟨FZ, 0, none⟩) 1 1) (.slice (some ⟨GR, 0, none⟩) (gsTo f k).length (gsTo f k).length) (.slice TC (dd (sortS es)).length cC))) := by
            have hfar : ∀ q, q ≠ Y → q ≠ R2 → (set5 (wc.setCell ⟨Y, 4, none⟩ (.slice TC (dd (sortS es)).length cC)) R2 (.int .i64 (tnum f k 0)) (.int .i64 8) (.slice (some ⟨FZ, 0, none⟩) 1 1) (.slice (some ⟨GR, 0, none⟩) (gsTo f k).length (gsTo f k).length) (.slice TC (dd (sortS es)).length cC)).heap[q]? = wc.heap[q]? := fun q h1 h2 => (set5_off _ _ _ _ _ _ _ h2).trans (Below.heap_setCell _ ⟨Y, 4, none⟩ _ _ h1)
            have hFY : FZ ≠ Y := fun e => by have := HBc.out.fz; rw [e, hY] at this; simp at this
            have hGY : GR ≠ Y := fun e => by
              have h1 : wc.heap[GR]? = _ := HBc.out.row
              rw [e, hY] at h1
              simp at h1
            have hrow : BRow (set5 (wc.setCell ⟨Y, 4, none⟩ (.slice TC (dd (sortS es)).length cC)) R2 (.int .i64 (tnum f k 0)) (.int .i64 8) (.slice (some ⟨FZ, 0, none⟩) 1 1) (.slice (some ⟨GR, 0, none⟩) (gsTo f k).length (gsTo f k).length) (.slice TC (dd (sortS es)).length cC)) GR (gsTo f k) := (hfar GR hGY (fun e => HLR.out.2.2.1 e.symm)).trans HBc.out.row
            have hbs := hrow.bools (by rw [gsTo_len, ← HPP.out, ← HNN.out]; exact hN6)
            have hsr : (set5 (wc.setCell ⟨Y, 4, none⟩ (.slice TC (dd (sortS es)).length cC)) R2 (.int .i64 (tnum f k 0)) (.int .i64 8) (.slice (some ⟨FZ, 0, none⟩) 1 1) (.slice (some ⟨GR, 0, none⟩) (gsTo f k).length (gsTo f k).length) (.slice TC (dd (sortS es)).length cC)).ownsRow w0.heap.size 108 3 (.slice TC (dd (sortS es)).length cC) (dd (sortS es)).length ((dd (sortS es)).flatMap Stp.cells) :=
              own_heap hown fun q hq => hfar q (fun e => own_ty hown hY (by decide) (by rw [← e]; exact hq)) (fun e => own_ty hown HZc.out (by decide) (by rw [← e]; exact hq))
            obtain ⟨TC', cC', he', hss'⟩ := SlE.of_own (enc := Stp.cells) (bt := 24) hsr (by omega)
            obtain ⟨rfl, rfl⟩ : TC = TC' ∧ cC = cC' := by simpa using he'
            refine ⟨es, some ⟨FZ, 0, none⟩, some ⟨GR, 0, none⟩, TC, 1, _, cC, HE.out, by rw [HPP.out, ← HPP.out, hgl], ⟨ints_cell ((hfar FZ hFY (fun e => HLR.out.2.1 e.symm)).trans HBc.out.fz) HBc.out.lF, ?_, hss'⟩, below_set5 (HWc.out.setCell (p := ⟨Y, 4, none⟩) HBc.out.lY _) HLR.out.2.2.2.2.2.2.2 _ _ _ _ _⟩
            show Bools _ _ _ (tabGs f).length (tabGs f)
            rw [← hgl]
            exact hbs.low HBc.out.lG
          have HO1 := Lib.hid (set5_heap hR5 (.int .i64 (tnum f k 0)) (.int .i64 8) (.slice (some ⟨FZ, 0, none⟩) 1 1) (.slice (some ⟨GR, 0, none⟩) (gsTo f k).length (gsTo f k).length) (.slice TC (dd (sortS es)).length cC))
          unfold set5 at HFI HO1
          clear hown hgs hvb hks hgl hdl hss hY hY5 hR5 d3 hraw HBs HZs HOs HRs HWs HCC
          gi_wp2
          exact bodyPost_ret (retA1 Tryz.results97 _ _ R2 rfl HO1.out) rfl HFI.out
end Go.Proofs.YtoglgeaiiipchabGreatDoor
