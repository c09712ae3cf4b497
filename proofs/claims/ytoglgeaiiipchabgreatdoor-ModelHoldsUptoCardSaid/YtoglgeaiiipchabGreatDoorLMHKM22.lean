import Derived.Test.YtoglgeaiiipchabGreatDoorLMHKM21
import Derived.Test.YtoglgeaiiipchabGreatDoorLMHKM9
import Derived.Deep.RegionLaw
import Derived.Test.YtoglgeaiiipchabGreatDoorLMHKM4
import Derived.Test.YtoglgeaiiipchabGreatDoorLMHKM11
import Derived.Test.YtoglgeaiiipchabGreatDoorLMHKM2
import Derived.Deep.CutBlock
import Derived.Deep.DeepCutAuto
import Derived.Test.YtoglgeaiiipchabGreatDoorLMHKM5
import Derived.Test.YtoglgeaiiipchabGreatDoorLMHKM3
import Derived.Sort.LoopGhostIn
import Derived.Maps.RangeWalk
import Derived.Shelf.Abstract
import Derived.Test.YtoglgeaiiipchabGreatDoorLMHKM1
import Derived.Test.YtoglgeaiiipchabGreatDoorLMHKM17
import Derived.Test.YtoglgeaiiipchabGreatDoorLMHKM19
import Derived.Test.YtoglgeaiiipchabGreatDoorLMHKM6
import Derived.Test.YtoglgeaiiipchabGreatDoorProg
import Derived.Maps.OwnSet
import Derived.Maps.Keyed
set_option linter.unusedSimpArgs false
set_option linter.unusedVariables false
namespace Go.Proofs.YtoglgeaiiipchabGreatDoor
open Go Go.RowKit Go.Shelf
theorem cell_on {B : Nat} {w w' : World} (hb : Below B w w') {b o : Nat} (h : b < B) : w'.cell? ⟨b, o, none⟩ = w.cell? ⟨b, o, none⟩ := hb.cell (p := ⟨b, o, none⟩) h
def tabW (w3 : World) (C : Option Addr) (n cc h : Nat) : World := w3.alloc (Obj.cells #[Value.slice C n cc, Value.int IntKind.i64 h, Value.slice none 0 0] 154)
theorem own_lowT {w : World} {base base' : Nat} {e : TypeId} {size n : Nat} {v : Value} {xs : List Value} (h : w.ownsRow base e size v n xs) (hb : base' ≤ base) : w.ownsRow base' e size v n xs := by
  obtain ⟨h1, h2⟩ := h
  refine ⟨h1, ?_⟩
  rcases h2 with h2 | ⟨g, cap, cur, hv, hg, r⟩
  · exact .inl h2
  · exact .inr ⟨g, cap, cur, hv, Nat.le_trans hb hg, r⟩
def ckT (f : List Nd) (l : La) : Int := if ckF f = 0 then ckL l 8 else ckF f
structure TabAt (w : World) (lo : Nat) (v : Value) (rows : List (List Bool)) (gs : List Nat) : Prop where
  own : w.ownsRow lo 23 1 v rows.length (gs.zipWith (fun g r => Value.slice (some ⟨g, 0, none⟩) r.length r.length) rows)
  len : gs.length = rows.length
  row : ∀ (k : Nat) (h : k < rows.length) (h' : k < gs.length), BRow w gs[k] rows[k] ∧ lo ≤ gs[k] ∧ gs[k] < w.heap.size
theorem TabAt.below {w w' : World} {lo : Nat} {v : Value} {rows : List (List Bool)} {gs : List Nat} (h : TabAt w lo v rows gs) (hb : Below w.heap.size w w') : TabAt w' lo v rows gs :=
  ⟨own_below h.own hb, h.len, fun k hk hk' => ⟨(h.row k hk hk').1.below hb (h.row k hk hk').2.2, (h.row k hk hk').2.1, Nat.lt_of_lt_of_le (h.row k hk hk').2.2 hb.size⟩⟩
theorem ckF_ok {f : List Nd} (h : ckF f = 0) : f.length ≠ 0 ∧ f.length ≤ 12 ∧ tooMany f = false ∧ ckNds (f.drop 0) 0 = 0 := by
  unfold ckF at h
  split at h
  · simp at h
  · split at h
    · simp at h
    · rename_i h1 h2
      have h3 : tooMany f = false := by simpa using h2
      refine ⟨h1, ?_, h3, h⟩
      unfold tooMany at h3
      simp at h3
      omega
theorem TabAt.rows {w : World} {lo : Nat} {T : Option Addr} {tc : Nat} {rows : List (List Bool)} {gs : List Nat} (h : TabAt w lo (.slice T rows.length tc) rows gs) (hn : rows.length ≤ 1000000) (hr : ∀ r ∈ rows, r.length ≤ 1000000) :
    RowsAt w T tc rows := by
  obtain ⟨A, c, hv, h1, h2, h3, _⟩ := own_form h.own
  simp only [Value.slice.injEq, true_and] at hv
  obtain ⟨rfl, rfl⟩ := hv
  refine ⟨h1, h2, hn, fun k hk => ?_⟩
  have hkg : k < gs.length := by rw [h.len]; exact hk
  have hz : (gs.zipWith (fun g r => Value.slice (some ⟨g, 0, none⟩) r.length r.length) rows)[k]? = some (.slice (some ⟨gs[k], 0, none⟩) rows[k].length rows[k].length) := by
    rw [List.getElem?_zipWith, List.getElem?_eq_getElem hkg, List.getElem?_eq_getElem hk]
  obtain ⟨b, off, hA, _, hb, hc⟩ := h3 (by intro e; rw [e] at hz; simp at hz)
  obtain ⟨h4, h5, h6⟩ := h.row k hk hkg
  exact ⟨b, off, hA, hb, _, _, hc k _ hz, (h4.bools (hr _ (List.getElem_mem hk))).zero⟩
def TabInv (w w3 : World) (R : Nat) (C : Option Addr) (cc : Nat) (l : La) (f : List Nd) (k : Nat) (W : World) : Prop :=
  ∃ (T : Option Addr) (tc : Nat) (gs : List Nat), RdrAt W R C l.n cc l.h.length ∧ W.cell? ⟨R, 2, none⟩ = some (.slice T (rowsOf l f k).length tc) ∧ W.frozen? ⟨R, 2, none⟩ = false ∧
    TabAt W (R + 1) (.slice T (rowsOf l f k).length tc) (rowsOf l f k) gs ∧ Below R w3 W ∧ Below w.heap.size w W
def tabX (wr : World) (x : Nd) : World := wr.alloc (Obj.cells #[.int .i64 x.k, .int .i64 x.a, .int .i64 x.b, .int .i64 x.n] 90)
theorem tabX_is (wr : World) (x : Nd) : (tabX wr x).cell? ⟨wr.heap.size, 0, none⟩ = some (.int .i64 x.k) ∧ (tabX wr x).cell? ⟨wr.heap.size, 1, none⟩ = some (.int .i64 x.a) ∧ (tabX wr x).cell? ⟨wr.heap.size, 2, none⟩ = some (.int .i64 x.b) ∧ (tabX wr x).cell? ⟨wr.heap.size, 3, none⟩ = some (.int .i64 x.n) := by
  unfold tabX
  refine ⟨?_, ?_, ?_, ?_⟩ <;> go_simp
def TablePost (w : World) (f : List Nd) (l : La) (e : Ending) (w' : World) : Prop :=
  Below w.heap.size w w' ∧ if ckT f l = 0 then ∃ v gs, e = .returned (.tuple #[v, .int .i64 0]) ∧ TabAt w' w.heap.size v (tableOf l f) gs else e = .returned (.tuple #[.slice none 0 0, .int .i64 (ckT f l)])
theorem okLetters {l : La} (h : ckL l 8 = 0) : l.h.length ≤ 4000 ∧ l.l.length ≤ 4000 ∧ 0 < l.l.length ∧ ∀ (i : Nat) (hi : i < (l.h ++ l.l).length), 0 ≤ (l.h ++ l.l)[i] ∧ (l.h ++ l.l)[i] ≤ 7 := by
  unfold ckL at h
  split at h
  · simp at h
  · split at h
    · simp at h
    · split at h
      · simp at h
      · split at h
        · simp at h
        · rename_i h1 h2 h3 h4
          refine ⟨by omega, by omega, by omega, fun i hi => ?_⟩
          have hb : badL 8 (l.h ++ l.l)[i] = false := by
            cases e : badL 8 (l.h ++ l.l)[i] with
            | false => rfl
            | true =>
              exfalso
              apply h4
              have : anyB (badL 8) (l.h ++ l.l) = true := by
                unfold anyB
                exact List.any_eq_true.2 ⟨_, List.getElem_mem hi, e⟩
              simpa [anyB] using this
          unfold badL at hb
          simp at hb
          omega
theorem tab_mid {W1 w4 : World} {R X k tc g : Nat} {T : Option Addr} {cells : List Value} {row : List Bool} (hRl : R < X) (hX : X < W1.heap.size) (hown : W1.ownsRow (R + 1) 23 1 (.slice T k tc) k cells)
    (e2 : W1.cell? ⟨R, 2, none⟩ = some (.slice T k tc)) (e3 : W1.frozen? ⟨R, 2, none⟩ = false) (hb4 : Below W1.drew.heap.size W1.drew w4) :
    W1.heap.size ≤ w4.heap.size ∧ w4.cell? ⟨R, 2, none⟩ = some (.slice T k tc) ∧ Hid ((w4.alloc (Obj.cells #[.slice (some ⟨g, 0, none⟩) row.length row.length] 23)).ownsRow (R + 1) 23 1 (.slice T k tc) k cells) ∧
      Hid (Rd (w4.alloc (Obj.cells #[.slice (some ⟨g, 0, none⟩) row.length row.length] 23)) 0 (some ⟨w4.heap.size, 0, none⟩) [.slice (some ⟨g, 0, none⟩) row.length row.length]) ∧
      R + 1 ≤ (w4.alloc (Obj.cells #[.slice (some ⟨g, 0, none⟩) row.length row.length] 23)).heap.size ∧
      (w4.alloc (Obj.cells #[.slice (some ⟨g, 0, none⟩) row.length row.length] 23)).cell? ⟨R, 2, none⟩ = some (.slice T k tc) ∧ some R ≠ (Value.slice T k tc).ownBlock ∧
      ∀ w5, (w4.alloc (Obj.cells #[.slice (some ⟨g, 0, none⟩) row.length row.length] 23)).grownBy w5 (Value.slice T k tc).ownBlock → w5.frozen? ⟨R, 2, none⟩ = false := by
  have hb : Below W1.heap.size W1 w4 := (Below.refl _ W1).drew.trans hb4
  have hs := hb.size
  have c1 := (cell_on hb (b := R) (o := 2) (by omega)).trans e2
  have f1 : w4.frozen? ⟨R, 2, none⟩ = false := (hb.frozen (p := ⟨R, 2, none⟩) (by show R < _; omega)).trans e3
  have hb5 : Below w4.heap.size w4 (w4.alloc (Obj.cells #[.slice (some ⟨g, 0, none⟩) row.length row.length] 23)) := (Below.refl _ _).alloc (Nat.le_refl _) _
  have hn : some R ≠ (Value.slice T k tc).ownBlock := own_ne hown (by omega)
  refine ⟨hs, c1, own_below (own_below hown hb) hb5, ?_, by simp; omega, (cell_on hb5 (by omega)).trans c1, hn, fun w5 h5 => ?_⟩
  · intro _
    refine ⟨_, 0, rfl, Nat.zero_le _, by simp, fun j u hu => ?_⟩
    match j, hu with
    | 0, hu => simp at hu; subst hu; go_simp
    | j + 1, hu => simp at hu
  · have hlt : R < (w4.alloc (Obj.cells #[.slice (some ⟨g, 0, none⟩) row.length row.length] 23)).heap.size := by simp; omega
    have e := World.frozen?_of_block (a := ⟨R, 2, none⟩) (h5.block R hlt hn)
    rw [e]
    exact (hb5.frozen (p := ⟨R, 2, none⟩) (by show R < _; omega)).trans f1
theorem rowsOf_succ (l : La) {f : List Nd} {k : Nat} (h : k < f.length) : rowsOf l f (k + 1) = rowsOf l f k ++ [rowOf l (rowsOf l f k) f[k]] := by
  simp [rowsOf, h]
theorem BRow.ne_own {w : World} {g base : Nat} {xs : List Bool} {v : Value} {n : Nat} {cells : List Value} (h : BRow w g xs) (ho : w.ownsRow base 23 1 v n cells) : some g ≠ v.ownBlock := by
  intro he
  rcases ho.2 with ⟨rfl, _⟩ | ⟨g', cap, cur, rfl, _, hh, _⟩
  · simp [Value.ownBlock] at he
  · have : g = g' := by simpa [Value.ownBlock] using he
    subst this
    unfold BRow at h
    rw [hh] at h
    simp at h
theorem tab_end {w w3 W1 w4 w5 : World} {R X k tc g : Nat} {T A5 : Option Addr} {c5 cc : Nat} {C : Option Addr} {l : La} {f : List Nd} {gs : List Nat} {row : List Bool} (hlt : k < f.length) (hwR : w.heap.size ≤ R) (hRl : R < X) (hX : X < W1.heap.size)
    (e1 : RdrAt W1 R C l.n cc l.h.length) (e4 : TabAt W1 (R + 1) (.slice T (rowsOf l f k).length tc) (rowsOf l f k) gs) (e5 : Below R w3 W1) (e6 : Below w.heap.size w W1)
    (hrow : row = rowOf l (rowsOf l f k) f[k]) (hb4 : Below W1.drew.heap.size W1.drew w4) (hr4 : BRow w4 g row) (hg : W1.drew.heap.size ≤ g)
    (hown5 : w5.ownsRow (R + 1) 23 1 (.slice A5 (k + 1) c5) (k + 1) (gs.zipWith (fun g r => Value.slice (some ⟨g, 0, none⟩) r.length r.length) (rowsOf l f k) ++ [.slice (some ⟨g, 0, none⟩) row.length row.length]))
    (hg5 : (w4.alloc (Obj.cells #[.slice (some ⟨g, 0, none⟩) row.length row.length] 23)).grownBy w5 (Value.slice T k tc).ownBlock)
    (q5 : w5.cell? ⟨R, 2, none⟩ = some (.slice T k tc)) (q6 : w5.frozen? ⟨R, 2, none⟩ = false) :
    TabInv w w3 R C cc l f (k + 1) (w5.setCell ⟨R, 2, none⟩ (.slice A5 (k + 1) c5)) := by
  have hrl : (rowsOf l f k).length = k := length_rowsOf l f k
  have hown := e4.own
  rw [hrl] at hown
  have hb : Below W1.heap.size W1 w4 := (Below.refl _ W1).drew.trans hb4
  have hs := hb.size
  have hg' : W1.heap.size ≤ g := hg
  have hb5 : Below w4.heap.size w4 (w4.alloc (Obj.cells #[.slice (some ⟨g, 0, none⟩) row.length row.length] 23)) := (Below.refl _ _).alloc (Nat.le_refl _) _
  have hT : ∀ b, (Value.slice T k tc).ownBlock = some b → R + 1 ≤ b ∧ b < W1.heap.size := fun b hb => hown.lt b hb
  have hgs := hg5.size
  have hchain : Below W1.heap.size W1 (w4.alloc (Obj.cells #[.slice (some ⟨g, 0, none⟩) row.length row.length] 23)) := hb.trans (hb5.mono hs)
  have hR5 : Below (R + 1) W1 w5 := (hchain.mono (by omega)).trans ⟨hg5.os, hg5.tape, hg5.output, hg5.size, fun j hj => hg5.block j (by simp; omega) (fun e => by have := (hT j e.symm).1; omega)⟩
  have hfin : Below w.heap.size w (w5.setCell ⟨R, 2, none⟩ (.slice A5 (k + 1) c5)) := (e6.trans (hR5.mono (by omega))).setCell (p := ⟨R, 2, none⟩) hwR _
  have hsz : w5.heap.size = (w5.setCell ⟨R, 2, none⟩ (.slice A5 (k + 1) c5)).heap.size := by simp [World.setCell]
  have keep : ∀ j xs, BRow W1 j xs → R + 1 ≤ j → BRow (w5.setCell ⟨R, 2, none⟩ (.slice A5 (k + 1) c5)) j xs := by
    intro j xs hj hR
    have h1 := hj.below hchain hj.lt
    have h2 := h1.grown hg5 (hj.ne_own hown)
    exact h2.set_far (p := ⟨R, 2, none⟩) (by show j ≠ R; omega) _
  have hg_new : BRow (w5.setCell ⟨R, 2, none⟩ (.slice A5 (k + 1) c5)) g row := by
    have h1 := hr4.below hb5 hr4.lt
    have h2 := h1.grown hg5 (fun e => by have := (hT g e.symm).2; omega)
    exact h2.set_far (p := ⟨R, 2, none⟩) (by show g ≠ R; omega) _
  have hzl : (gs.zipWith (fun g r => Value.slice (some ⟨g, 0, none⟩) r.length r.length) (rowsOf l f k) ++ [.slice (some ⟨g, 0, none⟩) row.length row.length]) = ((gs ++ [g]).zipWith (fun g r => Value.slice (some ⟨g, 0, none⟩) r.length r.length) (rowsOf l f (k + 1))) := by
    rw [rowsOf_succ l hlt, ← hrow, List.zipWith_append (by rw [e4.len])]
    rfl
  have hrl1 : (rowsOf l f (k + 1)).length = k + 1 := length_rowsOf l f (k + 1)
  refine ⟨A5, c5, gs ++ [g], ⟨?_, ?_, ?_⟩, ?_, ?_, ⟨?_, ?_, ?_⟩, ?_, hfin⟩
  · rw [World.cell?_setCell_other _ _ _ _ (by simp)]
    exact (cell_on hR5 (by omega)).trans e1.1
  · rw [World.cell?_setCell_other _ _ _ _ (by simp)]
    exact (cell_on hR5 (by omega)).trans e1.2.1
  · rw [← hsz]; have := hb5.size; omega
  · rw [hrl1]; exact World.cell?_setCell_same' _ _ _ (by rw [q5]; rfl)
  · rw [World.frozen?_setCell]; exact q6
  · rw [hrl1, ← hzl]; exact ownsRow_setCell_below hown5 (a := ⟨R, 2, none⟩) (by show R < _; omega) _
  · rw [List.length_append, e4.len, hrl, hrl1]; rfl
  · intro j hj hj'
    have e : rowsOf l f (k + 1) = rowsOf l f k ++ [row] := by rw [rowsOf_succ l hlt, ← hrow]
    have hjk : j < k + 1 := by rw [hrl1] at hj; exact hj
    have hgl : gs.length = k := by rw [e4.len, hrl]
    rcases Nat.lt_or_ge j k with h | h
    · obtain ⟨a1, a2, a3⟩ := e4.row j (by omega) (by omega)
      have x1 : (gs ++ [g])[j] = gs[j]'(by omega) := List.getElem_append_left (by omega)
      have x2 : (rowsOf l f (k + 1))[j] = (rowsOf l f k)[j]'(by omega) := by simp only [e]; exact List.getElem_append_left (by omega)
      rw [x1, x2]
      exact ⟨keep _ _ a1 a2, a2, by rw [← hsz]; have := hb5.size; omega⟩
    · obtain rfl : j = k := by omega
      have x1 : (gs ++ [g])[j] = g := by rw [List.getElem_append_right (by omega)]; simp
      have x2 : (rowsOf l f (j + 1))[j] = row := by simp only [e]; rw [List.getElem_append_right (by omega)]; simp
      rw [x1, x2]
      exact ⟨hg_new, by omega, hg_new.lt⟩
  · exact (e5.trans (hR5.mono (by omega))).setCell (p := ⟨R, 2, none⟩) (Nat.le_refl _) _
set_option maxRecDepth 100000 in
set_option maxHeartbeats 2000000 in
theorem Table_ (F : Option Addr) (fc : Nat) (f : List Nd) (A B : Option Addr) (ca cb : Nat) (l : La) (w : World) (hf : Nds w 0 F fc f) (hh : Ints w 0 A ca l.h) (hl : Ints w 0 B cb l.l) :
    Calls Tryz.prog 58 #[.slice F f.length fc, .agg #[.slice A l.h.length ca, .slice B l.l.length cb]] w (TablePost w f l) := by
  have hle := hf.le
  have hcp := hf.cap
  have hle1 := hh.le
  have hle2 := hl.le
  have HA := Lib.hid ((Below.refl w.heap.size w).alloc (Nat.le_refl _) (Obj.cells #[Value.slice A l.h.length ca, Value.slice B l.l.length cb] 28))
  go_enter Tryz.func58, Tryz.ntmps58
  go_wp2_with fail
  refine (formulaCheck_ _ _ _ _ (hf.below HA.out)).mono ?_
  rintro e w1 ⟨rfl, hb1⟩
  have HB1 := Lib.hid (Below_on HA.out hb1 (by simp))
  have c1 : w1.cell? ⟨w.heap.size, 0, none⟩ = some (.slice A l.h.length ca) := (hb1.cell (p := ⟨w.heap.size, 0, none⟩) (by simp)).trans (by go_simp)
  have c2 : w1.cell? ⟨w.heap.size, 1, none⟩ = some (.slice B l.l.length cb) := (hb1.cell (p := ⟨w.heap.size, 1, none⟩) (by simp)).trans (by go_simp)
  have hs1 : w.heap.size + 1 ≤ w1.heap.size := by have := hb1.size; simpa using this
  clear hb1
  by_cases hcf : ckF f = 0
  · have hcf' : (ckF f == 0) = true := by simpa using hcf
    have HCF := Lib.hid hcf
    clear hcf
    go_wp2_with fail
    refine (wordCheck_ _ _ _ _ l 8 _ (hh.below HB1.out) (hl.below HB1.out)).mono ?_
    rintro e w2 ⟨rfl, hb2⟩
    have HB2 := Lib.hid (Below_on HB1.out hb2 (by omega))
    have c3 : w2.cell? ⟨w.heap.size, 0, none⟩ = some (.slice A l.h.length ca) := (cell_on hb2 (by omega)).trans c1
    have c4 : w2.cell? ⟨w.heap.size, 1, none⟩ = some (.slice B l.l.length cb) := (cell_on hb2 (by omega)).trans c2
    have hs2 : w.heap.size + 1 ≤ w2.heap.size := by have := hb2.size; omega
    clear hb2 c1 c2
    by_cases hcl : ckL l 8 = 0
    · have hcl' : (ckL l 8 != 0) = false := by simpa using hcl
      have HCL := Lib.hid hcl
      have HOK := Lib.hid (okLetters hcl)
      have hlim : l.h.length + l.l.length ≤ 8000 := by have := HOK.out; omega
      clear hcl
      have HB3 := Lib.hid ((HB2.out.alloc (by omega) (Obj.cells #[Value.slice A l.h.length ca, Value.slice B l.l.length cb] 22)).drew)
      have hltD : w.heap.size < ((w2.alloc (Obj.cells #[Value.slice A l.h.length ca, Value.slice B l.l.length cb] 22)).drew).heap.size := by simp; omega
      have g0 : ((w2.alloc (Obj.cells #[Value.slice A l.h.length ca, Value.slice B l.l.length cb] 22)).drew).cell? ⟨w.heap.size, 0, none⟩ = some (.slice A l.h.length ca) := (World.cell?_alloc_lt w2 _ ⟨w.heap.size, 0, none⟩ (by show w.heap.size < _; omega)).trans c3
      have g1 : ((w2.alloc (Obj.cells #[Value.slice A l.h.length ca, Value.slice B l.l.length cb] 22)).drew).cell? ⟨w.heap.size, 1, none⟩ = some (.slice B l.l.length cb) := (World.cell?_alloc_lt w2 _ ⟨w.heap.size, 1, none⟩ (by show w.heap.size < _; omega)).trans c4
      have HCON := Lib.hid (ConcatI_ w2.heap.size A B ca cb l.h l.l ((w2.alloc (Obj.cells #[Value.slice A l.h.length ca, Value.slice B l.l.length cb] 22)).drew) (hh.below HB3.out) (hl.below HB3.out) (by omega) (by go_simp) (by go_simp) (by simp))
      go_wp2_with fail
      go_region_held3 (fun w' => w'.cell? ⟨w.heap.size, 0, none⟩ = some (.slice A l.h.length ca) ∧ w'.cell? ⟨w.heap.size, 1, none⟩ = some (.slice B l.l.length cb))
        (first | go_keep | exact ⟨q0, q1⟩)
        (first
          | (go_at_call 35; refine HCON.out.mono ?_; rintro e w3 ⟨C, cc, rfl, hcat, hb3⟩; have q0 : w3.cell? ⟨w.heap.size, 0, none⟩ = some (.slice A l.h.length ca) := (cell_on hb3 hltD).trans g0; have q1 : w3.cell? ⟨w.heap.size, 1, none⟩ = some (.slice B l.l.length cb) := (cell_on hb3 hltD).trans g1))
      have HB4 := Lib.hid (Below_on HB3.out hb3 (by simp; omega))
      have hs3 : w.heap.size + 1 ≤ w3.heap.size := by have := hb3.size; simp at this; omega
      have HCAT := Lib.hid (hcat.low (Nat.zero_le _))
      clear hcat hb3 HCON g0 g1 q0 q1 hltD c3 c4
      have hW : tabW w3 C (l.h.length + l.l.length) cc l.h.length = w3.alloc (Obj.cells #[Value.slice C (l.h.length + l.l.length) cc, Value.int IntKind.i64 l.h.length, Value.slice none 0 0] 154) := rfl
      have HF : Hid (∀ W0, W0 = tabW w3 C (l.h.length + l.l.length) cc l.h.length → RdrAt W0 w3.heap.size C l.n cc l.h.length ∧ W0.cell? ⟨w3.heap.size, 2, none⟩ = some (.slice none 0 0) ∧ W0.frozen? ⟨w3.heap.size, 2, none⟩ = false ∧ Below w3.heap.size w3 W0 ∧ Below w.heap.size w W0 ∧ w3.heap.size < W0.heap.size) := by
        rintro W0 rfl
        unfold tabW
        refine ⟨⟨by go_simp; rfl, by go_simp, by simp⟩, by go_simp, by go_simp, (Below.refl _ _).alloc (Nat.le_refl _) _, HB4.out.alloc (by omega) _, by simp⟩
      rw [← hW]
      have HFF := Lib.hid (HF.out _ rfl)
      clear hW HF
      generalize tabW w3 C (l.h.length + l.l.length) cc l.h.length = W0 at *
      obtain ⟨R, hR⟩ : ∃ R, R = w3.heap.size := ⟨_, rfl⟩
      rw [← hR] at HFF hs3 ⊢
      have HR := Lib.hid hR
      clear hR
      obtain ⟨f1, f2, f3, f4, f5, f6⟩ := HFF.out
      have HI0 : Hid (TabInv w w3 R C cc l f 0 W0) := ⟨none, 0, [], f1, f2, f3, ⟨by simpa [rowsOf] using World.ownsRow_nil _ _ _ _, rfl, fun k h => by simp [rowsOf] at h⟩, f4, f5⟩
      have hln : l.n ≤ 8000 := hlim
      have hlh : l.h.length < l.n := by have := HOK.out; unfold La.n; omega
      have hfl : f.length ≤ 12 := (ckF_ok HCF.out).2.1
      clear f1 f2 f3 f4 f5 HFF HB3 HB4 HB1 HB2 HA
      go_wp2
      go_loopw [32] (fun i wr => ∃ k : Nat, k ≤ f.length ∧ i = .int .i64 k ∧ TabInv w w3 R C cc l f k wr ∧ ckNds (f.drop k) k = 0) (fun i _ => f.length - (intOf i).toNat)
      case atStart => exact ⟨0, Nat.zero_le _, rfl, HI0.out, (ckF_ok HCF.out).2.2.2⟩
      case round =>
        obtain ⟨k, hk, rfl, hinv, hck⟩ := hrel
        have HI := Lib.hid hinv
        have HCK := Lib.hid hck
        clear hinv hck
        obtain ⟨T, tc, gs, d1, d2, d3, d4, d5, d6⟩ := HI.out
        have hrl : (rowsOf l f k).length = k := length_rowsOf l f k
        by_cases hlt : k < f.length
        · obtain ⟨b, o, rfl, _, hbl, hc1, hc2, hc3, hc4⟩ := Nds.at_ (hf.below d6) hlt
          have hxb : Below wr.heap.size wr (tabX wr f[k]) := (Below.refl _ _).alloc (Nat.le_refl _) _
          have HX := Lib.hid (tabX_is wr f[k])
          have hRl : R < wr.heap.size := d1.2.2
          have e1 := d1.below hxb hRl
          have e2 := (cell_on hxb hRl).trans d2
          have e3 : (tabX wr f[k]).frozen? ⟨R, 2, none⟩ = false := (hxb.frozen (p := ⟨R, 2, none⟩) hRl).trans d3
          have e4 := d4.below hxb
          have e5' := HCAT.out.below d5 (by rw [HR.out]; exact Nat.le_refl _)
          have e5 := e5'.below hxb
          have e55 := d5.trans (hxb.mono (Nat.le_of_lt hRl))
          have e6 := Below_on d6 hxb d6.size
          have hXe : wr.heap.size < (tabX wr f[k]).heap.size := by simp [tabX]
          go_wp2_with fail
          change Code.wp _ _ _ _ (tabX wr f[k])
          generalize tabX wr f[k] = W1 at *
          generalize wr.heap.size = X at *
          have HE1 := Lib.hid e1
          have HE4 := Lib.hid e4
          have HE5 := Lib.hid e55
          have HE6 := Lib.hid e6
          have HN := Lib.hid (holdsNode_ R C cc l T tc (rowsOf l f k) f[k] W1.drew e1 (e5.below (Below.refl _ W1).drew) HOK.out.2.2.2 hlh (by omega) e2 ((e4.below (Below.refl _ W1).drew).rows (by omega) (fun r hr => by rw [mem_rowsOf l f k r hr]; omega)) (mem_rowsOf l f k) (by
            rw [hrl]
            have := HCK.out
            rw [ckNds_step hlt] at this
            split at this
            · assumption
            · exact this))
          obtain ⟨x0, x1, x2, x3⟩ := HX.out
          clear d1 d2 d3 d4 d5 d6 hxb e1 e4 e5 e5' e55 e6 hc1 hc2 hc3 hc4 hf hbl
          obtain ⟨row, hrowe⟩ : ∃ row, row = rowOf l (rowsOf l f k) f[k] := ⟨_, rfl⟩
          rw [← hrowe] at HN
          have HROW := Lib.hid hrowe
          obtain ⟨cells, hcells⟩ : ∃ c, c = gs.zipWith (fun g r => Value.slice (some ⟨g, 0, none⟩) r.length r.length) (rowsOf l f k) := ⟨_, rfl⟩
          have hown := HE4.out.own
          rw [← hcells, hrl] at hown
          have HCELLS := Lib.hid hcells
          have HOWN := Lib.hid hown
          rw [hrl] at e2
          have HRL := Lib.hid hrl
          clear hown hcells hrowe hrl
          obtain ⟨i0, hi0, hz0, hz1, hz2⟩ := info_parts infoRow
          have m1 : k + 1 ≤ maxLen := by simp only [maxLen]; omega
          have m2 : (k + 1) * 24 ≤ 140737488355328 := by omega
          go_region_law (first
            | (refine step_app (w4.alloc (Obj.cells #[.slice (some ⟨g, 0, none⟩) row.length row.length] 23)) rfl (.tmp 40) (.tmp 44) _ rfl (R + 1) 23 i0 _ 1 24 Tryz.underlying103 hi0 hz0 hz1 hz2 rfl (by decide) (.slice T k tc) k cells (by go_simp) HOWN5.out (some ⟨w4.heap.size, 0, none⟩) 1 1 [.slice (some ⟨g, 0, none⟩) row.length row.length] (by go_simp) rfl HRD5.out (by simp [Value.oneCell']) m1 m2 hbase5 ?_; intro v5 w5 hown5 hg5 hat5; obtain ⟨A5, c5, hv5, _⟩ := own_form hown5; subst hv5; have q5 := hg5.cell (a := ⟨R, 2, none⟩) (v := .slice T k tc) q4 q4n; have q6 : w5.frozen? ⟨R, 2, none⟩ = false := q6f w5 hg5)
            | (go_simp; go_at_call 99; refine HN.out.mono ?_; rintro e w4 ⟨g, rfl, hg, hrow, hb4⟩; obtain ⟨hq1, hq2, HOWN5, HRD5, hbase5, q4, q4n, q6f⟩ := tab_mid (g := g) (row := row) (w4 := w4) hRl hXe HOWN.out e2 e3 hb4))
          all_goals
            have HT := Lib.hid (tab_end (w := w) (l := l) (f := f) (gs := gs) hlt (by omega) hRl hXe HE1.out HE4.out HE5.out HE6.out HROW.out hb4 hrow hg (by rw [← HCELLS.out]; exact hown5) hg5 q5 q6)
            clear hown5 hg5 hat5 q5 q6 q4 q4n q6f hq1 hq2 hbase5 hb4 hrow hg
            go_wp2
            go_roundw
            case rel => exact ⟨k + 1, by omega, by go_num, HT.out, by have := HCK.out; rw [ckNds_step hlt] at this; split at this <;> simp_all⟩
            case measure => simp [intOf]; omega
        · have hkf : k = f.length := by omega
          have HP : Hid (TablePost w f l (.returned (.tuple #[.slice T (rowsOf l f k).length tc, .int .i64 0])) wr) := by
            have e : ckT f l = 0 := by unfold ckT; rw [if_pos HCF.out]; exact HCL.out
            refine ⟨d6, ?_⟩
            rw [e, if_pos rfl]
            subst hkf
            exact ⟨_, gs, rfl, own_lowT d4.own (by omega), d4.len, fun j h h' => ⟨(d4.row j h h').1, by have := (d4.row j h h').2.1; omega, (d4.row j h h').2.2⟩⟩
          clear hkf hrl
          go_wp2_with fail
          go_ret2
          exact HP.out
    · have hcl' : (ckL l 8 != 0) = true := by simpa using hcl
      have HP : Hid (TablePost w f l (.returned (.tuple #[.slice none 0 0, .int .i64 (ckL l 8)])) w2) := by
        have e : ckT f l = ckL l 8 := by unfold ckT; rw [if_pos HCF.out]
        exact ⟨HB2.out, by rw [e, if_neg hcl]⟩
      clear hcl
      go_wp2
      go_ret2
      exact HP.out
  · have hcf' : (ckF f == 0) = false := by simpa using hcf
    have hcf2 : (ckF f != 0) = true := by simpa using hcf
    have HP : Hid (TablePost w f l (.returned (.tuple #[.slice none 0 0, .int .i64 (ckF f)])) w1) := by
      have e : ckT f l = ckF f := by unfold ckT; rw [if_neg hcf]
      exact ⟨HB1.out, by rw [e, if_neg hcf]⟩
    clear hcf
    go_wp2
    go_ret2
    exact HP.out
end Go.Proofs.YtoglgeaiiipchabGreatDoor

namespace Go.Proofs.YtoglgeaiiipchabGreatDoor
open Go Go.RowKit Go.Shelf
def holdsV (f : List Nd) (l : La) : Bool := if ckT f l = 0 then gB (tableOf l f) (f.length - 1) 0 else false
theorem ret_bi {a a' : Bool} {b b' : Int} (h1 : a = a') (h2 : b = b') : Ending.returned (.tuple #[.bool a, .int .i64 b]) = Ending.returned (.tuple #[.bool a', .int .i64 b']) := by rw [h1, h2]
theorem ckT_F {f : List Nd} {l : La} (h : ckT f l = 0) : ckF f = 0 ∧ ckL l 8 = 0 := by
  unfold ckT at h
  split at h
  · exact ⟨by assumption, h⟩
  · rename_i h1; exact absurd h h1
theorem mem_tableOf (l : La) (f : List Nd) : ∀ r ∈ tableOf l f, r.length = l.n := mem_rowsOf l f f.length
theorem length_tableOf (l : La) (f : List Nd) : (tableOf l f).length = f.length := length_rowsOf l f f.length
theorem ckT_lim {f : List Nd} {l : La} (h : ckT f l = 0) : 0 < f.length ∧ f.length ≤ 12 ∧ l.n ≤ 8000 ∧ 0 < l.n ∧ l.h.length < l.n := by
  obtain ⟨h1, h2⟩ := ckT_F h
  have a := ckF_ok h1
  have b := okLetters h2
  unfold La.n
  omega
set_option maxRecDepth 100000 in
set_option maxHeartbeats 1000000 in
theorem Holds_ (F : Option Addr) (fc : Nat) (f : List Nd) (A B : Option Addr) (ca cb : Nat) (l : La) (w : World) (hf : Nds w 0 F fc f) (hh : Ints w 0 A ca l.h) (hl : Ints w 0 B cb l.l) :
    Calls Tryz.prog 24 #[.slice F f.length fc, .agg #[.slice A l.h.length ca, .slice B l.l.length cb]] w fun e w' => e = .returned (.tuple #[.bool (holdsV f l), .int .i64 (ckT f l)]) ∧ Below w.heap.size w w' := by
  have hle := hf.le
  have hcp := hf.cap
  have HA := Lib.hid ((Below.refl w.heap.size w).alloc (Nat.le_refl _) (Obj.cells #[Value.slice A l.h.length ca, Value.slice B l.l.length cb] 28))
  have HT := Lib.hid (Table_ F fc f A B ca cb l (w.alloc (Obj.cells #[Value.slice A l.h.length ca, Value.slice B l.l.length cb] 28)) (hf.below HA.out) (hh.below HA.out) (hl.below HA.out))
  go_enter Tryz.func24, Tryz.ntmps24
  go_wp2_with fail
  refine HT.out.mono ?_
  rintro e w1 ⟨hb1, hp⟩
  have HB1 := Lib.hid (Below_on HA.out hb1 (by simp))
  clear hb1
  by_cases hc : ckT f l = 0
  · rw [if_pos hc] at hp
    obtain ⟨v, gs, rfl, htab⟩ := hp
    obtain ⟨T, tc, hv, hjunk⟩ := own_form htab.own
    clear hjunk
    subst hv
    have hlim := ckT_lim hc
    have htl := length_tableOf l f
    have hrows := htab.rows (by omega) (fun r hr => by rw [mem_tableOf l f r hr]; omega)
    have hk : f.length - 1 < (tableOf l f).length := by omega
    have hcp2 := hrows.cap
    have hle2 := hrows.le
    obtain ⟨b, o, rfl, hbl, A', c', hcell, hrow⟩ := hrows.rd (f.length - 1) hk
    have hrl : ((tableOf l f)[f.length - 1]).length = l.n := mem_tableOf l f _ (List.getElem_mem hk)
    have h0 : 0 < ((tableOf l f)[f.length - 1]).length := by omega
    have hcp3 := hrow.cap
    have hle3 := hrow.le
    obtain ⟨b2, o2, rfl, _, _, hc2⟩ := Bools.at_ hrow h0
    rw [Nat.add_zero] at hc2
    have HF := Lib.hid (show holdsV f l = ((tableOf l f)[f.length - 1])[0] by
      unfold holdsV
      rw [if_pos hc]
      simp [gB, hk, h0])
    have HC := Lib.hid hc
    have e1 : ((f.length : Int) - 1) = ((f.length - 1 : Nat) : Int) := by omega
    have e2 : (ckT f l != 0) = false := by simp [hc]
    have hn : f.length - 1 < f.length := by omega
    clear htab hrows hrl hrow hc
    generalize (tableOf l f)[f.length - 1] = rw1 at *
    rw [htl]
    rw [htl] at hle2
    have h00 : (0 : Int) < (rw1.length : Int) := by omega
    clear htl
    go_wp2_with fail
    go_ret2
    exact ⟨ret_bi HF.out.symm HC.out.symm, HB1.out⟩
  · rw [if_neg hc] at hp
    subst hp
    have HF := Lib.hid (show holdsV f l = false by unfold holdsV; rw [if_neg hc])
    have e2 : (ckT f l != 0) = true := by simpa using hc
    clear hc
    go_wp2
    go_ret2
    exact ⟨ret_bi HF.out.symm rfl, HB1.out⟩
end Go.Proofs.YtoglgeaiiipchabGreatDoor

namespace Go.Proofs.YtoglgeaiiipchabGreatDoor
open Go Go.RowKit Go.Shelf
attribute [local go_sem] Oper.semAt_some
end Go.Proofs.YtoglgeaiiipchabGreatDoor
namespace Go.Proofs.YtoglgeaiiipchabGreatDoor
open Go Go.RowKit Go.Shelf
attribute [local go_sem] Oper.semAt_some
end Go.Proofs.YtoglgeaiiipchabGreatDoor

namespace Go.Proofs.YtoglgeaiiipchabGreatDoor
open Go Go.RowKit Go.Maps Go.Shelf
def nxt (row : List Int) (back p : Nat) : Nat := if p + 1 = row.length then back else p + 1
variable {lo F M T : Nat} {w W W' : World} {fv v : Value} {L left : List (Int × Nat)}
end Go.Proofs.YtoglgeaiiipchabGreatDoor
namespace Go.Proofs.YtoglgeaiiipchabGreatDoor
open Go Go.RowKit Go.Maps Go.Shelf
attribute [local go_sem] Oper.semAt_some
end Go.Proofs.YtoglgeaiiipchabGreatDoor

namespace Go.Proofs.YtoglgeaiiipchabGreatDoor
open Go Go.RowKit Go.Sort
end Go.Proofs.YtoglgeaiiipchabGreatDoor
namespace Go.Proofs.YtoglgeaiiipchabGreatDoor
open Go Go.RowKit Go.Sort
end Go.Proofs.YtoglgeaiiipchabGreatDoor
namespace Go.Proofs.YtoglgeaiiipchabGreatDoor
open Go Go.RowKit Go.Sort
end Go.Proofs.YtoglgeaiiipchabGreatDoor

namespace Go.Proofs.YtoglgeaiiipchabGreatDoor
open Go Go.RowKit Go.Maps
end Go.Proofs.YtoglgeaiiipchabGreatDoor

namespace Go.Proofs.YtoglgeaiiipchabGreatDoor
end Go.Proofs.YtoglgeaiiipchabGreatDoor
namespace Go.Proofs.YtoglgeaiiipchabGreatDoor
end Go.Proofs.YtoglgeaiiipchabGreatDoor

namespace Go.Proofs.YtoglgeaiiipchabGreatDoor
open Go Go.RowKit
end Go.Proofs.YtoglgeaiiipchabGreatDoor

namespace Go.Proofs.YtoglgeaiiipchabGreatDoor
open Go Go.RowKit Go.Shelf
end Go.Proofs.YtoglgeaiiipchabGreatDoor
namespace Go.Proofs.YtoglgeaiiipchabGreatDoor
open Go Go.RowKit Go.Shelf
end Go.Proofs.YtoglgeaiiipchabGreatDoor

namespace Go.Proofs.YtoglgeaiiipchabGreatDoor
open Go Go.RowKit Go.Shelf
theorem ckL_ne {l : La} {letters : Int} (h : ckL l letters = 0) : l.l.length ≠ 0 := by
  unfold ckL at h
  split at h
  · simp at h
  · split at h
    · simp at h
    · split at h
      · simp at h
      · assumption
set_option maxRecDepth 100000 in
theorem LetterAtB_ (A B : Option Addr) (ca cb : Nat) (l : La) (i : Nat) (w : World) (hh : Ints w 0 A ca l.h) (hl : Ints w 0 B cb l.l) (hne : l.l.length ≠ 0) (hi : i ≤ 9223372036854775807) :
    Calls Tryz.prog 59 #[.agg #[.slice A l.h.length ca, .slice B l.l.length cb], .int .i64 i] w fun e w' => e = .returned (.int .i64 (l.at i)) ∧ Below w.heap.size w w' := by
  have h1 := hh.le
  have h2 := hh.max
  have h3 := hl.le
  have h4 := hl.max
  by_cases hlt : i < l.h.length
  · obtain ⟨b, o, rfl, _, hb, hc⟩ := Ints.at_ hh hlt
    have hfin : l.at i = l.h[i] := by simp [La.at, hlt]
    have HF := Lib.hid hfin
    clear hfin
    go_enter Tryz.func59, Tryz.ntmps59
    go_wp2
    go_ret
    exact ⟨ret_int HF.out.symm, (Below.refl _ _).alloc (Nat.le_refl _) _⟩
  · have hm : (i - l.h.length) % l.l.length < l.l.length := Nat.mod_lt _ (by omega)
    obtain ⟨b, o, rfl, _, hb, hc⟩ := Ints.at_ hl hm
    have hfin : l.at i = l.l[(i - l.h.length) % l.l.length] := by simp [La.at, hlt, hm]
    have HF := Lib.hid hfin
    clear hfin
    have e1 : ((i : Int) - (l.h.length : Int)) = ((i - l.h.length : Nat) : Int) := by omega
    have hz : ((l.l.length : Int) == 0) = false := by simpa using hne
    go_enter Tryz.func59, Tryz.ntmps59
    go_wp2
    go_quiet (fail)
    go_wp2
    go_ret
    exact ⟨ret_int HF.out.symm, below_drewN ((Below.refl _ _).alloc (Nat.le_refl _) _) _⟩
end Go.Proofs.YtoglgeaiiipchabGreatDoor

namespace Go.Proofs.YtoglgeaiiipchabGreatDoor
open Go Go.RowKit Go.Shelf Go.Sort
theorem at_loop {l : La} (hp : 0 < l.l.length) (i : Nat) : l.at (l.h.length + i) = l.l.getD (i % l.l.length) 0 := by
  unfold La.at
  rw [if_neg (by omega), show l.h.length + i - l.h.length = i by omega]
end Go.Proofs.YtoglgeaiiipchabGreatDoor

namespace Go.Proofs.YtoglgeaiiipchabGreatDoor
open Go Go.RowKit Go.Shelf Go.Sort
def lenOf : Value → Nat | .slice _ k _ => k | _ => 0
theorem ckL_few {l : La} {letters : Int} (h : ckL l letters = 0) : l.l.length ≠ 0 ∧ l.h.length ≤ 4000 ∧ l.l.length ≤ 4000 := by
  unfold ckL at h
  split at h
  · simp at h
  · split at h
    · simp at h
    · split at h
      · simp at h
      · omega
end Go.Proofs.YtoglgeaiiipchabGreatDoor

namespace Go.Proofs.YtoglgeaiiipchabGreatDoor
open Go Go.RowKit Go.Maps
def taErr (a : Au) (l : La) : Int := if ckA a = 0 then ckL l a.le else ckA a
noncomputable def tkB (a : Au) (l : La) : Bool := taErr a l == 0 && takesB a l.at
end Go.Proofs.YtoglgeaiiipchabGreatDoor

namespace Go.Proofs.YtoglgeaiiipchabGreatDoor
open Go Go.RowKit Go.Maps Go.Shelf Go.Sort
theorem ckL_let {l : La} {letters : Int} (h : ckL l letters = 0) : ∀ m, 0 ≤ l.at m ∧ l.at m < letters := by
  have hne := ckL_ne h
  have hb : anyB (badL letters) l.h = false ∧ anyB (badL letters) l.l = false := by
    unfold ckL at h
    split at h
    · simp at h
    · split at h
      · simp at h
      · split at h
        · simp at h
        · rename_i h5
          simpa using h5
  have hx : ∀ xs : List Int, anyB (badL letters) xs = false → ∀ k, k < xs.length → 0 ≤ xs.getD k 0 ∧ xs.getD k 0 < letters := fun xs hxs k hk => by
    unfold anyB at hxs
    rw [List.any_eq_false] at hxs
    have := hxs xs[k] (List.getElem_mem hk)
    rw [List.getD_eq_getElem?_getD, List.getElem?_eq_getElem hk]
    unfold badL at this
    simp at this ⊢
    omega
  intro m
  unfold La.at
  split
  · rename_i hm
    exact hx _ hb.1 _ hm
  · exact hx _ hb.2 _ (Nat.mod_lt _ (by omega))
theorem raw_holds {f : List Nd} {r : Au} (hS : RawS f r) (h0 : ckF f = 0) (l : La) : tkB r l = holdsV f l ∧ taErr r l = ckT f l := by
  have h1 : taErr r l = ckL l 8 := by unfold taErr; rw [if_pos hS.ok, hS.le]
  have h2 : ckT f l = ckL l 8 := by unfold ckT; rw [if_pos h0]
  refine ⟨?_, by rw [h1, h2]⟩
  unfold tkB holdsV
  rw [h1, h2]
  by_cases hl : ckL l 8 = 0
  · have hf := ckF_zero.1 h0
    have hp : 0 < l.l.length := by have := ckL_ne hl; omega
    have hs := table_sem hp hf (f.length - 1) (by have := hf.pos; omega) 0 f.length (by have := hf.pos; omega)
    have hn : 0 < l.n := by unfold La.n; omega
    rw [plc_self hn] at hs
    have ht := hS.takes l.at (ckL_let hl)
    have hb := takesB_iff (a := r) (u := l.at)
    rw [hl, if_pos rfl]
    show (true && takesB r l.at) = gB (rowsOf l f f.length) (f.length - 1) 0
    rw [Bool.true_and]
    cases hx : takesB r l.at <;> cases hy : gB (rowsOf l f f.length) (f.length - 1) 0 <;> simp_all
  · rw [if_neg hl]
    simp [hl]
end Go.Proofs.YtoglgeaiiipchabGreatDoor

namespace Go.Proofs.YtoglgeaiiipchabGreatDoor
open Go Go.RowKit Go.Shelf
theorem opposite_ (k : Int) (w : World) : Calls Tryz.prog 114 #[.int .i64 k] w fun e w' => e = .returned (.int .i64 (opp k)) ∧ Below w.heap.size w w' := by
  go_enter Tryz.func114, Tryz.ntmps114
  by_cases h4 : k = 4
  · subst h4; go_wp2; go_ret; exact ⟨rfl, Below.refl _ _⟩
  · by_cases h5 : k = 5
    · subst h5; go_wp2; go_ret; exact ⟨rfl, Below.refl _ _⟩
    · by_cases h7 : k = 7
      · subst h7; go_wp2; go_ret; exact ⟨rfl, Below.refl _ _⟩
      · by_cases h8 : k = 8
        · subst h8; go_wp2; go_ret; exact ⟨rfl, Below.refl _ _⟩
        · have HP : Hid (opp k = k) := by unfold Hid opp; rw [if_neg h4, if_neg h5, if_neg h7, if_neg h8]
          have k4 : (k == 4) = false := by simp [h4]
          have k5 : (k == 5) = false := by simp [h5]
          have k7 : (k == 7) = false := by simp [h7]
          have k8 : (k == 8) = false := by simp [h8]
          clear h4 h5 h7 h8
          go_wp2
          go_ret
          exact ⟨ret_int HP.out.symm, Below.refl _ _⟩
end Go.Proofs.YtoglgeaiiipchabGreatDoor

namespace Go.Proofs.YtoglgeaiiipchabGreatDoor
open Go Go.RowKit Go.Sort
def sb (bs : List UInt8) : ByteArray := ⟨bs.toArray⟩
theorem sb_app (a b : List UInt8) : sb a ++ sb b = sb (a ++ b) := by
  apply ByteArray.ext
  simp [sb, ByteArray.data_append]
theorem sb_size (a : List UInt8) : (sb a).size = a.length := by simp [sb, ByteArray.size]
def dgt (n : Nat) : List UInt8 := [UInt8.ofNat (48 + n)]
end Go.Proofs.YtoglgeaiiipchabGreatDoor
