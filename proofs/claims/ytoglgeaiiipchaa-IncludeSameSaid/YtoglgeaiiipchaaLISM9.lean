/- Walks: include.closed. -/
import Derived.Test.YtoglgeaiiipchaaLISM1
import Derived.Test.YtoglgeaiiipchaaLISM8
import Derived.BigRegion
set_option linter.unusedSimpArgs false
set_option linter.unusedVariables false
namespace Go.Proofs.Ytoglgeaiiipchaa
open Go Go.RowKit Go.Maps

/-- a word met: its boxes, its letters, the slice that they lie in -/
abbrev En := Bp × List Int × Sl
def inC (n : Int) : List Value := [.int .i64 n]
def bx9 (X : List Nat) : List Value := [.int .u8 (X.getD 0 0 : Nat), .int .u8 (X.getD 1 0 : Nat), .int .u8 (X.getD 2 0 : Nat), .int .u8 (X.getD 3 0 : Nat), .int .u8 (X.getD 4 0 : Nat), .int .u8 (X.getD 5 0 : Nat), .int .u8 (X.getD 6 0 : Nat), .int .u8 (X.getD 7 0 : Nat), .int .u8 (X.getD 8 0 : Nat)]
def enC (e : En) : List Value := bx9 e.1.1 ++ bx9 e.1.2 ++ [slV e.2.2]
theorem enC_len (e : En) : (enC e).length = 19 := rfl
theorem inC_len (n : Int) : (inC n).length = 1 := rfl
theorem inC_one (n : Int) : ∀ u ∈ inC n, u.oneCell' = true := by
  intro u hu
  obtain rfl : u = .int .i64 n := by simpa [inC] using hu
  rfl
theorem enC_one (e : En) : ∀ u ∈ enC e, u.oneCell' = true := by
  intro u hu
  simp only [enC, bx9, slV, List.mem_append, List.mem_cons, List.not_mem_nil, or_false] at hu
  rcases hu with ((rfl | rfl | rfl | rfl | rfl | rfl | rfl | rfl | rfl) | (rfl | rfl | rfl | rfl | rfl | rfl | rfl | rfl | rfl)) | rfl <;> rfl
/-- letters in a slice of the call's own -/
abbrev WyAt (W : World) (lo : Nat) (s : Sl) (w : List Int) : Prop := GQ 3 inC 1 W lo (slV s) w
abbrev blD (b : Bool) : DataW Unit := .lit (.bool b)
structure LpMem (B : Nat) (W : World) (Vm Vl Vo Mm Mo : Nat) (v : Value) (D : List Bp) (xs : List En) (Ws : List (Sl × List Int)) (O : List (S2 × Sl)) : Prop where
  cm : W.heap[Vm]? = some (.cells #[.map (some Mm)] 149 (0, 0))
  cl : W.heap[Vl]? = some (.cells #[v] 150 (0, 0))
  co : W.heap[Vo]? = some (.cells #[.map (some Mo)] 132 (0, 0))
  met : GAt 131 bpL blE blD W Mm (D.map fun x => (x, true))
  out : GAt 137 s2L slE slD W Mo O
  q : GQ 152 enC 19 W B v xs
  ws : ∀ s ∈ Ws, WyAt W B s.1 s.2
  bm : B ≤ Vm
  bl : B ≤ Vl
  bo : B ≤ Vo
  bMm : B ≤ Mm
  bMo : B ≤ Mo
  dM : Mm ≠ Mo
/-- what else there is stays, but for what a search may turn -/
structure KpL (Vl Mm Mo : Nat) (r : Option Nat) (w w' : World) : Prop where
  os : w'.os = w.os
  tape : w'.tape = w.tape
  output : w'.output = w.output
  size : w.heap.size ≤ w'.heap.size
  block : ∀ k, k < w.heap.size → k ≠ Vl → k ≠ Mm → k ≠ Mo → some k ≠ r → w'.heap[k]? = w.heap[k]?
section
variable {B : Nat} {W W' : World} {Vm Vl Vo Mm Mo : Nat} {v : Value} {D : List Bp} {xs : List En} {Ws : List (Sl × List Int)} {O : List (S2 × Sl)}
theorem KpL.refl (Vl Mm Mo : Nat) (r : Option Nat) (w : World) : KpL Vl Mm Mo r w w := ⟨rfl, rfl, rfl, Nat.le_refl _, fun _ _ _ _ _ _ => rfl⟩
theorem KpL.trans {r r' : Option Nat} {a b c : World} (h : KpL Vl Mm Mo r a b) (k : KpL Vl Mm Mo r' b c) (hr : ∀ j, r' = some j → r = some j ∨ a.heap.size ≤ j) : KpL Vl Mm Mo r a c :=
  ⟨k.os.trans h.os, k.tape.trans h.tape, k.output.trans h.output, Nat.le_trans h.size k.size, fun j hj h1 h2 h3 h4 => (k.block j (Nat.lt_of_lt_of_le hj h.size) h1 h2 h3 (fun e => by
    rcases hr j e.symm with h5 | h5
    · exact h4 h5.symm
    · omega)).trans (h.block j hj h1 h2 h3 h4)⟩
theorem KpL.ofBelow {r : Option Nat} {a b : World} (h : Below a.heap.size a b) : KpL Vl Mm Mo r a b := ⟨h.os, h.tape, h.output, h.size, fun k hk _ _ _ _ => h.block k hk⟩
theorem KpL.below {n : Nat} {r : Option Nat} {a b : World} (h : KpL Vl Mm Mo r a b) (hn : n ≤ a.heap.size) (h1 : n ≤ Vl) (h2 : n ≤ Mm) (h3 : n ≤ Mo) (h4 : ∀ k, r = some k → n ≤ k) : Below n a b :=
  ⟨h.os, h.tape, h.output, h.size, fun k hk => h.block k (by omega) (by omega) (by omega) (by omega) (fun e => by have := h4 k e.symm; omega)⟩
theorem KpL.ofGrown {a b : World} {r r' : Option Nat} (h : a.grownBy b r) (hr : r = some Mm ∨ r = some Mo ∨ r = r') : KpL Vl Mm Mo r' a b :=
  ⟨h.os, h.tape, h.output, h.size, fun k hk _ h2 h3 h4 => h.block k hk (fun e => by
    rcases hr with rfl | rfl | rfl
    · exact h2 (Option.some.inj e)
    · exact h3 (Option.some.inj e)
    · exact h4 e)⟩
theorem cells_ne {k : Nat} {a b : Array Value} {s t : TypeId} (h1 : W.heap[k]? = some (.cells a s (0, 0))) (h2 : W.heap[k]? = some (.cells b t (0, 0))) (hne : s ≠ t) : False := by
  rw [h1] at h2
  cases h2
  exact hne rfl
theorem LpMem.on (h : LpMem B W Vm Vl Vo Mm Mo v D xs Ws O) (hb : Below W.heap.size W W') : LpMem B W' Vm Vl Vo Mm Mo v D xs Ws O := by
  have lt : ∀ {k o}, W.heap[k]? = some o → k < W.heap.size := fun h => (Array.getElem?_eq_some_iff.1 h).1
  exact ⟨(hb.block _ (lt h.cm)).trans h.cm, (hb.block _ (lt h.cl)).trans h.cl, (hb.block _ (lt h.co)).trans h.co, h.met.on hb, h.out.on hb, h.q.on hb, fun s hs => (h.ws s hs).on hb, h.bm, h.bl, h.bo, h.bMm, h.bMo, h.dM⟩
theorem LpMem.add (h : LpMem B W Vm Vl Vo Mm Mo v D xs Ws O) {s : Sl} {w : List Int} (hs : WyAt W B s w) : LpMem B W Vm Vl Vo Mm Mo v D xs ((s, w) :: Ws) O :=
  ⟨h.cm, h.cl, h.co, h.met, h.out, h.q, fun t ht => by
    rcases List.mem_cons.1 ht with rfl | ht
    · exact hs
    · exact h.ws t ht, h.bm, h.bl, h.bo, h.bMm, h.bMo, h.dM⟩
/-- a map was turned -/
theorem LpMem.turned (h : LpMem B W Vm Vl Vo Mm Mo v D xs Ws O) {M : Nat} (hg : W.grownBy W' (some M)) (hM : ∃ es c, W.heap[M]? = some (.map es c)) {D' : List Bp} {O' : List (S2 × Sl)}
    (h1 : GAt 131 bpL blE blD W' Mm (D'.map fun x => (x, true))) (h2 : GAt 137 s2L slE slD W' Mo O') : LpMem B W' Vm Vl Vo Mm Mo v D' xs Ws O' := by
  obtain ⟨es, c, hM⟩ := hM
  have ne : ∀ {k a t}, W.heap[k]? = some (Obj.cells a t (0, 0)) → W'.heap[k]? = some (Obj.cells a t (0, 0)) := fun {k a t} hk => by
    refine (hg.block k (Array.getElem?_eq_some_iff.1 hk).1 (fun e => ?_)).trans hk
    obtain rfl := Option.some.inj e
    rw [hM] at hk
    cases hk
  refine ⟨ne h.cm, ne h.cl, ne h.co, h1, h2, h.q.heap fun k hk => ?_, fun s hs => (h.ws s hs).heap fun k hk => ?_, h.bm, h.bl, h.bo, h.bMm, h.bMo, h.dM⟩
  · obtain ⟨cur, hc⟩ := h.q.cells hk
    rw [ne hc, hc]
  · obtain ⟨cur, hc⟩ := (h.ws s hs).cells hk
    rw [ne hc, hc]
theorem LpMem.putMet (h : LpMem B W Vm Vl Vo Mm Mo v D xs Ws O) (hl : D.length ≤ 1000000000) {x : Bp} (hx : BpW x) :
    ∃ W', (Instr.mapUpdate 149 (.map (some Mm)) (bpV x) (.bool true)).run Try.prog W = .ok () W' ∧ LpMem B W' Vm Vl Vo Mm Mo v (D ++ [x]) xs Ws O ∧ KpL Vl Mm Mo v.ownBlock W W' := by
  obtain ⟨W', h1, h2, h3⟩ := bpK.put (s := true) h.met (by simp; omega) hx
  refine ⟨W', h1, h.turned h3 h.met.block (by rw [List.map_append]; exact h2) (h.out.kept h3 (fun e => h.dM (Option.some.inj e).symm)), KpL.ofGrown h3 (.inl rfl)⟩
theorem LpMem.putOut (h : LpMem B W Vm Vl Vo Mm Mo v D xs Ws O) (hl : O.length ≤ 1000000000) {x : S2} (hx : S2W x) (s : Sl) :
    ∃ W', (Instr.mapUpdate 132 (.map (some Mo)) (s2V x) (slV s)).run Try.prog W = .ok () W' ∧ LpMem B W' Vm Vl Vo Mm Mo v D xs Ws (O ++ [(x, s)]) ∧ KpL Vl Mm Mo v.ownBlock W W' := by
  obtain ⟨W', h1, h2, h3⟩ := s2K.put (s := s) h.out (by omega) hx
  exact ⟨W', h1, h.turned h3 h.out.block (h.met.kept h3 (fun e => h.dM (Option.some.inj e))) h2, KpL.ofGrown h3 (.inr (.inl rfl))⟩
theorem infoOne : (Try.prog.info? 152).map (fun i => (i.zero, i.size, i.bytes)) = some (some (.agg #[.int .u8 0, .int .u8 0, .int .u8 0, .int .u8 0, .int .u8 0, .int .u8 0, .int .u8 0, .int .u8 0, .int .u8 0, .int .u8 0, .int .u8 0, .int .u8 0, .int .u8 0, .int .u8 0, .int .u8 0, .int .u8 0, .int .u8 0, .int .u8 0, .slice none 0 0]), 19, 48) := by kernel_rfl
/-- one more is put at the queue's end -/
theorem LpMem.app (h : LpMem B W Vm Vl Vo Mm Mo v D xs Ws O) (hl : xs.length ≤ 1000000000) (e : En) (hB : B ≤ W.heap.size) :
    ∃ A c W2, (Builtin.append_ #[150, 150] 150 #[v, .slice (some ⟨W.heap.size, 0, none⟩) 1 1]).run Try.prog (W.alloc (Obj.cells (enC e).toArray 152)) = .ok (.slice A (xs.length + 1) c) W2 ∧
      W2.cell? ⟨Vl, 0, none⟩ = some v ∧ W2.frozen? ⟨Vl, 0, none⟩ = false ∧ (∀ k, k < W.heap.size → k ≠ Vl → some k ≠ v.ownBlock → W2.heap[k]? = W.heap[k]?) ∧
      LpMem B (W2.setCell ⟨Vl, 0, none⟩ (.slice A (xs.length + 1) c)) Vm Vl Vo Mm Mo (.slice A (xs.length + 1) c) D (xs ++ [e]) Ws O ∧ KpL Vl Mm Mo v.ownBlock W (W2.setCell ⟨Vl, 0, none⟩ (.slice A (xs.length + 1) c)) ∧
      (∀ k, (Value.slice A (xs.length + 1) c).ownBlock = some k → v.ownBlock = some k ∨ W.heap.size ≤ k) := by
  obtain ⟨i0, hi0, hz0, hz1, hz2⟩ := info_parts infoOne
  have hb : Below W.heap.size W (W.alloc (Obj.cells (enC e).toArray 152)) := (Below.refl _ _).alloc (Nat.le_refl _) _
  have hs1 : (W.alloc (Obj.cells (enC e).toArray 152)).heap.size = W.heap.size + 1 := by simp
  have h1 := h.on hb
  obtain ⟨v', W2, hrun, hq, hg, hv'⟩ := run_append_g (y := e) (B := W.heap.size) 150 150 Try.underlying150 hi0 hz0 hz1 hz2 rfl (by decide) enC_len enC_one h1.q (allocNew W _) hl (by decide) (by omega)
  obtain ⟨A, c, rfl, _, _⟩ := hq.form
  rw [List.length_append, List.length_singleton] at *
  have ltW : ∀ {k o}, W.heap[k]? = some o → k < W.heap.size := fun h => (Array.getElem?_eq_some_iff.1 h).1
  have kept : ∀ k, k < W.heap.size → some k ≠ v.ownBlock → W2.heap[k]? = W.heap[k]? := fun k hk hne => (hg.block k (by omega) hne).trans (hb.block k hk)
  have nq : ∀ {k a t}, W.heap[k]? = some (Obj.cells a t (0, 0)) → t ≠ 152 → W2.heap[k]? = some (Obj.cells a t (0, 0)) := fun {k a t} hk ht => by
    refine (kept k (ltW hk) (fun he => ?_)).trans hk
    obtain ⟨cur, hc⟩ := h.q.cells he.symm
    exact cells_ne hk hc ht
  have nm : ∀ {M es c}, W.heap[M]? = some (Obj.map es c) → W2.heap[M]? = some (Obj.map es c) := fun {M es c} hk => by
    refine (kept M (ltW hk) (fun he => ?_)).trans hk
    obtain ⟨cur, hc⟩ := h.q.cells he.symm
    rw [hk] at hc
    cases hc
  have hcl2 := nq h.cl (by decide)
  have far : ∀ {k : Nat} {o : Obj}, W2.heap[k]? = some o → (∀ a, o ≠ Obj.cells a 150 (0, 0)) → (W2.setCell ⟨Vl, 0, none⟩ (.slice A (xs.length + 1) c)).heap[k]? = some o := fun {k o} hk ho => by
    refine (Below.heap_setCell W2 ⟨Vl, 0, none⟩ _ k (fun he => ?_)).trans hk
    have he : k = Vl := he
    subst he
    rw [hcl2] at hk
    exact ho _ (Option.some.inj hk).symm
  have fc : ∀ {k a t}, W2.heap[k]? = some (Obj.cells a t (0, 0)) → t ≠ 150 → (W2.setCell ⟨Vl, 0, none⟩ (.slice A (xs.length + 1) c)).heap[k]? = some (Obj.cells a t (0, 0)) := fun hk ht => far hk fun b he => by cases he; exact ht rfl
  refine ⟨A, c, W2, hrun, by simp [World.cell?, hcl2], by simp [World.frozen?, hcl2], fun k hk _ h2 => kept k hk h2, ⟨fc (nq h.cm (by decide)) (by decide), ?_, fc (nq h.co (by decide)) (by decide), ?_, ?_, ?_, ?_, h.bm, h.bl, h.bo, h.bMm, h.bMo, h.dM⟩, ?_, ?_⟩
  · simp [World.setCell, Array.getElem?_modify, hcl2]
  · obtain ⟨es, c', hM⟩ := h.met.block
    exact h.met.heap ((far (nm hM) (fun a he => by cases he)).trans hM.symm)
  · obtain ⟨es, c', hM⟩ := h.out.block
    exact h.out.heap ((far (nm hM) (fun a he => by cases he)).trans hM.symm)
  · refine hq.heap fun k hk => ?_
    obtain ⟨cur, hc⟩ := hq.cells hk
    rw [fc hc (by decide), hc]
  · refine fun s hs => (h.ws s hs).heap fun k hk => ?_
    obtain ⟨cur, hc⟩ := (h.ws s hs).cells hk
    rw [fc (nq hc (by decide)) (by decide), hc]
  · refine ⟨hg.os.trans hb.os, hg.tape.trans hb.tape, hg.output.trans hb.output, ?_, fun k hk k1 _ _ k4 => ?_⟩
    · have := hg.size
      simp [World.setCell]
      omega
    · exact (Below.heap_setCell W2 ⟨Vl, 0, none⟩ _ k k1).trans (kept k hk k4)
  · intro k hk
    rcases hv' with h5 | h5
    · exact .inl (by rw [← h5]; exact hk)
    · rw [h5] at hk
      have := Option.some.inj hk
      right; omega
end
end Go.Proofs.Ytoglgeaiiipchaa

namespace Go.Proofs.Ytoglgeaiiipchaa
open Go Go.RowKit Go.Shelf

/-- what was reckoned so far: n of the 27 thirds -/
def bhT (X Y : Bx) (n i j k : Nat) : Nat := if 9 * i + 3 * k + j < n then behM X Y i j k else 0
structure BhN (X Y : Bx) (n : Nat) (O : Bx) : Prop where
  len : O.length = 9
  eq : ∀ i j, i < 3 → j < 3 → bg O i j = max (max (bhT X Y n i j 0) (bhT X Y n i j 1)) (bhT X Y n i j 2)
theorem BhN.zero (X Y : Bx) : BhN X Y 0 (List.replicate 9 0) := ⟨rfl, fun i j hi hj => by
  unfold bhT
  simp only [Nat.not_lt_zero, if_false]
  unfold bg
  rw [List.getD_eq_getElem?_getD, List.getElem?_replicate]
  split <;> rfl⟩
theorem bx_ext {B C : Bx} (hb : B.length = 9) (hc : C.length = 9) (h : ∀ i j, i < 3 → j < 3 → bg B i j = bg C i j) : B = C := by
  refine List.ext_getElem (by rw [hb, hc]) fun n h1 h2 => ?_
  have := h (n / 3) (n % 3) (by omega) (by omega)
  unfold bg at this
  rw [show 3 * (n / 3) + n % 3 = n by omega, getD_lt h1, getD_lt h2] at this
  exact this
theorem BhN.all {X Y O : Bx} (h : BhN X Y 27 O) : O = behB X Y := by
  refine bx_ext h.len (behB_is X Y).len fun i j hi hj => ?_
  rw [h.eq i j hi hj]
  unfold behB
  rw [bg_map hi hj, show (3 * i + j) / 3 = i by omega, show (3 * i + j) % 3 = j by omega]
  unfold behAt bhT
  rw [if_pos (by omega), if_pos (by omega), if_pos (by omega)]
theorem bhT_other {X Y : Bx} {i j k a b c : Nat} (hj : j < 3) (hk : k < 3) (hb : b < 3) (hc : c < 3) (h : ¬ (a = i ∧ b = j ∧ c = k)) : bhT X Y (9 * i + 3 * k + (j + 1)) a b c = bhT X Y (9 * i + 3 * k + j) a b c := by
  unfold bhT
  have : 9 * a + 3 * c + b < 9 * i + 3 * k + (j + 1) ↔ 9 * a + 3 * c + b < 9 * i + 3 * k + j := by omega
  simp only [this]
theorem bhT_new {X Y : Bx} {i j k : Nat} : bhT X Y (9 * i + 3 * k + j) i j k = 0 ∧ bhT X Y (9 * i + 3 * k + (j + 1)) i j k = behM X Y i j k := by
  unfold bhT
  exact ⟨if_neg (by omega), if_pos (by omega)⟩
theorem BhN.no {X Y O : Bx} {i j k : Nat} (h : BhN X Y (9 * i + 3 * k + j) O) (_hi : i < 3) (hj : j < 3) (hk : k < 3) (hn : ¬ (0 < bg X i k ∧ 0 < bg Y k j)) : BhN X Y (9 * i + 3 * k + (j + 1)) O := by
  refine ⟨h.len, fun a b ha hb => ?_⟩
  rw [h.eq a b ha hb]
  have : ∀ c, c < 3 → bhT X Y (9 * i + 3 * k + (j + 1)) a b c = bhT X Y (9 * i + 3 * k + j) a b c := fun c hc => by
    by_cases he : a = i ∧ b = j ∧ c = k
    · obtain ⟨rfl, rfl, rfl⟩ := he
      obtain ⟨e1, e2⟩ := bhT_new (X := X) (Y := Y) (i := a) (j := b) (k := c)
      rw [e1, e2]
      unfold behM
      rw [if_neg hn]
    · exact bhT_other hj hk hb hc he
  rw [this 0 (by omega), this 1 (by omega), this 2 (by omega)]
theorem BhN.yes {X Y O : Bx} {i j k : Nat} (h : BhN X Y (9 * i + 3 * k + j) O) (hi : i < 3) (hj : j < 3) (hk : k < 3) (hn : 0 < bg X i k ∧ 0 < bg Y k j) {v : Nat} (hv : v = max (bg O i j) (max (bg X i k) (bg Y k j))) : BhN X Y (9 * i + 3 * k + (j + 1)) (O.set (i * 3 + j) v) := by
  refine ⟨by simp [h.len], fun a b ha hb => ?_⟩
  rw [bg_set h.len hi hj ha hb]
  by_cases he : a = i ∧ b = j
  · obtain ⟨rfl, rfl⟩ := he
    rw [if_pos ⟨rfl, rfl⟩, hv, h.eq a b ha hb]
    obtain ⟨e1, e2⟩ := bhT_new (X := X) (Y := Y) (i := a) (j := b) (k := k)
    have em : behM X Y a b k = max (bg X a k) (bg Y k b) := by unfold behM; rw [if_pos hn]
    rw [em] at e2
    have ot : ∀ c, c < 3 → c ≠ k → bhT X Y (9 * a + 3 * k + (b + 1)) a b c = bhT X Y (9 * a + 3 * k + b) a b c := fun c hc hne => bhT_other hj hk hb hc (fun h => hne h.2.2)
    have : k = 0 ∨ k = 1 ∨ k = 2 := by omega
    rcases this with rfl | rfl | rfl
    · rw [ot 1 (by omega) (by omega), ot 2 (by omega) (by omega), e1, e2]; omega
    · rw [ot 0 (by omega) (by omega), ot 2 (by omega) (by omega), e1, e2]; omega
    · rw [ot 0 (by omega) (by omega), ot 1 (by omega) (by omega), e1, e2]; omega
  · rw [if_neg he, h.eq a b ha hb]
    have ot : ∀ c, c < 3 → bhT X Y (9 * i + 3 * k + (j + 1)) a b c = bhT X Y (9 * i + 3 * k + j) a b c := fun c hc => bhT_other hj hk hb hc (fun h => he ⟨h.1, h.2.1⟩)
    rw [ot 0 (by omega), ot 1 (by omega), ot 2 (by omega)]
theorem retBx {fn : Func} {n : Nat} {t : TypeId} (h : fn.results = #[.cell n 128]) (tmps : Array Value) (w : World) (V : Nat) {B : Bx} (hp : tmps[n]? = some (.pointer (some ⟨V, 0, none⟩))) (ho : URow t w V B) (hl : B.length = 9) : (results fn tmps).run Try.prog w = .ok (.agg (boxC B)) w := by
  have c0 := (ho.cell (i := 0) (by omega)).1
  have c1 := (ho.cell (i := 1) (by omega)).1
  have c2 := (ho.cell (i := 2) (by omega)).1
  have c3 := (ho.cell (i := 3) (by omega)).1
  have c4 := (ho.cell (i := 4) (by omega)).1
  have c5 := (ho.cell (i := 5) (by omega)).1
  have c6 := (ho.cell (i := 6) (by omega)).1
  have c7 := (ho.cell (i := 7) (by omega)).1
  have c8 := (ho.cell (i := 8) (by omega)).1
  obtain ⟨a, b, c, d, e, f, k, l, i, rfl⟩ := list9 hl
  simp [results, h, go_sem, hp, c0, c1, c2, c3, c4, c5, c6, c7, c8, boxC]
/-- the memory of behind: both boxes, the result's, what is reckoned -/
structure BhM (w0 w : World) (V1 V2 V3 V4 : Nat) (X Y O : Bx) : Prop where
  x : URow 128 w V1 X
  y : URow 128 w V2 Y
  r : URow 128 w V3 (List.replicate 9 0)
  o : URow 128 w V4 O
  below : Below w0.heap.size w0 w
  d14 : V1 ≠ V4
  d24 : V2 ≠ V4
  d34 : V3 ≠ V4
  l3 : w0.heap.size ≤ V3
  l4 : w0.heap.size ≤ V4
def z9 : Array Value := #[.int .u8 0, .int .u8 0, .int .u8 0, .int .u8 0, .int .u8 0, .int .u8 0, .int .u8 0, .int .u8 0, .int .u8 0]
theorem URow.zero (t : TypeId) (w : World) : URow t (w.alloc (Obj.cells z9 t)) w.heap.size (List.replicate 9 0) := URow.new t w (List.replicate 9 0)
theorem BhM.start (w : World) (X Y : Bx) : BhM w ((((w.alloc (Obj.cells (boxC X) 128)).alloc (Obj.cells (boxC Y) 128)).alloc (Obj.cells z9 128)).alloc (Obj.cells z9 128)) w.heap.size (w.heap.size + 1) (w.heap.size + 1 + 1) (w.heap.size + 1 + 1 + 1) X Y (List.replicate 9 0) := by
  have e1 : (w.alloc (Obj.cells (boxC X) 128)).heap.size = w.heap.size + 1 := by simp
  have a1 := URow.new 128 w X
  generalize hw1 : w.alloc (Obj.cells (boxC X) 128) = w1 at *
  have b1 : Below w.heap.size w w1 := by rw [← hw1]; exact (Below.refl _ _).alloc (Nat.le_refl _) _
  have e2 : (w1.alloc (Obj.cells (boxC Y) 128)).heap.size = w1.heap.size + 1 := by simp
  have a2 := URow.new 128 w1 Y
  have c2 : Below w1.heap.size w1 (w1.alloc (Obj.cells (boxC Y) 128)) := (Below.refl _ _).alloc (Nat.le_refl _) _
  generalize w1.alloc (Obj.cells (boxC Y) 128) = w2 at *
  have e3 : (w2.alloc (Obj.cells z9 128)).heap.size = w2.heap.size + 1 := by simp
  have a3 := URow.zero 128 w2
  have c3 : Below w2.heap.size w2 (w2.alloc (Obj.cells z9 128)) := (Below.refl _ _).alloc (Nat.le_refl _) _
  generalize w2.alloc (Obj.cells z9 128) = w3 at *
  have a4 := URow.zero 128 w3
  have c4 : Below w3.heap.size w3 (w3.alloc (Obj.cells z9 128)) := (Below.refl _ _).alloc (Nat.le_refl _) _
  generalize w3.alloc (Obj.cells z9 128) = w4 at *
  rw [e1] at a2 c2 e2
  rw [e2] at a3 c3 e3
  rw [e3] at a4 c4
  exact ⟨((a1.below c2 (by omega)).below c3 (by omega)).below c4 (by omega), (a2.below c3 (by omega)).below c4 (by omega), a3.below c4 (by omega), a4,
    Below_on (Below_on (Below_on b1 c2 (by omega)) c3 (by omega)) c4 (by omega), by omega, by omega, by omega, by omega, by omega⟩
theorem BhM.set {w0 w : World} {V1 V2 V3 V4 : Nat} {X Y O : Bx} (h : BhM w0 w V1 V2 V3 V4 X Y O) (n v : Nat) : BhM w0 (w.setCell ⟨V4, n, none⟩ (.int .u8 (v : Int))).drew V1 V2 V3 V4 X Y (O.set n v) :=
  ⟨h.x.set_far h.d14 _, h.y.set_far h.d24 _, h.r.set_far h.d34 _, h.o.set_ n v, (h.below.setCell (p := ⟨V4, n, none⟩) h.l4 _).drew, h.d14, h.d24, h.d34, h.l3, h.l4⟩
theorem mx3 (b x y : Nat) : (if (if b < x then (x : Int) else (b : Int)) < (y : Int) then (y : Int) else if b < x then (x : Int) else (b : Int)) = ((max b (max x y) : Nat) : Int) := by
  split <;> split at * <;> omega
set_option maxRecDepth 100000 in
set_option maxHeartbeats 4000000 in
theorem behind_ (X Y : Bx) (hX : X.length = 9) (hY : Y.length = 9) (w : World) :
    Calls Try.prog 109 #[.agg (boxC X), .agg (boxC Y)] w fun e w' => e = .returned (.agg (boxC (behB X Y))) ∧ Below w.heap.size w w' := by
  have HM0 := Lib.hid (BhM.start w X Y)
  have HX := Lib.hid hX
  have HY := Lib.hid hY
  unfold z9 at HM0
  clear hX hY
  go_enter Try.func109, Try.ntmps109
  go_upto_region 2 with fail
  obtain ⟨V1, h1⟩ : ∃ V, V = w.heap.size := ⟨_, rfl⟩
  obtain ⟨V2, h2⟩ : ∃ V, V = w.heap.size + 1 := ⟨_, rfl⟩
  obtain ⟨V3, h3⟩ : ∃ V, V = w.heap.size + 1 + 1 := ⟨_, rfl⟩
  obtain ⟨V4, h4⟩ : ∃ V, V = w.heap.size + 1 + 1 + 1 := ⟨_, rfl⟩
  rw [← h4, ← h3, ← h2, ← h1] at HM0 ⊢
  clear h1 h2 h3 h4
  generalize (((w.alloc (Obj.cells (boxC X) 128)).alloc (Obj.cells (boxC Y) 128)).alloc (Obj.cells #[.int .u8 0, .int .u8 0, .int .u8 0, .int .u8 0, .int .u8 0, .int .u8 0, .int .u8 0, .int .u8 0, .int .u8 0] 128)).alloc (Obj.cells #[.int .u8 0, .int .u8 0, .int .u8 0, .int .u8 0, .int .u8 0, .int .u8 0, .int .u8 0, .int .u8 0, .int .u8 0] 128) = W1 at *
  go_wp2_with fail
  go_loopw [11] (fun v11 wr => ∃ i : Nat, i ≤ 3 ∧ v11 = .int .i64 (i : Int) ∧ ∃ O, Hid (BhN X Y (9 * i) O) ∧ Hid (BhM w wr V1 V2 V3 V4 X Y O)) (fun v11 _ => 3 - (intOf v11).toNat)
  case atStart => exact ⟨0, by omega, rfl, _, Lib.hid (BhN.zero X Y), HM0⟩
  case round =>
    obtain ⟨i, hi, rfl, O, HN, HM⟩ := hrel
    by_cases hi3 : i < 3
    · obtain ⟨r0, r1, r2⟩ := HM.out.x.row HX.out hi3
      have qi : (i : Int) < 3 := by omega
      go_wp2_with fail
      have HI := Lib.hid hi3
      have HIX := Lib.hid (fun (k : Nat) (hk : k < 3) (w : World) => index_row (w := w) (B := X) (i := i) hk)
      clear r0 r1 r2
      generalize u8v (bg X i 0) = x0 at *
      generalize u8v (bg X i 1) = x1 at *
      generalize u8v (bg X i 2) = x2 at *
      go_loopw [17] (fun v17 wk => ∃ k : Nat, k ≤ 3 ∧ v17 = .int .i64 (k : Int) ∧ ∃ O, Hid (BhN X Y (9 * i + 3 * k) O) ∧ Hid (BhM w wk V1 V2 V3 V4 X Y O)) (fun v17 _ => 3 - (intOf v17).toNat)
      case atStart => exact ⟨0, by omega, rfl, _, HN, HM⟩
      case round =>
        clear HN HM
        obtain ⟨k, hk, rfl, O, HN, HM⟩ := hrel
        by_cases hk3 : k < 3
        · have hix := HIX.out k hk3 wr
          obtain ⟨s0, s1, s2⟩ := HM.out.y.row HY.out hk3
          have qk : (k : Int) < 3 := by omega
          have HK := Lib.hid hk3
          go_wp2_with fail
          have HIY := Lib.hid (fun (j : Nat) (hj : j < 3) (w : World) => index_row (w := w) (B := Y) (i := k) hj)
          clear s0 s1 s2 hix
          generalize u8v (bg Y k 0) = y0 at *
          generalize u8v (bg Y k 1) = y1 at *
          generalize u8v (bg Y k 2) = y2 at *
          go_loopw [24] (fun v24 wj => ∃ j : Nat, j ≤ 3 ∧ v24 = .int .i64 (j : Int) ∧ ∃ O, Hid (BhN X Y (9 * i + 3 * k + j) O) ∧ Hid (BhM w wj V1 V2 V3 V4 X Y O)) (fun v24 _ => 3 - (intOf v24).toNat)
          case atStart => exact ⟨0, by omega, rfl, _, HN, HM⟩
          case round =>
            clear HN HM
            obtain ⟨j, hj, rfl, O, HN, HM⟩ := hrel
            by_cases hj3 : j < 3
            · have hiy := HIY.out j hj3 wr
              have HJ := Lib.hid hj3
              have qj : (j : Int) < 3 := by omega
              by_cases hn : 0 < bg X i k ∧ 0 < bg Y k j
              · obtain ⟨p1, p2⟩ := hn
                obtain ⟨o1, o2⟩ := HM.out.o.at_ HN.out.len HI.out hj3
                have q1 : (0 : Int) < (bg X i k : Int) := by omega
                have q2 : (0 : Int) < (bg Y k j : Int) := by omega
                have HP1 := Lib.hid p1
                have HP2 := Lib.hid p2
                clear p1 p2
                go_wp2_with fail
                go_region
                rw [mx3]
                have HM2 := Lib.hid (HM.out.set (i * 3 + j) (max (bg O i j) (max (bg X i k) (bg Y k j))))
                have HN2 := Lib.hid (HN.out.yes HI.out HJ.out HK.out ⟨HP1.out, HP2.out⟩ rfl)
                clear o1 o2 q1 q2 hiy HM HN
                go_wp2_with fail
                go_roundw
                case rel => exact ⟨j + 1, HJ.out, by go_num, _, HN2, HM2⟩
                case measure => simp [intOf]; have := HJ.out; omega
              · have HN2 := Lib.hid (HN.out.no HI.out HJ.out HK.out hn)
                by_cases p1 : 0 < bg X i k
                · have p2 : ¬ 0 < bg Y k j := fun h => hn ⟨p1, h⟩
                  have q1 : (0 : Int) < (bg X i k : Int) := by omega
                  have q2 : ¬ (0 : Int) < (bg Y k j : Int) := by omega
                  clear hn p1 p2
                  go_wp2_with fail
                  go_roundw
                  case rel => exact ⟨j + 1, HJ.out, by go_num, _, HN2, HM⟩
                  case measure => simp [intOf]; have := HJ.out; omega
                · have q1 : ¬ (0 : Int) < (bg X i k : Int) := by omega
                  clear hn p1
                  go_wp2_with fail
                  go_roundw
                  case rel => exact ⟨j + 1, HJ.out, by go_num, _, HN2, HM⟩
                  case measure => simp [intOf]; have := HJ.out; omega
            · obtain rfl : j = 3 := by omega
              go_wp2_with fail
              go_roundw
              case rel => exact ⟨k + 1, HK.out, by go_num, O, HN, HM⟩
              case measure => simp [intOf]; have := HK.out; omega
        · obtain rfl : k = 3 := by omega
          go_wp2_with fail
          go_roundw
          case rel => exact ⟨i + 1, HI.out, by go_num, O, HN, HM⟩
          case measure => simp [intOf]; have := HI.out; omega
    · obtain rfl : i = 3 := by omega
      have HE : Hid (O = behB X Y) := HN.out.all
      obtain ⟨o0, o1, o2, o3, o4, o5, o6, o7, o8, rfl, d0, d1, d2, d3, d4, d5, d6, d7, d8⟩ := HM.out.o.nine HN.out.len
      obtain ⟨z0, z1, z2, z3, z4, z5, z6, z7, z8, e0, f0, e1, f1, e2, f2, e3, f3, e4, f4, e5, f5, e6, f6, e7, f7, e8, f8⟩ := HM.out.r.is9 rfl
      have HR := Lib.hid (HM.out.r.put9 rfl o0 o1 o2 o3 o4 o5 o6 o7 o8)
      have HBE := Lib.hid (below_put9 HM.out.below HM.out.l3 o0 o1 o2 o3 o4 o5 o6 o7 o8)
      rw [HE.out] at HR
      unfold put9 at HR HBE
      have HL := Lib.hid (behB_is X Y).len
      clear HE HN HM
      go_wp2_with fail
      exact bodyPost_ret (retBx Try.results109 _ _ V3 rfl HR.out HL.out) rfl ⟨rfl, HBE.out⟩
end Go.Proofs.Ytoglgeaiiipchaa

namespace Go.Proofs.Ytoglgeaiiipchaa
open Go Go.RowKit Go.Shelf

/-- what keeps all that is known of walks -/
structure Keeps (B O : Bx) : Prop where
  len : O.length = 9
  k : ∀ x n, LivB x n B → LivB x n O
theorem Keeps.set {B O : Bx} (h : Keeps B O) {i j k : Nat} (hi : i < 3) (hj : j < 3) (hk : k < 3) (h1 : 0 < bg O i k) (h2 : 0 < bg O k j) : Keeps B (O.set (i * 3 + j) (max (bg O i j) (max (bg O i k) (bg O k j)))) :=
  ⟨by simp [h.len], fun x n hl => (h.k x n hl).close hk hi hj h1 h2 (by simp [h.len]) fun a b ha hb => by
    rw [bg_set h.len hi hj ha hb]
    by_cases he : a = i ∧ b = j
    · rw [if_pos he, if_pos he]; omega
    · rw [if_neg he, if_neg he]⟩
structure ClM (w0 w : World) (V1 V2 : Nat) (O : Bx) : Prop where
  o : URow 128 w V1 O
  r : URow 128 w V2 (List.replicate 9 0)
  below : Below w0.heap.size w0 w
  d : V2 ≠ V1
  l1 : w0.heap.size ≤ V1
  l2 : w0.heap.size ≤ V2
theorem ClM.start (w : World) (B : Bx) : ClM w ((w.alloc (Obj.cells (boxC B) 128)).alloc (Obj.cells z9 128)) w.heap.size (w.heap.size + 1) B := by
  have e1 : (w.alloc (Obj.cells (boxC B) 128)).heap.size = w.heap.size + 1 := by simp
  have a1 := URow.new 128 w B
  generalize hw1 : w.alloc (Obj.cells (boxC B) 128) = w1 at *
  have b1 : Below w.heap.size w w1 := by rw [← hw1]; exact (Below.refl _ _).alloc (Nat.le_refl _) _
  have a3 := URow.zero 128 w1
  have c3 : Below w1.heap.size w1 (w1.alloc (Obj.cells z9 128)) := (Below.refl _ _).alloc (Nat.le_refl _) _
  generalize w1.alloc (Obj.cells z9 128) = w3 at *
  rw [e1] at a3 c3
  exact ⟨a1.below c3 (by omega), a3, Below_on b1 c3 (by omega), by omega, by omega, by omega⟩
theorem ClM.set {w0 w : World} {V1 V2 : Nat} {O : Bx} (h : ClM w0 w V1 V2 O) (n v : Nat) : ClM w0 (w.setCell ⟨V1, n, none⟩ (.int .u8 (v : Int))).drew V1 V2 (O.set n v) :=
  ⟨h.o.set_ n v, h.r.set_far h.d _, (h.below.setCell (p := ⟨V1, n, none⟩) h.l1 _).drew, h.d, h.l1, h.l2⟩
structure ClPost (w : World) (B : Bx) (e : Ending) (w' : World) : Prop where
  is : ∃ O, e = .returned (.agg (boxC O)) ∧ Keeps B O
  below : Below w.heap.size w w'
set_option maxRecDepth 100000 in
set_option maxHeartbeats 4000000 in
theorem closed_ (B : Bx) (hB : B.length = 9) (w : World) : Calls Try.prog 120 #[.agg (boxC B)] w (ClPost w B) := by
  have HM0 := Lib.hid (ClM.start w B)
  have HK0 : Hid (Keeps B B) := ⟨hB, fun _ _ h => h⟩
  unfold z9 at HM0
  clear hB
  go_enter Try.func120, Try.ntmps120
  go_upto_region 1 with fail
  obtain ⟨V1, h1⟩ : ∃ V, V = w.heap.size := ⟨_, rfl⟩
  obtain ⟨V2, h2⟩ : ∃ V, V = w.heap.size + 1 := ⟨_, rfl⟩
  rw [← h2, ← h1] at HM0 ⊢
  clear h1 h2
  generalize (w.alloc (Obj.cells (boxC B) 128)).alloc (Obj.cells #[.int .u8 0, .int .u8 0, .int .u8 0, .int .u8 0, .int .u8 0, .int .u8 0, .int .u8 0, .int .u8 0, .int .u8 0] 128) = W1 at *
  go_wp2_with fail
  go_loopw [6] (fun v6 wr => ∃ k : Nat, k ≤ 3 ∧ v6 = .int .i64 (k : Int) ∧ ∃ O, Hid (Keeps B O) ∧ Hid (ClM w wr V1 V2 O)) (fun v6 _ => 3 - (intOf v6).toNat)
  case atStart => exact ⟨0, by omega, rfl, _, HK0, HM0⟩
  case round =>
    clear HK0 HM0
    obtain ⟨k, hk, rfl, O, HN, HM⟩ := hrel
    by_cases hk3 : k < 3
    · have qk : (k : Int) < 3 := by omega
      have HK := Lib.hid hk3
      go_wp2_with fail
      go_loopw [9] (fun v9 wr => ∃ i : Nat, i ≤ 3 ∧ v9 = .int .i64 (i : Int) ∧ ∃ O, Hid (Keeps B O) ∧ Hid (ClM w wr V1 V2 O)) (fun v9 _ => 3 - (intOf v9).toNat)
      case atStart => exact ⟨0, by omega, rfl, _, HN, HM⟩
      case round =>
        clear HN HM
        obtain ⟨i, hi, rfl, O, HN, HM⟩ := hrel
        by_cases hi3 : i < 3
        · have qi : (i : Int) < 3 := by omega
          have HI := Lib.hid hi3
          go_wp2_with fail
          go_loopw [12] (fun v12 wr => ∃ j : Nat, j ≤ 3 ∧ v12 = .int .i64 (j : Int) ∧ ∃ O, Hid (Keeps B O) ∧ Hid (ClM w wr V1 V2 O)) (fun v12 _ => 3 - (intOf v12).toNat)
          case atStart => exact ⟨0, by omega, rfl, _, HN, HM⟩
          case round =>
            clear HN HM
            obtain ⟨j, hj, rfl, O, HN, HM⟩ := hrel
            by_cases hj3 : j < 3
            · have qj : (j : Int) < 3 := by omega
              have HJ := Lib.hid hj3
              obtain ⟨o1, o2⟩ := HM.out.o.at_ HN.out.len hi3 hj3
              obtain ⟨o3, _⟩ := HM.out.o.at_ HN.out.len hi3 hk3
              obtain ⟨o4, _⟩ := HM.out.o.at_ HN.out.len hk3 hj3
              have HN2 : Hid (0 < bg O i k → 0 < bg O k j → Keeps B (O.set (i * 3 + j) (max (bg O i j) (max (bg O i k) (bg O k j))))) := fun h1 h2 => HN.out.set hi3 hj3 hk3 h1 h2
              have HM2 := Lib.hid (HM.out.set (i * 3 + j) (max (bg O i j) (max (bg O i k) (bg O k j))))
              generalize hb1 : bg O i j = b1 at *
              generalize hb2 : bg O i k = b2 at *
              generalize hb3 : bg O k j = b3 at *
              clear hb1 hb2 hb3
              by_cases p1 : 0 < b2
              · have q1 : (0 : Int) < (b2 : Int) := by omega
                by_cases p2 : 0 < b3
                · have q2 : (0 : Int) < (b3 : Int) := by omega
                  have HN3 := Lib.hid (HN2.out p1 p2)
                  clear p1 p2 HN2
                  go_wp2_with fail
                  go_region
                  rw [mx3]
                  clear o1 o2 o3 o4 q1 q2 HM HN
                  go_wp2_with fail
                  go_roundw
                  case rel => exact ⟨j + 1, HJ.out, by go_num, _, HN3, HM2⟩
                  case measure => simp [intOf]; have := HJ.out; omega
                · have q2 : ¬ (0 : Int) < (b3 : Int) := by omega
                  clear p1 p2 HN2 HM2
                  go_wp2_with fail
                  go_roundw
                  case rel => exact ⟨j + 1, HJ.out, by go_num, _, HN, HM⟩
                  case measure => simp [intOf]; have := HJ.out; omega
              · have q1 : ¬ (0 : Int) < (b2 : Int) := by omega
                clear p1 HN2 HM2
                go_wp2_with fail
                go_roundw
                case rel => exact ⟨j + 1, HJ.out, by go_num, _, HN, HM⟩
                case measure => simp [intOf]; have := HJ.out; omega
            · obtain rfl : j = 3 := by omega
              go_wp2_with fail
              go_roundw
              case rel => exact ⟨i + 1, HI.out, by go_num, O, HN, HM⟩
              case measure => simp [intOf]; have := HI.out; omega
        · obtain rfl : i = 3 := by omega
          go_wp2_with fail
          go_roundw
          case rel => exact ⟨k + 1, HK.out, by go_num, O, HN, HM⟩
          case measure => simp [intOf]; have := HK.out; omega
    · obtain rfl : k = 3 := by omega
      obtain ⟨o0, o1, o2, o3, o4, o5, o6, o7, o8, rfl, d0, d1, d2, d3, d4, d5, d6, d7, d8⟩ := HM.out.o.nine HN.out.len
      obtain ⟨z0, z1, z2, z3, z4, z5, z6, z7, z8, e0, f0, e1, f1, e2, f2, e3, f3, e4, f4, e5, f5, e6, f6, e7, f7, e8, f8⟩ := HM.out.r.is9 rfl
      have HR3 := Lib.hid (HM.out.r.put9 rfl o0 o1 o2 o3 o4 o5 o6 o7 o8)
      have HBE := Lib.hid (below_put9 HM.out.below HM.out.l2 o0 o1 o2 o3 o4 o5 o6 o7 o8)
      unfold put9 at HR3 HBE
      clear HM
      go_wp2_with fail
      exact bodyPost_ret (retBx Try.results120 _ _ V2 rfl HR3.out rfl) rfl ⟨⟨_, rfl, HN.out⟩, HBE.out⟩
end Go.Proofs.Ytoglgeaiiipchaa
