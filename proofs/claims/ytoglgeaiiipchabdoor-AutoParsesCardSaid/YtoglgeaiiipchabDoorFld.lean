/- A field of a struct in memory that owns a row, appended to: what the walk wants before and behind. -/
import Derived.Test.YtoglgeaiiipchabDoorMeA
namespace Go.Proofs.YtoglgeaiiipchabDoor
open Go Go.RowKit

/-- of the blocks from a on, below b, nothing has turned -/
structure Kept (a b : Nat) (w w' : World) : Prop where
  size : w.heap.size ≤ w'.heap.size
  block : ∀ k, a ≤ k → k < b → w'.heap[k]? = w.heap[k]?
theorem Kept.refl (a b : Nat) (w : World) : Kept a b w w := ⟨Nat.le_refl _, fun _ _ _ => rfl⟩
theorem Kept.trans {a b : Nat} {w w' w'' : World} (h : Kept a b w w') (h' : Kept a b w' w'') : Kept a b w w'' := ⟨Nat.le_trans h.size h'.size, fun k h1 h2 => (h'.block k h1 h2).trans (h.block k h1 h2)⟩
theorem Below.kept {a b B : Nat} {w w' : World} (h : Below B w w') (hB : b ≤ B) : Kept a b w w' := ⟨h.size, fun k _ h2 => h.block k (Nat.lt_of_lt_of_le h2 hB)⟩
theorem Kept.low {a a' b : Nat} {w w' : World} (h : Kept a b w w') (ha : a ≤ a') : Kept a' b w w' := ⟨h.size, fun k h1 h2 => h.block k (Nat.le_trans ha h1) h2⟩
theorem Kept.set (a b : Nat) (w : World) {p : Addr} (u : Value) (hp : p.block < a ∨ b ≤ p.block) : Kept a b w (w.setCell p u) := ⟨by simp [World.setCell], fun k h1 h2 => Below.heap_setCell _ _ _ _ (by omega)⟩
section
variable {α : Type} {enc : α → List Value} {bt : Nat} {w w' : World} {lo : Nat} {A : Option Addr} {c : Nat} {xs : List α}
theorem Rd.kept {xs : List Value} (h : Rd w lo A xs) (hk : Kept lo w.heap.size w w') : Rd w' lo A xs := by
  intro hne
  obtain ⟨b, off, hA, hlo, hlt, hc⟩ := h hne
  exact ⟨b, off, hA, hlo, Nat.lt_of_lt_of_le hlt hk.size, fun j u hu => (World.cell?_of_block (w := w) (a := ⟨b, off + j, none⟩) (hk.block b hlo hlt)).trans (hc j u hu)⟩
theorem SlE.kept (h : SlE enc bt w lo A c xs) (hk : Kept lo w.heap.size w w') : SlE enc bt w' lo A c xs := ⟨h.le, h.cap, h.max, h.rd.kept hk⟩
end
/-- a new block as what is appended -/
theorem Rd.new (w : World) (cs : Array Value) (e : TypeId) : Rd (w.alloc (Obj.cells cs e)) 0 (some ⟨w.heap.size, 0, none⟩) cs.toList := by
  intro _
  refine ⟨_, 0, rfl, Nat.zero_le _, by simp, fun j u hu => ?_⟩
  have h : (w.alloc (Obj.cells cs e)).heap[w.heap.size]? = some (Obj.cells cs e) := by
    show (w.heap.push _)[w.heap.size]? = _
    simp
  simp only [World.cell?, h, Nat.zero_add]
  simpa using hu

/-- ahead of the append: W: where the round begins; w4: behind the calls; cs: what is appended, in a block of its own -/
theorem fld_mid {W w4 : World} {base R o n c sz : Nat} {e : TypeId} {T : Option Addr} {cells : List Value} (cs : Array Value) (hR : R < base) (hRl : R < W.heap.size) (hbW : base ≤ W.heap.size)
    (hown : W.ownsRow base e sz (.slice T n c) n cells) (e2 : W.cell? ⟨R, o, none⟩ = some (.slice T n c)) (e3 : W.frozen? ⟨R, o, none⟩ = false) (hb : Below W.heap.size W w4) :
    w4.cell? ⟨R, o, none⟩ = some (.slice T n c) ∧ Hid ((w4.alloc (Obj.cells cs e)).ownsRow base e sz (.slice T n c) n cells) ∧ Hid (Rd (w4.alloc (Obj.cells cs e)) 0 (some ⟨w4.heap.size, 0, none⟩) cs.toList) ∧
      base ≤ (w4.alloc (Obj.cells cs e)).heap.size ∧ (w4.alloc (Obj.cells cs e)).cell? ⟨R, o, none⟩ = some (.slice T n c) ∧ some R ≠ (Value.slice T n c).ownBlock ∧
      ∀ w5, (w4.alloc (Obj.cells cs e)).grownBy w5 (Value.slice T n c).ownBlock → w5.cell? ⟨R, o, none⟩ = some (.slice T n c) ∧ w5.frozen? ⟨R, o, none⟩ = false := by
  have hs := hb.size
  have c1 : w4.cell? ⟨R, o, none⟩ = some (.slice T n c) := (hb.cell (p := ⟨R, o, none⟩) hRl).trans e2
  have f1 : w4.frozen? ⟨R, o, none⟩ = false := (hb.frozen (p := ⟨R, o, none⟩) hRl).trans e3
  have hb5 : Below w4.heap.size w4 (w4.alloc (Obj.cells cs e)) := (Below.refl _ _).alloc (Nat.le_refl _) _
  have hn : some R ≠ (Value.slice T n c).ownBlock := own_ne hown hR
  have c2 : (w4.alloc (Obj.cells cs e)).cell? ⟨R, o, none⟩ = some (.slice T n c) := (hb5.cell (p := ⟨R, o, none⟩) (by show R < _; omega)).trans c1
  have f2 : (w4.alloc (Obj.cells cs e)).frozen? ⟨R, o, none⟩ = false := (hb5.frozen (p := ⟨R, o, none⟩) (by show R < _; omega)).trans f1
  have hlt : R < (w4.alloc (Obj.cells cs e)).heap.size := by simp; omega
  exact ⟨c1, own_below (own_below hown hb) hb5, Rd.new _ _ _, by simp; omega, c2, hn, fun w5 h5 => ⟨h5.cell c2 hn, (h5.frozen_far ⟨R, o, none⟩ hlt hn).trans f2⟩⟩
/-- behind the store -/
theorem fld_end {W w4 w5 : World} {base R o n c n' c' sz : Nat} {e : TypeId} {T T' : Option Addr} {cells cells' : List Value} {cs : Array Value} (hR : R < base) (hRl : R < W.heap.size) (hbW : base ≤ W.heap.size)
    (hown : W.ownsRow base e sz (.slice T n c) n cells) (hb : Below W.heap.size W w4)
    (hown5 : w5.ownsRow base e sz (.slice T' n' c') n' cells') (hg5 : (w4.alloc (Obj.cells cs e)).grownBy w5 (Value.slice T n c).ownBlock) :
    (w5.setCell ⟨R, o, none⟩ (.slice T' n' c')).ownsRow base e sz (.slice T' n' c') n' cells' ∧ W.heap.size ≤ (w5.setCell ⟨R, o, none⟩ (.slice T' n' c')).heap.size ∧
      (∀ k, k ≠ R → k < base → (w5.setCell ⟨R, o, none⟩ (.slice T' n' c')).heap[k]? = W.heap[k]?) ∧
      (∀ o', o' ≠ o → ∀ u, W.cell? ⟨R, o', none⟩ = some u → (w5.setCell ⟨R, o, none⟩ (.slice T' n' c')).cell? ⟨R, o', none⟩ = some u) ∧
      (∀ u, w5.cell? ⟨R, o, none⟩ = some u → (w5.setCell ⟨R, o, none⟩ (.slice T' n' c')).cell? ⟨R, o, none⟩ = some (.slice T' n' c')) ∧
      (∀ o', W.frozen? ⟨R, o', none⟩ = false → (w5.setCell ⟨R, o, none⟩ (.slice T' n' c')).frozen? ⟨R, o', none⟩ = false) ∧
      Below R W (w5.setCell ⟨R, o, none⟩ (.slice T' n' c')) := by
  have hs := hb.size
  have hb5 : Below w4.heap.size w4 (w4.alloc (Obj.cells cs e)) := (Below.refl _ _).alloc (Nat.le_refl _) _
  have hbb : Below W.heap.size W (w4.alloc (Obj.cells cs e)) := Below_on hb hb5 hs
  have hn : some R ≠ (Value.slice T n c).ownBlock := own_ne hown hR
  have hB : Below base W w5 := (hbb.mono hbW).grown hg5 (by simp; omega) (fun k hk => (hown.lt k hk).1)
  refine ⟨ownsRow_setCell_below hown5 hR _, by simp [World.setCell]; exact hB.size, fun k h1 h2 => ?_, fun o' h1 u hu => ?_, fun u hu => ?_, fun o' hf => ?_, ?_⟩
  · rw [Below.heap_setCell _ _ _ _ h1, hB.block k h2]
  · exact (World.cell?_setCell_other _ ⟨R, o, none⟩ ⟨R, o', none⟩ _ (by simp [Ne.symm h1])).trans ((hB.cell (p := ⟨R, o', none⟩) hR).trans hu)
  · exact World.cell?_setCell_same' _ _ _ (by rw [hu]; rfl)
  · rw [World.frozen?_setCell]
    exact (hB.frozen (p := ⟨R, o', none⟩) hR).trans hf
  · exact (hB.mono (Nat.le_of_lt hR)).setCell (p := ⟨R, o, none⟩) (Nat.le_refl _) _
/-- a struct of two fields in block G, of which field o is being appended to -/
structure OutV (W0 : World) (e : TypeId) (G base o o' : Nat) (vo : Value) (i : Nat) (xs : List Value) (T : Option Addr) (c : Nat) (wr : World) : Prop where
  below : Below G W0 wr
  kept : Kept (G + 1) base W0 wr
  lt : G < base
  le : base ≤ wr.heap.size
  own : wr.ownsRow base e 1 (.slice T i c) i xs
  c : wr.cell? ⟨G, o, none⟩ = some (.slice T i c)
  c' : wr.cell? ⟨G, o', none⟩ = some vo
  f : wr.frozen? ⟨G, o, none⟩ = false
  f' : wr.frozen? ⟨G, o', none⟩ = false
theorem OutV.step {W0 wr w7 w9 : World} {e : TypeId} {G base o o' i c c9 : Nat} {vo x : Value} {xs : List Value} {T T9 : Option Addr} (h : OutV W0 e G base o o' vo i xs T c wr) (hb : Below wr.heap.size wr w7)
    (hown9 : w9.ownsRow base e 1 (.slice T9 (i + 1) c9) (i + 1) (xs ++ [x])) (hg9 : (w7.alloc (Obj.cells #[x] e)).grownBy w9 (Value.slice T i c).ownBlock) (hne : o' ≠ o) (hc9 : w9.cell? ⟨G, o, none⟩ = some (.slice T i c)) :
    OutV W0 e G base o o' vo (i + 1) (xs ++ [x]) T9 c9 (w9.setCell ⟨G, o, none⟩ (.slice T9 (i + 1) c9)) := by
  obtain ⟨e1, e2, e3, e4, e5, e6, e7⟩ := fld_end (o := o) h.lt (Nat.lt_of_lt_of_le h.lt h.le) h.le h.own hb hown9 hg9
  refine ⟨h.below.trans e7, h.kept.trans ⟨e2, fun k h1 h2 => e3 k (by omega) h2⟩, h.lt, Nat.le_trans h.le e2, e1, e5 _ hc9, e4 _ hne _ h.c', e6 _ h.f, e6 _ h.f'⟩
def valsL (f : Nat → Int) (a n : Nat) : List Int := (List.range n).map fun i => f (a + i)
def vals (f : Nat → Int) (a n : Nat) : List Value := ((List.range n).map fun i => f (a + i)).flatMap fun n : Int => [Value.int .i64 n]
theorem vals_succ (f : Nat → Int) (a n : Nat) : vals f a (n + 1) = vals f a n ++ [.int .i64 (f (a + n))] := by
  unfold vals
  rw [List.range_succ, List.map_append, List.flatMap_append]
  rfl
theorem ints_of_vals {w : World} {base n c a : Nat} {e : TypeId} {f : Nat → Int} {T : Option Addr} (h : w.ownsRow base e 1 (.slice T n c) n (vals f a n)) (hn : n ≤ 1000000) : Ints w base T c (valsL f a n) := by
  have hl : (valsL f a n).length = n := by simp [valsL]
  obtain ⟨A, c', he, hi⟩ := SlE.of_own (enc := fun n : Int => [Value.int .i64 n]) (bt := 8) (xs := valsL f a n) (v := .slice T n c) (by rw [hl]; exact h) (by rw [hl]; omega)
  obtain ⟨rfl, _, rfl⟩ : T = A ∧ n = (valsL f a n).length ∧ c = c' := by simpa using he
  exact hi
theorem vals_len (f : Nat → Int) (a n : Nat) : (vals f a n).length = n := by
  unfold vals
  rw [flatMap_len (sz := 1) (fun _ => rfl)]
  simp
end Go.Proofs.YtoglgeaiiipchabDoor
