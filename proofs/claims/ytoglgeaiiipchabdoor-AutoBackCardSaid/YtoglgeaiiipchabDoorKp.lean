/- What a round over an iterator may turn: some blocks, some variables and the rows that slices in them lead to; all of it at or behind a block lo. -/
import Derived.Test.YtoglgeaiiipchabDoorRF
namespace Go.Proofs.YtoglgeaiiipchabDoor
open Go Go.RowKit

/-- the blocks that a round may turn -/
def Bad (Ms Fs : List Nat) (W : World) (k : Nat) : Prop := k ∈ Ms ∨ k ∈ Fs ∨ ∃ F ∈ Fs, ∃ o ad n c, W.cell? ⟨F, o, none⟩ = some (.slice (some ad) n c) ∧ ad.block = k
structure Sane (lo : Nat) (Ms Fs : List Nat) (W : World) : Prop where
  bad : ∀ k, Bad Ms Fs W k → lo ≤ k ∧ k < W.heap.size
  row : ∀ F ∈ Fs, ∀ o ad n c, W.cell? ⟨F, o, none⟩ = some (.slice (some ad) n c) → ∃ ob, W.heap[ad.block]? = some ob ∧ ob.isCells = true
structure Off (lo : Nat) (Ms Fs : List Nat) (W W' : World) : Prop where
  os : W'.os = W.os
  tape : W'.tape = W.tape
  output : W'.output = W.output
  size : W.heap.size ≤ W'.heap.size
  block : ∀ k, k < W.heap.size → ¬ Bad Ms Fs W k → W'.heap[k]? = W.heap[k]?
  bad : ∀ k, Bad Ms Fs W' k → Bad Ms Fs W k ∨ W.heap.size ≤ k
  sane : Sane lo Ms Fs W'
/-- what a round that goes on keeps -/
def KpO (lo : Nat) (Ms Fs : List Nat) (W W' : World) : Prop := Sane lo Ms Fs W → Off lo Ms Fs W W'

theorem cell_of_heap {W W' : World} {k : Nat} (h : W'.heap[k]? = W.heap[k]?) (o : Nat) : W'.cell? ⟨k, o, none⟩ = W.cell? ⟨k, o, none⟩ := by simp only [World.cell?, h]

variable {lo : Nat} {Ms Fs : List Nat} {A B C : World}
theorem Off.refl (h : Sane lo Ms Fs A) : Off lo Ms Fs A A := ⟨rfl, rfl, rfl, Nat.le_refl _, fun _ _ _ => rfl, fun _ h => .inl h, h⟩
theorem Off.trans (h : Off lo Ms Fs A B) (k : Off lo Ms Fs B C) : Off lo Ms Fs A C := by
  refine ⟨k.os.trans h.os, k.tape.trans h.tape, k.output.trans h.output, Nat.le_trans h.size k.size, fun j hj hn => ?_, fun j hj => ?_, k.sane⟩
  · refine (k.block j (Nat.lt_of_lt_of_le hj h.size) fun hb => ?_).trans (h.block j hj hn)
    rcases h.bad j hb with h1 | h1
    · exact hn h1
    · omega
  · rcases k.bad j hj with h1 | h1
    · exact h.bad j h1
    · exact .inr (Nat.le_trans h.size h1)
theorem KpO.trans (h : KpO lo Ms Fs A B) (k : KpO lo Ms Fs B C) : KpO lo Ms Fs A C := fun hs => (h hs).trans (k (h hs).sane)
theorem Sane.F_lt (h : Sane lo Ms Fs A) {F : Nat} (hF : F ∈ Fs) : F < A.heap.size := (h.bad F (.inr (.inl hF))).2
/-- what keeps all that lay below n, the variables among it, turns no badness -/
theorem bad_below {n k : Nat} (hF : ∀ F ∈ Fs, F < n) (hb : Below n A B) : Bad Ms Fs B k ↔ Bad Ms Fs A k := by
  unfold Bad
  refine or_congr Iff.rfl (or_congr Iff.rfl ⟨?_, ?_⟩)
  · rintro ⟨F, hm, o, ad, m, c, hc, he⟩
    exact ⟨F, hm, o, ad, m, c, (hb.cell (p := ⟨F, o, none⟩) (hF F hm)).symm.trans hc, he⟩
  · rintro ⟨F, hm, o, ad, m, c, hc, he⟩
    exact ⟨F, hm, o, ad, m, c, (hb.cell (p := ⟨F, o, none⟩) (hF F hm)).trans hc, he⟩
theorem Off.of_below (hs : Sane lo Ms Fs A) (hb : Below A.heap.size A B) : Off lo Ms Fs A B := by
  have e : ∀ k, Bad Ms Fs B k ↔ Bad Ms Fs A k := fun k => bad_below (fun F hF => hs.F_lt hF) hb
  refine ⟨hb.os, hb.tape, hb.output, hb.size, fun k hk _ => hb.block k hk, fun k hk => .inl ((e k).1 hk), ⟨fun k hk => ?_, fun F hF o ad n c hc => ?_⟩⟩
  · have := hs.bad k ((e k).1 hk)
    exact ⟨this.1, Nat.lt_of_lt_of_le this.2 hb.size⟩
  · have hc' := (hb.cell (p := ⟨F, o, none⟩) (hs.F_lt hF)).symm.trans hc
    obtain ⟨ob, h1, h2⟩ := hs.row F hF o ad n c hc'
    exact ⟨ob, (hb.block _ (hs.bad _ (.inr (.inr ⟨F, hF, o, ad, n, c, hc', rfl⟩))).2).trans h1, h2⟩
theorem KpO.of_below (hb : Below A.heap.size A B) : KpO lo Ms Fs A B := fun hs => .of_below hs hb
theorem Off.below (h : Off lo Ms Fs A B) (hs : Sane lo Ms Fs A) (hl : lo ≤ A.heap.size) : Below lo A B :=
  ⟨h.os, h.tape, h.output, h.size, fun k hk => h.block k (by omega) fun hb => by have := (hs.bad k hb).1; omega⟩
/-- a block that no round turns -/
structure Good (lo : Nat) (Ms Fs : List Nat) (W : World) (k : Nat) : Prop where
  lt : k < W.heap.size
  not : ¬ Bad Ms Fs W k
theorem Good.off {k : Nat} (h : Good lo Ms Fs A k) (ho : Off lo Ms Fs A B) : Good lo Ms Fs B k := ⟨Nat.lt_of_lt_of_le h.lt ho.size, fun hb => (ho.bad k hb).elim h.not (fun h1 => by have := h.lt; omega)⟩
theorem Good.cell {k o : Nat} (h : Good lo Ms Fs A k) (ho : Off lo Ms Fs A B) : B.cell? ⟨k, o, none⟩ = A.cell? ⟨k, o, none⟩ := cell_of_heap (ho.block k h.lt h.not) o
theorem Good.new {k : Nat} (hs : Sane lo Ms Fs A) (hb : Below A.heap.size A B) (h1 : A.heap.size ≤ k) (h2 : k < B.heap.size) : Good lo Ms Fs B k :=
  ⟨h2, fun h => by have := hs.bad k ((bad_below (fun F hF => hs.F_lt hF) hb).1 h); omega⟩
theorem Good.low {k : Nat} (hs : Sane lo Ms Fs A) (h1 : k < lo) (h2 : k < A.heap.size) : Good lo Ms Fs A k := ⟨h2, fun h => by have := hs.bad k h; omega⟩
theorem Good.below {k n : Nat} (h : Good lo Ms Fs A k) (hF : ∀ F ∈ Fs, F < n) (hb : Below n A B) : Good lo Ms Fs B k := ⟨Nat.lt_of_lt_of_le h.lt hb.size, fun hbad => h.not ((bad_below hF hb).1 hbad)⟩
/-- one block more that may turn -/
theorem Bad.cons {l k : Nat} (h : Bad Ms Fs A k) : Bad (l :: Ms) Fs A k := h.elim (fun h => .inl (List.mem_cons_of_mem _ h)) .inr
theorem Bad.of_cons {l k : Nat} (h : Bad (l :: Ms) Fs A k) : k = l ∨ Bad Ms Fs A k := by
  rcases h with h | h
  · rcases List.mem_cons.1 h with h | h
    · exact .inl h
    · exact .inr (.inl h)
  · exact .inr (.inr h)
theorem Sane.cons {l : Nat} (hs : Sane lo Ms Fs A) (h1 : lo ≤ l) (h2 : l < A.heap.size) : Sane lo (l :: Ms) Fs A := ⟨fun k hk => by
  rcases hk.of_cons with rfl | hk
  · exact ⟨h1, h2⟩
  · exact hs.bad k hk, hs.row⟩
theorem Sane.of_cons {l : Nat} (hs : Sane lo (l :: Ms) Fs A) : Sane lo Ms Fs A := ⟨fun k hk => hs.bad k hk.cons, hs.row⟩
theorem Off.cons {l : Nat} (h : Off lo Ms Fs A B) (h1 : lo ≤ l) (h2 : l < A.heap.size) : Off lo (l :: Ms) Fs A B := by
  refine ⟨h.os, h.tape, h.output, h.size, fun k hk hn => h.block k hk fun hb => hn hb.cons, fun k hk => ?_, h.sane.cons h1 (Nat.lt_of_lt_of_le h2 h.size)⟩
  rcases hk.of_cons with rfl | hk
  · exact .inl (.inl (List.mem_cons_self ..))
  · exact (h.bad k hk).imp Bad.cons id
/-- a turn of a block among Ms that is no cells -/
theorem Off.put {l : Nat} (hs : Sane lo Ms Fs A) (hl : l ∈ Ms) {o o' : Obj} (ho : A.heap[l]? = some o) (hc : o.isCells = false) (hc' : o'.isCells = false) : Off lo Ms Fs A (A.putObj l o') := by
  have cl : ∀ F i, (A.putObj l o').cell? ⟨F, i, none⟩ = A.cell? ⟨F, i, none⟩ := fun F i => by
    by_cases hF : F = l
    · subst hF
      have h1 : (A.putObj F o').heap[F]? = some o' := World.putObj_heap_same (Array.getElem?_eq_some_iff.1 ho).1
      unfold World.cell?
      simp only [h1, ho]
      cases o <;> cases o' <;> first | rfl | (simp [Obj.isCells] at hc; done) | (simp [Obj.isCells] at hc'; done)
    · exact cell_of_heap (World.putObj_heap_other hF) i
  have e : ∀ k, Bad Ms Fs (A.putObj l o') k ↔ Bad Ms Fs A k := fun k => by
    unfold Bad
    simp only [cl]
  refine ⟨rfl, rfl, rfl, by simp, fun k hk hn => World.putObj_heap_other fun h => hn (.inl (by rw [h]; exact hl)), fun k hk => .inl ((e k).1 hk), ⟨fun k hk => ?_, fun F hF i ad n c hci => ?_⟩⟩
  · have := hs.bad k ((e k).1 hk)
    exact ⟨this.1, by simpa using this.2⟩
  · rw [cl] at hci
    obtain ⟨ob, h1, h2⟩ := hs.row F hF i ad n c hci
    refine ⟨ob, (World.putObj_heap_other fun h => ?_).trans h1, h2⟩
    rw [h, ho] at h1
    rw [← Option.some.inj h1, hc] at h2
    cases h2
/-- what is no cells, from block n on, stands -/
theorem Off.keeps {n : Nat} (h : Off lo Ms Fs A B) (hs : Sane lo Ms Fs A) (hM : ∀ k ∈ Ms, k < n) (hF : ∀ k ∈ Fs, k < n) : KeepsFrom n A B :=
  ⟨h.size, fun k o hn hk ho => (h.block k (Array.getElem?_eq_some_iff.1 hk).1 (by
    rintro (h1 | h1 | ⟨F, h1, i, ad, m, c, hc, rfl⟩)
    · have := hM k h1; omega
    · have := hF k h1; omega
    · obtain ⟨ob, h2, h3⟩ := hs.row F h1 i ad m c hc
      rw [hk] at h2
      rw [← Option.some.inj h2, ho] at h3
      cases h3)).trans hk⟩
/-- what is kept by whatever keeps all below n abides a loop's record -/
theorem ownFrom_below' {β : Type} {n : Nat} {I : β → World → Prop} (hn : ∀ s A, I s A → n ≤ A.heap.size) (h : ∀ s A B, Below n A B → I s A → I s B) : OwnFrom n I := fun s A B row hs hg hr =>
  h s A B ⟨hg.os, hg.tape, hg.output, hg.size, fun k hk => hg.block k (Nat.lt_of_lt_of_le hk (hn s A hs)) fun e => by have := (hr k e.symm).1; omega⟩ hs
theorem Sane.own {n : Nat} (hF : ∀ F ∈ Fs, F < n) {row : Option Nat} (hs : Sane lo Ms Fs A) (hg : A.grownBy B row) (hr : ∀ r, row = some r → n ≤ r ∧ ∃ o : Obj, A.heap[r]? = some o ∧ o.isCells = false) : Sane lo Ms Fs B := by
  have cl : ∀ F ∈ Fs, ∀ o, B.cell? ⟨F, o, none⟩ = A.cell? ⟨F, o, none⟩ := fun F h o => cell_of_heap (hg.block F (hs.F_lt h) fun e => by have := (hr F e.symm).1; have := hF F h; omega) o
  have e : ∀ k, Bad Ms Fs B k → Bad Ms Fs A k := by
    rintro k (h | h | ⟨F, h, o, ad, m, c, hc, he⟩)
    · exact .inl h
    · exact .inr (.inl h)
    · exact .inr (.inr ⟨F, h, o, ad, m, c, (cl F h o).symm.trans hc, he⟩)
  refine ⟨fun k hk => ?_, fun F h o ad m c hc => ?_⟩
  · have := hs.bad k (e k hk)
    exact ⟨this.1, Nat.lt_of_lt_of_le this.2 hg.size⟩
  · rw [cl F h o] at hc
    obtain ⟨ob, h1, h2⟩ := hs.row F h o ad m c hc
    refine ⟨ob, (hg.block _ (Array.getElem?_eq_some_iff.1 h1).1 fun e => ?_).trans h1, h2⟩
    obtain ⟨_, ob', h3, h4⟩ := hr _ e.symm
    rw [h1] at h3
    rw [← Option.some.inj h3, h2] at h4
    cases h4
theorem Off.own {W W' : World} {row : Option Nat} (hF : ∀ F ∈ Fs, F < A.heap.size) (h : Off lo Ms Fs A W) (hg : W.grownBy W' row) (hr : ∀ r, row = some r → A.heap.size ≤ r ∧ ∃ o : Obj, W.heap[r]? = some o ∧ o.isCells = false) : Off lo Ms Fs A W' := by
  have cl : ∀ F ∈ Fs, ∀ o, W'.cell? ⟨F, o, none⟩ = W.cell? ⟨F, o, none⟩ := fun F hm o => cell_of_heap (hg.block F (h.sane.F_lt hm) fun e => by have := (hr F e.symm).1; have := hF F hm; omega) o
  refine ⟨hg.os.trans h.os, hg.tape.trans h.tape, hg.output.trans h.output, Nat.le_trans h.size hg.size, fun k hk hn => (hg.block k (Nat.lt_of_lt_of_le hk h.size) fun e => by have := (hr k e.symm).1; omega).trans (h.block k hk hn), fun k hk => h.bad k ?_, h.sane.own hF hg hr⟩
  rcases hk with h1 | h1 | ⟨F, h1, o, ad, m, c, hc, he⟩
  · exact .inl h1
  · exact .inr (.inl h1)
  · exact .inr (.inr ⟨F, h1, o, ad, m, c, (cl F h1 o).symm.trans hc, he⟩)
theorem OwnFrom.mono {β : Type} {n n' : Nat} {I : β → World → Prop} (h : OwnFrom n I) (hn : n ≤ n') : OwnFrom n' I := fun s A B row hs hg hr => h s A B row hs hg fun r e => ⟨Nat.le_trans hn (hr r e).1, (hr r e).2⟩
theorem OwnFrom.comp {β γ : Type} {n : Nat} {I : β → World → Prop} (h : OwnFrom n I) (f : γ → β) : OwnFrom n (fun s W => I (f s) W) := fun s => h (f s)
end Go.Proofs.YtoglgeaiiipchabDoor
