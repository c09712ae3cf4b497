import Derived.Test.YtoglgeaiiipchabGreatDoorLMHKM27
import Derived.Test.YtoglgeaiiipchabGreatDoorLMHKM25
import Derived.Test.YtoglgeaiiipchabGreatDoorLMHKM12
import Derived.Test.YtoglgeaiiipchabGreatDoorLMHKM17
set_option linter.unusedSimpArgs false
set_option linter.unusedVariables false
namespace Go.Proofs.YtoglgeaiiipchabGreatDoor
open Go Go.RowKit Go.Maps Go.Shelf
attribute [local go_sem] Oper.semAt_some
def ffT (Fd X P : Nat) (fv v7 v8 : Value) (u : Nat → Value) : Array Value := #[.pointer (some ⟨Fd, 0, none⟩), fv, .func (.func 88) #[] #[.pointer (some ⟨X, 0, none⟩)], .pointer (some ⟨P, 0, none⟩), .pointer (some ⟨P + 1, 0, none⟩), .pointer (some ⟨P + 2, 0, none⟩), .pointer (some ⟨P + 3, 0, none⟩), v7, v8, u 9, u 10, u 11, u 12, u 13, u 14, u 15, u 16, u 17, u 18, u 19, u 20, u 21, u 22, u 23, u 24, u 25, u 26, u 27, u 28, u 29, u 30, u 31, u 32, u 33, u 34, u 35, u 36, u 37, u 38, u 39, u 40, u 41, u 42, u 43, u 44, u 45, u 46, u 47, u 48, u 49, u 50, u 51, u 52, u 53, u 54, u 55, u 56, u 57, u 58]
def FfP (Fd X P : Nat) (fv v7 v8 : Value) (ds : List Deferred) (a : Act) : Prop := ∃ u : Nat → Value, a = { tmps := ffT Fd X P fv v7 v8 u, defers := ds }
theorem FfP.mk {Fd X P : Nat} {fv v7 v8 : Value} {ds : List Deferred} {a : Act} (h : a = { tmps := ffT Fd X P fv v7 v8 (fun i => a.tmps.getD i undef), defers := ds }) : FfP Fd X P fv v7 v8 ds a := ⟨_, h⟩
def fdW (w : World) (Fd X : Nat) (fv : Value) : World := (((((w.alloc (Obj.cells #[.pointer (some ⟨Fd, 0, none⟩)] 134)).alloc (Obj.cells #[fv] 22)).alloc (Obj.cells #[(.func (.func 88) #[] #[.pointer (some ⟨X, 0, none⟩)])] 100)).alloc (Obj.cells #[.int .i64 0] 3)).alloc (Obj.map #[] 0)).setCell ⟨Fd, 1, none⟩ (.map (some (w.heap.size + 4)))
structure FdW (w : World) (Fd X VA P : Nat) (fv : Value) (W : World) : Prop where
  p : P = w.heap.size
  size : W.heap.size = P + 5
  old : ∀ k, k < P → k ≠ Fd → W.heap[k]? = w.heap[k]?
  fd : W.heap[Fd]? = some (.cells #[(.func (.func 72) #[] #[.pointer (some ⟨VA, 0, none⟩)]), .map (some (P + 4))] 137 (0, 0))
  p0 : Boxed W P 134 (.pointer (some ⟨Fd, 0, none⟩))
  q : Boxed W (P + 1) 22 fv
  dn : Boxed W (P + 2) 100 (.func (.func 88) #[] #[.pointer (some ⟨X, 0, none⟩)])
  r : Boxed W (P + 3) 3 (.int .i64 0)
  m : ByAt W (P + 4) []
  os : W.os = w.os
  tape : W.tape = w.tape
  output : W.output = w.output
theorem fdW_is (w : World) (Fd X VA : Nat) (fv byv : Value) (hFd : w.heap[Fd]? = some (.cells #[(.func (.func 72) #[] #[.pointer (some ⟨VA, 0, none⟩)]), byv] 137 (0, 0))) : FdW w Fd X VA w.heap.size fv (fdW w Fd X fv) := by
  have hl : Fd < w.heap.size := (Array.getElem?_eq_some_iff.1 hFd).1
  unfold fdW
  have n1 := World.alloc_heap_new w (Obj.cells #[.pointer (some ⟨Fd, 0, none⟩)] 134)
  have b1 : Below w.heap.size w (w.alloc (Obj.cells #[.pointer (some ⟨Fd, 0, none⟩)] 134)) := (Below.refl _ _).alloc (Nat.le_refl _) _
  have s1 : (w.alloc (Obj.cells #[.pointer (some ⟨Fd, 0, none⟩)] 134)).heap.size = w.heap.size + 1 := by simp
  generalize w.alloc (Obj.cells #[.pointer (some ⟨Fd, 0, none⟩)] 134) = W1 at *
  have n2 := World.alloc_heap_new W1 (Obj.cells #[fv] 22)
  have b2 : Below W1.heap.size W1 (W1.alloc (Obj.cells #[fv] 22)) := (Below.refl _ _).alloc (Nat.le_refl _) _
  have s2 : (W1.alloc (Obj.cells #[fv] 22)).heap.size = W1.heap.size + 1 := by simp
  generalize W1.alloc (Obj.cells #[fv] 22) = W2 at *
  have n3 := World.alloc_heap_new W2 (Obj.cells #[(.func (.func 88) #[] #[.pointer (some ⟨X, 0, none⟩)])] 100)
  have b3 : Below W2.heap.size W2 (W2.alloc (Obj.cells #[(.func (.func 88) #[] #[.pointer (some ⟨X, 0, none⟩)])] 100)) := (Below.refl _ _).alloc (Nat.le_refl _) _
  have s3 : (W2.alloc (Obj.cells #[(.func (.func 88) #[] #[.pointer (some ⟨X, 0, none⟩)])] 100)).heap.size = W2.heap.size + 1 := by simp
  generalize W2.alloc (Obj.cells #[(.func (.func 88) #[] #[.pointer (some ⟨X, 0, none⟩)])] 100) = W3 at *
  have n4 := World.alloc_heap_new W3 (Obj.cells #[.int .i64 0] 3)
  have b4 : Below W3.heap.size W3 (W3.alloc (Obj.cells #[.int .i64 0] 3)) := (Below.refl _ _).alloc (Nat.le_refl _) _
  have s4 : (W3.alloc (Obj.cells #[.int .i64 0] 3)).heap.size = W3.heap.size + 1 := by simp
  generalize W3.alloc (Obj.cells #[.int .i64 0] 3) = W4 at *
  have n5 := World.alloc_heap_new W4 (Obj.map #[] 0)
  have b5 : Below W4.heap.size W4 (W4.alloc (Obj.map #[] 0)) := (Below.refl _ _).alloc (Nat.le_refl _) _
  have s5 : (W4.alloc (Obj.map #[] 0)).heap.size = W4.heap.size + 1 := by simp
  have m5 := ByAt.made W4
  generalize W4.alloc (Obj.map #[] 0) = W5 at *
  have far : ∀ k, k ≠ Fd → (W5.setCell ⟨Fd, 1, none⟩ (.map (some (w.heap.size + 4)))).heap[k]? = W5.heap[k]? := fun k hk => Below.heap_setCell _ _ _ _ hk
  have up5 : ∀ k, k < w.heap.size → W5.heap[k]? = w.heap[k]? := fun k hk => by
    rw [b5.block k (by omega), b4.block k (by omega), b3.block k (by omega), b2.block k (by omega), b1.block k hk]
  refine ⟨rfl, by simp [World.setCell]; omega, fun k hk hn => (far k hn).trans (up5 k hk), ?_, ?_, ?_, ?_, ?_, ?_, ?_, ?_, ?_⟩
  · have h5 := (up5 Fd hl).trans hFd
    simp [World.setCell, Array.getElem?_modify, h5]
  · show (W5.setCell _ _).heap[w.heap.size]? = _
    rw [far _ (by omega), b5.block _ (by omega), b4.block _ (by omega), b3.block _ (by omega), b2.block _ (by omega)]
    exact n1
  · show (W5.setCell _ _).heap[w.heap.size + 1]? = _
    rw [far _ (by omega), show w.heap.size + 1 = W1.heap.size by omega, b5.block _ (by omega), b4.block _ (by omega), b3.block _ (by omega)]
    exact n2
  · show (W5.setCell _ _).heap[w.heap.size + 2]? = _
    rw [far _ (by omega), show w.heap.size + 2 = W2.heap.size by omega, b5.block _ (by omega), b4.block _ (by omega)]
    exact n3
  · show (W5.setCell _ _).heap[w.heap.size + 3]? = _
    rw [far _ (by omega), show w.heap.size + 3 = W3.heap.size by omega, b5.block _ (by omega)]
    exact n4
  · rw [show W4.heap.size = w.heap.size + 4 by omega] at m5
    obtain ⟨es, c, x1, x2⟩ := m5
    exact ⟨es, c, (far _ (by omega)).trans x1, x2⟩
  · exact ((((b5.os.trans b4.os).trans b3.os).trans b2.os).trans b1.os)
  · exact ((((b5.tape.trans b4.tape).trans b3.tape).trans b2.tape).trans b1.tape)
  · exact ((((b5.output.trans b4.output).trans b3.output).trans b2.output).trans b1.output)
structure FindPost (a : Au) (fr : List Int) (n : Int) (Fd VA : Nat) (fv : Value) (w : World) (e : Ending) (w' : World) : Prop where
  is : ∃ (r : Int) (D : List (Int × Stp)) (M : Nat), e = .returned (.int .i64 r) ∧ FndS a fr (fun k => k == n) r D ∧ ByAt w' M D ∧ w'.heap[Fd]? = some (.cells #[(.func (.func 72) #[] #[.pointer (some ⟨VA, 0, none⟩)]), .map (some M)] 137 (0, 0)) ∧ w.heap.size ≤ M
  os : w'.os = w.os
  tape : w'.tape = w.tape
  output : w'.output = w.output
  size : w.heap.size ≤ w'.heap.size
  block : ∀ k, k < w.heap.size → k ≠ Fd → fv.ownBlock ≠ some k → w'.heap[k]? = w.heap[k]?
theorem find_leave (a : Au) (fr : List Int) (n r : Int) (Fd VA P : Nat) (fv : Value) (w W : World) (D : List (Int × Stp)) (ds : List Deferred) (tmps : Array Value) (hp : tmps[6]? = some (.pointer (some ⟨P + 3, 0, none⟩))) (hP : P = w.heap.size)
    (hr : Boxed W (P + 3) 3 (.int .i64 r)) (hb : ByAt W (P + 4) D) (hfd : W.heap[Fd]? = some (.cells #[(.func (.func 72) #[] #[.pointer (some ⟨VA, 0, none⟩)]), .map (some (P + 4))] 137 (0, 0))) (hs : FndS a fr (fun k => k == n) r D)
    (ht : W.os = w.os ∧ W.tape = w.tape ∧ W.output = w.output ∧ w.heap.size ≤ W.heap.size ∧ ∀ k, k < w.heap.size → k ≠ Fd → fv.ownBlock ≠ some k → W.heap[k]? = w.heap[k]?) (hm : Marks (P + 5) W ds) :
    LeavesInM Fence.wide 9 Tryz.prog Tryz.f89 tmps (FindPost a fr n Fd VA fv w) ds .returning W := by
  refine leaves_marks (v := undef) (B := P + 5) (I := fun _ W => Boxed W (P + 3) 3 (.int .i64 r) ∧ ByAt W (P + 4) D ∧ W.heap[Fd]? = some (.cells #[(.func (.func 72) #[] #[.pointer (some ⟨VA, 0, none⟩)]), .map (some (P + 4))] 137 (0, 0)) ∧ (W.os = w.os ∧ W.tape = w.tape ∧ W.output = w.output ∧ w.heap.size ≤ W.heap.size ∧ ∀ k, k < w.heap.size → k ≠ Fd → fv.ownBlock ≠ some k → W.heap[k]? = w.heap[k]?)) ?_ ?_ ds W hm ⟨hr, hb, hfd, ht⟩
  · rintro _ A' B' row ⟨i1, i2, i3, i4, i5, i6, i7, i8⟩ hg hrw
    have cl : ∀ {k : Nat} {o : Obj}, A'.heap[k]? = some o → o.isCells = true → B'.heap[k]? = A'.heap[k]? := fun {k o} hk ho => hg.block k (Array.getElem?_eq_some_iff.1 hk).1 (fun e => by
      obtain ⟨_, o', h1, h2⟩ := hrw k e.symm
      rw [hk] at h1
      rw [← Option.some.inj h1, ho] at h2
      cases h2)
    exact ⟨(cl i1 rfl).trans i1, i2.kept hg (fun e => by have := (hrw _ e.symm).1; omega), (cl i3 rfl).trans i3, hg.os.trans i4, hg.tape.trans i5, hg.output.trans i6, Nat.le_trans i7 hg.size, fun k hk h1 h2 => (hg.block k (Nat.lt_of_lt_of_le hk i7) (fun e => by have := (hrw k e.symm).1; omega)).trans (i8 k hk h1 h2)⟩
  · rintro W ⟨i1, i2, i3, i4, i5, i6, i7, i8⟩
    refine ⟨.int .i64 r, ?_, ⟨r, D, P + 4, rfl, hs, i2, i3, by omega⟩, i4, i5, i6, i7, i8⟩
    have c := i1.cell
    simp [results, Tryz.results89, go_sem, hp, c]
set_option maxRecDepth 100000 in
set_option maxHeartbeats 8000000 in
theorem find_ (a : Au) (A B C : Option Addr) (ca cb cc VA Fd X : Nat) (n : Int) (fr : List Int) (fv byv : Value) (w0 w : World) (hb0 : Below w0.heap.size w0 w) (hss : Stps w0 0 C cc a.ss) (hf : AuFit a) (hst : a.st ≤ 1000000) (hsa : a.ss.length ≤ 1000000) (hfl : fr.length ≤ 1000000)
    (hAu : AuAt w VA a A B C ca cb cc) (hFd : w.heap[Fd]? = some (.cells #[(.func (.func 72) #[] #[.pointer (some ⟨VA, 0, none⟩)]), byv] 137 (0, 0))) (hX : w.cell? ⟨X, 0, none⟩ = some (.int .i64 n)) (hXl : X < w.heap.size) (hlF : w0.heap.size ≤ Fd)
    (hq : QOwn w w0.heap.size fv fr) (hnv : ∀ k ∈ [VA, Fd, X], fv.ownBlock ≠ some k) (hne : VA ≠ Fd ∧ X ≠ Fd) :
    Calls Tryz.prog 89 #[.pointer (some ⟨Fd, 0, none⟩), fv, .func (.func 88) #[] #[.pointer (some ⟨X, 0, none⟩)]] w (FindPost a fr n Fd VA fv w) := by
  obtain ⟨fA, fc, rfl, hfc, hfc2⟩ := hq.form
  have hmm := @run_makeMap Tryz.prog
  have HFW := Lib.hid (fdW_is w Fd X VA (.slice fA fr.length fc) byv hFd)
  have hfd0 : w.frozen? ⟨Fd, 1, none⟩ = false ∧ (w.cell? ⟨Fd, 1, none⟩).isSome = true := by simp [World.frozen?, World.cell?, hFd]
  have hFl : Fd < w.heap.size := (Array.getElem?_eq_some_iff.1 hFd).1
  obtain ⟨ff, fs⟩ := hfd0
  have HSS := Lib.hid hss
  have HB0 := Lib.hid hb0
  have HF := Lib.hid hf
  have HAU := Lib.hid hAu
  have HQ := Lib.hid hq
  have HX := Lib.hid hX
  have HNV := Lib.hid hnv
  have HNE := Lib.hid hne
  have cfd : w.cell? ⟨Fd, 1, none⟩ = some byv := by simp [World.cell?, hFd]
  have hbx : Below w.heap.size w (((((w.alloc (Obj.cells #[.pointer (some ⟨Fd, 0, none⟩)] 134)).alloc (Obj.cells #[.slice fA fr.length fc] 22)).alloc (Obj.cells #[(.func (.func 88) #[] #[.pointer (some ⟨X, 0, none⟩)])] 100)).alloc (Obj.cells #[.int .i64 0] 3)).alloc (Obj.map #[] 0)) := ((((Below.refl _ w).alloc (Nat.le_refl _) _).alloc (by simp) _).alloc (by simp; omega) _).alloc (by simp; omega) _ |>.alloc (by simp; omega) _
  have cf5 := (hbx.cell (p := ⟨Fd, 1, none⟩) hFl).trans cfd
  have ff5 := (hbx.frozen (p := ⟨Fd, 1, none⟩) hFl).trans ff
  clear hss hb0 hf hAu hq hX hnv hne hFd hbx
  refine (callsIn_wide (n := 9)).1 ?_
  refine callsIn_of_wp_marks Tryz.func89 rfl trivial ?_
  simp only [Tryz.ntmps89, List.size_toArray, List.length_cons, List.length_nil, Nat.reduceAdd, Nat.reduceSub, Array.replicate_succ, Array.replicate_zero, List.push_toArray, List.append_toArray, List.nil_append, List.cons_append]
  gi_wp2
  show Code.wpIn _ _ _ _ _ _ (fdW w Fd X (.slice fA fr.length fc))
  obtain ⟨P, hP⟩ : ∃ P, P = w.heap.size := ⟨_, rfl⟩
  simp only [Nat.add_assoc, Nat.reduceAdd]
  rw [← hP] at HFW ⊢
  have HP := Lib.hid hP
  clear hP hmm cf5 ff5 cfd ff fs
  generalize fdW w Fd X (.slice fA fr.length fc) = W1 at *
  have HCO : Hid (FnC w0.heap.size (P + 1) (P + 4) (P + 3) [] fr (.slice fA fr.length fc) W1) := by
    have hs := HB0.out.size
    have hp := HP.out
    refine ⟨HFW.out.q, HQ.out.heap fun k hk => HFW.out.old k (by rw [hp]; exact (HQ.out.lt k hk).2) (fun e => HNV.out Fd (by simp) (by rw [hk, e])), HFW.out.m, ⟨0, HFW.out.r⟩, by omega, by omega, by omega, fun e => by have := (HQ.out.lt _ e).2; omega⟩
  have HGD : Hid (∀ k, k ∈ [VA, Fd, X, P, P + 2] → Good w0.heap.size [P + 4, P + 3] [P + 1] W1 k) := fun k hk => by
    have hp := HP.out
    have hsz := HFW.out.size
    have hva := HAU.out.lt
    have key : k < W1.heap.size ∧ k ≠ P + 4 ∧ k ≠ P + 3 ∧ k ≠ P + 1 ∧ (Value.slice fA fr.length fc).ownBlock ≠ some k := by
      simp only [List.mem_cons, List.not_mem_nil, or_false] at hk
      rcases hk with rfl | rfl | rfl | rfl | rfl
      · exact ⟨by omega, by omega, by omega, by omega, HNV.out _ (by simp)⟩
      · exact ⟨by omega, by omega, by omega, by omega, HNV.out _ (by simp)⟩
      · exact ⟨by omega, by omega, by omega, by omega, HNV.out _ (by simp)⟩
      · exact ⟨by omega, by omega, by omega, by omega, fun e => by have := (HQ.out.lt _ e).2; omega⟩
      · exact ⟨by omega, by omega, by omega, by omega, fun e => by have := (HQ.out.lt _ e).2; omega⟩
    obtain ⟨k1, k2, k3, k4, k5⟩ := key
    exact ⟨k1, fun hb => by
      rcases HCO.out.bad.1 hb with h | h | h | h
      · exact k2 h
      · exact k3 h
      · exact k4 h
      · exact k5 h⟩
  have HLO : Hid (Below w0.heap.size w0 W1) := by
    have hp := HP.out
    have hsz := HFW.out.size
    have hs := HB0.out.size
    exact HB0.out.trans ⟨HFW.out.os, HFW.out.tape, HFW.out.output, by omega, fun k hk => HFW.out.old k (by omega) (by omega)⟩
  have HKK : Hid (∀ W, Off w0.heap.size [P + 4, P + 3] [P + 1] W1 W → AuAt W VA a A B C ca cb cc ∧ W.cell? ⟨X, 0, none⟩ = some (.int .i64 n) ∧ W.heap[Fd]? = some (.cells #[(.func (.func 72) #[] #[.pointer (some ⟨VA, 0, none⟩)]), .map (some (P + 4))] 137 (0, 0)) ∧ W.cell? ⟨P, 0, none⟩ = some (.pointer (some ⟨Fd, 0, none⟩)) ∧ W.cell? ⟨P + 2, 0, none⟩ = some (.func (.func 88) #[] #[.pointer (some ⟨X, 0, none⟩)]) ∧ Stps W 0 C cc a.ss ∧ Below w0.heap.size w0 W) := fun W ho => by
    have hp := HP.out
    have hva := HAU.out.lt
    have b1 := HLO.out.trans (ho.below HCO.out.sane HLO.out.size)
    have o1 : ∀ k, k < P → k ≠ Fd → ∀ o, W1.cell? ⟨k, o, none⟩ = w.cell? ⟨k, o, none⟩ := fun k hk hn o => cell_of_heap (HFW.out.old k hk hn) o
    have a1 : AuAt W1 VA a A B C ca cb cc := by
      have h := fun o => o1 VA (by omega) HNE.out.1 o
      exact ⟨(HGD.out VA (by simp)).lt, (h 0).trans HAU.out.c0, (h 1).trans HAU.out.c1, (h 2).trans HAU.out.c2, (h 3).trans HAU.out.c3, (h 4).trans HAU.out.c4⟩
    refine ⟨a1.off (HGD.out VA (by simp)) ho, ((HGD.out X (by simp)).cell ho).trans ((o1 X (by omega) HNE.out.2 0).trans HX.out), (ho.block Fd (HGD.out Fd (by simp)).lt (HGD.out Fd (by simp)).not).trans HFW.out.fd, ((HGD.out P (by simp)).cell ho).trans HFW.out.p0.cell, ((HGD.out (P + 2) (by simp)).cell ho).trans HFW.out.dn.cell, HSS.out.below b1, b1⟩
  have HTC : Hid (∀ W, Off w0.heap.size [P + 4, P + 3] [P + 1] W1 W → W.os = w.os ∧ W.tape = w.tape ∧ W.output = w.output ∧ w.heap.size ≤ W.heap.size ∧ ∀ k, k < w.heap.size → k ≠ Fd → (Value.slice fA fr.length fc).ownBlock ≠ some k → W.heap[k]? = w.heap[k]?) := fun W ho => by
    have hp := HP.out
    have hsz := HFW.out.size
    refine ⟨ho.os.trans HFW.out.os, ho.tape.trans HFW.out.tape, ho.output.trans HFW.out.output, by have := ho.size; omega, fun k hk h1 h2 => (ho.block k (by omega) fun hb => ?_).trans (HFW.out.old k (by omega) h1)⟩
    rcases HCO.out.bad.1 hb with h | h | h | h
    · omega
    · omega
    · omega
    · exact h2 h
  refine wpIn_loop_ghost (fun gn aa W => ∃ (D : List (Int × Stp)) (left : List Int) (v v7 v8 : Value) (ds : List Deferred), FfP Fd X P (.slice fA fr.length fc) v7 v8 ds aa ∧ Hid (FnC w0.heap.size (P + 1) (P + 4) (P + 3) D left v W) ∧ Hid (FnM a fr (fun k => k == n) D left gn none) ∧ Hid (Off w0.heap.size [P + 4, P + 3] [P + 1] W1 W) ∧ Hid (MarksF w0.heap.size (P + 5) [P + 4, P + 3] [P + 1] W ds) ∧ Hid (gn ≤ a.st.toNat + fr.length)) (a.st.toNat + fr.length)
    ⟨[], fr, (.slice fA fr.length fc), _, _, [], FfP.mk rfl, HCO.out, FnM.start a fr _, Off.refl HCO.out.sane, MarksF.nil _ _ _ _ _, Nat.le_refl _⟩ ?_
  rintro gn aa wr ⟨D, left, v, v7, v8, ds, hfr, HC, HM, HO, HMK, HGN⟩
  obtain ⟨u, rfl⟩ := hfr
  unfold ffT
  cases left with
  | nil =>
    obtain ⟨lA, lc, rfl, hlc, hlc2⟩ := HC.out.q.form
    have cQ := HC.out.box.cell
    obtain ⟨r0, hr0⟩ := HC.out.res
    have cR := hr0.cell
    have fR := hr0.frozen
    have HFI : Hid (∀ W, W = wr.setCell ⟨P + 3, 0, none⟩ (.int .i64 (-1)) → Boxed W (P + 3) 3 (.int .i64 (-1)) ∧ ByAt W (P + 4) D ∧ W.heap[Fd]? = some (.cells #[(.func (.func 72) #[] #[.pointer (some ⟨VA, 0, none⟩)]), .map (some (P + 4))] 137 (0, 0)) ∧ Off w0.heap.size [P + 4, P + 3] [P + 1] W1 W ∧ MarksF w0.heap.size (P + 5) [P + 4, P + 3] [P + 1] W ds) := fun W hW => by
      subst hW
      have far : ∀ k, k ≠ P + 3 → (wr.setCell ⟨P + 3, 0, none⟩ (.int .i64 (-1))).heap[k]? = wr.heap[k]? := fun k hk => Below.heap_setCell _ _ _ _ hk
      have hb2 : ByAt (wr.setCell ⟨P + 3, 0, none⟩ (.int .i64 (-1))) (P + 4) D := by
        obtain ⟨es, c, x1, x2⟩ := HC.out.by_
        exact ⟨es, c, (far _ (by omega)).trans x1, x2⟩
      have hC2 : FnC w0.heap.size (P + 1) (P + 4) (P + 3) D [] (.slice lA 0 lc) (wr.setCell ⟨P + 3, 0, none⟩ (.int .i64 (-1))) :=
        ⟨(far _ (by omega)).trans HC.out.box, HC.out.q.heap fun k hk => far k (fun e => HC.out.qr (by rw [hk, e])), hb2, ⟨-1, hr0.set _⟩, HC.out.lQ, HC.out.lM, HC.out.lR, HC.out.qr⟩
      have ho2 : Off w0.heap.size [P + 4, P + 3] [P + 1] wr (wr.setCell ⟨P + 3, 0, none⟩ (.int .i64 (-1))) := HC.out.off hC2 rfl rfl rfl (by simp [World.setCell]) (fun k _ _ h2 _ _ => far k h2) (.inl rfl)
      exact ⟨hr0.set _, hb2, (HKK.out _ (HO.out.trans ho2)).2.2.1, HO.out.trans ho2, HMK.out.off ho2⟩
    have HFS : Hid (FndS a fr (fun k => k == n) (-1) D) := FndS.no HM.out
    clear hr0
    gi_wp2
    obtain ⟨f1, f2, f3, f4, f5⟩ := HFI.out _ rfl
    exact find_leave a fr n (-1) Fd VA P _ w _ D ds _ rfl HP.out f1 f2 f3 HFS.out (HTC.out _ f4) f5.marks
  | cons x q =>
    obtain ⟨g, off, cap, rfl, hcap, hcap2, cx, hq2⟩ := HC.out.q.pop
    have cQ := HC.out.box.cell
    have fQ := HC.out.box.frozen
    obtain ⟨hM1, hg0⟩ := HM.out.pop
    have HM1 := Lib.hid hM1
    have HG0 := Lib.hid hg0
    obtain ⟨-, -, -, cP, -, -, -⟩ := HKK.out _ HO.out
    have hlq : q.length ≤ 10000000 := by
      have h1 := hM1.few
      have h2 := HGN.out
      omega
    have hFP : Fd < P := by have := HP.out; omega
    have hsp : (cap = 1 ∧ QOwn wr w0.heap.size (Value.slice (some ⟨g, off, none⟩) 0 0) q) ∨ (cap ≠ 1 ∧ QOwn wr w0.heap.size (Value.slice (some ⟨g, off + 1, none⟩) q.length (cap - 1)) q) := by
      by_cases hc : cap = 1
      · subst hc
        rw [if_pos rfl, show q.length = 0 by omega] at hq2
        exact .inl ⟨rfl, hq2⟩
      · rw [if_neg hc] at hq2; exact .inr ⟨hc, hq2⟩
    clear hM1 hg0
    rcases hsp with ⟨rfl, hq3⟩ | ⟨hc1, hq3⟩
    case' inl => (
      have HC2 : Hid (FnC w0.heap.size (P + 1) (P + 4) (P + 3) D q (Value.slice (some ⟨g, off, none⟩) 0 0) (wr.setCell ⟨P + 1, 0, none⟩ (Value.slice (some ⟨g, off, none⟩) 0 0))) := HC.out.set hq3 rfl
      have HO2 : Hid (Off w0.heap.size [P + 4, P + 3] [P + 1] wr (wr.setCell ⟨P + 1, 0, none⟩ (Value.slice (some ⟨g, off, none⟩) 0 0))) := HC.out.off HC2.out rfl rfl rfl (by simp [World.setCell]) (fun k _ _ _ h3 _ => Below.heap_setCell _ _ _ _ h3) (.inl rfl)
      have cF2 : (wr.setCell ⟨P + 1, 0, none⟩ (Value.slice (some ⟨g, off, none⟩) 0 0)).cell? ⟨Fd, 0, none⟩ = some (.func (.func 72) #[] #[.pointer (some ⟨VA, 0, none⟩)]) := by
        have := (HKK.out _ (HO.out.trans HO2.out)).2.2.1
        simp [World.cell?, this]
      clear hq3 hq2
      gi_wp2
      generalize (Value.slice (some ⟨g, off, none⟩) 0 0) = v2 at *)
    case' inr => (
      have HC2 : Hid (FnC w0.heap.size (P + 1) (P + 4) (P + 3) D q (Value.slice (some ⟨g, off + 1, none⟩) q.length (cap - 1)) (wr.setCell ⟨P + 1, 0, none⟩ (Value.slice (some ⟨g, off + 1, none⟩) q.length (cap - 1)))) := HC.out.set hq3 rfl
      have HO2 : Hid (Off w0.heap.size [P + 4, P + 3] [P + 1] wr (wr.setCell ⟨P + 1, 0, none⟩ (Value.slice (some ⟨g, off + 1, none⟩) q.length (cap - 1)))) := HC.out.off HC2.out rfl rfl rfl (by simp [World.setCell]) (fun k _ _ _ h3 _ => Below.heap_setCell _ _ _ _ h3) (.inl rfl)
      have cF2 : (wr.setCell ⟨P + 1, 0, none⟩ (Value.slice (some ⟨g, off + 1, none⟩) q.length (cap - 1))).cell? ⟨Fd, 0, none⟩ = some (.func (.func 72) #[] #[.pointer (some ⟨VA, 0, none⟩)]) := by
        have := (HKK.out _ (HO.out.trans HO2.out)).2.2.1
        simp [World.cell?, this]
      clear hq3 hq2
      gi_wp2
      generalize (Value.slice (some ⟨g, off + 1, none⟩) q.length (cap - 1)) = v2 at *)
    all_goals
      refine ⟨trivial, ?_⟩
      have HK2 := Lib.hid (HO.out.trans HO2.out)
      have hH2 := HKK.out _ HK2.out
      refine (callsIn_wide.2 (next_ a A B C ca cb cc VA x (wr.setCell ⟨P + 1, 0, none⟩ v2) hH2.1 hH2.2.2.2.2.2.1 HF.out.so hsa)).mono ?_
      rintro e w3 ⟨X3, Y3, i3, rfl, hX3, hY3, hS3, hLB3, hb3⟩
      have hF3 := Off.of_below HC2.out.sane hb3
      have HO3 := Lib.hid (HK2.out.trans hF3)
      have HC3 := Lib.hid (HC2.out.on hb3)
      have HMK3 := Lib.hid ((HMK.out.off HO2.out).off hF3)
      have hH3 := HKK.out _ HO3.out
      have HGVA3 := Lib.hid ((HGD.out VA (by simp)).off HO3.out)
      have HGX3 : Hid (Good w0.heap.size [P + 4, P + 3] [P + 1] w3 X3) := Good.new HC2.out.sane hb3 hX3 hS3.lx
      have HGY3 : Hid (Good w0.heap.size [P + 4, P + 3] [P + 1] w3 Y3) := Good.new HC2.out.sane hb3 hY3 hS3.ly
      have nb3 : ∀ k, Good w0.heap.size [P + 4, P + 3] [P + 1] w3 k → ¬ Bad [w3.heap.size + 1, P + 4, P + 3] [P + 1] w3 k := fun k hk h => h.of_cons.elim (fun h => by have := hk.lt; omega) hk.not
      have hQ3 : P + 1 < w3.heap.size := HC3.out.box.lt
      have hM3 : P + 4 < w3.heap.size := HC3.out.by_.lt
      have HSQ := Lib.hid (next_givesV a A B C ca cb cc VA X3 Y3 i3 x [w3.heap.size + 1, P + 4, P + 3] [P + 1] w0 w3 hH3.1 (nb3 _ HGVA3.out) HSS.out hH3.2.2.2.2.2.2 hS3.x hS3.y hS3.lx hS3.ly (fun k hk => by rw [List.mem_singleton.1 hk]; exact hQ3) (nb3 _ HGX3.out) (nb3 _ HGY3.out) HF.out.so hsa hLB3 8 (by omega))
      clear hX3 hY3 hS3 hLB3 hb3 hF3 hH2 hH3 cF2 cQ fQ cx cP
      gi_wp2
      refine wp_range_own (gf := 76) (lb := #[.pointer (some ⟨VA, 0, none⟩), .pointer (some ⟨X3, 0, none⟩), .pointer (some ⟨Y3, 0, none⟩)]) (by omega) rfl (enters_of Tryz.func76 (by kernel_rfl) rfl)
        HSQ.out
        (fun h1 h2 => h1.trans h2) ?kb ?sane (Below.refl _ _) (fun _ => rfl)
        (fun pre W' => (∃ D left v, Hid (FnC w0.heap.size (P + 1) (P + 4) (P + 3) D left v W') ∧ Hid (FnM a fr (fun k => k == n) D left (gn - 1) (some x)) ∧ Hid (∀ y ∈ pre, y.t ∈ D.map Prod.fst)) ∧ Hid (Off w0.heap.size [P + 4, P + 3] [P + 1] w3 W'))
        (fun c pre W' => c = .ret ∧ (∃ r D left v, Hid (FnC w0.heap.size (P + 1) (P + 4) (P + 3) D left v W') ∧ Hid (Boxed W' (P + 3) 3 (.int .i64 r)) ∧ Hid (FndS a fr (fun k => k == n) r D)) ∧ Hid (Off w0.heap.size [P + 4, P + 3] [P + 1] w3 W'))
        ?hI ?hIx ?h0
        (fun s a' W' => ∃ Yb, Sane w0.heap.size [P + 4, P + 3] [P + 1] W' ∧ Good w0.heap.size [P + 4, P + 3] [P + 1] W' Yb ∧ W'.heap[Yb]? = some (Obj.cells #[.int .i64 s.f, .int .i64 s.l, .int .i64 s.t] 108) ∧ FfP Fd X P (.slice fA fr.length fc) (.int .i64 x) (.pointer (some ⟨Yb, 0, none⟩)) [] a')
        ?hAx ?assign ?body ?done ?stop
      case kb =>
        intro W' r r' h hs
        exact Off.put hs (List.mem_cons_self ..) h rfl rfl
      case sane =>
        intro r
        have h1 : Below w3.heap.size w3 ((w3.alloc (.deferred (some []))).alloc (.loop r)) := ((Below.refl _ _).alloc (Nat.le_refl _) _).alloc (by simp) _
        exact (Off.of_below HO3.out.sane h1).sane.cons (by have := HLO.out.size; have := HO3.out.size; omega) (by simp)
      case hI =>
        rintro pre A' B' rw ⟨⟨D', l', v', h1, h2, h3⟩, h4⟩ hg hrw
        exact ⟨⟨D', l', v', h1.out.own hg (fun r hr => ⟨by have := (hrw r hr).1; omega, (hrw r hr).2⟩), h2, h3⟩, h4.out.own (fun k hk => by rw [List.mem_singleton.1 hk]; exact hQ3) hg hrw⟩
      case hIx =>
        rintro c pre A' B' rw ⟨hc, ⟨r, D', l2, v2', h1, h2, h3⟩, h4⟩ hg hrw
        refine ⟨hc, ⟨r, D', l2, v2', h1.out.own hg (fun r hr => ⟨by have := (hrw r hr).1; omega, (hrw r hr).2⟩), ?_, h3⟩, h4.out.own (fun k hk => by rw [List.mem_singleton.1 hk]; exact hQ3) hg hrw⟩
        have h2' : A'.heap[P + 3]? = _ := h2.out
        exact (hg.block (P + 3) h2.out.lt (fun e => by
          obtain ⟨_, o', h5, h6⟩ := hrw _ e.symm
          rw [h2'] at h5
          rw [← Option.some.inj h5] at h6
          cases h6)).trans h2'
      case h0 => exact ⟨⟨D, q, v2, HC3.out, HM1.out, fun y hy => by cases hy⟩, Off.refl HC3.out.sane⟩
      case hAx =>
        rintro s a' _ A' B' rw ⟨Yb, h0, h1, h2, h3⟩ hg hrw
        have hF : ∀ F ∈ [P + 1], F < w3.heap.size := fun k hk => by rw [List.mem_singleton.1 hk]; exact hQ3
        refine ⟨Yb, h0.own hF hg hrw, h1.own hF h0 hg hrw, (hg.block Yb h1.lt fun e => ?_).trans h2, h3⟩
        obtain ⟨_, o', h4, h5⟩ := hrw _ e.symm
        rw [h2] at h4
        rw [← Option.some.inj h4] at h5
        cases h5
      case assign =>
        rintro l' pre s W' KK ⟨⟨D', l1, v', h1, h2, h3⟩, h4⟩ hKK
        have HKK2 := Lib.hid hKK
        have hb1 : Below W'.heap.size W' (W'.alloc (Obj.cells #[.int .i64 s.f, .int .i64 s.l, .int .i64 s.t] 108)) := (Below.refl _ _).alloc (Nat.le_refl _) _
        have HF1 := Lib.hid (Off.of_below h4.out.sane hb1)
        have HG1 : Hid (Good w0.heap.size [P + 4, P + 3] [P + 1] (W'.alloc (Obj.cells #[.int .i64 s.f, .int .i64 s.l, .int .i64 s.t] 108)) W'.heap.size) := Good.new h4.out.sane hb1 (Nat.le_refl _) (by simp)
        have HB1 := Lib.hid hb1
        clear hKK hb1
        gi_wp2
        exact HKK2.out _ _ ((KeepsOthers.alloc _ _).from _) (KpO.of_below HB1.out) ⟨⟨D', l1, v', h1.out.on HB1.out, h2, h3⟩, h4.out.trans HF1.out⟩ ⟨W'.heap.size, HF1.out.sane, HG1.out, World.alloc_heap_new _ _, FfP.mk rfl⟩
      case body =>
        rintro l' pre s a' W' hl' hrec ⟨⟨D', l1, v', h1, h2, h3⟩, h4⟩ ⟨Yb, hsn, hgd, hyb, hfr⟩ hpre
        obtain ⟨u2, rfl⟩ := hfr
        unfold ffT
        have HO5 := Lib.hid (HO3.out.trans h4.out)
        obtain ⟨-, cX, hfd, cP, cDn, -, -⟩ := HKK.out _ HO5.out
        have cFd : W'.cell? ⟨Fd, 1, none⟩ = some (.map (some (P + 4))) := by simp [World.cell?, hfd]
        have cY : W'.cell? ⟨Yb, 2, none⟩ = some (.int .i64 s.t) := by simp [World.cell?, hyb]
        have hPl : P < W'.heap.size := by have := HO5.out.size; have := HFW.out.size; omega
        have hFl2 : Fd < W'.heap.size := by omega
        have hYl := hgd.lt
        obtain ⟨hsa2, hsx⟩ := List.mem_filter.1 (hpre.subset (List.mem_append_right _ (List.mem_singleton.2 rfl)))
        have hsx2 : s.f = x := by simpa using hsx
        have hstr := (HF.out.sr s hsa2).2.1
        have hwf : (Lit.int .i64 s.t).wf = true := WalkArith.wf_i64 (by omega)
        have HSA := Lib.hid hsa2
        have HSX := Lib.hid hsx2
        have HST := Lib.hid hstr
        have HC1 := Lib.hid h1.out
        have HMM := Lib.hid h2.out
        have HPR := Lib.hid h3.out
        have HO1 := Lib.hid h4.out
        have HGY := Lib.hid hgd
        have HYB := Lib.hid hyb
        have hnd := h2.out.by_.nd
        clear hsn hgd hyb hpre hsa2 hsx hsx2 hstr h1 h2 h3 h4 hfd
        by_cases hm : s.t ∈ D'.map Prod.fst
        · obtain ⟨⟨k2, s2⟩, hp, hk2⟩ := List.mem_map.1 hm
          simp only at hk2
          subst hk2
          have HMEM := Lib.hid hp
          have HS7 : Hid (∀ w', Below W'.heap.size W' w' → w'.cell? ⟨P, 0, none⟩ = some (.pointer (some ⟨Fd, 0, none⟩)) ∧ w'.cell? ⟨Fd, 1, none⟩ = some (.map (some (P + 4))) ∧ w'.cell? ⟨Yb, 2, none⟩ = some (.int .i64 s.t) ∧ (Instr.lookup 135 (.map (some (P + 4))) (.int .i64 s.t) true).run Tryz.prog w' = .ok (.tuple #[.agg #[.int .i64 s2.f, .int .i64 s2.l, .int .i64 s2.t], .bool true]) w') := fun w' hb' => ⟨(hb'.cell (p := ⟨P, 0, none⟩) hPl).trans cP, (hb'.cell (p := ⟨Fd, 1, none⟩) hFl2).trans cFd, (hb'.cell (p := ⟨Yb, 2, none⟩) hYl).trans cY, (HC1.out.on hb').by_.hit hnd hwf HMEM.out⟩
          have HBd : Hid (Below W'.heap.size W' W'.drew) := (Below.refl _ _).drew
          have HB4 : Hid (Below W'.heap.size W' (W'.drew.alloc (Obj.cells #[.int .i64 0, .int .i64 0, .int .i64 0] 108))) := Below_on HBd.out ((Below.refl _ _).alloc (Nat.le_refl _) _) (Nat.le_refl _)
          have HB5 : Hid (Below W'.heap.size W' (W'.drew.alloc (Obj.cells #[.int .i64 s2.f, .int .i64 s2.l, .int .i64 s2.t] 108))) := Below_on HBd.out ((Below.refl _ _).alloc (Nat.le_refl _) _) (Nat.le_refl _)
          gi_wp2
          refine wpIn_region_Z (fun w' => w'.cell? ⟨P, 0, none⟩ = some (.pointer (some ⟨Fd, 0, none⟩)) ∧ w'.cell? ⟨Fd, 1, none⟩ = some (.map (some (P + 4))) ∧ w'.cell? ⟨Yb, 2, none⟩ = some (.int .i64 s.t) ∧ (Instr.lookup 135 (.map (some (P + 4))) (.int .i64 s.t) true).run Tryz.prog w' = .ok (.tuple #[.agg #[.int .i64 s2.f, .int .i64 s2.l, .int .i64 s2.t], .bool true]) w') 12 (by kernel_rfl) ?_
          refine wpAnyZIn_take (i := 0) (v := ?_) rfl (by kernel_rfl) (by kernel_rfl) (by kernel_rfl) (by kernel_rfl) (by kernel_rfl) (by kernel_rfl) (fun _ _ _ h => h) (yieldsZ_of (fun _ h => (by cases h)) (by rfl) ?_) (HS7.out _ HBd.out) ?_
          rotate_left
          · (intro w' hw'; obtain ⟨h1, h2, h3, h4⟩ := hw'; go_simp; (try with_reducible rfl))
          (try simp only [Act.put, List.setIfInBounds_toArray, List.set_cons_zero, List.set_cons_succ])
          refine wpAnyZIn_take (i := 1) (v := ?_) rfl (by kernel_rfl) (by kernel_rfl) (by kernel_rfl) (by kernel_rfl) (by kernel_rfl) (by kernel_rfl) (fun _ _ _ h => h) (yieldsZ_of (fun _ h => (by cases h)) (by rfl) ?_) (HS7.out _ HBd.out) ?_
          rotate_left
          · (intro w' hw'; obtain ⟨h1, h2, h3, h4⟩ := hw'; go_simp; (try with_reducible rfl))
          (try simp only [Act.put, List.setIfInBounds_toArray, List.set_cons_zero, List.set_cons_succ])
          refine wpAnyZIn_take (i := 2) (v := ?_) rfl (by kernel_rfl) (by kernel_rfl) (by kernel_rfl) (by kernel_rfl) (by kernel_rfl) (by kernel_rfl) (fun _ _ _ h => h) (yieldsZ_of (fun _ h => (by cases h)) (by rfl) ?_) (HS7.out _ HBd.out) ?_
          rotate_left
          · (intro w' hw'; obtain ⟨h1, h2, h3, h4⟩ := hw'; go_simp; (try with_reducible rfl))
          (try simp only [Act.put, List.setIfInBounds_toArray, List.set_cons_zero, List.set_cons_succ])
          refine wpAnyZIn_take (i := 3) (v := ?_) rfl (by kernel_rfl) (by kernel_rfl) (by kernel_rfl) (by kernel_rfl) (by kernel_rfl) (by kernel_rfl) (fun _ _ _ h => h) (yieldsZ_of (fun _ h => (by cases h)) (by rfl) ?_) (HS7.out _ HBd.out) ?_
          rotate_left
          · (intro w' hw'; obtain ⟨h1, h2, h3, h4⟩ := hw'; go_simp; (try with_reducible rfl))
          (try simp only [Act.put, List.setIfInBounds_toArray, List.set_cons_zero, List.set_cons_succ])
          refine wpAnyZIn_take (i := 4) (v := ?_) rfl (by kernel_rfl) (by kernel_rfl) (by kernel_rfl) (by kernel_rfl) (by kernel_rfl) (by kernel_rfl) (fun _ _ _ h => h) (yieldsZ_of (fun _ h => (by cases h)) (by rfl) ?_) (HS7.out _ HBd.out) ?_
          rotate_left
          · (intro w' hw'; obtain ⟨h1, h2, h3, h4⟩ := hw'; go_simp; (try with_reducible rfl))
          (try simp only [Act.put, List.setIfInBounds_toArray, List.set_cons_zero, List.set_cons_succ])
          refine wpAnyZIn_take (i := 5) (v := ?_) rfl (by kernel_rfl) (by kernel_rfl) (by kernel_rfl) (by kernel_rfl) (by kernel_rfl) (by kernel_rfl) (fun _ _ _ h => h) (yieldsZ_of (fun _ h => (by cases h)) (by rfl) ?_) (HS7.out _ HBd.out) ?_
          rotate_left
          · (intro w' hw'; obtain ⟨h1, h2, h3, h4⟩ := hw'; go_simp; (try with_reducible rfl))
          (try simp only [Act.put, List.setIfInBounds_toArray, List.set_cons_zero, List.set_cons_succ])
          refine wpAnyZIn_take (i := 6) (v := ?_) rfl (by kernel_rfl) (by kernel_rfl) (by kernel_rfl) (by kernel_rfl) (by kernel_rfl) (by kernel_rfl) (fun _ _ _ h => h) (yieldsZ_of (fun _ h => (by cases h)) (by rfl) ?_) (HS7.out _ HBd.out) ?_
          rotate_left
          · (intro w' hw'; obtain ⟨h1, h2, h3, h4⟩ := hw'; go_simp; (try with_reducible rfl))
          (try simp only [Act.put, List.setIfInBounds_toArray, List.set_cons_zero, List.set_cons_succ])
          refine wpAnyZIn_take (i := 7) (v := ?_) rfl (by kernel_rfl) (by kernel_rfl) (by kernel_rfl) (by kernel_rfl) (by kernel_rfl) (by kernel_rfl) (fun _ _ _ h => h) (yieldsZ_of (fun _ h => (by cases h)) (by rfl) ?_) (HS7.out _ HBd.out) ?_
          rotate_left
          · (intro w' hw'; obtain ⟨h1, h2, h3, h4⟩ := hw'; go_simp; (try with_reducible rfl))
          (try simp only [Act.put, List.setIfInBounds_toArray, List.set_cons_zero, List.set_cons_succ])
          refine wpAnyZIn_take (i := 8) (v := ?_) rfl (by kernel_rfl) (by kernel_rfl) (by kernel_rfl) (by kernel_rfl) (by kernel_rfl) (by kernel_rfl) (fun _ _ _ h => h) (yieldsZ_of (fun _ h => (by cases h)) (by rfl) ?_) (HS7.out _ HBd.out) ?_
          rotate_left
          · (intro w' hw'; obtain ⟨h1, h2, h3, h4⟩ := hw'; go_simp; (try with_reducible rfl))
          (try simp only [Act.put, List.setIfInBounds_toArray, List.set_cons_zero, List.set_cons_succ])
          refine wpAnyZIn_take (i := 9) (v := ?_) rfl (by kernel_rfl) (by kernel_rfl) (by kernel_rfl) (by kernel_rfl) (by kernel_rfl) (by kernel_rfl) (fun _ _ _ h => h) (yieldsZ_of (fun _ h => (by cases h)) (by rfl) ?_) (HS7.out _ HBd.out) ?_
          rotate_left
          · (intro w' hw'; obtain ⟨h1, h2, h3, h4⟩ := hw'; go_simp; (try with_reducible rfl))
          (try simp only [Act.put, List.setIfInBounds_toArray, List.set_cons_zero, List.set_cons_succ])
          refine wpAnyZIn_one (i := 10) rfl (by kernel_rfl) rfl (fun K hK => ?_)
          go_simp
          refine hK.out _ _ (.inr (HS7.out _ HB4.out)) ?_
          clear hK K
          (try simp only [Act.put, List.setIfInBounds_toArray, List.set_cons_zero, List.set_cons_succ])
          refine wpAnyZIn_one (i := 11) rfl (by kernel_rfl) rfl (fun K hK => ?_)
          go_simp
          refine hK.out _ _ (.inr (HS7.out _ HB5.out)) ?_
          clear hK K
          (try simp only [Act.put, List.setIfInBounds_toArray, List.set_cons_zero, List.set_cons_succ])
          refine wpAnyZIn_one (i := 12) rfl (by kernel_rfl) rfl (fun K hK => ?_)
          go_simp
          refine hK.out _ _ (.inl rfl) ?_
          clear hK K
          refine wpAnyZIn_done (by kernel_rfl) (noPanic_normal ?_) _
          have HMH := Lib.hid hm
          clear hp hm cX cDn cY cP cFd
          have HOF : Hid (Off w0.heap.size [P + 4, P + 3] [P + 1] W' (W'.drew.alloc (Obj.cells #[.int .i64 s2.f, .int .i64 s2.l, .int .i64 s2.t] 108))) := Off.of_below HC1.out.sane HB5.out
          have HPP : Hid (KeepsFrom w3.heap.size W' (W'.drew.alloc (Obj.cells #[.int .i64 s2.f, .int .i64 s2.l, .int .i64 s2.t] 108)) ∧ KpO w0.heap.size [w3.heap.size + 1, P + 4, P + 3] [P + 1] W' (W'.drew.alloc (Obj.cells #[.int .i64 s2.f, .int .i64 s2.l, .int .i64 s2.t] 108)) ∧ (∃ D left v, Hid (FnC w0.heap.size (P + 1) (P + 4) (P + 3) D left v (W'.drew.alloc (Obj.cells #[.int .i64 s2.f, .int .i64 s2.l, .int .i64 s2.t] 108))) ∧ Hid (FnM a fr (fun k => k == n) D left (gn - 1) (some x)) ∧ Hid (∀ y ∈ pre ++ [s], y.t ∈ D.map Prod.fst)) ∧ Hid (Off w0.heap.size [P + 4, P + 3] [P + 1] w3 (W'.drew.alloc (Obj.cells #[.int .i64 s2.f, .int .i64 s2.l, .int .i64 s2.t] 108)))) :=
            ⟨HOF.out.keeps HC1.out.sane (fun k hk => by simp at hk; omega) (fun k hk => by rw [List.mem_singleton.1 hk]; exact hQ3), fun hs => HOF.out.cons (by have := HLO.out.size; have := HO3.out.size; omega) (hs.bad _ (.inl (List.mem_cons_self ..))).2, ⟨D', l1, v', HC1.out.on HB5.out, HMM.out, fun y hy => (List.mem_append.1 hy).elim (HPR.out y) fun h => by rw [List.mem_singleton.1 h]; exact HMH.out⟩, HO1.out.trans HOF.out⟩
          gi_wp2
          exact HPP.out
        · have HNM := Lib.hid hm
          have HS7 : Hid (∀ w', Below W'.heap.size W' w' → w'.cell? ⟨P, 0, none⟩ = some (.pointer (some ⟨Fd, 0, none⟩)) ∧ w'.cell? ⟨Fd, 1, none⟩ = some (.map (some (P + 4))) ∧ w'.cell? ⟨Yb, 2, none⟩ = some (.int .i64 s.t) ∧ (Instr.lookup 135 (.map (some (P + 4))) (.int .i64 s.t) true).run Tryz.prog w' = .ok (.tuple #[.agg #[.int .i64 0, .int .i64 0, .int .i64 0], .bool false]) w') := fun w' hb' => ⟨(hb'.cell (p := ⟨P, 0, none⟩) hPl).trans cP, (hb'.cell (p := ⟨Fd, 1, none⟩) hFl2).trans cFd, (hb'.cell (p := ⟨Yb, 2, none⟩) hYl).trans cY, (HC1.out.on hb').by_.miss hwf hm⟩
          have HBd : Hid (Below W'.heap.size W' W'.drew) := (Below.refl _ _).drew
          have HB4 : Hid (Below W'.heap.size W' (W'.drew.alloc (Obj.cells #[.int .i64 0, .int .i64 0, .int .i64 0] 108))) := Below_on HBd.out ((Below.refl _ _).alloc (Nat.le_refl _) _) (Nat.le_refl _)
          gi_wp2
          refine wpIn_region_Z (fun w' => w'.cell? ⟨P, 0, none⟩ = some (.pointer (some ⟨Fd, 0, none⟩)) ∧ w'.cell? ⟨Fd, 1, none⟩ = some (.map (some (P + 4))) ∧ w'.cell? ⟨Yb, 2, none⟩ = some (.int .i64 s.t) ∧ (Instr.lookup 135 (.map (some (P + 4))) (.int .i64 s.t) true).run Tryz.prog w' = .ok (.tuple #[.agg #[.int .i64 0, .int .i64 0, .int .i64 0], .bool false]) w') 12 (by kernel_rfl) ?_
          refine wpAnyZIn_take (i := 0) (v := ?_) rfl (by kernel_rfl) (by kernel_rfl) (by kernel_rfl) (by kernel_rfl) (by kernel_rfl) (by kernel_rfl) (fun _ _ _ h => h) (yieldsZ_of (fun _ h => (by cases h)) (by rfl) ?_) (HS7.out _ HBd.out) ?_
          rotate_left
          · (intro w' hw'; obtain ⟨h1, h2, h3, h4⟩ := hw'; go_simp; (try with_reducible rfl))
          (try simp only [Act.put, List.setIfInBounds_toArray, List.set_cons_zero, List.set_cons_succ])
          refine wpAnyZIn_take (i := 1) (v := ?_) rfl (by kernel_rfl) (by kernel_rfl) (by kernel_rfl) (by kernel_rfl) (by kernel_rfl) (by kernel_rfl) (fun _ _ _ h => h) (yieldsZ_of (fun _ h => (by cases h)) (by rfl) ?_) (HS7.out _ HBd.out) ?_
          rotate_left
          · (intro w' hw'; obtain ⟨h1, h2, h3, h4⟩ := hw'; go_simp; (try with_reducible rfl))
          (try simp only [Act.put, List.setIfInBounds_toArray, List.set_cons_zero, List.set_cons_succ])
          refine wpAnyZIn_take (i := 2) (v := ?_) rfl (by kernel_rfl) (by kernel_rfl) (by kernel_rfl) (by kernel_rfl) (by kernel_rfl) (by kernel_rfl) (fun _ _ _ h => h) (yieldsZ_of (fun _ h => (by cases h)) (by rfl) ?_) (HS7.out _ HBd.out) ?_
          rotate_left
          · (intro w' hw'; obtain ⟨h1, h2, h3, h4⟩ := hw'; go_simp; (try with_reducible rfl))
          (try simp only [Act.put, List.setIfInBounds_toArray, List.set_cons_zero, List.set_cons_succ])
          refine wpAnyZIn_take (i := 3) (v := ?_) rfl (by kernel_rfl) (by kernel_rfl) (by kernel_rfl) (by kernel_rfl) (by kernel_rfl) (by kernel_rfl) (fun _ _ _ h => h) (yieldsZ_of (fun _ h => (by cases h)) (by rfl) ?_) (HS7.out _ HBd.out) ?_
          rotate_left
          · (intro w' hw'; obtain ⟨h1, h2, h3, h4⟩ := hw'; go_simp; (try with_reducible rfl))
          (try simp only [Act.put, List.setIfInBounds_toArray, List.set_cons_zero, List.set_cons_succ])
          refine wpAnyZIn_take (i := 4) (v := ?_) rfl (by kernel_rfl) (by kernel_rfl) (by kernel_rfl) (by kernel_rfl) (by kernel_rfl) (by kernel_rfl) (fun _ _ _ h => h) (yieldsZ_of (fun _ h => (by cases h)) (by rfl) ?_) (HS7.out _ HBd.out) ?_
          rotate_left
          · (intro w' hw'; obtain ⟨h1, h2, h3, h4⟩ := hw'; go_simp; (try with_reducible rfl))
          (try simp only [Act.put, List.setIfInBounds_toArray, List.set_cons_zero, List.set_cons_succ])
          refine wpAnyZIn_take (i := 5) (v := ?_) rfl (by kernel_rfl) (by kernel_rfl) (by kernel_rfl) (by kernel_rfl) (by kernel_rfl) (by kernel_rfl) (fun _ _ _ h => h) (yieldsZ_of (fun _ h => (by cases h)) (by rfl) ?_) (HS7.out _ HBd.out) ?_
          rotate_left
          · (intro w' hw'; obtain ⟨h1, h2, h3, h4⟩ := hw'; go_simp; (try with_reducible rfl))
          (try simp only [Act.put, List.setIfInBounds_toArray, List.set_cons_zero, List.set_cons_succ])
          refine wpAnyZIn_take (i := 6) (v := ?_) rfl (by kernel_rfl) (by kernel_rfl) (by kernel_rfl) (by kernel_rfl) (by kernel_rfl) (by kernel_rfl) (fun _ _ _ h => h) (yieldsZ_of (fun _ h => (by cases h)) (by rfl) ?_) (HS7.out _ HBd.out) ?_
          rotate_left
          · (intro w' hw'; obtain ⟨h1, h2, h3, h4⟩ := hw'; go_simp; (try with_reducible rfl))
          (try simp only [Act.put, List.setIfInBounds_toArray, List.set_cons_zero, List.set_cons_succ])
          refine wpAnyZIn_take (i := 7) (v := ?_) rfl (by kernel_rfl) (by kernel_rfl) (by kernel_rfl) (by kernel_rfl) (by kernel_rfl) (by kernel_rfl) (fun _ _ _ h => h) (yieldsZ_of (fun _ h => (by cases h)) (by rfl) ?_) (HS7.out _ HBd.out) ?_
          rotate_left
          · (intro w' hw'; obtain ⟨h1, h2, h3, h4⟩ := hw'; go_simp; (try with_reducible rfl))
          (try simp only [Act.put, List.setIfInBounds_toArray, List.set_cons_zero, List.set_cons_succ])
          refine wpAnyZIn_take (i := 8) (v := ?_) rfl (by kernel_rfl) (by kernel_rfl) (by kernel_rfl) (by kernel_rfl) (by kernel_rfl) (by kernel_rfl) (fun _ _ _ h => h) (yieldsZ_of (fun _ h => (by cases h)) (by rfl) ?_) (HS7.out _ HBd.out) ?_
          rotate_left
          · (intro w' hw'; obtain ⟨h1, h2, h3, h4⟩ := hw'; go_simp; (try with_reducible rfl))
          (try simp only [Act.put, List.setIfInBounds_toArray, List.set_cons_zero, List.set_cons_succ])
          refine wpAnyZIn_take (i := 9) (v := ?_) rfl (by kernel_rfl) (by kernel_rfl) (by kernel_rfl) (by kernel_rfl) (by kernel_rfl) (by kernel_rfl) (fun _ _ _ h => h) (yieldsZ_of (fun _ h => (by cases h)) (by rfl) ?_) (HS7.out _ HBd.out) ?_
          rotate_left
          · (intro w' hw'; obtain ⟨h1, h2, h3, h4⟩ := hw'; go_simp; (try with_reducible rfl))
          (try simp only [Act.put, List.setIfInBounds_toArray, List.set_cons_zero, List.set_cons_succ])
          refine wpAnyZIn_one (i := 10) rfl (by kernel_rfl) rfl (fun K hK => ?_)
          go_simp
          refine hK.out _ _ (.inr (HS7.out _ HB4.out)) ?_
          clear hK K
          (try simp only [Act.put, List.setIfInBounds_toArray, List.set_cons_zero, List.set_cons_succ])
          refine wpAnyZIn_one (i := 11) rfl (by kernel_rfl) rfl (fun K hK => ?_)
          go_simp
          refine hK.out _ _ (.inr (HS7.out _ HB4.out)) ?_
          clear hK K
          (try simp only [Act.put, List.setIfInBounds_toArray, List.set_cons_zero, List.set_cons_succ])
          refine wpAnyZIn_one (i := 12) rfl (by kernel_rfl) rfl (fun K hK => ?_)
          go_simp
          refine hK.out _ _ (.inl rfl) ?_
          clear hK K
          refine wpAnyZIn_done (by kernel_rfl) (noPanic_normal ?_) _
          clear cX cDn cY cP cFd hm
          have HB4b : Hid (Below W'.heap.size W' (W'.alloc (Obj.cells #[.int .i64 0, .int .i64 0, .int .i64 0] 108)).drew) := HB4.out
          have HO4a : Hid (Off w0.heap.size [P + 4, P + 3] [P + 1] W' (W'.alloc (Obj.cells #[.int .i64 0, .int .i64 0, .int .i64 0] 108)).drew) := Off.of_below HC1.out.sane HB4b.out
          have HC4 := Lib.hid (HC1.out.on HB4b.out)
          clear HB4
          gi_wp2
          generalize (W'.alloc (Obj.cells #[.int .i64 0, .int .i64 0, .int .i64 0] 108)).drew = W5 at *
          have hd5 : Below W5.heap.size W5 W5.drew := (Below.refl _ _).drew
          have HO5d := Lib.hid (HO4a.out.trans (Off.of_below HC4.out.sane hd5))
          have HC5 := Lib.hid (HC4.out.on hd5)
          have hDl : D'.length ≤ 1000000 := by have := HMM.out.by_.len HF.out; omega
          obtain ⟨W6, hput, hB6, hg6⟩ := HC5.out.by_.put hDl hwf
          have HC6 := Lib.hid (HC5.out.put hB6 hg6)
          have HO56 : Hid (Off w0.heap.size [P + 4, P + 3] [P + 1] W5.drew W6) := HC5.out.off HC6.out hg6.os hg6.tape hg6.output hg6.size (fun k hk h1 _ _ _ => hg6.block k hk (by simpa using h1)) (.inl rfl)
          have HO6 := Lib.hid (HO5d.out.trans HO56.out)
          have hS9 : ∀ w', Off w0.heap.size [P + 4, P + 3] [P + 1] W' w' → w'.cell? ⟨P, 0, none⟩ = some (.pointer (some ⟨Fd, 0, none⟩)) ∧ w'.cell? ⟨Fd, 1, none⟩ = some (.map (some (P + 4))) ∧ w'.cell? ⟨Yb, 0, none⟩ = some (.int .i64 s.f) ∧ w'.cell? ⟨Yb, 1, none⟩ = some (.int .i64 s.l) ∧ w'.cell? ⟨Yb, 2, none⟩ = some (.int .i64 s.t) := fun w' ho => by
            obtain ⟨-, -, hfd, cP, -, -, -⟩ := HKK.out _ (HO5.out.trans ho)
            have hyb := (ho.block Yb HGY.out.lt HGY.out.not).trans HYB.out
            exact ⟨cP, by simp [World.cell?, hfd], by simp [World.cell?, hyb], by simp [World.cell?, hyb], by simp [World.cell?, hyb]⟩
          have HS9 := Lib.hid hS9
          clear hS9 hd5 hB6 hg6
          unfold stV at hput
          refine wpIn_region_Z (fun w' => w'.cell? ⟨P, 0, none⟩ = some (.pointer (some ⟨Fd, 0, none⟩)) ∧ w'.cell? ⟨Fd, 1, none⟩ = some (.map (some (P + 4))) ∧ w'.cell? ⟨Yb, 0, none⟩ = some (.int .i64 s.f) ∧ w'.cell? ⟨Yb, 1, none⟩ = some (.int .i64 s.l) ∧ w'.cell? ⟨Yb, 2, none⟩ = some (.int .i64 s.t)) 7 (by kernel_rfl) ?_
          refine wpAnyZIn_take (i := 0) (v := ?_) rfl (by kernel_rfl) (by kernel_rfl) (by kernel_rfl) (by kernel_rfl) (by kernel_rfl) (by kernel_rfl) (fun _ _ _ h => h) (yieldsZ_of (fun _ h => (by cases h)) (by rfl) ?_) (HS9.out _ HO5d.out) ?_
          rotate_left
          · (intro w' hw'; obtain ⟨h1, h2, h3, h4, h5⟩ := hw'; go_simp; (try with_reducible rfl))
          (try simp only [Act.put, List.setIfInBounds_toArray, List.set_cons_zero, List.set_cons_succ])
          refine wpAnyZIn_take (i := 1) (v := ?_) rfl (by kernel_rfl) (by kernel_rfl) (by kernel_rfl) (by kernel_rfl) (by kernel_rfl) (by kernel_rfl) (fun _ _ _ h => h) (yieldsZ_of (fun _ h => (by cases h)) (by rfl) ?_) (HS9.out _ HO5d.out) ?_
          rotate_left
          · (intro w' hw'; obtain ⟨h1, h2, h3, h4, h5⟩ := hw'; go_simp; (try with_reducible rfl))
          (try simp only [Act.put, List.setIfInBounds_toArray, List.set_cons_zero, List.set_cons_succ])
          refine wpAnyZIn_take (i := 2) (v := ?_) rfl (by kernel_rfl) (by kernel_rfl) (by kernel_rfl) (by kernel_rfl) (by kernel_rfl) (by kernel_rfl) (fun _ _ _ h => h) (yieldsZ_of (fun _ h => (by cases h)) (by rfl) ?_) (HS9.out _ HO5d.out) ?_
          rotate_left
          · (intro w' hw'; obtain ⟨h1, h2, h3, h4, h5⟩ := hw'; go_simp; (try with_reducible rfl))
          (try simp only [Act.put, List.setIfInBounds_toArray, List.set_cons_zero, List.set_cons_succ])
          refine wpAnyZIn_take (i := 3) (v := ?_) rfl (by kernel_rfl) (by kernel_rfl) (by kernel_rfl) (by kernel_rfl) (by kernel_rfl) (by kernel_rfl) (fun _ _ _ h => h) (yieldsZ_of (fun _ h => (by cases h)) (by rfl) ?_) (HS9.out _ HO5d.out) ?_
          rotate_left
          · (intro w' hw'; obtain ⟨h1, h2, h3, h4, h5⟩ := hw'; go_simp; (try with_reducible rfl))
          (try simp only [Act.put, List.setIfInBounds_toArray, List.set_cons_zero, List.set_cons_succ])
          refine wpAnyZIn_take (i := 4) (v := ?_) rfl (by kernel_rfl) (by kernel_rfl) (by kernel_rfl) (by kernel_rfl) (by kernel_rfl) (by kernel_rfl) (fun _ _ _ h => h) (yieldsZ_of (fun _ h => (by cases h)) (by rfl) ?_) (HS9.out _ HO5d.out) ?_
          rotate_left
          · (intro w' hw'; obtain ⟨h1, h2, h3, h4, h5⟩ := hw'; go_simp; (try with_reducible rfl))
          (try simp only [Act.put, List.setIfInBounds_toArray, List.set_cons_zero, List.set_cons_succ])
          refine wpAnyZIn_take (i := 5) (v := ?_) rfl (by kernel_rfl) (by kernel_rfl) (by kernel_rfl) (by kernel_rfl) (by kernel_rfl) (by kernel_rfl) (fun _ _ _ h => h) (yieldsZ_of (fun _ h => (by cases h)) (by rfl) ?_) (HS9.out _ HO5d.out) ?_
          rotate_left
          · (intro w' hw'; obtain ⟨h1, h2, h3, h4, h5⟩ := hw'; go_simp; (try with_reducible rfl))
          (try simp only [Act.put, List.setIfInBounds_toArray, List.set_cons_zero, List.set_cons_succ])
          refine wpAnyZIn_take (i := 6) (v := ?_) rfl (by kernel_rfl) (by kernel_rfl) (by kernel_rfl) (by kernel_rfl) (by kernel_rfl) (by kernel_rfl) (fun _ _ _ h => h) (yieldsZ_of (fun _ h => (by cases h)) (by rfl) ?_) (HS9.out _ HO5d.out) ?_
          rotate_left
          · (intro w' hw'; obtain ⟨h1, h2, h3, h4, h5⟩ := hw'; go_simp; (try with_reducible rfl))
          (try simp only [Act.put, List.setIfInBounds_toArray, List.set_cons_zero, List.set_cons_succ])
          refine wpAnyZIn_one (i := 7) rfl (by kernel_rfl) rfl (fun K hK => ?_)
          go_simp
          refine hK.out _ _ (.inl rfl) ?_
          clear hK K
          refine wpAnyZIn_done (by kernel_rfl) (noPanic_normal ?_) _
          clear hput
          obtain ⟨-, cX, -, -, cDn, -, -⟩ := HKK.out _ (HO5.out.trans HO6.out)
          obtain ⟨-, -, -, -, cY⟩ := HS9.out _ HO6.out
          gi_wp2
          refine ⟨trivial, ?_⟩
          refine (show CallsIn (Fence.wide.inRound l') _ _ _ _ _ (FbPost _ _) from callsIn_wide.2 (is_ n s.t X W6 cX)).mono ?_
          rintro e w7 ⟨rfl, rfl⟩
          clear cX cDn
          cases hdn : (s.t == n) with
          | true =>
            obtain ⟨hc7, hb7, ho7⟩ := HC6.out.setR s.t
            obtain ⟨r0, hr0⟩ := HC6.out.res
            have cR := hr0.cell
            have fR := hr0.frozen
            have HOF := Lib.hid (HO6.out.trans ho7)
            have HPP : Hid (KeepsFrom w3.heap.size W' (w7.setCell ⟨P + 3, 0, none⟩ (.int .i64 s.t)) ∧ KpO w0.heap.size [w3.heap.size + 1, P + 4, P + 3] [P + 1] W' (w7.setCell ⟨P + 3, 0, none⟩ (.int .i64 s.t)) ∧ Code.ret = Code.ret ∧ (∃ r D left v, Hid (FnC w0.heap.size (P + 1) (P + 4) (P + 3) D left v (w7.setCell ⟨P + 3, 0, none⟩ (.int .i64 s.t))) ∧ Hid (Boxed (w7.setCell ⟨P + 3, 0, none⟩ (.int .i64 s.t)) (P + 3) 3 (.int .i64 r)) ∧ Hid (FndS a fr (fun k => k == n) r D)) ∧ Hid (Off w0.heap.size [P + 4, P + 3] [P + 1] w3 (w7.setCell ⟨P + 3, 0, none⟩ (.int .i64 s.t)))) :=
              ⟨HOF.out.keeps HC1.out.sane (fun k hk => by simp at hk; omega) (fun k hk => by rw [List.mem_singleton.1 hk]; exact hQ3), fun hs => HOF.out.cons (by have := HLO.out.size; have := HO3.out.size; omega) (hs.bad _ (.inl (List.mem_cons_self ..))).2, rfl, ⟨s.t, (D' ++ [(s.t, s)]), l1, v', hc7, hb7, FndS.yes HF.out HMM.out HSA.out HSX.out HNM.out hdn⟩, HO1.out.trans HOF.out⟩
            clear hc7 hb7 ho7 hr0 hdn
            gi_wp2
            exact ⟨HPP.out.1, HPP.out.2.1, rfl, HPP.out.2.2.2⟩
          | false =>
            obtain ⟨q0A, q0c, rfl, hq0, hq1⟩ := HC6.out.q.form
            have cQ := HC6.out.box.cell
            have hal : Below w7.heap.size w7 (w7.alloc (Obj.cells #[.int .i64 s.t] 3)) := (Below.refl _ _).alloc (Nat.le_refl _) _
            have HC7 := Lib.hid (HC6.out.on hal)
            have hlow : w0.heap.size ≤ (w7.alloc (Obj.cells #[.int .i64 s.t] 3)).heap.size := by have := HC6.out.lQ; have := HC7.out.box.lt; omega
            have hl1 : l1.length ≤ 10000000 := by
              have h1 := HMM.out.few
              have h2 := HGN.out
              omega
            obtain ⟨v3, W8, hrun, hq8, hg8, hat8⟩ := run_append_q (y := s.t) (B := w7.heap.size) 22 HC7.out.q (World.alloc_heap_new w7 _) hl1 hlow
            obtain ⟨hb8, hc8⟩ := HC7.out.app hq8 hg8 hat8
            have ho8 := HC7.out.off hc8 hg8.os hg8.tape hg8.output (Nat.le_trans hg8.size (grownBy_setCell' W8 (P + 1) _).size) (fun k hk _ _ h3 h4 => (Below.heap_setCell _ _ _ _ h3).trans (hg8.block k hk (fun e => h4 e.symm))) (hat8.imp id fun h => fun r hr => by rw [h] at hr; simp at hr; simp; omega)
            obtain ⟨A8, c8, rfl, _, _⟩ := hq8.form
            have cQ8 := hb8.cell
            have fQ8 := hb8.frozen
            have HRUN := Lib.hid hrun
            have HOF := Lib.hid (HO6.out.trans ((Off.of_below HC6.out.sane hal).trans ho8))
            have HPP : Hid (KeepsFrom w3.heap.size W' (W8.setCell ⟨P + 1, 0, none⟩ (.slice A8 (l1 ++ [s.t]).length c8)) ∧ KpO w0.heap.size [w3.heap.size + 1, P + 4, P + 3] [P + 1] W' (W8.setCell ⟨P + 1, 0, none⟩ (.slice A8 (l1 ++ [s.t]).length c8)) ∧ (∃ D left v, Hid (FnC w0.heap.size (P + 1) (P + 4) (P + 3) D left v (W8.setCell ⟨P + 1, 0, none⟩ (.slice A8 (l1 ++ [s.t]).length c8))) ∧ Hid (FnM a fr (fun k => k == n) D left (gn - 1) (some x)) ∧ Hid (∀ y ∈ pre ++ [s], y.t ∈ D.map Prod.fst)) ∧ Hid (Off w0.heap.size [P + 4, P + 3] [P + 1] w3 (W8.setCell ⟨P + 1, 0, none⟩ (.slice A8 (l1 ++ [s.t]).length c8)))) :=
              ⟨HOF.out.keeps HC1.out.sane (fun k hk => by simp at hk; omega) (fun k hk => by rw [List.mem_singleton.1 hk]; exact hQ3), fun hs => HOF.out.cons (by have := HLO.out.size; have := HO3.out.size; omega) (hs.bad _ (.inl (List.mem_cons_self ..))).2, ⟨(D' ++ [(s.t, s)]), l1 ++ [s.t], _, hc8, HMM.out.add HF.out HSA.out HSX.out HNM.out hdn, fun y hy => by
                rw [List.map_append]
                rcases List.mem_append.1 hy with h | h
                · exact List.mem_append_left _ (HPR.out y h)
                · rw [List.mem_singleton.1 h]; exact List.mem_append_right _ (by simp)⟩, HO1.out.trans HOF.out⟩
            clear hrun hq8 hg8 hat8 hb8 hc8 ho8 hal hdn
            generalize (l1 ++ [s.t]).length = n8 at *
            gi_wp2_with (gi_at_builtin; refine wpListIn_appRun rfl (.tmp 54) (.tmp 57) _ _ rfl _ _ _ rfl rfl HRUN.out ?_)
            exact HPP.out
      case done =>
        rintro Dm W' hDm ⟨⟨D', l1, v', h1, h2, h3⟩, h4⟩ hD
        have HMK4 := Lib.hid (HMK3.out.cons h4.out hDm (by have := HO3.out.size; have := HFW.out.size; omega) (h1.out.good_obj hD rfl (by omega)) hD)
        have HM4 : Hid (FnM a fr (fun k => k == n) D' l1 (gn - 1) none) := h2.out.shut fun s hs hx => h3.out s (List.mem_filter.2 ⟨hs, by simpa using hx⟩)
        have HC4 := Lib.hid h1.out
        have HO4 := Lib.hid (HO3.out.trans h4.out)
        have HG4 : Hid (gn - 1 < gn ∧ gn - 1 ≤ a.st.toNat + fr.length) := ⟨by have := HG0.out; omega, by have := HGN.out; omega⟩
        clear h1 h2 h3 h4 hD hDm
        gi_wp2
        exact ⟨gn - 1, HG4.out.1, D', l1, v', _, _, _, FfP.mk rfl, HC4.out, HM4.out, HO4.out, HMK4.out, HG4.out.2⟩
      case stop =>
        rintro Dm c pre W' hDm hpre ⟨rfl, ⟨r, D', l2, v2', h1, h2, h3⟩, h4⟩ hD
        have HMK4 := Lib.hid (HMK3.out.cons h4.out hDm (by have := HO3.out.size; have := HFW.out.size; omega) (h1.out.good_obj hD rfl (by omega)) hD)
        have HO4 := Lib.hid (HO3.out.trans h4.out)
        have HBY := Lib.hid h1.out.by_
        clear h1 h4 hD hDm
        gi_wp2
        exact find_leave a fr n r Fd VA P _ w _ D' _ _ rfl HP.out h2.out HBY.out (HKK.out _ HO4.out).2.2.1 h3.out (HTC.out _ HO4.out) HMK4.out.marks
end Go.Proofs.YtoglgeaiiipchabGreatDoor
