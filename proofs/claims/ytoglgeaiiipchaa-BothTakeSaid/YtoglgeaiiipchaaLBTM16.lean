/- Walks: auto.Reached. -/
import Derived.Test.YtoglgeaiiipchaaLBTM15
import Derived.Sort.LoopGhostIn
set_option linter.unusedSimpArgs false
set_option linter.unusedVariables false
namespace Go.Proofs.Ytoglgeaiiipchaa
open Go Go.RowKit Go.Shelf
attribute [local go_sem] Oper.semAt_some

theorem grown_setR (W : World) (g i : Nat) (v : Value) : W.grownBy (W.setCell ⟨g, i, none⟩ v) (some g) :=
  ⟨rfl, rfl, rfl, by simp [World.setCell], fun k _ hk => Below.heap_setCell _ _ _ _ (fun e => hk (by rw [show k = g from e]))⟩
theorem grown_grownR {a b c : World} {r : Option Nat} (h : a.grownBy b r) (h2 : b.grownBy c r) : a.grownBy c r :=
  ⟨h2.os.trans h.os, h2.tape.trans h.tape, h2.output.trans h.output, Nat.le_trans h.size h2.size, fun k hk hr => (h2.block k (Nat.lt_of_lt_of_le hk h.size) hr).trans (h.block k hk hr)⟩
def RcPost (w : World) (a : Au) (e : Ending) (w' : World) : Prop := ∃ G out, e = .returned (.slice (some ⟨G, 0, none⟩) out.length out.length) ∧ w.heap.size ≤ G ∧ BRow w' G out ∧ RchS a out ∧ Below w.heap.size w w'
set_option maxRecDepth 100000 in
set_option maxHeartbeats 4000000 in
theorem ReachedR_ (a : Au) (A B C : Option Addr) (ca cb cc : Nat) (w : World) (hr : AuRd w 0 a A B C ca cb cc) (ho : AuR a) (hst : a.st ≤ 1000000) (hsl : a.ss.length ≤ 1000000) (hos : ssSorted a.ss) :
    Calls Try.prog 113 #[.agg #[.int .i64 a.st, .int .i64 a.le, .slice A a.fs.length ca, .slice B a.gs.length cb, .slice C a.ss.length cc]] w (RcPost w a) := by
  obtain ⟨N, hN⟩ := Int.eq_ofNat_of_zero_le (show 0 ≤ a.st by have := ho.st1; omega)
  have hN3 : N ≤ 1000000 := by omega
  have HSL := Lib.hid hsl
  have hmk := run_makeBools a.st N hN.symm (by omega)
  have hfl : a.fs.length ≤ N := by have := ho.fs_le; omega
  have HW := auW_is w a A B C ca cb cc
  have HR := Lib.hid hr
  have HO := Lib.hid ho
  have HOS := Lib.hid hos
  have HN := Lib.hid hN
  have HFR := Lib.hid ho.fr
  clear hr ho hos hN hsl hst
  refine (callsIn_wide (n := 9)).1 ?_
  refine callsIn_of_wp_marks Try.func113 rfl trivial ?_
  simp only [Try.ntmps113, List.size_toArray, List.length_cons, List.length_nil, Nat.reduceAdd, Nat.reduceSub, Array.replicate_succ, Array.replicate_zero, List.push_toArray, List.append_toArray, List.nil_append, List.cons_append]
  have hbb : Below w.heap.size w (((auW w a A B C ca cb cc).alloc (Obj.cells (madeCells #[Value.bool false] N) 4)).alloc (Obj.cells #[Value.slice (some ⟨w.heap.size + 1, 0, none⟩) N N] 37)) :=
    (HW.below.alloc (by rw [HW.size]; omega) _).alloc (by simp [HW.size]; omega) _
  have HB1 := Lib.hid hbb
  have HV1 : Hid (AuAt (((auW w a A B C ca cb cc).alloc (Obj.cells (madeCells #[Value.bool false] N) 4)).alloc (Obj.cells #[Value.slice (some ⟨w.heap.size + 1, 0, none⟩) N N] 37)) w.heap.size a A B C ca cb cc) :=
    (HW.at.below ((Below.refl _ _).alloc (Nat.le_refl _) _) (by rw [HW.size]; omega)).below ((Below.refl _ _).alloc (Nat.le_refl _) _) (by simp [HW.size]; omega)
  have HG1 : Hid (BRow (((auW w a A B C ca cb cc).alloc (Obj.cells (madeCells #[Value.bool false] N) 4)).alloc (Obj.cells #[Value.slice (some ⟨w.heap.size + 1, 0, none⟩) N N] 37)) (w.heap.size + 1) (List.replicate N false)) := by
    have h := BRow.new (auW w a A B C ca cb cc) N
    rw [HW.size] at h
    exact h.below ((Below.refl _ _).alloc (Nat.le_refl _) _) (by simp [HW.size])
  have HT1 : Hid (Boxed (((auW w a A B C ca cb cc).alloc (Obj.cells (madeCells #[Value.bool false] N) 4)).alloc (Obj.cells #[Value.slice (some ⟨w.heap.size + 1, 0, none⟩) N N] 37)) (w.heap.size + 1 + 1) 37 (.slice (some ⟨w.heap.size + 1, 0, none⟩) N N)) := by
    have h := Boxed.new ((auW w a A B C ca cb cc).alloc (Obj.cells (madeCells #[Value.bool false] N) 4)) 37 (.slice (some ⟨w.heap.size + 1, 0, none⟩) N N)
    rwa [show ((auW w a A B C ca cb cc).alloc (Obj.cells (madeCells #[Value.bool false] N) 4)).heap.size = w.heap.size + 1 + 1 by simp [HW.size]] at h
  clear hbb HW
  unfold auW at HB1 HV1 HG1 HT1
  gi_wp2
  obtain ⟨K, hK⟩ : ∃ K, K = w.heap.size := ⟨_, rfl⟩
  have HKK := Lib.hid hK
  rw [← hK] at HB1 HV1 HG1 HT1 ⊢
  clear hmk hK
  generalize ((w.alloc (Obj.cells #[.int .i64 a.st, .int .i64 a.le, .slice A a.fs.length ca, .slice B a.gs.length cb, .slice C a.ss.length cc] 49)).alloc (Obj.cells (madeCells #[Value.bool false] N) 4)).alloc (Obj.cells #[Value.slice (some ⟨K + 1, 0, none⟩) N N] 37) = W1 at *
  rw [HKK.out] at HB1
  refine ⟨trivial, ?_⟩
  refine (callsIn_wide.2 (CloneO_ A ca a.fs W1 (HR.out.fs.below HB1.out))).mono ?_
  rintro e w2 ⟨v, rfl, hown, hb2⟩
  obtain ⟨cA, ccap, rfl, hcc, hcc2, -⟩ := own_form hown
  have HF2 : Hid (RcMem w w2.heap.size (K + 1) (K + 1 + 1) N (List.replicate N false) a.fs (.slice cA a.fs.length ccap) (w2.alloc (Obj.cells #[.slice cA a.fs.length ccap] 24))) := by
    have hal : Below w2.heap.size w2 (w2.alloc (Obj.cells #[.slice cA a.fs.length ccap] 24)) := (Below.refl _ _).alloc (Nat.le_refl _) _
    have hbw := Below_on HB1.out hb2 HB1.out.size
    have hs1 := HB1.out.size
    refine ⟨Below_on hbw hal hbw.size, Boxed.new _ _ _, own_below ?_ hal, (HG1.out.below hb2 HG1.out.lt).below hal (Nat.lt_of_lt_of_le HG1.out.lt hb2.size), ((hal.block _ (Nat.lt_of_lt_of_le HT1.out.lt hb2.size)).trans ((hb2.block _ HT1.out.lt).trans HT1.out)), hbw.size, by have := HKK.out; omega⟩
    obtain ⟨h1, h2⟩ := hown
    refine ⟨h1, ?_⟩
    rcases h2 with h2 | ⟨g, cap, cur, hv, hg, hh, r⟩
    · exact .inl h2
    · exact .inr ⟨g, cap, cur, hv, by omega, hh, r⟩
  have HV2 : Hid (AuAt (w2.alloc (Obj.cells #[.slice cA a.fs.length ccap] 24)) K a A B C ca cb cc) := (HV1.out.below hb2 HV1.out.lt).below ((Below.refl _ _).alloc (Nat.le_refl _) _) (Nat.lt_of_lt_of_le HV1.out.lt hb2.size)
  clear hown hb2 HG1 HT1 HV1 HB1
  obtain ⟨F, hF⟩ : ∃ F, F = w2.heap.size := ⟨_, rfl⟩
  gi_wp2
  rw [← hF] at HF2 ⊢
  have HFF := Lib.hid hF
  clear hF
  generalize w2.alloc (Obj.cells #[.slice cA a.fs.length ccap] 24) = W2 at *
  have HINT : Hid (∀ out wr, RcMem w F (K + 1) (K + 1 + 1) N out a.fs (.slice cA a.fs.length ccap) wr → Ints wr 0 cA ccap a.fs) := fun out wr h => by
    obtain ⟨A', c', he, hi⟩ := SlE.of_own (enc := fun n : Int => [Value.int .i64 n]) (bt := 8) h.fr (by omega)
    obtain ⟨rfl, _, rfl⟩ : cA = A' ∧ a.fs.length = a.fs.length ∧ ccap = c' := by simpa using he
    exact SlE.zero hi
  have HVW : Hid (∀ wr, W2.grownBy wr (some (K + 1)) → AuAt wr K a A B C ca cb cc) := fun wr hg => by
    have h := fun o => World.cell?_of_block (w := W2) (w' := wr) (a := ⟨K, o, none⟩) (hg.block K HV2.out.lt (by simp))
    exact ⟨Nat.lt_of_lt_of_le HV2.out.lt hg.size, (h 0).trans HV2.out.c0, (h 1).trans HV2.out.c1, (h 2).trans HV2.out.c2, (h 3).trans HV2.out.c3, (h 4).trans HV2.out.c4⟩
  gi_loopw [6, 18] (fun _ i wr => ∃ k : Nat, k ≤ a.fs.length ∧ i = .int .i64 k ∧ Hid (RcMem w F (K + 1) (K + 1 + 1) N (setAll (a.fs.take k) (List.replicate N false)) a.fs (.slice cA a.fs.length ccap) wr) ∧ Hid (W2.grownBy wr (some (K + 1)))) (fun _ i _ => a.fs.length - (intOf i).toNat)
  case atStart => exact ⟨0, Nat.zero_le _, rfl, HF2.out, World.grownBy.refl _ _⟩
  case round =>
    obtain ⟨k, hk, rfl, HM, HGW⟩ := hrel
    have cT := HM.out.t5.cell
    by_cases hkl : k < a.fs.length
    · have q1 : (k : Int) < (a.fs.length : Int) := by omega
      obtain ⟨b, off, rfl, _, _, y0⟩ := Ints.at_ (HINT.out _ _ HM.out) hkl
      have hfx := HFR.out _ (List.getElem_mem hkl)
      have HST : Hid (setAll (a.fs.take (k + 1)) (List.replicate N false) = (setAll (a.fs.take k) (List.replicate N false)).set (a.fs[k]).toNat true) := by
        show _ = _
        rw [List.take_succ_eq_append_getElem hkl, setAll_snoc]
      obtain ⟨x, hx⟩ : ∃ x, x = a.fs[k] := ⟨_, rfl⟩
      rw [← hx] at y0 hfx HST
      clear hx
      obtain ⟨x, rfl⟩ := Int.eq_ofNat_of_zero_le hfx.1
      rw [Int.toNat_natCast] at HST
      have hxN : (x : Int) < (N : Int) := by have := HN.out; omega
      have hsl : x < (setAll (a.fs.take k) (List.replicate N false)).length := by rw [setAll_len, List.length_replicate]; omega
      obtain ⟨z1, z2⟩ := HM.out.row.getD_ (i := x) hsl false
      have HM2 := Lib.hid (HM.out.mark x)
      have HGW2 := Lib.hid (grown_grownR HGW.out (grown_setR wr (K + 1) x (.bool true)))
      clear hfx hsl
      gi_wp2
      go_roundw
      case rel => exact ⟨k + 1, by omega, by go_num, by show RcMem _ _ _ _ _ _ _ _ _; rw [HST.out]; exact HM2.out, HGW2.out⟩
      case measure => simp [intOf]; omega
    · have q1 : ¬ (k : Int) < (a.fs.length : Int) := by omega
      have hkk : a.fs.take k = a.fs := List.take_of_length_le (by omega)
      rw [hkk] at HM
      have HV3 := Lib.hid (HVW.out _ HGW.out)
      obtain ⟨_, c0, c1, c2, c3, c4⟩ := HV3.out
      clear hkk HVW HINT hk q1
      gi_wp2
      refine ⟨trivial, ?_⟩
      refine (callsIn_wide.2 (From_ a A B C ca cb cc wr)).mono ?_
      rintro e w5 ⟨V, rfl, hVl, hVA, hb5⟩
      have HIN0 : Hid (RcIn a A B C ca cb cc V w F (K + 1) (K + 1 + 1) N (N + a.fs.length) none [] (setAll a.fs (List.replicate N false)) a.fs (.slice cA a.fs.length ccap) w5) :=
        ⟨HM.out.on hb5, RcM.start HO.out N HN.out.symm, MarksO.nil _ _ _ _, hVA, Good.new HM.out.sane1 hb5 hVl hVA.lt⟩
      clear hVl hVA hb5 c0 c1 c2 c3 c4 cT
      gi_wp2
      refine wpIn_loop_ghost (fun n aa W => ∃ u5 u6 u8 u9 u10 u11 u12 u13 u14 u15 u16 u17 u18 u19 u20 u21 u22 u23 u24 u25 u26 u27 u28 u29 u30 u31 u32 u33 u34 u35 u36 u37 u38 u39 u40 u41 u42 u43 u44 u45 u46 u47 u48 u49 u50 u51 u52 u53 u54 u55 u56 u57 u58 u59 u60 u61 ds out left v, aa = { tmps := #[.agg #[.int .i64 a.st, .int .i64 a.le, .slice A a.fs.length ca, .slice B a.gs.length cb, .slice C a.ss.length cc], .pointer (some ⟨K, 0, none⟩), .slice none 0 0, .pointer (some ⟨K + 1 + 1, 0, none⟩), .pointer (some ⟨F, 0, none⟩), u5, u6, .func (.func 84) #[] #[.pointer (some ⟨V, 0, none⟩)], u8, u9, u10, u11, u12, u13, u14, u15, u16, u17, u18, u19, u20, u21, u22, u23, u24, u25, u26, u27, u28, u29, u30, u31, u32, u33, u34, u35, u36, u37, u38, u39, u40, u41, u42, u43, u44, u45, u46, u47, u48, u49, u50, u51, u52, u53, u54, u55, u56, u57, u58, u59, u60, u61], defers := ds } ∧ Hid (RcIn a A B C ca cb cc V w F (K + 1) (K + 1 + 1) N n none ds out left v W)) (N + a.fs.length) ⟨_, _, _, _, _, _, _, _, _, _, _, _, _, _, _, _, _, _, _, _, _, _, _, _, _, _, _, _, _, _, _, _, _, _, _, _, _, _, _, _, _, _, _, _, _, _, _, _, _, _, _, _, _, _, _, _, [], _, _, _, rfl, HIN0.out⟩ ?_
      clear HIN0
      rintro n aa wq ⟨u5, u6, u8, u9, u10, u11, u12, u13, u14, u15, u16, u17, u18, u19, u20, u21, u22, u23, u24, u25, u26, u27, u28, u29, u30, u31, u32, u33, u34, u35, u36, u37, u38, u39, u40, u41, u42, u43, u44, u45, u46, u47, u48, u49, u50, u51, u52, u53, u54, u55, u56, u57, u58, u59, u60, u61, ds, out, left, v, rfl, HIN⟩
      obtain ⟨lA, lc, rfl, hlc, hlc2, -⟩ := own_form HIN.out.mem.fr
      have cF := HIN.out.mem.box.cell
      have fF := HIN.out.mem.box.frozen
      have cT := HIN.out.mem.t5.cell
      rcases List.eq_nil_or_concat left with rfl | ⟨lef, x, hlx⟩
      · gi_wp2
        refine leaves_marks (v := undef) (B := w.heap.size) (I := fun _ W => RcMem w F (K + 1) (K + 1 + 1) N out [] (.slice lA 0 lc) W) (fun _ A' B' rw hs hg hr => hs.own (Nat.le_refl _) hg hr) (fun W hW => ?_) ds wq HIN.out.marks.marks HIN.out.mem
        have hol : out.length = N := by have := HIN.out.met.len; have := HN.out; omega
        exact ⟨_, results_tmp rfl _ _ _, K + 1, out, by rw [hol]; rfl, by have := HKK.out; omega, hW.row, RcM.done HO.out HIN.out.met, hW.below⟩
      · have hlx : left = lef ++ [x] := by rw [hlx]; simp
        subst hlx
        rw [List.length_append, List.length_cons, List.length_nil, Nat.zero_add] at cF hlc HIN
        have hlmax : lef.length + 1 ≤ 10000000 := by
          have h1 := HIN.out.met.few
          rw [List.length_append, List.length_cons, List.length_nil] at h1
          have := HN.out
          omega
        obtain ⟨g, rfl⟩ : ∃ g, lA = some ⟨g, 0, none⟩ := by
          obtain ⟨g, cap, hv⟩ := ownsRow_succ (k := lef.length) (by have := HIN.out.mem.fr; unfold IntOwn at this; rw [List.length_append] at this; exact this)
          simp at hv
          exact ⟨g, hv.1⟩
        have q0 : wq.cell? ⟨g, lef.length, none⟩ = some (.int .i64 x) := by
          have h1 := World.ownsRow.cells HIN.out.mem.fr (g := g) rfl lef.length (.int .i64 x) (by
            rw [List.flatMap_append, List.getElem?_append_right (by rw [flatMap_len (sz := 1) (fun _ => rfl)]; omega), flatMap_len (sz := 1) (fun _ => rfl)]
            simp)
          rwa [Addr_add_off, Nat.zero_add] at h1
        obtain ⟨hp1, hn0, hx0, hx1⟩ := HIN.out.met.pop
        have HINb : Hid (RcIn a A B C ca cb cc V w F (K + 1) (K + 1 + 1) N (n - 1) (some x) ds out lef (.slice (some ⟨g, 0, none⟩) lef.length lc) (wq.setCell ⟨F, 0, none⟩ (.slice (some ⟨g, 0, none⟩) lef.length lc))) := by
          have h1 := HIN.out.mem.set (u := .slice (some ⟨g, 0, none⟩) lef.length lc) (left' := lef) (IntOwn.pop HIN.out.mem.fr)
          have ho : Off w.heap.size [K + 1] [F] wq (wq.setCell ⟨F, 0, none⟩ (.slice (some ⟨g, 0, none⟩) lef.length lc)) :=
            HIN.out.mem.off h1 (fun k hk => by rw [List.mem_singleton.1 hk]; exact ⟨HIN.out.mem.lG, HIN.out.mem.row.lt⟩) (List.mem_singleton.2 rfl) rfl rfl rfl (by simp [World.setCell]) (fun k hk h3 h4 h5 => Below.heap_setCell _ _ _ _ h4) (.inl rfl)
          exact ⟨h1, hp1, HIN.out.marks.off ho, HIN.out.au.off HIN.out.gd ho, HIN.out.gd.off ho⟩
        have HX := Lib.hid (And.intro hx0 hx1)
        clear hp1 hx0 hx1 HIN
        gi_wp2
        clear cF fF cT q0
        generalize wq.setCell ⟨F, 0, none⟩ (.slice (some ⟨g, 0, none⟩) lef.length lc) = W4 at *
        refine ⟨trivial, ?_⟩
        refine (callsIn_wide.2 (next_ a A B C ca cb cc V x W4 HINb.out.au (HR.out.ss.below HINb.out.mem.below) HOS.out HSL.out)).mono ?_
        rintro e w3 ⟨X3, Y3, i3, rfl, hX3, hY3, hS3, hLB3, hb3⟩
        have HIN3 := Lib.hid (HINb.out.on hb3)
        have HS3 := Lib.hid hS3
        have HLB := Lib.hid hLB3
        have HGX : Hid (Good w.heap.size [K + 1] [F] w3 X3) := Good.new HINb.out.mem.sane1 hb3 hX3 hS3.lx
        have HGY : Hid (Good w.heap.size [K + 1] [F] w3 Y3) := Good.new HINb.out.mem.sane1 hb3 hY3 hS3.ly
        clear hX3 hY3 hS3 hLB3 hb3
        gi_wp2
        have nb : ∀ k, Good w.heap.size [K + 1] [F] w3 k → ¬ Bad [w3.heap.size + 1, K + 1] [F] w3 k := fun k hk h => h.of_cons.elim (fun h => by have := hk.lt; omega) hk.not
        have hG3 := HIN3.out.mem.row.lt
        have hF3 := HIN3.out.mem.box.lt
        have hKl := HIN3.out.mem.lG
        have hw3 := HIN3.out.mem.below.size
        have HOFF : Hid (∀ (out : List Bool) (left : List Int) (v : Value) (out' : List Bool) (left' : List Int) (v' : Value) (W W' : World), RcMem w F (K + 1) (K + 1 + 1) N out left v W → RcMem w F (K + 1) (K + 1 + 1) N out' left' v' W' → W'.os = W.os → W'.tape = W.tape → W'.output = W.output → W.heap.size ≤ W'.heap.size →
            (∀ k, k < W.heap.size → k ≠ K + 1 → k ≠ F → v.ownBlock ≠ some k → W'.heap[k]? = W.heap[k]?) → (v'.ownBlock = v.ownBlock ∨ ∀ r, v'.ownBlock = some r → W.heap.size ≤ r) → Off w.heap.size [K + 1] [F] W W') := fun _ _ _ _ _ _ W W' h h' e1 e2 e3 e4 e5 e6 =>
          h.off h' (fun k hk => by rw [List.mem_singleton.1 hk]; exact ⟨h.lG, h.row.lt⟩) (List.mem_singleton.2 rfl) e1 e2 e3 e4 e5 e6
        refine wp_range_own (gf := 88) (lb := #[.pointer (some ⟨V, 0, none⟩), .pointer (some ⟨X3, 0, none⟩), .pointer (some ⟨Y3, 0, none⟩)]) (by omega) rfl (enters_of Try.func88 (by kernel_rfl) rfl)
          (next_givesV a A B C ca cb cc V X3 Y3 i3 x [w3.heap.size + 1, K + 1] [F] w w3 HIN3.out.au (nb _ HIN3.out.gd) HR.out.ss HIN3.out.mem.below HS3.out.x HS3.out.y HS3.out.lx HS3.out.ly (fun k hk => by rw [List.mem_singleton.1 hk]; exact hF3) (nb _ HGX.out) (nb _ HGY.out) HOS.out HSL.out HLB.out 8 (by omega))
          (fun h1 h2 => h1.trans h2) ?kb ?sane (Below.refl _ _) (fun _ => rfl)
          (fun pre W' => ∃ out left v, Hid (RcR a w F (K + 1) (K + 1 + 1) N (n - 1) x w3 out left v pre W'))
          (fun _ _ _ => False)
          ?hI ?hIx ?h0
          (fun s a' W' => ∃ Yb, W'.heap[Yb]? = some (Obj.cells #[.int .i64 s.f, .int .i64 s.l, .int .i64 s.t] 90) ∧
            a' = { tmps := #[.agg #[.int .i64 a.st, .int .i64 a.le, .slice A a.fs.length ca, .slice B a.gs.length cb, .slice C a.ss.length cc], .pointer (some ⟨K, 0, none⟩), .slice none 0 0, .pointer (some ⟨K + 1 + 1, 0, none⟩), .pointer (some ⟨F, 0, none⟩), u5, u6, .func (.func 84) #[] #[.pointer (some ⟨V, 0, none⟩)], .int .i64 x, .pointer (some ⟨Yb, 0, none⟩), u10, u11, u12, u13, u14, u15, u16, u17, u18, u19, u20, u21, u22, u23, u24, u25, u26, u27, .slice (some ⟨g, 0, none⟩) (lef.length + 1) lc, .int .i64 ((lef.length : Int) + 1), .bool true, .slice (some ⟨g, 0, none⟩) (lef.length + 1) lc, .slice (some ⟨g, 0, none⟩) (lef.length + 1) lc, .int .i64 ((lef.length : Int) + 1), .int .i64 (lef.length : Int), .pointer (some ⟨g, lef.length, none⟩), .int .i64 x, .slice (some ⟨g, 0, none⟩) (lef.length + 1) lc, .slice (some ⟨g, 0, none⟩) (lef.length + 1) lc, .int .i64 ((lef.length : Int) + 1), .int .i64 (lef.length : Int), .slice (some ⟨g, 0, none⟩) lef.length lc, .func (.func 84) #[] #[.pointer (some ⟨V, 0, none⟩)], .int .i64 x, .func (.func 88) #[] #[.pointer (some ⟨V, 0, none⟩), .pointer (some ⟨X3, 0, none⟩), .pointer (some ⟨Y3, 0, none⟩)], .agg #[.int .i64 s.f, .int .i64 s.l, .int .i64 s.t], u46, u47, u48, u49, u50, u51, u52, u53, u54, u55, u56, u57, u58, u59, u60, u61], defers := [] })
          ?hAx ?assign ?body ?done ?stop
        case kb =>
          intro W' r r' h hs
          exact Off.put hs (List.mem_cons_self ..) h rfl rfl
        case sane =>
          intro r
          have h1 : Below w3.heap.size w3 ((w3.alloc (.deferred (some []))).alloc (.loop r)) := ((Below.refl _ _).alloc (Nat.le_refl _) _).alloc (by simp) _
          exact (Off.of_below HIN3.out.mem.sane1 h1).sane.cons (by omega) (by simp)
        case hI =>
          rintro pre A' B' rw ⟨out', left', v', h1⟩ hg hrw
          exact ⟨out', left', v', h1.out.mem.own hw3 hg hrw, h1.out.met, h1.out.off.own (fun k hk => by rw [List.mem_singleton.1 hk]; exact hF3) hg hrw, h1.out.pre⟩
        case hIx => exact fun _ s A' B' rw hs _ _ => hs.elim
        case h0 => exact ⟨out, lef, _, HIN3.out.mem, HIN3.out.met, Off.refl HIN3.out.mem.sane1, fun y hy => (by cases hy)⟩
        case hAx =>
          rintro s a' _ A' B' rw ⟨Yb, h0, h1⟩ hg hrw
          refine ⟨Yb, (hg.block Yb (Array.getElem?_eq_some_iff.1 h0).1 fun e => ?_).trans h0, h1⟩
          obtain ⟨_, o', h2, h3⟩ := hrw _ e.symm
          rw [h0] at h2
          rw [← Option.some.inj h2] at h3
          cases h3
        case assign =>
          rintro l' pre s W' KK ⟨out', left', v', HI'⟩ hKK
          have h1 : Below W'.heap.size W' (W'.alloc (Obj.cells #[.int .i64 s.f, .int .i64 s.l, .int .i64 s.t] 90)) := (Below.refl _ _).alloc (Nat.le_refl _) _
          have HP := Lib.hid (hKK { tmps := #[.agg #[.int .i64 a.st, .int .i64 a.le, .slice A a.fs.length ca, .slice B a.gs.length cb, .slice C a.ss.length cc], .pointer (some ⟨K, 0, none⟩), .slice none 0 0, .pointer (some ⟨K + 1 + 1, 0, none⟩), .pointer (some ⟨F, 0, none⟩), u5, u6, .func (.func 84) #[] #[.pointer (some ⟨V, 0, none⟩)], .int .i64 x, .pointer (some ⟨W'.heap.size, 0, none⟩), u10, u11, u12, u13, u14, u15, u16, u17, u18, u19, u20, u21, u22, u23, u24, u25, u26, u27, .slice (some ⟨g, 0, none⟩) (lef.length + 1) lc, .int .i64 ((lef.length : Int) + 1), .bool true, .slice (some ⟨g, 0, none⟩) (lef.length + 1) lc, .slice (some ⟨g, 0, none⟩) (lef.length + 1) lc, .int .i64 ((lef.length : Int) + 1), .int .i64 (lef.length : Int), .pointer (some ⟨g, lef.length, none⟩), .int .i64 x, .slice (some ⟨g, 0, none⟩) (lef.length + 1) lc, .slice (some ⟨g, 0, none⟩) (lef.length + 1) lc, .int .i64 ((lef.length : Int) + 1), .int .i64 (lef.length : Int), .slice (some ⟨g, 0, none⟩) lef.length lc, .func (.func 84) #[] #[.pointer (some ⟨V, 0, none⟩)], .int .i64 x, .func (.func 88) #[] #[.pointer (some ⟨V, 0, none⟩), .pointer (some ⟨X3, 0, none⟩), .pointer (some ⟨Y3, 0, none⟩)], .agg #[.int .i64 s.f, .int .i64 s.l, .int .i64 s.t], u46, u47, u48, u49, u50, u51, u52, u53, u54, u55, u56, u57, u58, u59, u60, u61], defers := [] }
            (W'.alloc (Obj.cells #[.int .i64 s.f, .int .i64 s.l, .int .i64 s.t] 90)) ((KeepsOthers.alloc _ _).from _) (KpO.of_below h1) ⟨out', left', v', HI'.out.mem.on h1, HI'.out.met, HI'.out.off.trans (Off.of_below HI'.out.off.sane h1), HI'.out.pre⟩ ⟨W'.heap.size, World.alloc_heap_new _ _, rfl⟩)
          clear HI' hKK h1
          gi_wp2
          exact HP.out
        case body =>
          rintro l' pre s a' W' hl' hrec ⟨out', left', v', HI'⟩ ⟨Yb, hYb, rfl⟩ hpre
          obtain ⟨lA', lc', rfl, hlc', hlc2', -⟩ := own_form HI'.out.mem.fr
          have hsS : s ∈ stepsFrom a x := hpre.subset (List.mem_append_right _ (List.mem_singleton.2 rfl))
          obtain ⟨hsa, hsx⟩ := List.mem_filter.1 hsS
          have HSA := Lib.hid hsa
          have HSX : Hid (s.f = x) := by show _ = _; simpa using hsx
          have hst := (HO.out.sr s hsa).2.1
          obtain ⟨t, ht⟩ := Int.eq_ofNat_of_zero_le hst.1
          have htN : (t : Int) < (N : Int) := by have := HN.out; omega
          have hol : out'.length = N := by have := HI'.out.met.len; have := HN.out; omega
          obtain ⟨z1, z2⟩ := HI'.out.mem.row.getD_ (i := t) (by omega) false
          have cT := HI'.out.mem.t5.cell
          have HYB := Lib.hid hYb
          have y2 : W'.cell? ⟨Yb, 2, none⟩ = some (.int .i64 (t : Int)) := by rw [← ht]; simp [World.cell?, hYb]
          have HT : Hid (s.t.toNat = t) := by show _ = _; omega
          have HTT := Lib.hid ht
          clear hsS hsa hsx hst hYb hpre hol ht
          cases hk : out'.getD t false with
          | true =>
            rw [hk] at z1
            have HP : Hid (KeepsFrom w3.heap.size W' W' ∧ KpO w.heap.size [w3.heap.size + 1, K + 1] [F] W' W' ∧ ∃ out left v, Hid (RcR a w F (K + 1) (K + 1 + 1) N (n - 1) x w3 out left v (pre ++ [s]) W')) :=
              ⟨KeepsFrom.refl _ _, fun hs => Off.refl hs, out', left', _, HI'.out.mem, HI'.out.met, HI'.out.off, fun y hy => (List.mem_append.1 hy).elim (HI'.out.pre y) fun h => by rw [List.mem_singleton.1 h]; unfold kp; rw [HT.out]; exact hk⟩
            clear hk HI'
            gi_wp2
            exact HP.out
          | false =>
            rw [hk] at z1
            have HNK : Hid (kp out' s.t = false) := by show _ = _; unfold kp; rw [HT.out]; exact hk
            have HII := Lib.hid HI'.out
            have HM2 := Lib.hid (HI'.out.mem.mark t)
            have hYl : Yb < W'.heap.size := (Array.getElem?_eq_some_iff.1 HYB.out).1
            have hYM : Yb ≠ K + 1 := fun e => by
              have h2 : W'.heap[K + 1]? = _ := HI'.out.mem.row
              rw [← e, HYB.out] at h2
              simp at h2
            have hll5 : left'.length ≤ 10000000 := by have := HI'.out.met.few; have := HN.out; omega
            have cF2 := HM2.out.box.cell
            have fF2 := HM2.out.box.frozen
            have y22 : (W'.setCell ⟨K + 1, t, none⟩ (.bool true)).cell? ⟨Yb, 2, none⟩ = some (.int .i64 (t : Int)) := (World.cell?_setCell_other _ ⟨K + 1, t, none⟩ ⟨Yb, 2, none⟩ _ (fun e => hYM (by have := congrArg Addr.block e; simpa using this.symm))).trans y2
            have hsz2 : (W'.setCell ⟨K + 1, t, none⟩ (.bool true)).heap.size = W'.heap.size := by simp [World.setCell]
            have hb5 : Below W'.heap.size (W'.setCell ⟨K + 1, t, none⟩ (.bool true)) ((W'.setCell ⟨K + 1, t, none⟩ (.bool true)).alloc (Obj.cells #[.int .i64 (t : Int)] 3)) := by
              have := (Below.refl (W'.setCell ⟨K + 1, t, none⟩ (.bool true)).heap.size (W'.setCell ⟨K + 1, t, none⟩ (.bool true))).alloc (Nat.le_refl _) (Obj.cells #[.int .i64 (t : Int)] 3)
              rwa [hsz2] at this
            have HM5 := Lib.hid (HM2.out.on (by rw [hsz2]; exact hb5))
            have HB5 : Hid (((W'.setCell ⟨K + 1, t, none⟩ (.bool true)).alloc (Obj.cells #[.int .i64 (t : Int)] 3)).heap[W'.heap.size]? = some (Obj.cells #[.int .i64 (t : Int)] 3)) := by
              have := World.alloc_heap_new (W'.setCell ⟨K + 1, t, none⟩ (.bool true)) (Obj.cells #[.int .i64 (t : Int)] 3)
              rwa [hsz2] at this
            have hlo5 : w.heap.size ≤ ((W'.setCell ⟨K + 1, t, none⟩ (.bool true)).alloc (Obj.cells #[.int .i64 (t : Int)] 3)).heap.size := HM5.out.below.size
            have HG5 : Hid (∀ k, k < W'.heap.size → k ≠ K + 1 → ((W'.setCell ⟨K + 1, t, none⟩ (.bool true)).alloc (Obj.cells #[.int .i64 (t : Int)] 3)).heap[k]? = W'.heap[k]?) := fun k hk hne =>
              (hb5.block k hk).trans (Below.heap_setCell _ _ _ _ hne)
            have hsz5 : ((W'.setCell ⟨K + 1, t, none⟩ (.bool true)).alloc (Obj.cells #[.int .i64 (t : Int)] 3)).heap.size = W'.heap.size + 1 := by simp [World.setCell]
            have HO5 : Hid (((W'.setCell ⟨K + 1, t, none⟩ (.bool true)).alloc (Obj.cells #[.int .i64 (t : Int)] 3)).os = W'.os ∧ ((W'.setCell ⟨K + 1, t, none⟩ (.bool true)).alloc (Obj.cells #[.int .i64 (t : Int)] 3)).tape = W'.tape ∧ ((W'.setCell ⟨K + 1, t, none⟩ (.bool true)).alloc (Obj.cells #[.int .i64 (t : Int)] 3)).output = W'.output) := ⟨rfl, rfl, rfl⟩
            clear hk HI' hYM hb5
            gi_wp2_with (gi_at_builtin; refine wpListIn_app_int (lo := w.heap.size) (v := .slice lA' left'.length lc') (xs := left') (y := (t : Int)) (B := W'.heap.size) rfl (.tmp 56) (.tmp 59) rfl rfl rfl HM5.out.fr HB5.out hll5 hlo5 ?_
                         intro v6 W6 hfr6 hg6 hat6
                         obtain ⟨g6, c6, rfl⟩ := ownsRow_succ (k := left'.length) (by have := hfr6; unfold IntOwn at this; rw [List.length_append] at this; exact this)
                         obtain ⟨hbx6, hm6⟩ := HM5.out.app hfr6 hg6
                         have cF6 := hbx6.cell
                         have fF6 := hbx6.frozen
                         have HP : Hid (KeepsFrom w3.heap.size W' (W6.setCell ⟨F, 0, none⟩ (.slice (some ⟨g6, 0, none⟩) (left'.length + 1) c6)) ∧ KpO w.heap.size [w3.heap.size + 1, K + 1] [F] W' (W6.setCell ⟨F, 0, none⟩ (.slice (some ⟨g6, 0, none⟩) (left'.length + 1) c6)) ∧ ∃ out left v, Hid (RcR a w F (K + 1) (K + 1 + 1) N (n - 1) x w3 out left v (pre ++ [s]) (W6.setCell ⟨F, 0, none⟩ (.slice (some ⟨g6, 0, none⟩) (left'.length + 1) c6)))) := by
                           have hO := HOFF.out _ _ _ _ _ _ _ _ HII.out.mem hm6 (hg6.os.trans HO5.out.1) (hg6.tape.trans HO5.out.2.1) (hg6.output.trans HO5.out.2.2) (Nat.le_trans (by rw [hsz5]; omega) (Nat.le_trans hg6.size (grownBy_setCell' W6 F _).size))
                             (fun k hk h3 h4 h5 => (Below.heap_setCell _ _ _ _ h4).trans ((hg6.block k (by rw [hsz5]; omega) (fun e => h5 e.symm)).trans (HG5.out k hk h3))) (hat6.imp id fun h => fun r hr => by rw [h, hsz5] at hr; simp at hr; omega)
                           have hma := HII.out.met.add HO.out HSA.out HSX.out HNK.out
                           rw [HT.out, HTT.out] at hma
                           have hol : t < out'.length := by have := HII.out.met.len; have := HN.out; omega
                           exact ⟨hO.keeps HII.out.off.sane (fun k hk => by rw [List.mem_singleton.1 hk]; exact hG3) (fun k hk => by rw [List.mem_singleton.1 hk]; exact hF3), fun hs => hO.cons (by omega) (hs.bad _ (.inl (List.mem_cons_self ..))).2,
                             _, _, _, hm6, hma, HII.out.off.trans hO, fun y hy => (List.mem_append.1 hy).elim (fun h => kp_keep (HII.out.pre y h)) (fun h => by rw [List.mem_singleton.1 h]; exact kp_hit HT.out hol)⟩
                         clear hbx6 hm6 hfr6 hg6 hat6)
            exact HP.out
        case done =>
          rintro Dm W' hDm ⟨out', left', v', HI'⟩ hD
          have HINE : Hid (RcIn a A B C ca cb cc V w F (K + 1) (K + 1 + 1) N (n - 1) none ({ target := .collected Dm, args := #[] } :: ds) out' left' v' W') := by
            refine ⟨HI'.out.mem, HI'.out.met.shut fun s hs hsx => HI'.out.pre s (List.mem_filter.2 ⟨hs, by simpa using hsx⟩), ?_, HIN3.out.au.off HIN3.out.gd HI'.out.off, HIN3.out.gd.off HI'.out.off⟩
            obtain ⟨Ds, rfl, h2, h3⟩ := HIN3.out.marks
            refine ⟨Dm :: Ds, rfl, List.nodup_cons.2 ⟨fun hm => ?_, h2⟩, fun D' hm => ?_⟩
            · have := (h3 Dm hm).2.1.lt
              omega
            · rcases List.mem_cons.1 hm with rfl | hm
              · refine ⟨by omega, ⟨(Array.getElem?_eq_some_iff.1 hD).1, fun hb => ?_⟩, hD⟩
                rcases (bad_box HI'.out.mem.box).1 hb with h4 | h4 | h4
                · have := List.mem_singleton.1 h4
                  omega
                · omega
                · obtain ⟨ob, h5, h6⟩ := own_cells HI'.out.mem.fr h4
                  rw [hD] at h5
                  rw [← Option.some.inj h5] at h6
                  cases h6
              · obtain ⟨a1, a2, a3⟩ := h3 D' hm
                exact ⟨a1, a2.off HI'.out.off, (HI'.out.off.block D' a2.lt a2.not).trans a3⟩
          clear HI'
          gi_wp2
          exact ⟨n - 1, by omega, _, _, _, _, _, _, _, _, _, _, _, _, _, _, _, _, _, _, _, _, _, _, _, _, _, _, _, _, _, _, _, _, _, _, _, _, _, _, _, _, _, _, _, _, _, _, _, _, _, _, _, _, _, _, _, _, _, out', left', v', rfl, HINE.out⟩
        case stop => exact fun _ _ _ _ _ _ h => h.elim
theorem Reached_ (a : Au) (A B C : Option Addr) (ca cb cc : Nat) (w : World) (hr : AuRd w 0 a A B C ca cb cc) (ho : AuOK a) (hos : ssSorted a.ss) :
    Calls Try.prog 113 #[.agg #[.int .i64 a.st, .int .i64 a.le, .slice A a.fs.length ca, .slice B a.gs.length cb, .slice C a.ss.length cc]] w (RcPost w a) :=
  ReachedR_ a A B C ca cb cc w hr ho.rng (Int.le_trans ho.st2 (by decide)) (Nat.le_trans ho.sl (by decide)) hos
end Go.Proofs.Ytoglgeaiiipchaa
