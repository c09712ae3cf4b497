/- Walks: walker.all: the spots that some lead to, by one step at least. -/
import Derived.Test.YtoglgeaiiipchaaAl
import Derived.Sort.LoopGhostIn
namespace Go.Proofs.Ytoglgeaiiipchaa
open Go Go.RowKit Go.Maps Go.Shelf
attribute [local go_sem] Oper.semAt_some

theorem zeroInt (w : World) : (zeroValue 3).run Try.prog w = .ok (.int .i64 0) w := by kernel_rfl
def AllPost (a : Au) (row : List Int) (back : Nat) (w : World) (fv : Value) (fr : List (Int × Nat)) (e : Ending) (w' : World) : Prop :=
  ∃ M L, e = .returned (.map (some M)) ∧ w.heap.size ≤ M ∧ MapAt w' M L ∧ (∀ y ∈ L, SpOk a row y) ∧ L.Nodup ∧ (∀ y, y ∈ L ↔ ∃ x ∈ fr, Plus (SpE a row back) x y) ∧ w.grownBy w' fv.ownBlock ∧ ∀ r n S, RowIn w r n S → (∀ y ∈ L, S y) → RowIn w' r n S
/-- the marks of loops that have ended, among what no round turns -/
def MarksG (lo M F : Nat) (W : World) (ds : List Deferred) : Prop := ∃ Ds : List Nat, ds = Ds.map (fun D => { target := .collected D, args := #[] }) ∧ Ds.Nodup ∧ ∀ D ∈ Ds, F + 1 + 1 + 1 ≤ D ∧ Good lo [M] [F] W D ∧ W.heap[D]? = some (.deferred (some []))
theorem MarksG.nil (lo M F : Nat) (W : World) : MarksG lo M F W [] := ⟨[], rfl, .nil, fun D h => by cases h⟩
theorem MarksG.off {lo M F : Nat} {W W' : World} {ds : List Deferred} (h : MarksG lo M F W ds) (ho : Off lo [M] [F] W W') : MarksG lo M F W' ds := by
  obtain ⟨Ds, h1, h2, h3⟩ := h
  exact ⟨Ds, h1, h2, fun D hD => by obtain ⟨a1, a2, a3⟩ := h3 D hD; exact ⟨a1, a2.off ho, (ho.block D a2.lt a2.not).trans a3⟩⟩
theorem MarksG.marks {lo M F : Nat} {W : World} {ds : List Deferred} (h : MarksG lo M F W ds) : Marks (F + 1 + 1 + 1) W ds := by
  obtain ⟨Ds, h1, h2, h3⟩ := h
  exact ⟨Ds, h1, h2, fun D hD => ⟨(h3 D hD).1, (h3 D hD).2.2⟩⟩
/-- what stands at the head of a round -/
structure AlIn (a : Au) (row : List Int) (back : Nat) (w0 w : World) (fv : Value) (fr : List (Int × Nat)) (F M T n : Nat) (op : Option (Int × Nat)) (ds : List Deferred) (L left : List (Int × Nat)) (v : Value) (W : World) : Prop where
  mem : AlMem w0.heap.size w fv F M T L left v W
  met : Met a row back fr L left n op
  marks : MarksG w0.heap.size M F W ds
/-- what stands between two rounds over the steps from x, that began in w3 -/
structure AlR (a : Au) (row : List Int) (back : Nat) (w0 w : World) (fv : Value) (fr : List (Int × Nat)) (F M T n : Nat) (x : Int × Nat) (w3 : World) (L left : List (Int × Nat)) (v : Value) (pre : List (Int × Nat)) (W : World) : Prop where
  mem : AlMem w0.heap.size w fv F M T L left v W
  met : Met a row back fr L left n (some x)
  off : Off w0.heap.size [M] [F] w3 W
  pre : ∀ y ∈ pre, y ∈ L
  hx : x ∈ fr ∨ x ∈ L
set_option maxRecDepth 100000 in
set_option maxHeartbeats 4000000 in
theorem all_ (a : Au) (A B C D : Option Addr) (ca cb cc cr K V back : Nat) (row : List Int) (fv : Value) (fr : List (Int × Nat)) (w0 w : World) (hK : WkAt w0 K V a A B C ca cb cc row D cr back) (hb0 : Below w0.heap.size w0 w)
    (hfr : FromIs w w0.heap.size fv fr) (hsp : ∀ y ∈ fr, SpOk a row y) (ho : AuOK a) (hos : ssSorted a.ss) (hr : row.length ≤ 8000) (hb : back < row.length) (hfl : fr.length ≤ 1000) :
    Calls Try.prog 50 #[.pointer (some ⟨K, 0, none⟩), fv] w (AllPost a row back w fv fr) := by
  obtain ⟨fA, fc, rfl, hfc⟩ : ∃ A c, fv = .slice A fr.length c ∧ fr.length ≤ c := by
    obtain ⟨A', c, h1, h2, _⟩ := own_form hfr
    exact ⟨A', c, h1, h2⟩
  have hmm := @run_makeMap Try.prog
  have HK := Lib.hid hK
  have HFR := Lib.hid hfr
  have HSP := Lib.hid hsp
  have HO := Lib.hid ho
  have HOS := Lib.hid hos
  have HB0 := Lib.hid hb0
  have hlow := hb0.size
  clear hK hfr hsp hos hb0
  refine (callsIn_wide (n := 9)).1 ?_
  refine callsIn_of_wp_marks Try.func50 rfl trivial ?_
  simp only [Try.ntmps50, List.size_toArray, List.length_cons, List.length_nil, Nat.reduceAdd, Nat.reduceSub, Array.replicate_succ, Array.replicate_zero, List.push_toArray, List.append_toArray, List.nil_append, List.cons_append]
  gi_wp2
  obtain ⟨F, hF⟩ : ∃ F, F = w.heap.size := ⟨_, rfl⟩
  have HIN0 : Hid (AlIn a row back w0 w (.slice fA fr.length fc) fr F (F + 1) (F + 1 + 1) (2 * spMax a row + fr.length) none [] [] fr (.slice fA fr.length fc) (((w.alloc (Obj.cells #[.slice fA fr.length fc] 83)).alloc (Obj.map #[] 0)).alloc (Obj.cells #[.map (some (w.heap.size + 1))] 86))) := by
    subst hF
    refine ⟨⟨?_, ?_, ?_, .inl rfl, ?_, ?_, ?_⟩, Met.start _ _ _ _, MarksG.nil _ _ _ _⟩
    · exact ⟨rfl, rfl, rfl, by simp; omega, fun k hk _ => by
        rw [Below.heap_alloc _ _ _ (by simp; omega), Below.heap_alloc _ _ _ (by simp; omega), Below.heap_alloc _ _ _ hk]⟩
    · exact ((Boxed.new w _ _).alloc _).alloc _
    · exact own_below HFR.out ((((Below.refl _ _).alloc (Nat.le_refl _) _).alloc (by simp) _).alloc (by simp; omega) _)
    · have := MapAt.made (w.alloc (Obj.cells #[.slice fA fr.length fc] 83))
      rw [World.size_alloc] at this
      exact World.ownsMap.alloc this _
    · have := Boxed.new ((w.alloc (Obj.cells #[.slice fA fr.length fc] 83)).alloc (Obj.map #[] 0)) 86 (.map (some (w.heap.size + 1)))
      simpa using this
    · intro r n S h1 _
      exact h1.heap (by rw [Below.heap_alloc _ _ _ (by have := h1.lt; simp; omega), Below.heap_alloc _ _ _ (by have := h1.lt; simp; omega), Below.heap_alloc _ _ _ h1.lt])
  rw [← hF] at HIN0 ⊢
  have HFF := Lib.hid hF
  clear hmm
  generalize ((w.alloc (Obj.cells #[.slice fA fr.length fc] 83)).alloc (Obj.map #[] 0)).alloc (Obj.cells #[.map (some (F + 1))] 86) = W1 at *
  refine wpIn_loop_ghost (fun n aa W => ∃ u6 u7 u9 u10 u11 u12 u13 u14 u15 u16 u17 u18 u19 u20 u21 u22 u23 u24 u25 u26 u27 u28 u29 u30 u31 u32 u33 u34 u35 u36 ds L left v, aa = { tmps := #[.pointer (some ⟨K, 0, none⟩), .slice fA fr.length fc, undef, .pointer (some ⟨F, 0, none⟩), .map none, .pointer (some ⟨F + 1 + 1, 0, none⟩), u6, u7, .map (some (F + 1)), u9, u10, u11, u12, u13, u14, u15, u16, u17, u18, u19, u20, u21, u22, u23, u24, u25, u26, u27, u28, u29, u30, u31, u32, u33, u34, u35, u36, undef], defers := ds } ∧ Hid (AlIn a row back w0 w (.slice fA fr.length fc) fr F (F + 1) (F + 1 + 1) n none ds L left v W)) (2 * spMax a row + fr.length) ⟨undef, undef, undef, undef, undef, undef, undef, undef, undef, undef, undef, undef, undef, undef, undef, undef, undef, undef, undef, undef, undef, undef, undef, undef, undef, undef, undef, undef, undef, undef, [], [], fr, _, rfl, HIN0.out⟩ ?_
  rintro n aa wr ⟨u6, u7, u9, u10, u11, u12, u13, u14, u15, u16, u17, u18, u19, u20, u21, u22, u23, u24, u25, u26, u27, u28, u29, u30, u31, u32, u33, u34, u35, u36, ds, L, left, v, rfl, HIN⟩
  clear hF HIN0
  obtain ⟨lA, lc, rfl, hlc⟩ : ∃ A c, v = .slice A left.length c ∧ left.length ≤ c := by
    obtain ⟨A', c, h1, h2, _⟩ := own_form HIN.out.mem.fr
    exact ⟨A', c, h1, h2⟩
  have cF := HIN.out.mem.box.cell
  have fF := HIN.out.mem.box.frozen
  have cT := HIN.out.mem.t5.cell
  rcases List.eq_nil_or_concat left with rfl | ⟨lef, x, hlx⟩
  · gi_wp2
    refine leaves_marks (v := undef) (B := F + 1 + 1 + 1) (I := fun _ W => AlMem w0.heap.size w (.slice fA fr.length fc) F (F + 1) (F + 1 + 1) L [] (.slice lA 0 lc) W) (fun _ A' B' rw hs hg hr => hs.own (n := F + 1 + 1 + 1) (by omega) (by have := HFF.out; omega) hg hr) (fun W hW => ?_) ds wr HIN.out.marks.marks HIN.out.mem
    exact ⟨_, results_tmp rfl _ _ _, F + 1, L, rfl, by have := HFF.out; omega, hW.map, HIN.out.met.ok, HIN.out.met.nd, HIN.out.met.done, hW.grown, hW.row⟩
  · have hlx : left = lef ++ [x] := by rw [hlx]; simp
    subst hlx
    rw [List.length_append, List.length_cons, List.length_nil, Nat.zero_add] at cF hlc HIN
    have hlmax : lef.length + 1 ≤ 10000000 := by
      have h1 := HIN.out.met.len
      have h2 := spot_bound HIN.out.met.nd HIN.out.met.ok
      have h3 := HO.out.st2
      have h4 : spMax a row ≤ 300 * 8000 := Nat.mul_le_mul (by omega) hr
      rw [List.length_append, List.length_cons, List.length_nil] at h1
      omega
    obtain ⟨g, rfl⟩ : ∃ g, lA = some ⟨g, 0, none⟩ := by
      obtain ⟨g, cap, hv⟩ := ownsRow_succ (k := lef.length) (by have := HIN.out.mem.fr; unfold FromIs at this; rw [List.length_append] at this; exact this)
      simp at hv
      exact ⟨g, hv.1⟩
    have hgx : wr.cell? ⟨g, lef.length * 2, none⟩ = some (.int .i64 x.1) ∧ wr.cell? ⟨g, lef.length * 2 + 1, none⟩ = some (.int .i64 (x.2 : Int)) := by
      have h1 := World.ownsRow.cells HIN.out.mem.fr (g := g) rfl
      have h2 := fun i u hu => flatMap_get spC_len (lef ++ [x]) lef.length (by simp) i u (by rw [List.getElem_append_right (Nat.le_refl _)]; simp; exact hu)
      exact ⟨by have := h1 _ _ (h2 0 _ rfl); rwa [Addr_add_off, Nat.zero_add] at this, by have := h1 _ _ (h2 1 _ rfl); rwa [Addr_add_off, Nat.zero_add] at this⟩
    obtain ⟨q0, q1⟩ := hgx
    obtain ⟨xq, xp⟩ := x
    simp only at q0 q1
    have hba : Below wr.heap.size wr (wr.alloc (Obj.cells #[.int .i64 xq, .int .i64 (xp : Int)] 85)) := (Below.refl _ _).alloc (Nat.le_refl _) _
    have hFl : F < wr.heap.size := HIN.out.mem.box.lt
    have cFa : (wr.alloc (Obj.cells #[.int .i64 xq, .int .i64 (xp : Int)] 85)).cell? ⟨F, 0, none⟩ = some (.slice (some ⟨g, 0, none⟩) (lef.length + 1) lc) := (hba.cell (p := ⟨F, 0, none⟩) hFl).trans cF
    have fFa : (wr.alloc (Obj.cells #[.int .i64 xq, .int .i64 (xp : Int)] 85)).frozen? ⟨F, 0, none⟩ = false := (hba.frozen (p := ⟨F, 0, none⟩) hFl).trans fF
    have hFF := HFF.out
    have HINb : Hid (AlIn a row back w0 w (.slice fA fr.length fc) fr F (F + 1) (F + 1 + 1) (n - 1) (some (xq, xp)) ds L lef (.slice (some ⟨g, 0, none⟩) lef.length lc) ((wr.setCell ⟨F, 0, none⟩ (.slice (some ⟨g, 0, none⟩) lef.length lc)).alloc (Obj.cells #[.int .i64 xq, .int .i64 (xp : Int)] 85))) := by
      have h1 := HIN.out.mem.set (u := .slice (some ⟨g, 0, none⟩) lef.length lc) (left' := lef) (by omega) (by omega) (by omega) (FromIs.pop HIN.out.mem.fr) rfl
      have h2 := h1.below (W' := (wr.setCell ⟨F, 0, none⟩ (.slice (some ⟨g, 0, none⟩) lef.length lc)).alloc (Obj.cells #[.int .i64 xq, .int .i64 (xp : Int)] 85)) ((Below.refl _ _).alloc (Nat.le_refl _) _)
      refine ⟨h2, HIN.out.met.pop.1, HIN.out.marks.off ?_⟩
      refine HIN.out.mem.off h2 (by omega) (fun k hk => by rw [List.mem_singleton.1 hk]; have := HIN.out.mem.map.lt; omega) (List.mem_singleton.2 rfl) rfl rfl rfl (by simp [World.setCell]) (fun k hk h3 h4 h5 => ?_) (.inl rfl)
      rw [Below.heap_alloc _ _ _ (by simp [World.setCell]; exact hk)]
      exact Below.heap_setCell _ _ _ _ h4
    have hn0 : 0 < n := HIN.out.met.pop.2
    have hxb : (xq, xp) ∈ fr ∨ (xq, xp) ∈ L := HIN.out.met.lok _ (by simp)
    have HXB := Lib.hid hxb
    have HB01 : Hid (((wr.setCell ⟨F, 0, none⟩ (.slice (some ⟨g, 0, none⟩) lef.length lc)).alloc (Obj.cells #[.int .i64 xq, .int .i64 (xp : Int)] 85)).heap[wr.heap.size]? = some (Obj.cells #[.int .i64 xq, .int .i64 (xp : Int)] 85)) := by
      have := World.alloc_heap_new (wr.setCell ⟨F, 0, none⟩ (.slice (some ⟨g, 0, none⟩) lef.length lc)) (Obj.cells #[.int .i64 xq, .int .i64 (xp : Int)] 85)
      rwa [show (wr.setCell ⟨F, 0, none⟩ (.slice (some ⟨g, 0, none⟩) lef.length lc)).heap.size = wr.heap.size by simp [World.setCell]] at this
    clear hxb HIN hFF
    gi_wp2
    obtain ⟨Xb, hXb⟩ : ∃ X, X = wr.heap.size := ⟨_, rfl⟩
    rw [← hXb] at HB01 ⊢
    clear cF fF cT q0 q1 hba hFl cFa fFa hXb
    generalize (wr.setCell ⟨F, 0, none⟩ (.slice (some ⟨g, 0, none⟩) lef.length lc)).alloc (Obj.cells #[.int .i64 xq, .int .i64 (xp : Int)] 85) = W2 at *
    refine ⟨trivial, ?_⟩
    have HBL : Hid (∀ L left v W, AlMem w0.heap.size w (.slice fA fr.length fc) F (F + 1) (F + 1 + 1) L left v W → Below w0.heap.size w0 W) := fun L left v W h =>
      HB0.out.grown h.grown hlow (fun k hk => (HFR.out.lt k hk).1)
    have HXO : Hid (SpOk a row (xq, xp)) := HXB.out.elim (HSP.out _) (HINb.out.met.ok _)
    have hlF : w0.heap.size ≤ F := by have := HFF.out; omega
    have HSAN : Hid (∀ L left v W, AlMem w0.heap.size w (.slice fA fr.length fc) F (F + 1) (F + 1 + 1) L left v W → Sane w0.heap.size [F + 1] [F] W) := fun L left v W h =>
      sane_box h.box h.fr hlF fun k hk => by rw [List.mem_singleton.1 hk]; have := h.map.lt; omega
    refine (callsIn_wide.2 (steps_ a A B C D ca cb cc cr K V back row xq xp W2 (HK.out.below (HBL.out _ _ _ _ HINb.out.mem)) HXO.out.2.2 hr)).mono ?_
    rintro e w3 ⟨X3, Y3, Z3, rfl, hX3, hY3, hZ3, hS3, hb3⟩
    have hO3 : Off w0.heap.size [F + 1] [F] W2 w3 := Off.of_below (HSAN.out _ _ _ _ HINb.out.mem) hb3
    have HIN3 : Hid (AlIn a row back w0 w (.slice fA fr.length fc) fr F (F + 1) (F + 1 + 1) (n - 1) (some (xq, xp)) ds L lef (.slice (some ⟨g, 0, none⟩) lef.length lc) w3) := ⟨HINb.out.mem.below hb3, HINb.out.met, HINb.out.marks.off hO3⟩
    have HS3 := Lib.hid hS3
    have HGX : Hid (Good w0.heap.size [F + 1] [F] w3 X3) := Good.new (HSAN.out _ _ _ _ HINb.out.mem) hb3 hX3 hS3.lx
    have HGY : Hid (Good w0.heap.size [F + 1] [F] w3 Y3) := Good.new (HSAN.out _ _ _ _ HINb.out.mem) hb3 hY3 hS3.ly
    have HGZ : Hid (Good w0.heap.size [F + 1] [F] w3 Z3) := Good.new (HSAN.out _ _ _ _ HINb.out.mem) hb3 hZ3 hS3.lz
    clear hX3 hY3 hZ3 hS3 hb3 hO3 HB01
    gi_wp2
    have hM3 := HIN3.out.mem.map.lt
    have hT3 := HIN3.out.mem.t5.lt
    have nb : ∀ k, Good w0.heap.size [F + 1] [F] w3 k → ¬ Bad [w3.heap.size + 1, F + 1] [F] w3 k := fun k hk h => h.of_cons.elim (fun h => by have := hk.lt; omega) hk.not
    refine wp_range_own (gf := 106) (lb := #[.pointer (some ⟨X3, 0, none⟩), .pointer (some ⟨Y3, 0, none⟩), .pointer (some ⟨Z3, 0, none⟩)]) (by omega) rfl (enters_of Try.func106 (by kernel_rfl) rfl)
      (steps_gives a A B C D ca cb cc cr K V X3 Y3 Z3 back row xq xp _ [w3.heap.size + 1, F + 1] [F] w0 w3 HK.out (HBL.out _ _ _ _ HIN3.out.mem) HS3.out (fun k hk => by rw [List.mem_singleton.1 hk]; omega) (nb _ HGX.out) (nb _ HGY.out) (nb _ HGZ.out) HXO.out.2.2 HOS.out HO.out.sl 8 (by omega))
      (fun h1 h2 => h1.trans h2) ?kb ?sane (Below.refl _ _) (fun _ => rfl)
      (fun pre W' => ∃ L left v, Hid (AlR a row back w0 w (.slice fA fr.length fc) fr F (F + 1) (F + 1 + 1) (n - 1) (xq, xp) w3 L left v pre W'))
      (fun _ _ _ => False)
      ?hI ?hIx ?h0
      (fun y a' W' => ∃ Yb, W'.heap[Yb]? = some (Obj.cells #[.int .i64 y.1, .int .i64 (y.2 : Int)] 85) ∧
        a' = { tmps := #[.pointer (some ⟨K, 0, none⟩), .slice fA fr.length fc, undef, .pointer (some ⟨F, 0, none⟩), .map none, .pointer (some ⟨F + 1 + 1, 0, none⟩), .pointer (some ⟨Xb, 0, none⟩), .pointer (some ⟨Yb, 0, none⟩), .map (some (F + 1)), .slice (some ⟨g, 0, none⟩) (lef.length + 1) lc, .int .i64 ((lef.length : Int) + 1), .bool true, .slice (some ⟨g, 0, none⟩) (lef.length + 1) lc, .slice (some ⟨g, 0, none⟩) (lef.length + 1) lc, .int .i64 ((lef.length : Int) + 1), .int .i64 (lef.length : Int), .pointer (some ⟨g, lef.length * 2, none⟩), .agg #[.int .i64 xq, .int .i64 (xp : Int)], .slice (some ⟨g, 0, none⟩) (lef.length + 1) lc, .slice (some ⟨g, 0, none⟩) (lef.length + 1) lc, .int .i64 ((lef.length : Int) + 1), .int .i64 (lef.length : Int), .slice (some ⟨g, 0, none⟩) lef.length lc, .pointer (some ⟨K, 0, none⟩), .agg #[.int .i64 xq, .int .i64 (xp : Int)], .func (.func 106) #[] #[.pointer (some ⟨X3, 0, none⟩), .pointer (some ⟨Y3, 0, none⟩), .pointer (some ⟨Z3, 0, none⟩)], .agg #[.int .i64 y.1, .int .i64 (y.2 : Int)], u27, u28, u29, u30, u31, u32, u33, u34, u35, u36, undef], defers := [] })
      ?hAx ?assign ?body ?done ?stop
    case kb =>
      intro W' r r' h hs
      exact Off.put hs (List.mem_cons_self ..) h rfl rfl
    case sane =>
      intro r
      have h1 : Below w3.heap.size w3 ((w3.alloc (.deferred (some []))).alloc (.loop r)) := ((Below.refl _ _).alloc (Nat.le_refl _) _).alloc (by simp) _
      exact (Off.of_below (HSAN.out _ _ _ _ HIN3.out.mem) h1).sane.cons (by omega) (by simp)
    case hI =>
      rintro pre A' B' rw ⟨L', left', v', h1⟩ hg hrw
      exact ⟨L', left', v', h1.out.mem.own hM3 (by have := HFF.out; omega) hg hrw, h1.out.met, h1.out.off.own (fun k hk => by rw [List.mem_singleton.1 hk]; omega) hg hrw, h1.out.pre, h1.out.hx⟩
    case hIx => exact fun _ s A' B' rw hs _ _ => hs.elim
    case h0 => exact ⟨L, lef, _, HIN3.out.mem, HIN3.out.met, Off.refl (HSAN.out _ _ _ _ HIN3.out.mem), fun y hy => (by cases hy), HXB.out⟩
    case hAx =>
      rintro y a' _ A' B' rw ⟨Yb, h0, h1⟩ hg hrw
      refine ⟨Yb, (hg.block Yb (Array.getElem?_eq_some_iff.1 h0).1 fun e => ?_).trans h0, h1⟩
      obtain ⟨_, o', h2, h3⟩ := hrw _ e.symm
      rw [h0] at h2
      rw [← Option.some.inj h2] at h3
      cases h3
    case assign =>
      rintro l' pre y W' KK ⟨L', left', v', HI'⟩ hKK
      have h1 : Below W'.heap.size W' (W'.alloc (Obj.cells #[.int .i64 y.1, .int .i64 (y.2 : Int)] 85)) := (Below.refl _ _).alloc (Nat.le_refl _) _
      have HP := Lib.hid (hKK { tmps := #[.pointer (some ⟨K, 0, none⟩), .slice fA fr.length fc, undef, .pointer (some ⟨F, 0, none⟩), .map none, .pointer (some ⟨F + 1 + 1, 0, none⟩), .pointer (some ⟨Xb, 0, none⟩), .pointer (some ⟨W'.heap.size, 0, none⟩), .map (some (F + 1)), .slice (some ⟨g, 0, none⟩) (lef.length + 1) lc, .int .i64 ((lef.length : Int) + 1), .bool true, .slice (some ⟨g, 0, none⟩) (lef.length + 1) lc, .slice (some ⟨g, 0, none⟩) (lef.length + 1) lc, .int .i64 ((lef.length : Int) + 1), .int .i64 (lef.length : Int), .pointer (some ⟨g, lef.length * 2, none⟩), .agg #[.int .i64 xq, .int .i64 (xp : Int)], .slice (some ⟨g, 0, none⟩) (lef.length + 1) lc, .slice (some ⟨g, 0, none⟩) (lef.length + 1) lc, .int .i64 ((lef.length : Int) + 1), .int .i64 (lef.length : Int), .slice (some ⟨g, 0, none⟩) lef.length lc, .pointer (some ⟨K, 0, none⟩), .agg #[.int .i64 xq, .int .i64 (xp : Int)], .func (.func 106) #[] #[.pointer (some ⟨X3, 0, none⟩), .pointer (some ⟨Y3, 0, none⟩), .pointer (some ⟨Z3, 0, none⟩)], .agg #[.int .i64 y.1, .int .i64 (y.2 : Int)], u27, u28, u29, u30, u31, u32, u33, u34, u35, u36, undef], defers := [] }
        (W'.alloc (Obj.cells #[.int .i64 y.1, .int .i64 (y.2 : Int)] 85)) ((KeepsOthers.alloc _ _).from _) (KpO.of_below h1) ⟨L', left', v', HI'.out.mem.below h1, HI'.out.met, HI'.out.off.trans (Off.of_below HI'.out.off.sane h1), HI'.out.pre, HI'.out.hx⟩ ⟨W'.heap.size, World.alloc_heap_new _ _, rfl⟩)
      clear HI' hKK h1
      unfold spE
      gi_wp2
      exact HP.out
    case body =>
      rintro l' pre y a' W' hl' hrec ⟨L', left', v', HI'⟩ ⟨Yb, hYb, rfl⟩ hpre
      obtain ⟨lA', lc', rfl⟩ : ∃ A c, v' = .slice A left'.length c := by
        obtain ⟨A', c, h1, h2, _⟩ := own_form HI'.out.mem.fr
        exact ⟨A', c, h1⟩
      obtain ⟨yq, yp⟩ := y
      simp only at hYb ⊢
      have cT := HI'.out.mem.t5.cell
      have y0 : W'.cell? ⟨Yb, 0, none⟩ = some (.int .i64 yq) := by simp [World.cell?, hYb]
      have y1 : W'.cell? ⟨Yb, 1, none⟩ = some (.int .i64 (yp : Int)) := by simp [World.cell?, hYb]
      have hyS : (yq, yp) ∈ succs a row back (xq, xp) := hpre.subset (List.mem_append_right _ (List.mem_singleton.2 rfl))
      have hyO : SpOk a row (yq, yp) := succs_ok HO.out hb HXO.out hyS
      have HYW : Hid (SpW (yq, yp)) := hyO.w HO.out hr
      have HYO := Lib.hid hyO
      have HYS := Lib.hid hyS
      have HLW : Hid (∀ y ∈ L', SpW y) := fun y hy => (HI'.out.met.ok y hy).w HO.out hr
      have HMAP : Hid (MapAt W' (F + 1) L') := HI'.out.mem.map
      have HYB := Lib.hid hYb
      clear hyS hyO hYb hpre
      by_cases hyL : (yq, yp) ∈ L'
      · have HP : Hid (KeepsFrom w3.heap.size W' W' ∧ KpO w0.heap.size [w3.heap.size + 1, F + 1] [F] W' W' ∧ ∃ L left v, Hid (AlR a row back w0 w (.slice fA fr.length fc) fr F (F + 1) (F + 1 + 1) (n - 1) (xq, xp) w3 L left v (pre ++ [(yq, yp)]) W')) :=
          ⟨KeepsFrom.refl _ _, fun hs => Off.refl hs, L', left', _, HI'.out.mem, HI'.out.met, HI'.out.off, fun y hy => (List.mem_append.1 hy).elim (HI'.out.pre y) fun h => by rw [List.mem_singleton.1 h]; exact hyL, HI'.out.hx⟩
        have HC : Hid (∀ c : Int, (setOf oneU (L'.map spKey)).atKey (spKey (yq, yp)) (.lit (.int .i64 0)) = .lit (.int .i64 c) → c = 1) := fun c hc => by
          rw [MapAt.at_ HLW.out HYW.out, if_pos hyL] at hc
          injection hc with e; injection e with _ e; exact e.symm
        clear hyL
        gi_wp2_with (gi_at_lookup; refine wpListIn_lookup_own_int _ rfl _ _ 86 rfl 85 3 .i64 spLaw Try.underlying86 Try.underlying3 (zeroInt _) (F + 1) L'.length (setOf oneU (L'.map spKey)) rfl HMAP.out _ (spKey (yq, yp)) rfl (spKeyOf HYW.out) ?_; intro c hat hwc; obtain rfl := HC.out c hat; clear hat hwc)
        exact HP.out
      · have HC : Hid (∀ c : Int, (setOf oneU (L'.map spKey)).atKey (spKey (yq, yp)) (.lit (.int .i64 0)) = .lit (.int .i64 c) → c = 0) := fun c hc => by
          rw [MapAt.at_ HLW.out HYW.out, if_neg hyL] at hc
          injection hc with e; injection e with _ e; exact e.symm
        have HNL := Lib.hid hyL
        have HII := Lib.hid HI'.out
        have hFm : F < W'.heap.size := HI'.out.mem.box.lt
        have hYl : Yb < W'.heap.size := (Array.getElem?_eq_some_iff.1 HYB.out).1
        have HYM : Hid (Yb ≠ F + 1) := fun e => by
          obtain ⟨es, ck, h1, _⟩ := HMAP.out
          have h2 := HYB.out
          rw [e, h1] at h2
          cases h2
        have hLl : L'.length ≤ 2400000 := by
          have h2 := spot_bound HI'.out.met.nd HI'.out.met.ok
          have h3 := HO.out.st2
          have h4 : spMax a row ≤ 300 * 8000 := Nat.mul_le_mul (by omega) hr
          omega
        clear hyL HI'
        gi_wp2_with (first
          | (gi_at_lookup; refine wpListIn_lookup_own_int _ rfl _ _ 86 rfl 85 3 .i64 spLaw Try.underlying86 Try.underlying3 (zeroInt _) (F + 1) L'.length (setOf oneU (L'.map spKey)) rfl HMAP.out _ (spKey (yq, yp)) rfl (spKeyOf HYW.out) ?_; intro c hat hwc; obtain rfl := HC.out c hat; clear hat hwc)
          | (gi_at_mapUpdate; refine wpListIn_mapUpdate_own _ rfl _ _ _ 86 rfl 85 3 spLaw Try.underlying86 _ (F + 1) L'.length (setOf oneU (L'.map spKey)) rfl HMAP.out (by unfold maxLen; omega) _ _ (spKey (yq, yp)) rfl rfl (spKeyOf HYW.out) oneU [] (plainElem_int Try.underlying3 (by decide)) ?_
             intro w4 hown4 hgrow4
             have HM4 := Lib.hid (HII.out.mem.map1 (by have := HFF.out; omega) (by omega) (by omega) hgrow4 (MapAt.step hown4) (fun y hy => List.mem_append_left _ hy))
             have HG4 := Lib.hid hgrow4
             have cF4 := HM4.out.box.cell
             have HYB4 : Hid (w4.heap[Yb]? = some (Obj.cells #[.int .i64 yq, .int .i64 (yp : Int)] 85)) := (hgrow4.block Yb hYl (fun e => HYM.out (by simpa using e))).trans HYB.out
             have z0 : w4.cell? ⟨Yb, 0, none⟩ = some (.int .i64 yq) := by simp [World.cell?, HYB4.out]
             have z1 : w4.cell? ⟨Yb, 1, none⟩ = some (.int .i64 (yp : Int)) := by simp [World.cell?, HYB4.out]
             have hb5 : Below w4.heap.size w4 (w4.alloc (Obj.cells #[.int .i64 yq, .int .i64 (yp : Int)] 85)) := (Below.refl _ _).alloc (Nat.le_refl _) _
             have HM5 := Lib.hid (HM4.out.below hb5)
             have hlo5 : w0.heap.size ≤ (w4.alloc (Obj.cells #[.int .i64 yq, .int .i64 (yp : Int)] 85)).heap.size := by have := hb5.size; have := hgrow4.size; have := HFF.out; omega
             have hll5 : left'.length ≤ 10000000 := by have := HII.out.met.len; omega
             have HG5 : Hid (W'.heap.size ≤ w4.heap.size ∧ ∀ k, k < W'.heap.size → k ≠ F + 1 → (w4.alloc (Obj.cells #[.int .i64 yq, .int .i64 (yp : Int)] 85)).heap[k]? = W'.heap[k]?) := ⟨hgrow4.size, fun k hk hne => (hb5.block k (Nat.lt_of_lt_of_le hk hgrow4.size)).trans (hgrow4.block k hk (by simpa using hne))⟩
             have HG6 : Hid ((w4.alloc (Obj.cells #[.int .i64 yq, .int .i64 (yp : Int)] 85)).os = W'.os ∧ (w4.alloc (Obj.cells #[.int .i64 yq, .int .i64 (yp : Int)] 85)).tape = W'.tape ∧ (w4.alloc (Obj.cells #[.int .i64 yq, .int .i64 (yp : Int)] 85)).output = W'.output) := ⟨hgrow4.os, hgrow4.tape, hgrow4.output⟩
             clear hown4 hgrow4 hb5)
          | (gi_at_builtin; refine wpListIn_app_sp (lo := w0.heap.size) (v := .slice lA' left'.length lc') (left := left') (y := (yq, yp)) (B := w4.heap.size) rfl (.tmp 33) (.tmp 35) rfl rfl rfl HM5.out.fr (World.alloc_heap_new _ _) hll5 hlo5 ?_
             intro v6 W6 hfr6 hg6 hat6 hrow6
             obtain ⟨g6, c6, rfl⟩ := ownsRow_succ (k := left'.length) (by have := hfr6; unfold FromIs at this; rw [List.length_append] at this; exact this)
             obtain ⟨hbx6, hm6⟩ := AlMem.app (by have := HFF.out; omega) (by omega) (by omega) HM5.out hfr6 hg6 (by simpa using hat6) hrow6 (by simp)
             have cF6 := hbx6.cell
             have fF6 := hbx6.frozen
             have HP : Hid (KeepsFrom w3.heap.size W' (W6.setCell ⟨F, 0, none⟩ (.slice (some ⟨g6, 0, none⟩) (left'.length + 1) c6)) ∧ KpO w0.heap.size [w3.heap.size + 1, F + 1] [F] W' (W6.setCell ⟨F, 0, none⟩ (.slice (some ⟨g6, 0, none⟩) (left'.length + 1) c6)) ∧ ∃ L left v, Hid (AlR a row back w0 w (.slice fA fr.length fc) fr F (F + 1) (F + 1 + 1) (n - 1) (xq, xp) w3 L left v (pre ++ [(yq, yp)]) (W6.setCell ⟨F, 0, none⟩ (.slice (some ⟨g6, 0, none⟩) (left'.length + 1) c6)))) := by
               have hO : Off w0.heap.size [F + 1] [F] W' (W6.setCell ⟨F, 0, none⟩ (.slice (some ⟨g6, 0, none⟩) (left'.length + 1) c6)) := by
                 refine HII.out.mem.off hm6 hlF (fun k hk => by rw [List.mem_singleton.1 hk]; have := HII.out.mem.map.lt; omega) (List.mem_singleton.2 rfl) (hg6.os.trans HG6.out.1) (hg6.tape.trans HG6.out.2.1) (hg6.output.trans HG6.out.2.2) (Nat.le_trans HG5.out.1 (Nat.le_trans (by simp) (Nat.le_trans hg6.size (grownBy_setCell' W6 F _).size))) (fun k hk h3 h4 h5 => ?_) (hat6.imp id fun h => fun r hr => by rw [h] at hr; have := HG5.out.1; simp at hr; omega)
                 have hk5 : k < (w4.alloc (Obj.cells #[.int .i64 yq, .int .i64 (yp : Int)] 85)).heap.size := by have := HG5.out.1; simp; omega
                 exact (Below.heap_setCell _ _ _ _ h4).trans ((hg6.block k hk5 (fun e => h5 e.symm)).trans (HG5.out.2 k hk h3))
               exact ⟨hO.keeps HII.out.off.sane (fun k hk => by rw [List.mem_singleton.1 hk]; omega) (fun k hk => by rw [List.mem_singleton.1 hk]; omega), fun hs => hO.cons (by omega) (hs.bad _ (.inl (List.mem_cons_self ..))).2,
                 _, _, _, hm6, HII.out.met.add HII.out.hx HYS.out HYO.out HNL.out, HII.out.off.trans hO, fun y hy => (List.mem_append.1 hy).elim (fun h => List.mem_append_left _ (HII.out.pre y h)) (fun h => List.mem_append_right _ h), HII.out.hx.imp id (List.mem_append_left _)⟩
             clear hbx6 hm6 hfr6 hg6 hat6 hrow6))
        exact HP.out
    case done =>
      rintro Dm W' hDm ⟨L', left', v', HI'⟩ hD
      have HINE : Hid (AlIn a row back w0 w (.slice fA fr.length fc) fr F (F + 1) (F + 1 + 1) (n - 1) none ({ target := .collected Dm, args := #[] } :: ds) L' left' v' W') := by
        refine ⟨HI'.out.mem, HI'.out.met.shut fun y hy => HI'.out.pre y hy, ?_⟩
        obtain ⟨Ds, rfl, h2, h3⟩ := HIN3.out.marks
        refine ⟨Dm :: Ds, rfl, List.nodup_cons.2 ⟨fun hm => ?_, h2⟩, fun D' hm => ?_⟩
        · have := (h3 Dm hm).2.1.lt
          omega
        · rcases List.mem_cons.1 hm with rfl | hm
          · refine ⟨by omega, ⟨(Array.getElem?_eq_some_iff.1 hD).1, fun hb => ?_⟩, hD⟩
            rcases (bad_box HI'.out.mem.box).1 hb with h4 | h4 | h4
            · have := List.mem_singleton.1 h4
              omega
            · omega
            · obtain ⟨ob, h5, h6⟩ := own_cells HI'.out.mem.fr h4
              rw [hD] at h5
              rw [← Option.some.inj h5] at h6
              cases h6
          · obtain ⟨a1, a2, a3⟩ := h3 D' hm
            exact ⟨a1, a2.off HI'.out.off, (HI'.out.off.block D' a2.lt a2.not).trans a3⟩
      clear HI'
      gi_wp2
      exact ⟨n - 1, by omega, _, _, _, _, _, _, _, _, _, _, _, _, _, _, _, _, _, _, _, _, _, _, _, _, _, _, _, _, _, _, _, L', left', v', rfl, HINE.out⟩
    case stop => exact fun _ _ _ _ _ _ h => h.elim
end Go.Proofs.Ytoglgeaiiipchaa
