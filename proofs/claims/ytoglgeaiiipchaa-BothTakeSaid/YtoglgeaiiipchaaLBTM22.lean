/- Walks: what the steps from a spot give, one by one, to a round. -/
import Derived.Test.YtoglgeaiiipchaaLBTM15
import Derived.Test.YtoglgeaiiipchaaLBTM17
import Derived.Test.YtoglgeaiiipchaaLBTM2
import Derived.Deep.RegionLaw
import Derived.Deep.CutBlock
import Derived.Deep.DeepCutAuto
set_option linter.unusedSimpArgs false
set_option linter.unusedVariables false
namespace Go.Proofs.Ytoglgeaiiipchaa
open Go Go.RowKit Go.Shelf
attribute [local go_sem] Oper.semAt_some

/-- a walker in a variable K: the automaton, the row of letters, where it goes on -/
structure WkAt (W : World) (K V : Nat) (a : Au) (A B C : Option Addr) (ca cb cc : Nat) (row : List Int) (D : Option Addr) (cr back : Nat) : Prop where
  lt : K < W.heap.size
  c3 : W.cell? ⟨K, 3, none⟩ = some (.slice B a.gs.length cb)
  c5 : W.cell? ⟨K, 5, none⟩ = some (.slice D row.length cr)
  c6 : W.cell? ⟨K, 6, none⟩ = some (.int .i64 back)
  c7 : W.cell? ⟨K, 7, none⟩ = some (.func (.func 84) #[] #[.pointer (some ⟨V, 0, none⟩)])
  au : AuAt W V a A B C ca cb cc
  rd : AuRd W 0 a A B C ca cb cc
  row : Ints W 0 D cr row
theorem WkAt.below {W W' : World} {K V : Nat} {a : Au} {A B C : Option Addr} {ca cb cc : Nat} {row : List Int} {D : Option Addr} {cr back : Nat} (h : WkAt W K V a A B C ca cb cc row D cr back) (hb : Below W.heap.size W W') : WkAt W' K V a A B C ca cb cc row D cr back :=
  ⟨Nat.lt_of_lt_of_le h.lt hb.size, (hb.cell (p := ⟨K, 3, none⟩) h.lt).trans h.c3, (hb.cell (p := ⟨K, 5, none⟩) h.lt).trans h.c5, (hb.cell (p := ⟨K, 6, none⟩) h.lt).trans h.c6, (hb.cell (p := ⟨K, 7, none⟩) h.lt).trans h.c7, h.au.below hb h.au.lt, h.rd.below hb, h.row.below hb⟩
/-- the steps from a spot as a value: the walker, the spot, where they lead, in variables -/
structure SpAt (W : World) (K X Y Z : Nat) (q : Int) (p d : Nat) : Prop where
  lx : X < W.heap.size
  ly : Y < W.heap.size
  lz : Z < W.heap.size
  x : W.cell? ⟨X, 0, none⟩ = some (.pointer (some ⟨K, 0, none⟩))
  y0 : W.cell? ⟨Y, 0, none⟩ = some (.int .i64 q)
  y1 : W.cell? ⟨Y, 1, none⟩ = some (.int .i64 p)
  z : W.cell? ⟨Z, 0, none⟩ = some (.int .i64 d)
theorem SpAt.below {W W' : World} {m K X Y Z : Nat} {q : Int} {p d : Nat} (h : SpAt W K X Y Z q p d) (hb : Below m W W') (h1 : X < m) (h2 : Y < m) (h3 : Z < m) : SpAt W' K X Y Z q p d :=
  ⟨Nat.lt_of_lt_of_le h.lx hb.size, Nat.lt_of_lt_of_le h.ly hb.size, Nat.lt_of_lt_of_le h.lz hb.size, (cell_on3 hb h1).trans h.x, (cell_on3 hb h2).trans h.y0, (cell_on3 hb h2).trans h.y1, (cell_on3 hb h3).trans h.z⟩
def StPost (w : World) (K : Nat) (q : Int) (p d : Nat) (e : Ending) (w' : World) : Prop :=
  ∃ X Y Z, e = .returned (.func (.func 106) #[] #[.pointer (some ⟨X, 0, none⟩), .pointer (some ⟨Y, 0, none⟩), .pointer (some ⟨Z, 0, none⟩)]) ∧ w.heap.size ≤ X ∧ w.heap.size ≤ Y ∧ w.heap.size ≤ Z ∧ SpAt w' K X Y Z q p d ∧ Below w.heap.size w w'
def spW (w : World) (K : Nat) (q : Int) (p : Nat) : World :=
  ((w.alloc (Obj.cells #[.pointer (some ⟨K, 0, none⟩)] 78)).alloc (Obj.cells #[.int .i64 q, .int .i64 p] 85)).alloc (Obj.cells #[.int .i64 ((p : Int) + 1)] 3)
theorem spW_is (w : World) (K : Nat) (q : Int) (p : Nat) : SpAt (spW w K q p) K w.heap.size (w.heap.size + 1) (w.heap.size + 1 + 1) q p (p + 1) ∧ Below w.heap.size w (spW w K q p) ∧ (spW w K q p).heap.size = w.heap.size + 1 + 1 + 1 ∧ (spW w K q p).frozen? ⟨w.heap.size + 1 + 1, 0, none⟩ = false := by
  unfold spW
  refine ⟨⟨by simp; omega, by simp, by simp, ?_, ?_, ?_, ?_⟩, by go_grown, by simp, ?_⟩ <;> go_simp
set_option maxRecDepth 100000 in
theorem steps_ (a : Au) (A B C D : Option Addr) (ca cb cc cr K V back : Nat) (row : List Int) (q : Int) (p : Nat) (w : World) (hK : WkAt w K V a A B C ca cb cc row D cr back) (hp : p < row.length) (hr : row.length ≤ 8000) :
    Calls Try.prog 89 #[.pointer (some ⟨K, 0, none⟩), .agg #[.int .i64 q, .int .i64 p]] w (StPost w K q p (if p + 1 = row.length then back else p + 1)) := by
  have HW := Lib.hid (spW_is w K q p)
  have HK := Lib.hid hK
  clear hK
  go_enter Try.func89, Try.ntmps89
  go_upto_region 2 with fail
  change Code.wp _ _ _ _ (spW w K q p)
  generalize spW w K q p = W1 at *
  obtain ⟨X, hX⟩ : ∃ X, X = w.heap.size := ⟨_, rfl⟩
  rw [← hX] at HW ⊢
  have hK0 := HK.out.lt
  obtain ⟨_, k3, k5, k6, k7, _, _, _⟩ := HK.out.below (show Below w.heap.size w W1 by rw [← hX]; exact HW.out.2.1)
  obtain ⟨lx, ly, lz, x0, y0, y1, z0⟩ := HW.out.1
  have HB := Lib.hid HW.out.2.1
  have HSZ := Lib.hid HW.out.2.2.1
  have HFR := Lib.hid HW.out.2.2.2
  have HXX := Lib.hid hX
  clear hX
  by_cases hpn : p + 1 = row.length
  · have hpn2 : ((p : Int) + 1 == (row.length : Int)) = true := by simp; omega
    have HEQ : Hid ((if p + 1 = row.length then back else p + 1) = back) := by show _ = _; rw [if_pos hpn]
    generalize (if p + 1 = row.length then back else p + 1) = dd at *
    go_quiet (fail)
    have HB2 : Hid (Below X w (W1.drewN nq)) := below_drewN HB.out nq
    have HS2 : Hid (SpAt (W1.drewN nq) K X (X + 1) (X + 1 + 1) q p (p + 1)) := ⟨lx, ly, lz, x0, y0, y1, z0⟩
    have HSZ2 : Hid ((W1.drewN nq).heap.size = X + 1 + 1 + 1) := HSZ.out
    clear lx ly lz x0 y0 y1 z0 k3 k5 k6 k7 HW HB HSZ
    have hfr : (W1.drewN nq).frozen? ⟨X + 1 + 1, 0, none⟩ = false := HFR.out
    clear HFR
    generalize W1.drewN nq = W2 at *
    obtain ⟨lx, ly, lz, x0, y0, y1, z0⟩ := HS2.out
    obtain ⟨_, k3, k5, k6, k7, _, _, _⟩ := HK.out.below (show Below w.heap.size w W2 by rw [← HXX.out]; exact HB2.out)
    have HP : Hid (StPost w K q p dd (.returned (.func (.func 106) #[] #[.pointer (some ⟨X, 0, none⟩), .pointer (some ⟨X + 1, 0, none⟩), .pointer (some ⟨X + 1 + 1, 0, none⟩)])) (W2.setCell ⟨X + 1 + 1, 0, none⟩ (.int .i64 back))) := by
      have hXX := HXX.out
      refine ⟨X, X + 1, X + 1 + 1, rfl, by omega, by omega, by omega, ⟨by simp; omega, by simp; omega, by simp; omega, ?_, ?_, ?_, ?_⟩, ?_⟩
      · exact (World.cell?_setCell_other _ ⟨X + 1 + 1, 0, none⟩ ⟨X, 0, none⟩ _ (fun h => by have := congrArg Addr.block h; simp at this; omega)).trans x0
      · exact (World.cell?_setCell_other _ ⟨X + 1 + 1, 0, none⟩ ⟨X + 1, 0, none⟩ _ (fun h => by have := congrArg Addr.block h; simp at this)).trans y0
      · exact (World.cell?_setCell_other _ ⟨X + 1 + 1, 0, none⟩ ⟨X + 1, 1, none⟩ _ (fun h => by have := congrArg Addr.block h; simp at this)).trans y1
      · rw [HEQ.out]; exact World.cell?_setCell_same' _ _ _ (by rw [z0]; rfl)
      · rw [← hXX]; exact HB2.out.setCell (p := ⟨X + 1 + 1, 0, none⟩) (by show X ≤ X + 1 + 1; omega) _
    go_wp2_with fail
    go_ret
    exact HP.out
  · have hpn2 : ((p : Int) + 1 == (row.length : Int)) = false := by simp; omega
    have HEQ : Hid ((if p + 1 = row.length then back else p + 1) = p + 1) := by show _ = _; rw [if_neg hpn]
    generalize (if p + 1 = row.length then back else p + 1) = dd at *
    go_quiet (fail)
    have HP : Hid (StPost w K q p dd (.returned (.func (.func 106) #[] #[.pointer (some ⟨X, 0, none⟩), .pointer (some ⟨X + 1, 0, none⟩), .pointer (some ⟨X + 1 + 1, 0, none⟩)])) (W1.drewN nq)) := by
      have hXX := HXX.out
      refine ⟨X, X + 1, X + 1 + 1, rfl, by omega, by omega, by omega, ⟨lx, ly, lz, x0, y0, y1, by rw [HEQ.out]; exact z0⟩, ?_⟩
      rw [← hXX]
      exact below_drewN HB.out nq
    clear lx ly lz x0 y0 y1 z0 k3 k5 k6 k7 HW HB HSZ
    generalize W1.drewN nq = W2 at *
    go_wp2_with fail
    go_ret
    exact HP.out
end Go.Proofs.Ytoglgeaiiipchaa

namespace Go.Proofs.Ytoglgeaiiipchaa
open Go Go.RowKit Go.Shelf
attribute [local go_sem] Oper.semAt_some

/-- the spots that a spot leads to -/
def spotNext (a : Au) (row : List Int) (q : Int) (p d : Nat) (xs : List Stp) : List (Int × Nat) := (xs.filter fun s => s.l == row.getD p 0).map fun s => (s.t, d)
theorem spotNext_snoc {a : Au} {row : List Int} {q : Int} {p d : Nat} {xs : List Stp} {s : Stp} : spotNext a row q p d (xs ++ [s]) = spotNext a row q p d xs ++ (if s.l == row.getD p 0 then [(s.t, d)] else []) := by
  unfold spotNext
  rw [List.filter_append, List.map_append]
  congr 1
  by_cases h : (s.l == row.getD p 0) = true
  · rw [if_pos h, List.filter_cons, if_pos h]; rfl
  · rw [if_neg h, List.filter_cons, if_neg h]; rfl
theorem spotNext_prefix {a : Au} {row : List Int} {q : Int} {p d : Nat} {xs ys : List Stp} (h : xs <+: ys) : spotNext a row q p d xs <+: spotNext a row q p d ys := by
  obtain ⟨r, rfl⟩ := h
  unfold spotNext
  rw [List.filter_append, List.map_append]
  exact List.prefix_append _ _
/-- what the rounds over the steps from a state stand on -/
structure StIn (w0 : World) (Ms Fs : List Nat) (K X Y Z G l : Nat) (q : Int) (p d : Nat) (n : Nat) (W : World) : Prop where
  size : n ≤ W.heap.size
  below : Below w0.heap.size w0 W
  sane : Sane w0.heap.size Ms Fs W
  sp : SpAt W K X Y Z q p d
  gx : Good w0.heap.size Ms Fs W X
  gy : Good w0.heap.size Ms Fs W Y
  gz : Good w0.heap.size Ms Fs W Z
  gg : Good w0.heap.size Ms Fs W G
  cg : W.cell? ⟨G, 0, none⟩ = some (.func (.yield l) #[] #[])
theorem StIn.off {w0 W W' : World} {Ms Fs : List Nat} {K X Y Z G l : Nat} {q : Int} {p d n : Nat} (h : StIn w0 Ms Fs K X Y Z G l q p d n W) (ho : Off w0.heap.size Ms Fs W W') : StIn w0 Ms Fs K X Y Z G l q p d n W' :=
  ⟨Nat.le_trans h.size ho.size, Below_on h.below (ho.below h.sane h.below.size) (Nat.le_refl _), ho.sane,
    ⟨(h.gx.off ho).lt, (h.gy.off ho).lt, (h.gz.off ho).lt, (h.gx.cell ho).trans h.sp.x, (h.gy.cell ho).trans h.sp.y0, (h.gy.cell ho).trans h.sp.y1, (h.gz.cell ho).trans h.sp.z⟩,
    h.gx.off ho, h.gy.off ho, h.gz.off ho, h.gg.off ho, (h.gg.cell ho).trans h.cg⟩
theorem StIn.put {w0 W : World} {Ms Fs : List Nat} {K X Y Z G l : Nat} {q : Int} {p d n : Nat} (hM : ∀ k ∈ Ms, k < n) (hF : ∀ k ∈ Fs, k < n) (hx : X < n) (hy : Y < n) (hz : Z < n) (hg : G < n) (h0 : w0.heap.size ≤ n) {W' : World} (h : StIn w0 Ms Fs K X Y Z G l q p d n W) (hb : Below n W W') (hs : Sane w0.heap.size Ms Fs W') : StIn w0 Ms Fs K X Y Z G l q p d n W' :=
  ⟨Nat.le_trans h.size hb.size, Below_on h.below hb h0, hs, h.sp.below hb hx hy hz, h.gx.below hF hb, h.gy.below hF hb, h.gz.below hF hb, h.gg.below hF hb, (cell_on3 hb hg).trans h.cg⟩
theorem StIn.own {β : Type} {w0 : World} {Ms Fs : List Nat} {K X Y Z G l : Nat} {q : Int} {p d n : Nat} (hM : ∀ k ∈ Ms, k < n) (hF : ∀ k ∈ Fs, k < n) (hx : X < n) (hy : Y < n) (hz : Z < n) (hg : G < n) (h0 : w0.heap.size ≤ n) : OwnFrom n (fun (_ : β) W => StIn w0 Ms Fs K X Y Z G l q p d n W) := fun _ A B row hs hgr hr =>
  hs.put hM hF hx hy hz hg h0 ⟨hgr.os, hgr.tape, hgr.output, hgr.size, fun k hk => hgr.block k (Nat.lt_of_lt_of_le hk hs.size) fun e => by have := (hr k e.symm).1; omega⟩ (hs.sane.own hF hgr hr)
def spE (y : Int × Nat) : Array Value := #[Value.agg #[.int .i64 y.1, .int .i64 y.2]]
set_option maxRecDepth 100000 in
set_option maxHeartbeats 2000000 in
theorem steps_gives (a : Au) (A B C D : Option Addr) (ca cb cc cr K V X Y Z back : Nat) (row : List Int) (q : Int) (p d : Nat) (Ms Fs : List Nat) (w0 w : World) (hK : WkAt w0 K V a A B C ca cb cc row D cr back) (hb0 : Below w0.heap.size w0 w)
    (hS : SpAt w K X Y Z q p d) (hF : ∀ F ∈ Fs, F < w.heap.size) (hX2 : ¬ Bad Ms Fs w X) (hY2 : ¬ Bad Ms Fs w Y) (hZ2 : ¬ Bad Ms Fs w Z) (hp : p < row.length) (ho : ssSorted a.ss) (hl : a.ss.length ≤ 6000) (m : Nat) (hm : 2 ≤ m) :
    SeqO m Try.prog 106 #[.pointer (some ⟨X, 0, none⟩), .pointer (some ⟨Y, 0, none⟩), .pointer (some ⟨Z, 0, none⟩)] spE (KpO w0.heap.size Ms Fs) (Sane w0.heap.size Ms Fs) (spotNext a row q p d (stepsFrom a q)) w := by
  intro l J Jx W hW hsane hJ hJx hY h0
  have hBW : Below w0.heap.size w0 W := Below_on hb0 hW hb0.size
  have HGX : Hid (Good w0.heap.size Ms Fs W X) := (Good.mk hS.lx hX2).below hF hW
  have HGY : Hid (Good w0.heap.size Ms Fs W Y) := (Good.mk hS.ly hY2).below hF hW
  have HGZ : Hid (Good w0.heap.size Ms Fs W Z) := (Good.mk hS.lz hZ2).below hF hW
  have hSW := hS.below hW hS.lx hS.ly hS.lz
  have HAT : Hid (∀ wr, Off w0.heap.size Ms Fs W wr → Below w0.heap.size w0 wr ∧ SpAt wr K X Y Z q p d) := fun wr hr =>
    ⟨Below_on hBW (hr.below hsane hBW.size) (Nat.le_refl _), ⟨(HGX.out.off hr).lt, (HGY.out.off hr).lt, (HGZ.out.off hr).lt, (HGX.out.cell hr).trans hSW.x, (HGY.out.cell hr).trans hSW.y0, (HGY.out.cell hr).trans hSW.y1, (HGZ.out.cell hr).trans hSW.z⟩⟩
  have HK := Lib.hid hK
  have HJ := Lib.hid hJ
  have HJX := Lib.hid hJx
  have HY := Lib.hid hY
  have H0 := Lib.hid h0
  have HSA := Lib.hid hsane
  have HBW := Lib.hid hBW
  have hsz := hBW.size
  clear hJ hJx hY h0 hsane hBW hSW hX2 hY2 hZ2 hF hW hb0 hS
  have hfm : m ≤ m := Nat.le_refl _
  refine callsIn_of_wp_marks Try.func106 rfl trivial ?_
  simp only [Try.ntmps106, List.size_toArray, List.length_cons, List.length_nil, Nat.reduceAdd, Nat.reduceSub, Array.replicate_succ, Array.replicate_zero, List.push_toArray, List.append_toArray, List.nil_append, List.cons_append]
  have HO1 : Hid (Off w0.heap.size Ms Fs W (W.alloc (Obj.cells #[.func (.yield l) #[] #[]] 148))) := Off.of_below HSA.out ((Below.refl _ _).alloc (Nat.le_refl _) _)
  have HW1 : Hid (Below W.heap.size W (W.alloc (Obj.cells #[.func (.yield l) #[] #[]] 148))) := (Below.refl _ _).alloc (Nat.le_refl _) _
  have HGG : Hid (Good w0.heap.size Ms Fs (W.alloc (Obj.cells #[.func (.yield l) #[] #[]] 148)) W.heap.size) := Good.new HSA.out HW1.out (Nat.le_refl _) (by simp)
  have HCG : Hid ((W.alloc (Obj.cells #[.func (.yield l) #[] #[]] 148)).cell? ⟨W.heap.size, 0, none⟩ = some (.func (.yield l) #[] #[])) := by show _ = _; go_simp
  gi_wp2
  refine wpIn_region_tail' 6 (by kernel_rfl) (by kernel_rfl) ?_
  intro X0 hX0
  simp only [List.take_succ_cons, List.take_zero]
  generalize W.alloc (Obj.cells #[.func (.yield l) #[] #[]] 148) = W1 at *
  obtain ⟨hb1, lx, ly, lz, x0, y0, y1, z0⟩ := HAT.out W1 HO1.out
  obtain ⟨_, k3, k5, k6, k7, _, _, _⟩ := HK.out.below hb1
  repeat (gi_big_quiet_step (fail))
  refine wpQuietIn_nil ?_
  refine hX0 _ ?_
  clear hX0 X0
  intro nq
  simp only [List.drop_succ_cons, List.drop_zero]
  have HO2 : Hid (Off w0.heap.size Ms Fs W (W1.drewN nq)) := HO1.out.trans (Off.of_below HO1.out.sane (below_drewN (Below.refl _ _) nq))
  clear hb1 lx ly lz x0 y0 y1 z0 k3 k5 k6 k7
  have HOG2 : Hid (Off w0.heap.size Ms Fs W1 (W1.drewN nq)) := Off.of_below HO1.out.sane (below_drewN (Below.refl _ _) nq)
  have HW2 : Hid (Below W.heap.size W (W1.drewN nq)) := below_drewN HW1.out nq
  generalize W1.drewN nq = W2 at *
  gi_wp2
  refine ⟨trivial, fun h => (by cases h), ?_⟩
  refine (callsIn_wide.2 (next_ a A B C ca cb cc V q W2 (HK.out.au.below (HAT.out W2 HO2.out).1 HK.out.au.lt) (HK.out.rd.ss.below (HAT.out W2 HO2.out).1) ho (Nat.le_trans hl (by decide)))).mono ?_
  rintro e w3 ⟨X3, Y3, i3, rfl, hX3, hY3, hN3, hlb3, hb3⟩
  have HO3 : Hid (Off w0.heap.size Ms Fs W w3) := HO2.out.trans (Off.of_below HO2.out.sane hb3)
  have HN3 := Lib.hid hN3
  have HLB3 := Lib.hid hlb3
  have HGX3 : Hid (Good w0.heap.size Ms Fs w3 X3) := Good.new HO2.out.sane hb3 hX3 hN3.lx
  have HGY3 : Hid (Good w0.heap.size Ms Fs w3 Y3) := Good.new HO2.out.sane hb3 hY3 hN3.ly
  have HOG : Hid (Off w0.heap.size Ms Fs W1 w3) := HOG2.out.trans (Off.of_below HO2.out.sane hb3)
  have HW3 : Hid (Below W.heap.size W w3) := Below_on HW2.out hb3 HW2.out.size
  clear hN3 hlb3 hb3 hX3 hY3
  gi_wp2
  have HST : Hid (StIn w0 Ms Fs K X Y Z W.heap.size l q p d w3.heap.size w3) := ⟨Nat.le_refl _, (HAT.out w3 HO3.out).1, HO3.out.sane, (HAT.out w3 HO3.out).2, HGX.out.off HO3.out, HGY.out.off HO3.out, HGZ.out.off HO3.out, HGG.out.off HOG.out, (HGG.out.cell HOG.out).trans HCG.out⟩
  have HJ3 : Hid (J (spotNext a row q p d []) w3) := HJ.out [] W w3 none H0.out ⟨HO3.out.os, HO3.out.tape, HO3.out.output, HO3.out.size, fun k hk _ => HW3.out.block k hk⟩ (fun r e => by cases e)
  have hMs : ∀ k ∈ Ms, k < w3.heap.size := fun k hk => (HO3.out.sane.bad k (.inl hk)).2
  have hFs : ∀ k ∈ Fs, k < w3.heap.size := fun k hk => HO3.out.sane.F_lt hk
  have hX3 : X < w3.heap.size := HST.out.gx.lt
  have hY3 : Y < w3.heap.size := HST.out.gy.lt
  have hZ3 : Z < w3.heap.size := HST.out.gz.lt
  have hG3 : W.heap.size < w3.heap.size := HST.out.gg.lt
  have hlo3 : w0.heap.size ≤ w3.heap.size := HST.out.below.size
  have hWW : W.heap.size ≤ w3.heap.size := by omega
  have hX3' := HN3.out.lx
  refine wp_range_own (gf := 88) (lb := #[.pointer (some ⟨V, 0, none⟩), .pointer (some ⟨X3, 0, none⟩), .pointer (some ⟨Y3, 0, none⟩)]) (by omega) rfl (enters_of Try.func88 (by kernel_rfl) rfl)
    (next_gives a A B C ca cb cc V X3 Y3 i3 q ((w3.heap.size + 1) :: Ms) Fs w0 w3 HK.out.au HK.out.rd.ss HST.out.below HN3.out.x HN3.out.y HN3.out.lx HN3.out.ly hFs
      (fun h => h.of_cons.elim (fun h => by omega) HGX3.out.not) (fun h => h.of_cons.elim (fun h => by have := HN3.out.ly; omega) HGY3.out.not) ho (Nat.le_trans hl (by decide)) HLB3.out (m - 1) (by omega))
    (fun h1 h2 => h1.trans h2) ?kb ?sane (Below.refl _ _) (fun _ => rfl)
    (fun pre W' => J (spotNext a row q p d pre) W' ∧ StIn w0 Ms Fs K X Y Z W.heap.size l q p d w3.heap.size W')
    (fun c pre W' => c = .ret ∧ ∃ pre', pre' <+: spotNext a row q p d (stepsFrom a q) ∧ Jx pre' W')
    ?hI ?hIx ?h0
    (fun s a' W' => ∃ S, W'.cell? ⟨S, 0, none⟩ = some (.int .i64 s.f) ∧ W'.cell? ⟨S, 1, none⟩ = some (.int .i64 s.l) ∧ W'.cell? ⟨S, 2, none⟩ = some (.int .i64 s.t) ∧
      a' = { tmps := #[.func (.yield l) #[] #[], .pointer (some ⟨X, 0, none⟩), .pointer (some ⟨Y, 0, none⟩), .pointer (some ⟨Z, 0, none⟩), .pointer (some ⟨W.heap.size, 0, none⟩), .pointer (some ⟨S, 0, none⟩), .pointer (some ⟨K, 0, none⟩), .pointer (some ⟨K, 0, none⟩), .pointer (some ⟨K, 7, none⟩), .func (.func 84) #[] #[.pointer (some ⟨V, 0, none⟩)], .pointer (some ⟨Y, 0, none⟩), .int .i64 q, .func (.func 88) #[] #[.pointer (some ⟨V, 0, none⟩), .pointer (some ⟨X3, 0, none⟩), .pointer (some ⟨Y3, 0, none⟩)], .agg #[.int .i64 s.f, .int .i64 s.l, .int .i64 s.t], undef, undef, undef, undef, undef, undef, undef, undef, undef, undef, undef, undef, undef, undef, undef, undef, undef, undef, undef, undef], defers := [] })
    ?hAx ?assign ?body ?done ?stop
  case kb =>
    intro W' r r' h hs
    exact Off.put hs (List.mem_cons_self ..) h rfl rfl
  case sane =>
    intro r
    have h1 : Below w3.heap.size w3 ((w3.alloc (.deferred (some []))).alloc (.loop r)) := ((Below.refl _ _).alloc (Nat.le_refl _) _).alloc (by simp) _
    exact (Off.of_below HO3.out.sane h1).sane.cons (by omega) (by simp)
  case hI => exact OwnFrom.and (OwnFrom.comp (OwnFrom.mono (I := J) HJ.out hWW) (fun pre => spotNext a row q p d pre)) (StIn.own hMs hFs hX3 hY3 hZ3 hG3 hlo3)
  case hIx => exact fun _ s A B row hs hg hr => by obtain ⟨h0, pre', h1, h2⟩ := hs; exact ⟨h0, pre', h1, (OwnFrom.mono (I := Jx) HJX.out hWW) pre' A B row h2 hg hr⟩
  case h0 => exact ⟨HJ3.out, HST.out⟩
  case hAx =>
    rintro s a' _ A B row ⟨S, h0, h1, h2, h3⟩ hg hr
    exact ⟨S, cell_kept h0 hg (fun r e => (hr r e).2), cell_kept h1 hg (fun r e => (hr r e).2), cell_kept h2 hg (fun r e => (hr r e).2), h3⟩
  case assign =>
    rintro l' pre s W' KK ⟨hj, hst⟩ hKK
    have h1 : Below W'.heap.size W' (W'.alloc (Obj.cells #[.int .i64 s.f, .int .i64 s.l, .int .i64 s.t] 90)) := (Below.refl _ _).alloc (Nat.le_refl _) _
    have HP := Lib.hid (hKK { tmps := #[.func (.yield l) #[] #[], .pointer (some ⟨X, 0, none⟩), .pointer (some ⟨Y, 0, none⟩), .pointer (some ⟨Z, 0, none⟩), .pointer (some ⟨W.heap.size, 0, none⟩), .pointer (some ⟨W'.heap.size, 0, none⟩), .pointer (some ⟨K, 0, none⟩), .pointer (some ⟨K, 0, none⟩), .pointer (some ⟨K, 7, none⟩), .func (.func 84) #[] #[.pointer (some ⟨V, 0, none⟩)], .pointer (some ⟨Y, 0, none⟩), .int .i64 q, .func (.func 88) #[] #[.pointer (some ⟨V, 0, none⟩), .pointer (some ⟨X3, 0, none⟩), .pointer (some ⟨Y3, 0, none⟩)], .agg #[.int .i64 s.f, .int .i64 s.l, .int .i64 s.t], undef, undef, undef, undef, undef, undef, undef, undef, undef, undef, undef, undef, undef, undef, undef, undef, undef, undef, undef, undef], defers := [] }
      (W'.alloc (Obj.cells #[.int .i64 s.f, .int .i64 s.l, .int .i64 s.t] 90)) ((KeepsOthers.alloc _ _).from _) (KpO.of_below h1) ⟨OwnFrom.alloc (I := J) HJ.out _ hj, hst.off (Off.of_below hst.sane h1)⟩ ⟨W'.heap.size, by go_simp, by go_simp, by go_simp, rfl⟩)
    clear hj hst hKK h1
    gi_wp2
    exact HP.out
  case body =>
    rintro l' pre s a' W' hl' hrec ⟨hj, hst⟩ ⟨S, s0, s1, s2, rfl⟩ hpre
    obtain ⟨lx, ly, lz, x0, y0, y1, z0⟩ := hst.sp
    obtain ⟨_, k3, k5, k6, k7, _, _, _⟩ := HK.out.below hst.below
    obtain ⟨b, o, rfl, _, _, r0⟩ := Ints.at_ (HK.out.row.below hst.below) hp
    have cg := hst.cg
    have HSTB := Lib.hid hst
    have HJB := Lib.hid hj
    have HPR := Lib.hid hpre
    obtain ⟨rp, hrp⟩ : ∃ r, r = row[p] := ⟨_, rfl⟩
    have HRP : Hid (row.getD p 0 = rp) := by show _ = _; rw [hrp, List.getD_eq_getElem?_getD, List.getElem?_eq_getElem hp]; rfl
    rw [← hrp] at r0
    clear hst hj hpre hrec hrp
    by_cases hlet : s.l = rp
    · have hle1 : (s.l == rp) = true := by simp [hlet]
      gi_wp2
      refine wpIn_region_tail' 17 (by kernel_rfl) (by kernel_rfl) ?_
      intro X0 hX0
      simp only [List.take_succ_cons, List.take_zero]
      repeat (gi_big_quiet_step (fail))
      refine wpQuietIn_nil ?_
      refine hX0 _ ?_
      clear hX0 X0
      intro nq
      simp only [List.drop_succ_cons, List.drop_zero]
      have HO4 : Hid (Off w0.heap.size Ms Fs W' (W'.drewN nq)) := Off.of_below HSTB.out.sane (below_drewN (Below.refl _ _) nq)
      have HJ4 : Hid (J (spotNext a row q p d pre) (W'.drewN nq)) := HJ.out _ W' _ none HJB.out ⟨rfl, rfl, rfl, Nat.le_refl _, fun k hk _ => rfl⟩ (fun r e => by cases e)
      clear lx ly lz x0 y0 y1 z0 k3 k5 k6 k7 cg s0 s1 s2 r0
      generalize W'.drewN nq = W4 at *
      have HSN : Hid (spotNext a row q p d (pre ++ [s]) = spotNext a row q p d pre ++ [(s.t, d)]) := by
        show _ = _
        rw [spotNext_snoc, HRP.out, if_pos hle1]
      obtain ⟨fn, tmps, assign, body, hy, hR⟩ := HY.out (spotNext a row q p d pre) (s.t, d) W4 HJ4.out (by rw [← HSN.out]; exact spotNext_prefix HPR.out)
      dsimp only [spE] at hy
      have HRR := Lib.hid hR
      clear hR
      gi_wp2
      refine round_any HRR.out ?_
      rintro e W5 (⟨rfl, hJ5, hk5⟩ | ⟨rfl, hJ5, hk5⟩)
      · have HO5 : Hid (Off w0.heap.size Ms Fs W' W5) := HO4.out.trans (hk5 HO4.out.sane)
        have HJ5 : Hid (J (spotNext a row q p d (pre ++ [s])) W5) := by show J _ _; rw [HSN.out]; exact hJ5
        clear hJ5 hk5
        have HP : Hid (KeepsFrom w3.heap.size W' W5 ∧ KpO w0.heap.size ((w3.heap.size + 1) :: Ms) Fs W' W5 ∧ J (spotNext a row q p d (pre ++ [s])) W5 ∧ StIn w0 Ms Fs K X Y Z W.heap.size l q p d w3.heap.size W5) :=
          ⟨HO5.out.keeps HSTB.out.sane hMs hFs, fun hs => HO5.out.cons (by omega) (hs.bad _ (.inl (List.mem_cons_self ..))).2, HJ5.out, HSTB.out.off HO5.out⟩
        gi_wp2
        exact HP.out
      · have HO5 : Hid (Off w0.heap.size Ms Fs W' W5) := HO4.out.trans (hk5 HO4.out.sane)
        have HP : Hid (KeepsFrom w3.heap.size W' W5 ∧ KpO w0.heap.size ((w3.heap.size + 1) :: Ms) Fs W' W5 ∧ Code.ret = Code.ret ∧ ∃ pre', pre' <+: spotNext a row q p d (stepsFrom a q) ∧ Jx pre' W5) :=
          ⟨HO5.out.keeps HSTB.out.sane hMs hFs, fun hs => HO5.out.cons (by omega) (hs.bad _ (.inl (List.mem_cons_self ..))).2, rfl, _, by rw [← HSN.out]; exact spotNext_prefix HPR.out, hJ5⟩
        clear hJ5 hk5
        gi_wp2
        exact ⟨HP.out.1, HP.out.2.1, rfl, HP.out.2.2.2⟩
    · have hle1 : (s.l == rp) = false := by simp [hlet]
      gi_wp2
      refine wpIn_region_tail' 17 (by kernel_rfl) (by kernel_rfl) ?_
      intro X0 hX0
      simp only [List.take_succ_cons, List.take_zero]
      repeat (gi_big_quiet_step (fail))
      refine wpQuietIn_nil ?_
      refine hX0 _ ?_
      clear hX0 X0
      intro nq
      simp only [List.drop_succ_cons, List.drop_zero]
      have HO4 : Hid (Off w0.heap.size Ms Fs W' (W'.drewN nq)) := Off.of_below HSTB.out.sane (below_drewN (Below.refl _ _) nq)
      have HJ4 : Hid (J (spotNext a row q p d pre) (W'.drewN nq)) := HJ.out _ W' _ none HJB.out ⟨rfl, rfl, rfl, Nat.le_refl _, fun k hk _ => rfl⟩ (fun r e => by cases e)
      clear lx ly lz x0 y0 y1 z0 k3 k5 k6 k7 cg s0 s1 s2 r0
      generalize W'.drewN nq = W4 at *
      have HSN : Hid (spotNext a row q p d (pre ++ [s]) = spotNext a row q p d pre) := by
        show _ = _
        rw [spotNext_snoc, HRP.out, if_neg (by rw [hle1]; decide), List.append_nil]
      have HP : Hid (KeepsFrom w3.heap.size W' W4 ∧ KpO w0.heap.size ((w3.heap.size + 1) :: Ms) Fs W' W4 ∧ J (spotNext a row q p d (pre ++ [s])) W4 ∧ StIn w0 Ms Fs K X Y Z W.heap.size l q p d w3.heap.size W4) :=
        ⟨HO4.out.keeps HSTB.out.sane hMs hFs, fun hs => HO4.out.cons (by omega) (hs.bad _ (.inl (List.mem_cons_self ..))).2, by rw [HSN.out]; exact HJ4.out, HSTB.out.off HO4.out⟩
      gi_wp2
      refine ⟨fun _ h => (by cases h), ?_⟩
      gi_wp2
      exact HP.out
  case done =>
    rintro Dm W' hDm ⟨hj, _⟩ hD
    have HP : Hid (J (spotNext a row q p d (stepsFrom a q)) (W'.putObj Dm (.deferred none))) := OwnFrom.putObj (I := J) HJ.out _ hj (by omega) hD rfl
    clear hj
    gi_wp2
    refine ⟨by simp, .inl ⟨_, _, rfl, run_takeDeferred hD, ?_⟩⟩
    exact ⟨_, results_none rfl _ _ _, ⟨_, rfl⟩, .inl HP.out⟩
  case stop =>
    rintro Dm c pre W' hDm hpre ⟨rfl, pre', h1, h2⟩ hD
    have HP : Hid (∃ pre, pre <+: spotNext a row q p d (stepsFrom a q) ∧ Jx pre (W'.putObj Dm (.deferred none))) := ⟨pre', h1, OwnFrom.putObj (I := Jx) HJX.out _ h2 (by omega) hD rfl⟩
    clear h2
    gi_wp2
    refine ⟨by simp, .inl ⟨_, _, rfl, run_takeDeferred hD, ?_⟩⟩
    exact ⟨_, results_none rfl _ _ _, ⟨_, rfl⟩, .inr HP.out⟩
end Go.Proofs.Ytoglgeaiiipchaa
