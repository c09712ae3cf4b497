/- Walks: the tableau's kept: what must have been promised. -/
import Derived.Test.YtoglgeaiiipchabLTTM1
import Derived.Test.YtoglgeaiiipchabProg
import Derived.Shelf.Abstract
import Derived.Test.YtoglgeaiiipchabLTTM8
import Derived.Test.YtoglgeaiiipchabLTTM12
import Derived.Deep.CutBlock
import Derived.Test.YtoglgeaiiipchabLTTM5
import Derived.Deep.DeepCutAuto
set_option linter.unusedSimpArgs false
set_option linter.unusedVariables false
namespace Go.Proofs.Ytoglgeaiiipchab
open Go Go.RowKit Go.Shelf

/-- a function value that answers a predicate of one number, whatever memory was made since -/
def PredV (P : Program) (g : FuncId) (caps : Array Value) (p : Int → Bool) (w : World) : Prop :=
  ∀ (n : Int) (W : World), Below w.heap.size w W → Calls P g (#[.int .i64 n] ++ caps) W fun e W' => e = .returned (.bool (p n)) ∧ Below W.heap.size W W'

theorem PredV.below {P : Program} {g : FuncId} {caps : Array Value} {p : Int → Bool} {w w' : World} (h : PredV P g caps p w) (hb : Below w.heap.size w w') : PredV P g caps p w' :=
  fun n W hW => h n W (hb.trans (hW.mono hb.size))

def anyB (p : Int → Bool) (xs : List Int) : Bool := xs.any p
def firstIx (p : Int → Bool) : List Int → Nat → Int
  | [], _ => -1
  | x :: r, i => if p x = true then i else firstIx p r (i + 1)
theorem firstIx_step {p : Int → Bool} {xs : List Int} {k : Nat} (hk : k < xs.length) : firstIx p (xs.drop k) k = if p xs[k] = true then (k : Int) else firstIx p (xs.drop (k + 1)) (k + 1) := by
  rw [List.drop_eq_getElem_cons hk]; rfl
theorem firstIx_end {p : Int → Bool} {xs : List Int} {k : Nat} (hk : xs.length ≤ k) : firstIx p (xs.drop k) k = -1 := by
  rw [List.drop_of_length_le hk]; rfl
theorem firstIx_any (p : Int → Bool) (xs : List Int) : ∀ i, decide (0 ≤ firstIx p xs i) = anyB p xs := by
  unfold anyB
  induction xs with
  | nil => intro i; rfl
  | cons x r ih =>
    intro i
    by_cases h : p x = true
    · simp [firstIx, h]
    · simp [firstIx, h, ih]

set_option maxRecDepth 100000 in
theorem IndexFuncI_ (A : Option Addr) (c : Nat) (xs : List Int) (g : FuncId) (caps : Array Value) (p : Int → Bool) (w : World) (hx : Ints w 0 A c xs) (hg : Enters Try.prog g) (hp : PredV Try.prog g caps p w) :
    Calls Try.prog 73 #[.slice A xs.length c, .func (.func g) #[] caps] w fun e w' => e = .returned (.int .i64 (firstIx p xs 0)) ∧ Below w.heap.size w w' := by
  have h1 := hx.le
  have h2 := hx.max
  have H := Lib.hid hp
  clear hp
  have hgr : ∀ (args : Array Value) (w : World), (callFunc g args).run Try.prog w = .ok (.enter g args) w := hg
  clear hg
  go_enter Try.func73, Try.ntmps73
  go_wp2
  go_loopw [8] (fun i wr => ∃ k : Nat, k ≤ xs.length ∧ i = .int .i64 k ∧ firstIx p xs 0 = firstIx p (xs.drop k) k ∧ Below w.heap.size w wr) (fun i _ => xs.length - (intOf i).toNat)
  case atStart => exact ⟨0, Nat.zero_le _, rfl, rfl, Below.refl _ _⟩
  case round =>
    obtain ⟨k, hk, rfl, hc, hb⟩ := hrel
    have HC := Lib.hid hc
    clear hc
    by_cases hlt : k < xs.length
    · obtain ⟨b, o, rfl, _, hbl, hc1⟩ := Ints.at_ (hx.below hb) hlt
      have hs := firstIx_step (p := p) hlt
      have HS := Lib.hid hs
      clear hs
      go_wp2_with fail
      refine (H.out _ _ hb).mono ?_; rintro e w1 ⟨rfl, hb1⟩
      go_wp2
      · have ht : p xs[k] = true := by assumption
        go_ret
        exact ⟨ret_int (by rw [HC.out, HS.out, if_pos ht]), Below_on hb hb1 hb.size⟩
      · have ht : p xs[k] = false := by assumption
        go_roundw
        case rel => exact ⟨k + 1, by omega, by go_num, by rw [HC.out, HS.out, if_neg (by simp [ht])], Below_on hb hb1 hb.size⟩
        case measure => simp [intOf]; omega
    · go_wp2
      go_ret
      exact ⟨ret_int (by rw [HC.out, firstIx_end (by omega)]), hb⟩

theorem ContainsFuncI_ (A : Option Addr) (c : Nat) (xs : List Int) (g : FuncId) (caps : Array Value) (p : Int → Bool) (w : World) (hx : Ints w 0 A c xs) (hg : Enters Try.prog g) (hp : PredV Try.prog g caps p w) :
    Calls Try.prog 42 #[.slice A xs.length c, .func (.func g) #[] caps] w fun e w' => e = .returned (.bool (anyB p xs)) ∧ Below w.heap.size w w' := by
  have H := Lib.hid (IndexFuncI_ A c xs g caps p w hx hg hp)
  have HF := Lib.hid (firstIx_any p xs 0)
  clear hx hp hg
  go_enter Try.func42, Try.ntmps42
  go_wp2_with fail
  refine H.out.mono ?_
  rintro e w1 ⟨rfl, hb1⟩
  go_wp2
  go_ret
  exact ⟨ret_bool HF.out, hb1⟩
end Go.Proofs.Ytoglgeaiiipchab

namespace Go.Proofs.Ytoglgeaiiipchab
open Go Go.RowKit Go.Shelf

def badL (letters n : Int) : Bool := decide (n < 0) || decide (letters ≤ n)
def ckL (l : La) (letters : Int) : Int :=
  if letters < 1 ∨ 8 < letters then 3
  else if 4000 < (l.h.length : Int) ∨ 4000 < (l.l.length : Int) then 2
  else if l.l.length = 0 then 1
  else if (anyB (badL letters) l.h || anyB (badL letters) l.l) = true then 5
  else 0
theorem ckL_3 {l : La} {letters : Int} (h : letters < 1 ∨ 8 < letters) : ckL l letters = 3 := by rw [ckL, if_pos h]
theorem ckL_2 {l : La} {letters : Int} (h : ¬ (letters < 1 ∨ 8 < letters)) (h2 : 4000 < (l.h.length : Int) ∨ 4000 < (l.l.length : Int)) : ckL l letters = 2 := by rw [ckL, if_neg h, if_pos h2]
theorem ckL_1 {l : La} {letters : Int} (h : ¬ (letters < 1 ∨ 8 < letters)) (h2 : ¬ (4000 < (l.h.length : Int) ∨ 4000 < (l.l.length : Int))) (h3 : l.l.length = 0) : ckL l letters = 1 := by rw [ckL, if_neg h, if_neg h2, if_pos h3]
theorem ckL_x {l : La} {letters : Int} (h : ¬ (letters < 1 ∨ 8 < letters)) (h2 : ¬ (4000 < (l.h.length : Int) ∨ 4000 < (l.l.length : Int))) (h3 : ¬ l.l.length = 0) :
    ckL l letters = if (anyB (badL letters) l.h || anyB (badL letters) l.l) = true then 5 else 0 := by rw [ckL, if_neg h, if_neg h2, if_neg h3]

theorem wordCheck1_ (letters : Int) (B : Nat) (w : World) (hc : w.cell? ⟨B, 0, none⟩ = some (.int .i64 letters)) (hB : B < w.heap.size) :
    PredV Try.prog 58 #[.pointer (some ⟨B, 0, none⟩)] (badL letters) w := by
  intro n W hW
  have hc' : W.cell? ⟨B, 0, none⟩ = some (.int .i64 letters) := (hW.cell (p := ⟨B, 0, none⟩) hB).trans hc
  clear hc hW
  simp only [List.append_toArray, List.cons_append, List.nil_append]
  go_enter Try.func58, Try.ntmps58
  go_wp2
  all_goals (go_ret; refine ⟨ret_bool ?_, Below.refl _ _⟩; unfold badL)
  · rfl
  · rw [decide_eq_true (by assumption)]; rfl
theorem wordCheckEnters : Enters Try.prog 58 := enters_of Try.func58 (by kernel_rfl) rfl

set_option maxRecDepth 100000 in
theorem wordCheck_ (A B : Option Addr) (ca cb : Nat) (l : La) (letters : Int) (w : World) (hh : Ints w 0 A ca l.h) (hl : Ints w 0 B cb l.l) :
    Calls Try.prog 27 #[.agg #[.slice A l.h.length ca, .slice B l.l.length cb], .int .i64 letters] w fun e w' => e = .returned (.int .i64 (ckL l letters)) ∧ Below w.heap.size w w' := by
  have h1 := hh.le
  have h2 := hh.max
  have h3 := hl.le
  have h4 := hl.max
  go_enter Try.func27, Try.ntmps27
  have hbA : Below w.heap.size w ((w.alloc (Obj.cells #[Value.slice A l.h.length ca, Value.slice B l.l.length cb] 28)).alloc (Obj.cells #[Value.int IntKind.i64 letters] 3)) := ((Below.refl _ _).alloc (Nat.le_refl _) _).alloc (by simp) _
  have HA := Lib.hid hbA
  clear hbA
  by_cases h3 : letters < 1 ∨ 8 < letters
  · have HF := Lib.hid (ckL_3 (l := l) h3)
    go_wp2_with fail
    all_goals (go_ret; exact ⟨ret_int HF.out.symm, HA.out⟩)
  by_cases h2 : 4000 < (l.h.length : Int) ∨ 4000 < (l.l.length : Int)
  · have HF := Lib.hid (ckL_2 h3 h2)
    go_wp2_with fail
    all_goals (go_ret; exact ⟨ret_int HF.out.symm, HA.out⟩)
  by_cases h1' : l.l.length = 0
  · have HF := Lib.hid (ckL_1 h3 h2 h1')
    have hz : ((l.l.length : Int) == 0) = true := by simp [h1']
    clear h1'
    go_wp2_with fail
    go_ret
    exact ⟨ret_int HF.out.symm, HA.out⟩
  have HF := Lib.hid (ckL_x h3 h2 h1')
  have hz : ((l.l.length : Int) == 0) = false := by simpa using h1'
  clear h1'
  go_wp2_with fail
  refine (ContainsFuncI_ _ _ _ _ _ (badL letters) _ (hh.below HA.out) wordCheckEnters (wordCheck1_ letters (w.heap.size + 1) _ (by go_simp) (by simp))).mono ?_
  rintro e w1 ⟨rfl, hb1⟩
  obtain ⟨hc1, hf1⟩ := bcell hb1
  have HB := Lib.hid hb1
  clear hb1
  have hs1 : w.heap.size + 1 < w1.heap.size := by have := HB.out.size; simp at this; omega
  have HW := Lib.hid (Below_on HA.out HB.out (by simp; omega))
  go_wp2_with fail
  · have hn : anyB (badL letters) l.h = true := by assumption
    go_ret
    exact ⟨ret_int (by rw [HF.out, hn]; simp), HW.out⟩
  · have hn : anyB (badL letters) l.h = false := by simpa using (by assumption : ¬ anyB (badL letters) l.h = true)
    refine (ContainsFuncI_ _ _ _ _ _ (badL letters) _ (hl.below HW.out) wordCheckEnters (wordCheck1_ letters (w.heap.size + 1) _ (by go_simp) hs1)).mono ?_
    rintro e w2 ⟨rfl, hb2⟩
    have HB2 := Lib.hid hb2
    clear hb2
    go_wp2
    all_goals (go_ret; refine ⟨ret_int (by rw [HF.out, hn]; simp [*]), Below_on HW.out HB2.out (by omega)⟩)
end Go.Proofs.Ytoglgeaiiipchab

namespace Go.Proofs.Ytoglgeaiiipchab
open Go Go.RowKit Go.Maps Go.Shelf

/-- the numbers of the nodes of the three kinds -/
def atD (f : List Nd) (n : Nat) : List (Int × Int) := ((List.range n).filter fun i => isTmp (f.getD i nond).k).map fun i : Nat => ((i : Int), (tix f i : Int))
theorem atD_succ (f : List Nd) (n : Nat) : atD f (n + 1) = atD f n ++ if isTmp (f.getD n nond).k = true then [((n : Int), (tix f n : Int))] else [] := by
  unfold atD
  rw [List.range_succ, List.filter_append, List.map_append]
  by_cases h : isTmp (f.getD n nond).k = true
  · rw [if_pos h, List.filter_cons_of_pos (p := fun i : Nat => isTmp (f.getD i nond).k) h]; rfl
  · rw [if_neg h, List.filter_cons_of_neg (p := fun i : Nat => isTmp (f.getD i nond).k) h]; rfl
theorem atD_mem {f : List Nd} {n : Nat} {k v : Int} : (k, v) ∈ atD f n ↔ ∃ i, i < n ∧ isTmp (f.getD i nond).k = true ∧ k = (i : Int) ∧ v = (tix f i : Int) := by
  unfold atD
  rw [List.mem_map]
  constructor
  · rintro ⟨i, hi, he⟩
    rw [List.mem_filter, List.mem_range] at hi
    simp only [Prod.mk.injEq] at he
    exact ⟨i, hi.1, hi.2, he.1.symm, he.2.symm⟩
  · rintro ⟨i, h1, h2, rfl, rfl⟩
    exact ⟨i, List.mem_filter.2 ⟨List.mem_range.2 h1, h2⟩, rfl⟩
theorem atD_key {f : List Nd} {n : Nat} {k : Int} : k ∈ (atD f n).map Prod.fst ↔ ∃ i, i < n ∧ isTmp (f.getD i nond).k = true ∧ k = (i : Int) := by
  rw [List.mem_map]
  constructor
  · rintro ⟨⟨k', v⟩, h, rfl⟩
    obtain ⟨i, h1, h2, h3, _⟩ := atD_mem.1 h
    exact ⟨i, h1, h2, h3⟩
  · rintro ⟨i, h1, h2, rfl⟩
    exact ⟨_, atD_mem.2 ⟨i, h1, h2, rfl, rfl⟩, rfl⟩
theorem atD_nodup (f : List Nd) (n : Nat) : ((atD f n).map Prod.fst).Nodup := by
  unfold atD
  rw [List.map_map]
  have : ((List.range n).filter fun i => isTmp (f.getD i nond).k).Nodup := List.nodup_range.filter _
  unfold List.Nodup at *
  rw [List.pairwise_map]
  exact this.imp fun {x y} h e => h (Int.ofNat.inj e)
theorem atD_len (f : List Nd) : ∀ n, n ≤ f.length → (atD f n).length = tix f n
  | 0, _ => by simp [atD, tix]
  | n + 1, h => by
    rw [atD_succ, List.length_append, atD_len f n (by omega), tix_succ (by omega)]
    by_cases h : isTmp (f.getD n nond).k = true
    · rw [if_pos h, if_pos h]; rfl
    · rw [if_neg h, if_neg h]; rfl
def fairI (f : List Nd) : List Int := (fair f).map fun i : Nat => (i : Int)
theorem fairI_len (f : List Nd) : (fairI f).length = (fair f).length := by simp [fairI]
/-- the builder, as far as it is only read -/
structure TbAt (W : World) (Bk M : Nat) (f : List Nd) (FA : Option Addr) (fc : Nat) (GA : Option Addr) (gc : Nat) : Prop where
  lt : Bk < W.heap.size
  c0 : W.cell? ⟨Bk, 0, none⟩ = some (.slice FA f.length fc)
  c1 : W.cell? ⟨Bk, 1, none⟩ = some (.map (some M))
  c2 : W.cell? ⟨Bk, 2, none⟩ = some (.slice GA (fairI f).length gc)
  fm : Nds W 0 FA fc f
  at_ : AtI W M (atD f f.length)
  fr : Ints W 0 GA gc (fairI f)
theorem TbAt.on {W W' : World} {Bk M : Nat} {f : List Nd} {FA : Option Addr} {fc : Nat} {GA : Option Addr} {gc : Nat} (h : TbAt W Bk M f FA fc GA gc) (hb : Below W.heap.size W W') : TbAt W' Bk M f FA fc GA gc :=
  ⟨Nat.lt_of_lt_of_le h.lt hb.size, (hb.cell (p := ⟨Bk, 0, none⟩) h.lt).trans h.c0, (hb.cell (p := ⟨Bk, 1, none⟩) h.lt).trans h.c1, (hb.cell (p := ⟨Bk, 2, none⟩) h.lt).trans h.c2, h.fm.below hb, h.at_.on hb, h.fr.below hb⟩
/-- the row in the making -/
def trR (f : List Nd) (c : Int) (nx : Nat) (i : Nat) : List Bool := trs f c nx i ++ List.replicate (f.length - i) false
theorem trR_len {f : List Nd} {c : Int} {nx i : Nat} (h : i ≤ f.length) : (trR f c nx i).length = f.length := by
  unfold trR
  rw [List.length_append, trs_len, List.length_replicate]
  omega
theorem trR_get {f : List Nd} {c : Int} {nx i j : Nat} (h : j < i) : (trR f c nx i).getD j false = (trs f c nx i).getD j false := by
  unfold trR
  rw [List.getD_eq_getElem?_getD, List.getElem?_append_left (by rw [trs_len]; exact h), ← List.getD_eq_getElem?_getD]
theorem trR_set {f : List Nd} {c : Int} {nx i : Nat} (h : i < f.length) : (trR f c nx i).set i (trAt f c nx (trs f c nx i) i) = trR f c nx (i + 1) := by
  unfold trR
  rw [List.set_append_right _ _ (by rw [trs_len]; exact Nat.le_refl _), trs_len, Nat.sub_self, show f.length - i = (f.length - (i + 1)) + 1 by omega, List.replicate_succ, List.set_cons_zero]
  show _ = (trs f c nx i ++ [trAt f c nx (trs f c nx i) i]) ++ _
  rw [List.append_assoc]
  rfl
theorem trR_end (f : List Nd) (c : Int) (nx : Nat) : trR f c nx f.length = truths f c nx := by
  unfold trR truths
  rw [Nat.sub_self]
  simp
end Go.Proofs.Ytoglgeaiiipchab

namespace Go.Proofs.Ytoglgeaiiipchab
open Go Go.RowKit Go.Maps Go.Shelf

theorem wrTb {x : Int} (h1 : -9000000000000000000 ≤ x) (h2 : x ≤ 9000000000000000000) : IntKind.i64.wrap x = x := IntWalk.i64_in _ (by omega)
set_option maxRecDepth 100000 in
set_option maxHeartbeats 4000000 in
theorem number_ (f : List Nd) (hf : FmOK f) (p v : Nat) (hp : p ≤ 16) (hv : v ≤ 5) (Bk M : Nat) (FA GA : Option Addr) (fc gc : Nat) (w : World) (hT : TbAt w Bk M f FA fc GA gc) :
    Calls Try.prog 86 #[.pointer (some ⟨Bk, 0, none⟩), .int .i64 (p : Int), .int .i64 (v : Int)] w fun e w' => e = .returned (.int .i64 (tnum f p v)) ∧ w' = w := by
  have hn := tn_le hf
  have c2 := hT.c2
  rw [fairI_len] at c2
  have HD : Hid (tnum f p v = 1 + (p : Int) * (((fair f).length : Int) + 1) + v) := rfl
  have hln : (fair f).length ≤ 4 := by omega
  clear hT hn hf
  generalize (fair f).length = n at *
  have hm : (p : Int) * ((n : Int) + 1) = ((p * (n + 1) : Nat) : Int) := by simp
  have hM : p * (n + 1) ≤ 16 * 5 := Nat.mul_le_mul hp (by omega)
  have q1 : IntKind.i64.wrap ((p : Int) * ((n : Int) + 1)) = (p : Int) * ((n : Int) + 1) := wrTb (by omega) (by omega)
  have q2 : IntKind.i64.wrap (1 + (p : Int) * ((n : Int) + 1)) = 1 + (p : Int) * ((n : Int) + 1) := wrTb (by omega) (by omega)
  have q3 : IntKind.i64.wrap (1 + (p : Int) * ((n : Int) + 1) + (v : Int)) = 1 + (p : Int) * ((n : Int) + 1) + v := wrTb (by omega) (by omega)
  have HP : Hid (Ending.returned (.int .i64 (1 + (p : Int) * ((n : Int) + 1) + v)) = .returned (.int .i64 (tnum f p v))) := by show _ = _; rw [HD.out]
  clear hm hM
  go_enter Try.func86, Try.ntmps86
  go_wp2_with fail
  go_ret
  exact ⟨HP.out, rfl⟩
set_option maxRecDepth 100000 in
set_option maxHeartbeats 4000000 in
theorem calm_ (f : List Nd) (hf : FmOK f) (i : Nat) (hi : i < f.length) (hk : (f.getD i nond).k = 7 ∨ (f.getD i nond).k = 8) (t : List Bool) (hl : t.length = f.length) (G Bk M : Nat) (FA GA : Option Addr) (fc gc : Nat) (w : World) (hT : TbAt w Bk M f FA fc GA gc) (hG : BRow w G t) :
    Calls Try.prog 114 #[.pointer (some ⟨Bk, 0, none⟩), .int .i64 (i : Int), .slice (some ⟨G, 0, none⟩) t.length t.length] w (BoolPost w (calmV f t i)) := by
  have hle := hT.fm.le
  have c0 := hT.c0
  have HE : Hid (f.getD i nond = f[i]) := by show _ = _; rw [List.getD_eq_getElem?_getD, List.getElem?_eq_getElem hi]; rfl
  have hx := ndErr_zero.1 (hf.nd i hi)
  rw [HE.out] at hk
  have HV : Hid (calmV f t i = if f[i].k = 7 then !t.getD i false || t.getD f[i].b.toNat false else t.getD i false || !t.getD f[i].b.toNat false) := by show _ = _; unfold calmV; rw [HE.out]
  obtain ⟨fb, fo, rfl, _, _, x0, x1, x2, x3⟩ := Nds.at_ hT.fm hi
  generalize f[i] = x at *
  obtain ⟨hb1, hb2⟩ := hx.b (by omega)
  obtain ⟨bb, hbb⟩ := Int.eq_ofNat_of_zero_le hb1
  rw [hbb] at HV x2
  rw [show ((bb : Nat) : Int).toNat = bb by omega] at HV
  have HB : Hid (Below w.heap.size w (w.alloc (Obj.cells #[.int .i64 x.k, .int .i64 x.a, .int .i64 (bb : Int), .int .i64 x.n] 74))) := (Below.refl _ _).alloc (Nat.le_refl _) _
  obtain ⟨y0, _⟩ := (hG.below HB.out hG.lt).getD_ (i := i) (by omega) false
  obtain ⟨y1, _⟩ := (hG.below HB.out hG.lt).getD_ (i := bb) (by omega) false
  have q1 : (i : Int) < (f.length : Int) := by omega
  have q2 : (i : Int) < (t.length : Int) := by omega
  have q3 : (bb : Int) < (t.length : Int) := by omega
  generalize t.getD i false = vi at *
  generalize t.getD bb false = vb at *
  have HK := Lib.hid hk
  clear hT hG hf hx hk hb1 hb2 hbb hl HE
  go_enter Try.func114, Try.ntmps114
  by_cases h7 : x.k = 7
  · rw [if_pos h7] at HV
    rw [h7] at x0 HB y0 y1
    have HP : Hid (BoolPost w (calmV f t i) (.returned (.bool (!vi || vb))) (w.alloc (Obj.cells #[.int .i64 7, .int .i64 x.a, .int .i64 (bb : Int), .int .i64 x.n] 74))) := ⟨by rw [HV.out], HB.out⟩
    clear h7 HK
    cases vi
    all_goals
      go_wp2_with fail
      go_ret
      exact HP.out
  · rw [if_neg h7] at HV
    have h8 : x.k = 8 := by have := HK.out; omega
    rw [h8] at x0 HB y0 y1
    have HP : Hid (BoolPost w (calmV f t i) (.returned (.bool (vi || !vb))) (w.alloc (Obj.cells #[.int .i64 8, .int .i64 x.a, .int .i64 (bb : Int), .int .i64 x.n] 74))) := ⟨by rw [HV.out], HB.out⟩
    clear h7 h8 HK
    cases vi
    all_goals
      go_wp2_with fail
      go_ret
      exact HP.out
theorem fairI_get {f : List Nd} {k : Nat} (h : k < (fairI f).length) : (fairI f)[k] = (((fair f).getD k 0 : Nat) : Int) := by
  have h2 : k < (fair f).length := by rwa [fairI_len] at h
  have h3 : (fairI f)[k]? = some (((fair f).getD k 0 : Nat) : Int) := by
    unfold fairI
    rw [List.getElem?_map, List.getD_eq_getElem?_getD, List.getElem?_eq_getElem h2]
    rfl
  exact (List.getElem?_eq_some_iff.1 h3).2
theorem adv_done {f : List Nd} {t : List Bool} {k : Nat} (h : ¬ k < (fair f).length) : ∀ m, adv f t m k = k
  | 0 => rfl
  | m + 1 => by unfold adv; rw [if_neg (fun hc => h hc.1)]
theorem adv_no {f : List Nd} {t : List Bool} {k : Nat} (h : calmV f t ((fair f).getD k 0) = false) : ∀ m, adv f t m k = k
  | 0 => rfl
  | m + 1 => by unfold adv; rw [if_neg (fun hc => by rw [h] at hc; cases hc.2)]
set_option maxRecDepth 100000 in
set_option maxHeartbeats 4000000 in
theorem on_ (f : List Nd) (hf : FmOK f) (v : Nat) (hv : v ≤ (fair f).length) (t : List Bool) (hl : t.length = f.length) (G Bk M : Nat) (FA GA : Option Addr) (fc gc : Nat) (w : World) (hT : TbAt w Bk M f FA fc GA gc) (hG : BRow w G t) :
    Calls Try.prog 102 #[.pointer (some ⟨Bk, 0, none⟩), .int .i64 (v : Int), .slice (some ⟨G, 0, none⟩) t.length t.length] w (IntB w (onW f t v : Nat)) := by
  have hn := tn_le hf
  have c2 := hT.c2
  have hln : (fairI f).length ≤ 4 := by rw [fairI_len]; omega
  obtain ⟨s, hs⟩ : ∃ s, s = if v = (fairI f).length then 0 else v := ⟨_, rfl⟩
  have hsl : s ≤ (fairI f).length := by rw [hs]; split <;> (rw [fairI_len] at *; omega)
  have HR : Hid (onW f t v = adv f t (fairI f).length s) := by show _ = _; rw [hs, fairI_len]; rfl
  have HS := Lib.hid hs
  have HT := Lib.hid hT
  have HG := Lib.hid hG
  have HF := Lib.hid hf
  have HL := Lib.hid hl
  have hv5 : v ≤ 4 := by omega
  clear hT hG hs hf hn hv hl
  go_enter Try.func102, Try.ntmps102
  go_upto_if 13 with fail
  go_cut [1] (fun s1 wx => s1 = .int .i64 (s : Int) ∧ wx = w)
  case first =>
    by_cases hz : v = (fairI f).length
    · have e1 : ((v : Int) == ((fairI f).length : Int)) = true := by simp [hz]
      have e2 : Hid (s = 0) := by show _ = _; rw [HS.out, if_pos hz]
      clear hz
      go_wp2_with fail
      go_meet
      exact ⟨by rw [e2.out]; rfl, rfl⟩
    · have e1 : ((v : Int) == ((fairI f).length : Int)) = false := by simp; omega
      have e2 : Hid (s = v) := by show _ = _; rw [HS.out, if_neg hz]
      clear hz
      go_wp2_with fail
      go_meet
      exact ⟨by rw [e2.out], rfl⟩
  case rest =>
    obtain ⟨rfl, rfl⟩ := hcut
    clear c2
    obtain ⟨n, hnn⟩ : ∃ n, n = (fairI f).length := ⟨_, rfl⟩
    have HN := Lib.hid hnn
    rw [← hnn] at HR hln hsl
    clear hnn
    go_wp2_with fail
    go_loopw [1] (fun v1 wr => ∃ k : Nat, k ≤ n ∧ v1 = .int .i64 (k : Int) ∧ Hid (∃ m, n - k ≤ m ∧ adv f t m k = onW f t v) ∧ Hid (Below wc.heap.size wc wr)) (fun v1 _ => n - (intOf v1).toNat)
    case atStart => exact ⟨s, hsl, rfl, ⟨n, by omega, HR.out.symm⟩, Below.refl _ _⟩
    case round =>
      obtain ⟨k, hk, rfl, HM, HBR⟩ := hrel
      have HTR := Lib.hid (HT.out.on HBR.out)
      have c2 := HTR.out.c2
      have c0 := HTR.out.c0
      rw [← HN.out] at c2
      by_cases hkn : k < n
      · have q1 : (k : Int) < (n : Int) := by omega
        have hle := HTR.out.fr.le
        rw [← HN.out] at hle
        have hkf : k < (fairI f).length := by rw [← HN.out]; exact hkn
        obtain ⟨gb, go, rfl, _, _, y0⟩ := Ints.at_ HTR.out.fr hkf
        rw [fairI_get hkf] at y0
        obtain ⟨hfa, hfk⟩ := fair_at (f := f) (w := k) (by rw [← fairI_len]; exact hkf)
        have HCM := Lib.hid (calm_ f HF.out _ hfa hfk t HL.out G Bk M FA _ fc gc wr HTR.out (HG.out.below HBR.out HG.out.lt))
        have HKN := Lib.hid hkn
        have HA1 : Hid (calmV f t ((fair f).getD k 0) = false → adv f t 0 k = onW f t v) := fun h => by
          obtain ⟨m, hm, h1⟩ := HM.out
          rw [← h1]
          exact (adv_no h 0).trans (adv_no h m).symm
        have HA2 : Hid (calmV f t ((fair f).getD k 0) = true → ∃ m, n - (k + 1) ≤ m ∧ adv f t m (k + 1) = onW f t v) := fun h => by
          obtain ⟨m, hm, h1⟩ := HM.out
          cases m with
          | zero => omega
          | succ m =>
            refine ⟨m, by omega, ?_⟩
            rw [← h1]
            show _ = adv f t (m + 1) k
            rw [show adv f t (m + 1) k = if k < (fair f).length ∧ calmV f t ((fair f).getD k 0) = true then adv f t m (k + 1) else k from rfl, if_pos ⟨by rw [← fairI_len]; exact hkf, h⟩]
        clear hfa hfk hkf HM
        generalize (fair f).getD k 0 = ii at *
        generalize calmV f t ii = cv at *
        go_wp2_with fail
        refine HCM.out.mono ?_
        rintro e w3 ⟨rfl, hb3⟩
        have HB3 := Lib.hid (Below_on HBR.out hb3 HBR.out.size)
        clear hb3 HCM c0 c2 y0
        cases cv with
        | true =>
          go_wp2_with fail
          go_roundw
          case rel => exact ⟨k + 1, HKN.out, by go_num, HA2.out (by simp), HB3.out⟩
          case measure => simp [intOf]; have := HKN.out; omega
        | false =>
          have HP : Hid (IntB wc (onW f t v : Nat) (.returned (.int .i64 (k : Int))) w3) := ⟨by rw [← HA1.out (by simp)]; rfl, HB3.out⟩
          go_wp2_with fail
          go_ret
          exact HP.out
      · have q1 : ¬ (k : Int) < (n : Int) := by omega
        have HP : Hid (IntB wc (onW f t v : Nat) (.returned (.int .i64 (k : Int))) wr) := by
          obtain ⟨m, hm, h1⟩ := HM.out
          have hkf : ¬ k < (fair f).length := by rw [← fairI_len, ← HN.out]; exact hkn
          exact ⟨by rw [← h1, adv_done hkf], HBR.out⟩
        go_wp2_with fail
        go_ret
        exact HP.out
end Go.Proofs.Ytoglgeaiiipchab

namespace Go.Proofs.Ytoglgeaiiipchab
open Go Go.RowKit Go.Maps Go.Shelf

theorem below_of_grown {a b : World} {row : Option Nat} {B : Nat} (h : a.grownBy b row) (hB : B ≤ a.heap.size) (hr : ∀ r, row = some r → B ≤ r) : Below B a b :=
  ⟨h.os, h.tape, h.output, h.size, fun k hk => h.block k (by omega) (fun e => by have := hr k e.symm; omega)⟩
theorem bit_or {n t : Nat} (hn : n < 16) (ht : t ≤ 4) : bits BinOp.or IntKind.i64 (n : Int) (wrap64 (2 ^ t)) = ((n ||| 2 ^ t : Nat) : Int) := by
  have : ∀ n : Fin 16, ∀ t : Fin 5, bits BinOp.or IntKind.i64 ((n : Nat) : Int) (wrap64 (2 ^ (t : Nat))) = (((n : Nat) ||| 2 ^ (t : Nat) : Nat) : Int) := by decide +kernel
  exact this ⟨n, hn⟩ ⟨t, by omega⟩
/-- while the range goes on: what is promised of the nodes that came -/
structure KpM (f : List Nd) (t : List Bool) (left : Lit → Bool) (p : Nat) : Prop where
  lt : p < 2 ^ tn f
  bit : ∀ i, i < f.length → isTmp (f.getD i nond).k = true → p.testBit (tix f i) = (!left (.int .i64 (i : Int)) && keptV f t i)
theorem KpM.start (f : List Nd) (t : List Bool) : KpM f t (Maps.has (itD (atD f f.length))) 0 :=
  ⟨Nat.two_pow_pos _, fun i hi ht => by
    rw [itD_has (atD_nodup f f.length) (atD_mem.2 ⟨i, hi, ht, rfl, rfl⟩)]
    simp⟩
theorem KpM.done {f : List Nd} {t : List Bool} {left : Lit → Bool} {p : Nat} (h : KpM f t left p) (hl : ∀ k, left k = false) : KeptIs f t p :=
  ⟨h.lt, fun i hi ht => by rw [h.bit i hi ht, hl]; simp⟩
theorem KpM.step {f : List Nd} {t : List Bool} {left : Lit → Bool} {p i : Nat} (h : KpM f t left p) (hi : i < f.length) (ht : isTmp (f.getD i nond).k = true) (hl : left (.int .i64 (i : Int)) = true) :
    KpM f t (fun z => left z && !z.sameKey (.int .i64 (i : Int))) (if keptV f t i = true then p ||| 2 ^ tix f i else p) := by
  have hb := h.bit i hi ht
  rw [hl] at hb
  have same : ∀ j : Nat, (Lit.int .i64 (j : Int)).sameKey (.int .i64 (i : Int)) = decide (j = i) := fun j => by
    simp [Lit.sameKey]
    omega
  refine ⟨?_, fun j hj hjt => ?_⟩
  · split
    · exact Nat.or_lt_two_pow h.lt (Nat.pow_lt_pow_right (by decide) (tix_tn hi ht))
    · exact h.lt
  · have hbj := h.bit j hj hjt
    show _ = (!(left (.int .i64 (j : Int)) && !(Lit.int .i64 (j : Int)).sameKey (.int .i64 (i : Int))) && keptV f t j)
    rw [same j]
    by_cases hji : j = i
    · subst hji
      have hb0 : p.testBit (tix f j) = false := by simpa using hb
      cases hk : keptV f t j with
      | true => rw [if_pos rfl, Nat.testBit_or, hb0, Nat.testBit_two_pow_self]; simp
      | false => rw [if_neg (by simp), hb0]; simp
    · have hne : tix f i ≠ tix f j := fun e => hji (tix_inj hjt ht hj hi e.symm)
      rw [decide_eq_false hji]
      have hx : (if keptV f t i = true then p ||| 2 ^ tix f i else p).testBit (tix f j) = p.testBit (tix f j) := by
        split
        · rw [Nat.testBit_or, Nat.testBit_two_pow_of_ne hne, Bool.or_false]
        · rfl
      rw [hx, hbj]
      simp
set_option maxRecDepth 100000 in
set_option maxHeartbeats 8000000 in
theorem kept_ (f : List Nd) (hf : FmOK f) (t : List Bool) (hl : t.length = f.length) (G Bk M : Nat) (FA GA : Option Addr) (fc gc : Nat) (w : World) (hT : TbAt w Bk M f FA fc GA gc) (hG : BRow w G t) :
    Calls Try.prog 101 #[.pointer (some ⟨Bk, 0, none⟩), .slice (some ⟨G, 0, none⟩) t.length t.length] w fun e w' => ∃ p : Nat, e = .returned (.int .i64 (p : Int)) ∧ KeptIs f t p ∧ Below w.heap.size w w' := by
  have hown : w.ownsMap Try.prog 3 (plainElem Try.prog 3) M (atD f f.length).length (itD (atD f f.length)) := hT.at_
  have c1 := hT.c1
  have HT := Lib.hid hT
  have HG := Lib.hid hG
  have HF := Lib.hid hf
  have HL := Lib.hid hl
  clear hT hG hf hl
  go_enter Try.func101, Try.ntmps101
  go_wp2_with (first
    | (at_range; refine wpList_range_own _ rfl _ 109 rfl 3 3 keyedIt Try.underlying109 _ M _ _ rfl hown ?_; intro w0 hrg0 hg0 hs0)
    | go_in)
  go_frame
  clear c1 hown
  go_loopw [5] (fun v5 wr => ∃ (left : Lit → Bool) (cnt p : Nat), v5 = .int .i64 (p : Int) ∧ wr.ranges Try.prog 3 (plainElem (H := Unit) Try.prog 3) M w.heap.size (atD f f.length).length (itD (atD f f.length)) left cnt ∧ Hid (KpM f t left p) ∧ Hid (Below w.heap.size w wr)) (fun _ wr => wr.rangeLeft M w.heap.size)
  case atStart => exact ⟨_, _, 0, rfl, hrg0, KpM.start f t, below_of_grown hg0 (Nat.le_refl _) (fun r h => by cases h)⟩
  case round =>
    obtain ⟨left, cnt, p, rfl, hrg, HK, HB⟩ := hrel
    go_wp2_with (first
      | (at_next; refine wpList_next_ranges_ii _ rfl _ rfl 3 3 .i64 .i64 keyedIt Try.underlying3 Try.underlying3 M w.heap.size _ _ _ _ rfl hrg ?_ ?_)
      | go_in)
    · intro _ hl0
      have HP : Hid (∃ p' : Nat, Ending.returned (.int .i64 (p : Int)) = .returned (.int .i64 (p' : Int)) ∧ KeptIs f t p' ∧ Below w.heap.size w wr) := ⟨p, rfl, HK.out.done hl0, HB.out⟩
      clear hl0
      go_wp2_with fail
      go_ret
      exact HP.out
    · intro x c w1 cnt1 hwx hwc hlx hat hrg1 hlt hg1 hs1 hen
      rcases itD_entry (k := x) (v := c) hat with hm | ⟨v', _, hn⟩
      · obtain ⟨i, hi, ht, rfl, rfl⟩ := atD_mem.1 hm
        have HB1 := Lib.hid (Below_on HB.out (below_of_grown hg1 HB.out.size (fun r h => by cases h; exact Nat.le_refl _)) (Nat.le_refl _))
        have HTR := Lib.hid (HT.out.on HB1.out)
        have HGR := Lib.hid (HG.out.below HB1.out HG.out.lt)
        have HK1 := Lib.hid (HK.out.step hi ht hlx)
        have HX := ndErr_zero.1 (HF.out.nd i hi)
        have HE : Hid (f.getD i nond = f[i]) := by show _ = _; rw [List.getD_eq_getElem?_getD, List.getElem?_eq_getElem hi]; rfl
        have HKV : Hid (keptV f t i = if f[i].k = 6 then t.getD f[i].a.toNat false else t.getD i false) := by show _ = _; unfold keptV; rw [HE.out]
        have hle := HTR.out.fm.le
        obtain ⟨fb, fo, rfl, _, _, x0, x1, x2, x3⟩ := Nds.at_ HTR.out.fm hi
        rw [HE.out] at ht
        generalize f[i] = y at *
        have c0 := HTR.out.c0
        have q1 : (i : Int) < (f.length : Int) := by omega
        have q2 : (i : Int) < (t.length : Int) := by have := HL.out; omega
        obtain ⟨y0, _⟩ := HGR.out.getD_ (i := i) (by have := HL.out; omega) false
        have hk6 := isTmp_iff.1 ht
        obtain ⟨hA1, hA2⟩ := HX.a (by omega)
        obtain ⟨aa, haa⟩ := Int.eq_ofNat_of_zero_le hA1
        rw [haa] at x1 HKV
        rw [show ((aa : Nat) : Int).toNat = aa by omega] at HKV
        have q3 : (aa : Int) < (t.length : Int) := by have := HL.out; omega
        obtain ⟨y1, _⟩ := HGR.out.getD_ (i := aa) (by have := HL.out; omega) false
        have htl : tix f i ≤ 4 := by
          have := tix_mono (f := f) (i := i) (j := f.length) (by omega) (Nat.le_refl _)
          have := (tn_le HF.out).1
          unfold tn at this
          omega
        have hp16 : p < 16 := Nat.lt_of_lt_of_le HK.out.lt (Nat.pow_le_pow_right (n := 2) (by decide) (tn_le HF.out).1)
        have HRG := Lib.hid hrg1
        have HML : Hid (w1.rangeLeft M w.heap.size < wr.rangeLeft M w.heap.size) := by show _ < _; rw [hrg1.left_eq, hrg.left_eq]; exact hlt
        generalize t.getD i false = vi at *
        generalize t.getD aa false = va at *
        generalize tix f i = tx at *
        generalize keptV f t i = kv at *
        clear hm ht hA1 hA2 haa HX HE hk6 hat hlx hrg hrg1 hg1 hlt hg0 hrg0 hs0 hs1 HK
        by_cases h6 : y.k = 6
        · rw [if_pos h6] at HKV
          rw [h6] at x0
          clear h6
          cases va with
          | true =>
            go_wp2_with fail
            go_roundw
            case rel => exact ⟨_, _, p ||| 2 ^ tx, by rw [bit_or hp16 htl], HRG.out, by have := HK1.out; rw [HKV.out] at this; exact this, HB1.out⟩
            case measure => exact HML.out
          | false =>
            go_wp2_with fail
            go_roundw
            case rel => exact ⟨_, _, p, rfl, HRG.out, by have := HK1.out; rw [HKV.out] at this; exact this, HB1.out⟩
            case measure => exact HML.out
        · rw [if_neg h6] at HKV
          have e6 : (y.k == 6) = false := by simp [h6]
          clear h6
          cases vi with
          | true =>
            go_wp2_with fail
            go_roundw
            case rel => exact ⟨_, _, p ||| 2 ^ tx, by rw [bit_or hp16 htl], HRG.out, by have := HK1.out; rw [HKV.out] at this; exact this, HB1.out⟩
            case measure => exact HML.out
          | false =>
            go_wp2_with fail
            go_roundw
            case rel => exact ⟨_, _, p, rfl, HRG.out, by have := HK1.out; rw [HKV.out] at this; exact this, HB1.out⟩
            case measure => exact HML.out
      · exact absurd (atD_nodup _ _) hn
end Go.Proofs.Ytoglgeaiiipchab
