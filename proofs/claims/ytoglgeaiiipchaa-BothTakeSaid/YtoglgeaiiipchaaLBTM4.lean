/- Walks: slices.IndexFunc, slices.ContainsFunc at []int over a known predicate. -/
import Derived.Test.YtoglgeaiiipchaaLBTM1
import Derived.Test.YtoglgeaiiipchaaLBTM3
import Derived.Shelf.Abstract
import Derived.Test.YtoglgeaiiipchaaProg
set_option linter.unusedSimpArgs false
set_option linter.unusedVariables false
namespace Go.Proofs.Ytoglgeaiiipchaa
open Go Go.RowKit

/-- of the blocks from a on, below b, nothing has turned -/
structure Kept (a b : Nat) (w w' : World) : Prop where
  size : w.heap.size ≤ w'.heap.size
  block : ∀ k, a ≤ k → k < b → w'.heap[k]? = w.heap[k]?
theorem Kept.refl (a b : Nat) (w : World) : Kept a b w w := ⟨Nat.le_refl _, fun _ _ _ => rfl⟩
theorem Kept.trans {a b : Nat} {w w' w'' : World} (h : Kept a b w w') (h' : Kept a b w' w'') : Kept a b w w'' := ⟨Nat.le_trans h.size h'.size, fun k h1 h2 => (h'.block k h1 h2).trans (h.block k h1 h2)⟩
theorem Below.kept {a b B : Nat} {w w' : World} (h : Below B w w') (hB : b ≤ B) : Kept a b w w' := ⟨h.size, fun k _ h2 => h.block k (Nat.lt_of_lt_of_le h2 hB)⟩
theorem Kept.low {a a' b : Nat} {w w' : World} (h : Kept a b w w') (ha : a ≤ a') : Kept a' b w w' := ⟨h.size, fun k h1 h2 => h.block k (Nat.le_trans ha h1) h2⟩
theorem Kept.set (a b : Nat) (w : World) {p : Addr} (u : Value) (hp : p.block < a ∨ b ≤ p.block) : Kept a b w (w.setCell p u) := ⟨by simp [World.setCell], fun k h1 h2 => Below.heap_setCell _ _ _ _ (by omega)⟩
section
variable {α : Type} {enc : α → List Value} {bt : Nat} {w w' : World} {lo : Nat} {A : Option Addr} {c : Nat} {xs : List α}
theorem Rd.kept {xs : List Value} (h : Rd w lo A xs) (hk : Kept lo w.heap.size w w') : Rd w' lo A xs := by
  intro hne
  obtain ⟨b, off, hA, hlo, hlt, hc⟩ := h hne
  exact ⟨b, off, hA, hlo, Nat.lt_of_lt_of_le hlt hk.size, fun j u hu => (World.cell?_of_block (w := w) (a := ⟨b, off + j, none⟩) (hk.block b hlo hlt)).trans (hc j u hu)⟩
theorem SlE.kept (h : SlE enc bt w lo A c xs) (hk : Kept lo w.heap.size w w') : SlE enc bt w' lo A c xs := ⟨h.le, h.cap, h.max, h.rd.kept hk⟩
end
/-- a new block as what is appended -/
theorem Rd.new (w : World) (cs : Array Value) (e : TypeId) : Rd (w.alloc (Obj.cells cs e)) 0 (some ⟨w.heap.size, 0, none⟩) cs.toList := by
  intro _
  refine ⟨_, 0, rfl, Nat.zero_le _, by simp, fun j u hu => ?_⟩
  have h : (w.alloc (Obj.cells cs e)).heap[w.heap.size]? = some (Obj.cells cs e) := by
    show (w.heap.push _)[w.heap.size]? = _
    simp
  simp only [World.cell?, h, Nat.zero_add]
  simpa using hu

/-- ahead of the append: W: where the round begins; w4: behind the calls; cs: what is appended, in a block of its own -/
theorem fld_mid {W w4 : World} {base R o n c sz : Nat} {e : TypeId} {T : Option Addr} {cells : List Value} (cs : Array Value) (hR : R < base) (hRl : R < W.heap.size) (hbW : base ≤ W.heap.size)
    (hown : W.ownsRow base e sz (.slice T n c) n cells) (e2 : W.cell? ⟨R, o, none⟩ = some (.slice T n c)) (e3 : W.frozen? ⟨R, o, none⟩ = false) (hb : Below W.heap.size W w4) :
    w4.cell? ⟨R, o, none⟩ = some (.slice T n c) ∧ Hid ((w4.alloc (Obj.cells cs e)).ownsRow base e sz (.slice T n c) n cells) ∧ Hid (Rd (w4.alloc (Obj.cells cs e)) 0 (some ⟨w4.heap.size, 0, none⟩) cs.toList) ∧
      base ≤ (w4.alloc (Obj.cells cs e)).heap.size ∧ (w4.alloc (Obj.cells cs e)).cell? ⟨R, o, none⟩ = some (.slice T n c) ∧ some R ≠ (Value.slice T n c).ownBlock ∧
      ∀ w5, (w4.alloc (Obj.cells cs e)).grownBy w5 (Value.slice T n c).ownBlock → w5.cell? ⟨R, o, none⟩ = some (.slice T n c) ∧ w5.frozen? ⟨R, o, none⟩ = false := by
  have hs := hb.size
  have c1 : w4.cell? ⟨R, o, none⟩ = some (.slice T n c) := (hb.cell (p := ⟨R, o, none⟩) hRl).trans e2
  have f1 : w4.frozen? ⟨R, o, none⟩ = false := (hb.frozen (p := ⟨R, o, none⟩) hRl).trans e3
  have hb5 : Below w4.heap.size w4 (w4.alloc (Obj.cells cs e)) := (Below.refl _ _).alloc (Nat.le_refl _) _
  have hn : some R ≠ (Value.slice T n c).ownBlock := own_ne hown hR
  have c2 : (w4.alloc (Obj.cells cs e)).cell? ⟨R, o, none⟩ = some (.slice T n c) := (hb5.cell (p := ⟨R, o, none⟩) (by show R < _; omega)).trans c1
  have f2 : (w4.alloc (Obj.cells cs e)).frozen? ⟨R, o, none⟩ = false := (hb5.frozen (p := ⟨R, o, none⟩) (by show R < _; omega)).trans f1
  have hlt : R < (w4.alloc (Obj.cells cs e)).heap.size := by simp; omega
  exact ⟨c1, own_below (own_below hown hb) hb5, Rd.new _ _ _, by simp; omega, c2, hn, fun w5 h5 => ⟨h5.cell c2 hn, (h5.frozen_far ⟨R, o, none⟩ hlt hn).trans f2⟩⟩
/-- behind the store -/
theorem fld_end {W w4 w5 : World} {base R o n c n' c' sz : Nat} {e : TypeId} {T T' : Option Addr} {cells cells' : List Value} {cs : Array Value} (hR : R < base) (hRl : R < W.heap.size) (hbW : base ≤ W.heap.size)
    (hown : W.ownsRow base e sz (.slice T n c) n cells) (hb : Below W.heap.size W w4)
    (hown5 : w5.ownsRow base e sz (.slice T' n' c') n' cells') (hg5 : (w4.alloc (Obj.cells cs e)).grownBy w5 (Value.slice T n c).ownBlock) :
    (w5.setCell ⟨R, o, none⟩ (.slice T' n' c')).ownsRow base e sz (.slice T' n' c') n' cells' ∧ W.heap.size ≤ (w5.setCell ⟨R, o, none⟩ (.slice T' n' c')).heap.size ∧
      (∀ k, k ≠ R → k < base → (w5.setCell ⟨R, o, none⟩ (.slice T' n' c')).heap[k]? = W.heap[k]?) ∧
      (∀ o', o' ≠ o → ∀ u, W.cell? ⟨R, o', none⟩ = some u → (w5.setCell ⟨R, o, none⟩ (.slice T' n' c')).cell? ⟨R, o', none⟩ = some u) ∧
      (∀ u, w5.cell? ⟨R, o, none⟩ = some u → (w5.setCell ⟨R, o, none⟩ (.slice T' n' c')).cell? ⟨R, o, none⟩ = some (.slice T' n' c')) ∧
      (∀ o', W.frozen? ⟨R, o', none⟩ = false → (w5.setCell ⟨R, o, none⟩ (.slice T' n' c')).frozen? ⟨R, o', none⟩ = false) ∧
      Below R W (w5.setCell ⟨R, o, none⟩ (.slice T' n' c')) := by
  have hs := hb.size
  have hb5 : Below w4.heap.size w4 (w4.alloc (Obj.cells cs e)) := (Below.refl _ _).alloc (Nat.le_refl _) _
  have hbb : Below W.heap.size W (w4.alloc (Obj.cells cs e)) := Below_on hb hb5 hs
  have hn : some R ≠ (Value.slice T n c).ownBlock := own_ne hown hR
  have hB : Below base W w5 := (hbb.mono hbW).grown hg5 (by simp; omega) (fun k hk => (hown.lt k hk).1)
  refine ⟨ownsRow_setCell_below hown5 hR _, by simp [World.setCell]; exact hB.size, fun k h1 h2 => ?_, fun o' h1 u hu => ?_, fun u hu => ?_, fun o' hf => ?_, ?_⟩
  · rw [Below.heap_setCell _ _ _ _ h1, hB.block k h2]
  · exact (World.cell?_setCell_other _ ⟨R, o, none⟩ ⟨R, o', none⟩ _ (by simp [Ne.symm h1])).trans ((hB.cell (p := ⟨R, o', none⟩) hR).trans hu)
  · exact World.cell?_setCell_same' _ _ _ (by rw [hu]; rfl)
  · rw [World.frozen?_setCell]
    exact (hB.frozen (p := ⟨R, o', none⟩) hR).trans hf
  · exact (hB.mono (Nat.le_of_lt hR)).setCell (p := ⟨R, o, none⟩) (Nat.le_refl _) _
/-- a struct of two fields in block G, of which field o is being appended to -/
structure OutV (W0 : World) (e : TypeId) (G base o o' : Nat) (vo : Value) (i : Nat) (xs : List Value) (T : Option Addr) (c : Nat) (wr : World) : Prop where
  below : Below G W0 wr
  kept : Kept (G + 1) base W0 wr
  lt : G < base
  le : base ≤ wr.heap.size
  own : wr.ownsRow base e 1 (.slice T i c) i xs
  c : wr.cell? ⟨G, o, none⟩ = some (.slice T i c)
  c' : wr.cell? ⟨G, o', none⟩ = some vo
  f : wr.frozen? ⟨G, o, none⟩ = false
  f' : wr.frozen? ⟨G, o', none⟩ = false
theorem OutV.step {W0 wr w7 w9 : World} {e : TypeId} {G base o o' i c c9 : Nat} {vo x : Value} {xs : List Value} {T T9 : Option Addr} (h : OutV W0 e G base o o' vo i xs T c wr) (hb : Below wr.heap.size wr w7)
    (hown9 : w9.ownsRow base e 1 (.slice T9 (i + 1) c9) (i + 1) (xs ++ [x])) (hg9 : (w7.alloc (Obj.cells #[x] e)).grownBy w9 (Value.slice T i c).ownBlock) (hne : o' ≠ o) (hc9 : w9.cell? ⟨G, o, none⟩ = some (.slice T i c)) :
    OutV W0 e G base o o' vo (i + 1) (xs ++ [x]) T9 c9 (w9.setCell ⟨G, o, none⟩ (.slice T9 (i + 1) c9)) := by
  obtain ⟨e1, e2, e3, e4, e5, e6, e7⟩ := fld_end (o := o) h.lt (Nat.lt_of_lt_of_le h.lt h.le) h.le h.own hb hown9 hg9
  refine ⟨h.below.trans e7, h.kept.trans ⟨e2, fun k h1 h2 => e3 k (by omega) h2⟩, h.lt, Nat.le_trans h.le e2, e1, e5 _ hc9, e4 _ hne _ h.c', e6 _ h.f, e6 _ h.f'⟩
def valsL (f : Nat → Int) (a n : Nat) : List Int := (List.range n).map fun i => f (a + i)
def vals (f : Nat → Int) (a n : Nat) : List Value := ((List.range n).map fun i => f (a + i)).flatMap fun n : Int => [Value.int .i64 n]
theorem vals_succ (f : Nat → Int) (a n : Nat) : vals f a (n + 1) = vals f a n ++ [.int .i64 (f (a + n))] := by
  unfold vals
  rw [List.range_succ, List.map_append, List.flatMap_append]
  rfl
theorem ints_of_vals {w : World} {base n c a : Nat} {e : TypeId} {f : Nat → Int} {T : Option Addr} (h : w.ownsRow base e 1 (.slice T n c) n (vals f a n)) (hn : n ≤ 1000000) : Ints w base T c (valsL f a n) := by
  have hl : (valsL f a n).length = n := by simp [valsL]
  obtain ⟨A, c', he, hi⟩ := SlE.of_own (enc := fun n : Int => [Value.int .i64 n]) (bt := 8) (xs := valsL f a n) (v := .slice T n c) (by rw [hl]; exact h) (by rw [hl]; omega)
  obtain ⟨rfl, _, rfl⟩ : T = A ∧ n = (valsL f a n).length ∧ c = c' := by simpa using he
  exact hi
theorem vals_len (f : Nat → Int) (a n : Nat) : (vals f a n).length = n := by
  unfold vals
  rw [flatMap_len (sz := 1) (fun _ => rfl)]
  simp
end Go.Proofs.Ytoglgeaiiipchaa

namespace Go.Proofs.Ytoglgeaiiipchaa
open Go Go.RowKit Go.Sort Go.Shelf

def cmpI (x y : Int) : Int := if x < y then -1 else if y < x then 1 else 0
def orV : List Int → Int
  | [] => 0
  | x :: r => if x = 0 then orV r else x
def ordV (s t : Stp) : Int := orV [cmpI s.f t.f, cmpI s.l t.l, cmpI s.t t.t]
theorem orV_step {xs : List Int} {k : Nat} (hk : k < xs.length) : orV (xs.drop k) = if xs[k] = 0 then orV (xs.drop (k + 1)) else xs[k] := by
  rw [List.drop_eq_getElem_cons hk]; rfl
theorem ordV_lt (s t : Stp) : ordV s t < 0 ↔ stpLt s t = true := by
  rw [stpLt_iff]
  unfold ordV cmpI
  simp only [orV]
  split <;> split <;> (try split) <;> (try split) <;> (try split) <;> (try split) <;> omega
theorem isNaN_ (x : Int) (w : World) : Calls Try.prog 105 #[.int .i64 x] w fun e w' => e = .returned (.bool false) ∧ w = w' := by
  have h : (x != x) = false := by simp
  go_enter Try.func105, Try.ntmps105
  go_wp2_with fail
  go_ret
  exact ⟨rfl, rfl⟩
theorem Compare_ (x y : Int) (w : World) : Calls Try.prog 87 #[.int .i64 x, .int .i64 y] w fun e w' => e = .returned (.int .i64 (cmpI x y)) ∧ w = w' := by
  have HV := Lib.hid (show cmpI x y = if x < y then -1 else if y < x then 1 else 0 from rfl)
  generalize cmpI x y = v at *
  go_enter Try.func87, Try.ntmps87
  by_cases h1 : x < y
  · have HF : Hid (v = -1) := by show v = _; rw [HV.out, if_pos h1]
    go_wp2_with (go_at_call 105; refine (isNaN_ _ _).mono ?_; rintro e w' ⟨rfl, rfl⟩)
    go_ret
    exact ⟨ret_int HF.out.symm, rfl⟩
  · by_cases h2 : y < x
    · have HF : Hid (v = 1) := by show v = _; rw [HV.out, if_neg h1, if_pos h2]
      go_wp2_with (go_at_call 105; refine (isNaN_ _ _).mono ?_; rintro e w' ⟨rfl, rfl⟩)
      go_ret
      exact ⟨ret_int HF.out.symm, rfl⟩
    · have HF : Hid (v = 0) := by show v = _; rw [HV.out, if_neg h1, if_neg h2]
      go_wp2_with (go_at_call 105; refine (isNaN_ _ _).mono ?_; rintro e w' ⟨rfl, rfl⟩)
      go_ret
      exact ⟨ret_int HF.out.symm, rfl⟩
theorem OrI_ (A : Option Addr) (c : Nat) (xs : List Int) (w : World) (hx : Ints w 0 A c xs) : Calls Try.prog 104 #[.slice A xs.length c] w fun e w' => e = .returned (.int .i64 (orV xs)) ∧ w = w' := by
  have h1 := hx.le
  have h2 := hx.max
  have HX := Lib.hid hx
  clear hx
  obtain ⟨v, hv⟩ : ∃ v, v = orV xs := ⟨_, rfl⟩
  rw [← hv]
  have HV := Lib.hid hv
  clear hv
  go_enter Try.func104, Try.ntmps104
  go_wp2_with fail
  go_loop [5, 8] (fun s i => ∃ k : Nat, k ≤ xs.length ∧ i = .int .i64 k ∧ Hid (v = orV (xs.drop k))) (fun _ i => xs.length - (intOf i).toNat)
  case atStart => exact ⟨0, Nat.zero_le _, rfl, HV.out⟩
  case round =>
    obtain ⟨k, hk, rfl, HK⟩ := hrel
    by_cases hlt : k < xs.length
    · obtain ⟨b, o, rfl, _, _, q⟩ := Ints.at_ HX.out hlt
      have HS := Lib.hid (orV_step hlt)
      generalize xs[k] = x at *
      by_cases hx0 : x = 0
      · have hx1 : (x != 0) = false := by simp [hx0]
        have HF : Hid (v = orV (xs.drop (k + 1))) := by show v = _; rw [HK.out, HS.out, if_pos hx0]
        clear hx0
        go_wp2_with fail
        go_round
        case rel => exact ⟨k + 1, by omega, by go_num, HF⟩
        case measure => simp [intOf]; omega
      · have hx1 : (x != 0) = true := by simpa using hx0
        have HF : Hid (v = x) := by show v = _; rw [HK.out, HS.out, if_neg hx0]
        clear hx0
        go_wp2_with fail
        go_ret
        exact ⟨ret_int HF.out.symm, rfl⟩
    · have HF : Hid (v = 0) := by show v = _; rw [HK.out, List.drop_of_length_le (by omega)]; rfl
      go_wp2_with fail
      go_ret
      exact ⟨ret_int HF.out.symm, rfl⟩
theorem within_ (n a b : Int) (w : World) : Calls Try.prog 81 #[.int .i64 n, .int .i64 a, .int .i64 b] w fun e w' => e = .returned (.bool (btw n a b)) ∧ w = w' := by
  go_enter Try.func81, Try.ntmps81
  go_wp2
  all_goals (go_ret; refine ⟨ret_bool ?_, rfl⟩; unfold btw; simp [*])
  all_goals omega
/-- two steps in variables -/
def st2W (w : World) (s t : Stp) : World := (w.alloc (Obj.cells #[.int .i64 s.f, .int .i64 s.l, .int .i64 s.t] 90)).alloc (Obj.cells #[.int .i64 t.f, .int .i64 t.l, .int .i64 t.t] 90)
structure St2W (w W : World) (s t : Stp) : Prop where
  below : Below w.heap.size w W
  size : W.heap.size = w.heap.size + 1 + 1
  s0 : W.cell? ⟨w.heap.size, 0, none⟩ = some (.int .i64 s.f)
  s1 : W.cell? ⟨w.heap.size, 1, none⟩ = some (.int .i64 s.l)
  s2 : W.cell? ⟨w.heap.size, 2, none⟩ = some (.int .i64 s.t)
  t0 : W.cell? ⟨w.heap.size + 1, 0, none⟩ = some (.int .i64 t.f)
  t1 : W.cell? ⟨w.heap.size + 1, 1, none⟩ = some (.int .i64 t.l)
  t2 : W.cell? ⟨w.heap.size + 1, 2, none⟩ = some (.int .i64 t.t)
theorem st2W_is (w : World) (s t : Stp) : St2W w (st2W w s t) s t := by
  unfold st2W
  refine ⟨by go_grown, by simp, ?_, ?_, ?_, ?_, ?_, ?_⟩ <;> go_simp
theorem ints3 (w : World) (e : TypeId) (x y z : Int) : Ints (w.alloc (Obj.cells #[.int .i64 x, .int .i64 y, .int .i64 z] e)) 0 (some ⟨w.heap.size, 0, none⟩) 3 [x, y, z] :=
  ⟨Nat.le_refl _, by decide, by simp, Rd.new w #[.int .i64 x, .int .i64 y, .int .i64 z] e⟩
set_option maxRecDepth 100000 in
set_option maxHeartbeats 1000000 in
theorem Order_ (s t : Stp) (w : World) : Calls Try.prog 83 #[.agg #[.int .i64 s.f, .int .i64 s.l, .int .i64 s.t], .agg #[.int .i64 t.f, .int .i64 t.l, .int .i64 t.t]] w fun e w' => e = .returned (.int .i64 (ordV s t)) ∧ Below w.heap.size w w' := by
  have HW := Lib.hid (st2W_is w s t)
  have HF : Hid (ordV s t = orV [cmpI s.f t.f, cmpI s.l t.l, cmpI s.t t.t]) := rfl
  generalize ordV s t = v at *
  go_enter Try.func83, Try.ntmps83
  go_wp2_with fail
  change Code.wp _ _ _ _ (st2W w s t)
  generalize st2W w s t = W at *
  obtain ⟨X, hX⟩ : ∃ X, X = w.heap.size := ⟨_, rfl⟩
  have h0 := HW.out.s0
  have h1 := HW.out.s1
  have h2 := HW.out.s2
  have k0 := HW.out.t0
  have k1 := HW.out.t1
  have k2 := HW.out.t2
  rw [← hX] at h0 h1 h2 k0 k1 k2 ⊢
  have HX := Lib.hid hX
  clear hX
  go_region_held3 (fun w' => w'.cell? ⟨X, 0, none⟩ = some (.int .i64 s.f) ∧ w'.cell? ⟨X, 1, none⟩ = some (.int .i64 s.l) ∧ w'.cell? ⟨X, 2, none⟩ = some (.int .i64 s.t) ∧ w'.cell? ⟨X + 1, 0, none⟩ = some (.int .i64 t.f) ∧ w'.cell? ⟨X + 1, 1, none⟩ = some (.int .i64 t.l) ∧ w'.cell? ⟨X + 1, 2, none⟩ = some (.int .i64 t.t))
    (go_keep)
    (first
      | (go_at_call 87; refine (Compare_ _ _ _).mono ?_; rintro e w' ⟨rfl, rfl⟩)
      | (go_at_call 104; refine (OrI_ _ 3 [cmpI s.f t.f, cmpI s.l t.l, cmpI s.t t.t] _ ((ints3 W 3 _ _ _).below (Below.refl _ _).drew)).mono ?_; rintro e w' ⟨rfl, rfl⟩))
  all_goals
    go_wp2_with fail
    go_ret
    refine ⟨ret_int HF.out.symm, ?_⟩
    exact Below_on HW.out.below (((Below.refl _ W).alloc (Nat.le_refl _) _).drew) HW.out.below.size
end Go.Proofs.Ytoglgeaiiipchaa

namespace Go.Proofs.Ytoglgeaiiipchaa
open Go Go.RowKit Go.Shelf

/-- a function value that answers a predicate of one number, whatever memory was made since -/
def PredV (P : Program) (g : FuncId) (caps : Array Value) (p : Int → Bool) (w : World) : Prop :=
  ∀ (n : Int) (W : World), Below w.heap.size w W → Calls P g (#[.int .i64 n] ++ caps) W fun e W' => e = .returned (.bool (p n)) ∧ Below W.heap.size W W'

theorem PredV.below {P : Program} {g : FuncId} {caps : Array Value} {p : Int → Bool} {w w' : World} (h : PredV P g caps p w) (hb : Below w.heap.size w w') : PredV P g caps p w' :=
  fun n W hW => h n W (hb.trans (hW.mono hb.size))

def anyB (p : Int → Bool) (xs : List Int) : Bool := xs.any p
def firstIx (p : Int → Bool) : List Int → Nat → Int
  | [], _ => -1
  | x :: r, i => if p x = true then i else firstIx p r (i + 1)
theorem firstIx_step {p : Int → Bool} {xs : List Int} {k : Nat} (hk : k < xs.length) : firstIx p (xs.drop k) k = if p xs[k] = true then (k : Int) else firstIx p (xs.drop (k + 1)) (k + 1) := by
  rw [List.drop_eq_getElem_cons hk]; rfl
theorem firstIx_end {p : Int → Bool} {xs : List Int} {k : Nat} (hk : xs.length ≤ k) : firstIx p (xs.drop k) k = -1 := by
  rw [List.drop_of_length_le hk]; rfl
theorem firstIx_any (p : Int → Bool) (xs : List Int) : ∀ i, decide (0 ≤ firstIx p xs i) = anyB p xs := by
  unfold anyB
  induction xs with
  | nil => intro i; rfl
  | cons x r ih =>
    intro i
    by_cases h : p x = true
    · simp [firstIx, h]
    · simp [firstIx, h, ih]

set_option maxRecDepth 100000 in
theorem IndexFuncI_ (A : Option Addr) (c : Nat) (xs : List Int) (g : FuncId) (caps : Array Value) (p : Int → Bool) (w : World) (hx : Ints w 0 A c xs) (hg : Enters Try.prog g) (hp : PredV Try.prog g caps p w) :
    Calls Try.prog 79 #[.slice A xs.length c, .func (.func g) #[] caps] w fun e w' => e = .returned (.int .i64 (firstIx p xs 0)) ∧ Below w.heap.size w w' := by
  have h1 := hx.le
  have h2 := hx.max
  have H := Lib.hid hp
  clear hp
  have hgr : ∀ (args : Array Value) (w : World), (callFunc g args).run Try.prog w = .ok (.enter g args) w := hg
  clear hg
  go_enter Try.func79, Try.ntmps79
  go_wp2
  go_loopw [8] (fun i wr => ∃ k : Nat, k ≤ xs.length ∧ i = .int .i64 k ∧ firstIx p xs 0 = firstIx p (xs.drop k) k ∧ Below w.heap.size w wr) (fun i _ => xs.length - (intOf i).toNat)
  case atStart => exact ⟨0, Nat.zero_le _, rfl, rfl, Below.refl _ _⟩
  case round =>
    obtain ⟨k, hk, rfl, hc, hb⟩ := hrel
    have HC := Lib.hid hc
    clear hc
    by_cases hlt : k < xs.length
    · obtain ⟨b, o, rfl, _, hbl, hc1⟩ := Ints.at_ (hx.below hb) hlt
      have hs := firstIx_step (p := p) hlt
      have HS := Lib.hid hs
      clear hs
      go_wp2_with fail
      refine (H.out _ _ hb).mono ?_; rintro e w1 ⟨rfl, hb1⟩
      go_wp2
      · have ht : p xs[k] = true := by assumption
        go_ret
        exact ⟨ret_int (by rw [HC.out, HS.out, if_pos ht]), Below_on hb hb1 hb.size⟩
      · have ht : p xs[k] = false := by assumption
        go_roundw
        case rel => exact ⟨k + 1, by omega, by go_num, by rw [HC.out, HS.out, if_neg (by simp [ht])], Below_on hb hb1 hb.size⟩
        case measure => simp [intOf]; omega
    · go_wp2
      go_ret
      exact ⟨ret_int (by rw [HC.out, firstIx_end (by omega)]), hb⟩

theorem ContainsFuncI_ (A : Option Addr) (c : Nat) (xs : List Int) (g : FuncId) (caps : Array Value) (p : Int → Bool) (w : World) (hx : Ints w 0 A c xs) (hg : Enters Try.prog g) (hp : PredV Try.prog g caps p w) :
    Calls Try.prog 46 #[.slice A xs.length c, .func (.func g) #[] caps] w fun e w' => e = .returned (.bool (anyB p xs)) ∧ Below w.heap.size w w' := by
  have H := Lib.hid (IndexFuncI_ A c xs g caps p w hx hg hp)
  have HF := Lib.hid (firstIx_any p xs 0)
  clear hx hp hg
  go_enter Try.func46, Try.ntmps46
  go_wp2_with fail
  refine H.out.mono ?_
  rintro e w1 ⟨rfl, hb1⟩
  go_wp2
  go_ret
  exact ⟨ret_bool HF.out, hb1⟩
end Go.Proofs.Ytoglgeaiiipchaa
