/- Walks: the reference's between; small laws. -/
import Derived.Test.YtoglgeaiiipchaaLISM11
import Derived.Test.YtoglgeaiiipchaaLISM1
import Derived.Lib.QuietBelow
import Derived.Test.YtoglgeaiiipchaaLISM3
import Derived.Test.YtoglgeaiiipchaaProg
set_option linter.unusedSimpArgs false
set_option linter.unusedVariables false
namespace Go.Proofs.Ytoglgeaiiipchaa
open Go Go.RowKit Go.Maps

abbrev LO := (Nat × Nat) × List Int × Sl
def loM (o : LO) : S2 × Sl := ((((o.1.1 : Nat) : Int), ((o.1.2 : Nat) : Int)), o.2.2)
def loP (o : LO) : (Nat × Nat) × List Int := (o.1, o.2.1)
def enP (e : En) : Bp × List Int := (e.1, e.2.1)
def enW (e : En) : Sl × List Int := (e.2.2, e.2.1)
structure LpS (w0 W : World) (Vm Vl Vo Mm Mo : Nat) (v : Value) (R : List En) (p : Nat) (OL : List LO) : Prop where
  mem : LpMem w0.heap.size W Vm Vl Vo Mm Mo v (R.map Prod.fst) (R.drop p) (R.map enW) (OL.map loM)
  os : OL.map loP = outsOf (R.map enP)
  ow : ∀ o ∈ OL, ∃ e ∈ R, enW e = (o.2.2, o.2.1)
  below : Below w0.heap.size w0 W
  le : p ≤ R.length
section
variable {w0 W W' : World} {Vm Vl Vo Mm Mo : Nat} {v : Value} {R : List En} {p : Nat} {OL : List LO}
theorem LpMem.sub {B : Nat} {D : List Bp} {xs : List En} {Ws Ws' : List (Sl × List Int)} {O : List (S2 × Sl)} (h : LpMem B W Vm Vl Vo Mm Mo v D xs Ws O) (hs : ∀ s ∈ Ws', s ∈ Ws) : LpMem B W Vm Vl Vo Mm Mo v D xs Ws' O :=
  ⟨h.cm, h.cl, h.co, h.met, h.out, h.q, fun s h1 => h.ws s (hs s h1), h.bm, h.bl, h.bo, h.bMm, h.bMo, h.dM⟩
theorem LpS.on (h : LpS w0 W Vm Vl Vo Mm Mo v R p OL) (hb : Below W.heap.size W W') : LpS w0 W' Vm Vl Vo Mm Mo v R p OL :=
  ⟨h.mem.on hb, h.os, h.ow, Below_on h.below hb h.below.size, h.le⟩
theorem loM_key {x : Bp} : ky x ∈ (OL.map loM).map Prod.fst ↔ keyOf x ∈ (OL.map loP).map Prod.fst := by
  rw [List.map_map, List.map_map, List.mem_map, List.mem_map]
  constructor
  · rintro ⟨o, ho, he⟩
    refine ⟨o, ho, ?_⟩
    simp only [Function.comp, loM, ky, Prod.mk.injEq] at he
    simp only [Function.comp, loP, keyOf]
    exact Prod.ext (by simp only; omega) (by simp only; omega)
  · rintro ⟨o, ho, he⟩
    refine ⟨o, ho, ?_⟩
    simp only [Function.comp, loP, keyOf] at he
    simp only [Function.comp, loM, ky, he]
theorem LpS.note (h : LpS w0 W Vm Vl Vo Mm Mo v R p OL) {x : Bp} {wd : List Int} {s : Sl} {e : Ending} (hp : NtPost w0.heap.size Vm Vl Vo Mm Mo v (R.map Prod.fst) (R.drop p) ((s, wd) :: R.map enW) (OL.map loM) x wd s W e W') :
    e = .returned (.tuple #[]) ∧ KpL Vl Mm Mo v.ownBlock W W' ∧ ((x ∈ R.map Prod.fst ∧ LpS w0 W' Vm Vl Vo Mm Mo v R p OL) ∨
      (x ∉ R.map Prod.fst ∧ ∃ v' OL', LpS w0 W' Vm Vl Vo Mm Mo v' (R ++ [(x, wd, s)]) p OL' ∧ ∀ k, v'.ownBlock = some k → v.ownBlock = some k ∨ W.heap.size ≤ k)) := by
  have hw : Below w0.heap.size w0 W' := h.below.trans (hp.k.below h.below.size h.mem.bl h.mem.bMm h.mem.bMo fun k hk => (h.mem.q.lt k hk).1)
  refine ⟨hp.e, hp.k, ?_⟩
  rcases hp.is with ⟨h1, h2⟩ | ⟨h1, A, c, h2, h3⟩
  · exact .inl ⟨h1, h2.sub (fun t ht => List.mem_cons_of_mem _ ht), h.os, h.ow, hw, h.le⟩
  · right
    refine ⟨h1, _, if ky x ∈ (OL.map loM).map Prod.fst then OL else OL ++ [(keyOf x, wd, s)], ⟨?_, ?_, ?_, hw, by have := h.le; simp; omega⟩, h3⟩
    · rw [List.map_append, List.drop_append_of_le_length h.le, List.map_append]
      have e1 : (if ky x ∈ (OL.map loM).map Prod.fst then OL else OL ++ [(keyOf x, wd, s)]).map loM = if ky x ∈ (OL.map loM).map Prod.fst then OL.map loM else OL.map loM ++ [(ky x, s)] := by
        split
        · rfl
        · rw [List.map_append]; rfl
      rw [e1]
      exact h2.sub fun t ht => by
        rcases List.mem_append.1 ht with ht | ht
        · exact List.mem_cons_of_mem _ ht
        · obtain rfl : t = (s, wd) := by simpa [enW] using ht
          exact List.mem_cons_self ..
    · rw [List.map_append]
      show _ = outsOf (R.map enP ++ [(x, wd)])
      rw [outsOf_snoc, ← h.os]
      by_cases hk : ky x ∈ (OL.map loM).map Prod.fst
      · rw [if_pos hk, if_pos (loM_key.1 hk)]
      · rw [if_neg hk, if_neg (fun h => hk (loM_key.2 h)), List.map_append]; rfl
    · intro o ho
      split at ho
      · obtain ⟨e, he, h5⟩ := h.ow o ho
        exact ⟨e, List.mem_append_left _ he, h5⟩
      · rcases List.mem_append.1 ho with ho | ho
        · obtain ⟨e, he, h5⟩ := h.ow o ho
          exact ⟨e, List.mem_append_left _ he, h5⟩
        · obtain rfl : o = (keyOf x, wd, s) := by simpa using ho
          exact ⟨_, List.mem_append_right _ (List.mem_singleton.2 rfl), rfl⟩
theorem outs_nodup : ∀ (n : Nat) (R : List (Bp × List Int)), R.length = n → ((outsOf R).map Prod.fst).Nodup := by
  intro n
  induction n with
  | zero => intro R hR; rw [List.eq_nil_of_length_eq_zero hR]; exact List.nodup_nil
  | succ n ih =>
    intro R hR
    have hne : R ≠ [] := by rintro rfl; simp at hR
    rw [← List.dropLast_concat_getLast hne, outsOf_snoc]
    have h1 := ih R.dropLast (by rw [List.length_dropLast, hR]; rfl)
    split
    · exact h1
    · rename_i hk
      rw [List.map_append, List.nodup_append]
      refine ⟨h1, by simp, fun a ha b hb => ?_⟩
      obtain rfl : b = keyOf (R.getLast hne).1 := by simpa using hb
      intro he
      rw [he] at ha
      exact hk ha
theorem outs_len : ∀ (n : Nat) (R : List (Bp × List Int)), R.length = n → (outsOf R).length ≤ R.length := by
  intro n
  induction n with
  | zero => intro R hR; rw [List.eq_nil_of_length_eq_zero hR]; exact Nat.le_refl _
  | succ n ih =>
    intro R hR
    have hne : R ≠ [] := by rintro rfl; simp at hR
    have h1 := ih R.dropLast (by rw [List.length_dropLast, hR]; rfl)
    rw [List.length_dropLast, hR] at h1
    rw [hR, ← List.dropLast_concat_getLast hne, outsOf_snoc]
    split
    · omega
    · rw [List.length_append, List.length_singleton]; omega
/-- what note asks of the maps -/
theorem LpS.keys (h : LpS w0 W Vm Vl Vo Mm Mo v R p OL) : (∀ o ∈ OL.map loM, S2W o.1) ∧ ((OL.map loM).map Prod.fst).Nodup := by
  have hk : ∀ o ∈ OL, o.1.1 < 8 ∧ o.1.2 < 8 := fun o ho => by
    have h1 : o.1 ∈ (OL.map loP).map Prod.fst := List.mem_map.2 ⟨loP o, List.mem_map_of_mem ho, rfl⟩
    rw [h.os, outsOf_key _ _ rfl] at h1
    obtain ⟨e, _, he⟩ := h1
    rw [← he]
    exact ⟨bits3_lt _, bits3_lt _⟩
  refine ⟨fun o ho => ?_, ?_⟩
  · obtain ⟨q, hq, rfl⟩ := List.mem_map.1 ho
    obtain ⟨h1, h2⟩ := hk q hq
    exact ⟨WalkArith.wf_i64 (n := ((q.1.1 : Nat) : Int)) (by omega), WalkArith.wf_i64 (n := ((q.1.2 : Nat) : Int)) (by omega)⟩
  · have hn : ((OL.map loP).map Prod.fst).Nodup := by rw [h.os]; exact outs_nodup _ _ rfl
    have e : (OL.map loM).map Prod.fst = ((OL.map loP).map Prod.fst).map fun k : Nat × Nat => (((k.1 : Nat) : Int), ((k.2 : Nat) : Int)) := by
      rw [List.map_map, List.map_map, List.map_map]; rfl
    rw [e]
    unfold List.Nodup at hn ⊢
    rw [List.pairwise_map]
    refine hn.imp fun {a b} hne he => hne ?_
    simp only [Prod.mk.injEq] at he
    exact Prod.ext (by omega) (by omega)
end
end Go.Proofs.Ytoglgeaiiipchaa

namespace Go.Proofs.Ytoglgeaiiipchaa
open Go Go.RowKit Go.Maps

/-- the eighteen cells of two boxes -/
def bpC (x : Bp) : List Value := bx9 x.1 ++ bx9 x.2
theorem bpC_len (x : Bp) : (bpC x).length = 18 := rfl
theorem bx9_of {X : List Nat} (h : X.length = 9) : (boxC X).toList = bx9 X := by
  obtain ⟨a, b, c, d, e, f, k, l, i, rfl⟩ := list9 h
  rfl
theorem bx9_arr {X : List Nat} (h : X.length = 9) : boxC X = (bx9 X).toArray := by rw [← bx9_of h]
theorem bpV_c {x : Bp} (h1 : x.1.length = 9) (h2 : x.2.length = 9) : bpV x = .agg (bpC x).toArray := by
  unfold bpV bpC
  rw [bx9_arr h1, bx9_arr h2, List.append_toArray]
theorem bpC_one (x : Bp) : ∀ u ∈ bpC x, u.oneCell' = true := by
  intro u hu
  simp only [bpC, bx9, List.mem_append, List.mem_cons, List.not_mem_nil, or_false] at hu
  rcases hu with (rfl | rfl | rfl | rfl | rfl | rfl | rfl | rfl | rfl) | (rfl | rfl | rfl | rfl | rfl | rfl | rfl | rfl | rfl) <;> rfl
abbrev Bps := SlE bpC 18
theorem Bps.range {w : World} {lo : Nat} {A : Option Addr} {c : Nat} {LS : List Bp} (h : Bps w lo A c LS) {k : Nat} (hk : k < LS.length) : ∃ b off, A = some ⟨b, off, none⟩ ∧ b < w.heap.size ∧ w.rangeAt b (off + k * 18) (bpC LS[k]) := by
  obtain ⟨b, off, h1, _, h2, h3⟩ := SlE.at (fun _ => rfl) (sz := 18) bpC_len (by decide) h hk
  exact ⟨b, off, h1, h2, fun j v hj => by rw [Nat.add_assoc]; exact h3 j v hj⟩
theorem infoBp18 (x : Bp) : (Try.prog.info? 131).map (fun i => i.size) = some (bpC x).length := infoBoxes
theorem infoOne19 (e : En) : (Try.prog.info? 152).map (fun i => i.size) = some (enC e).length := by
  have := infoOne
  cases hq : Try.prog.info? 152 with
  | none => simp [hq] at this
  | some i =>
    simp only [hq, Option.map_some] at this ⊢
    rw [(Prod.mk.inj (Prod.mk.inj (Option.some.inj this)).2).1]; rfl
/-- a new block, written whole -/
theorem newRow (w : World) (cs0 : Array Value) (cs : List Value) (t : TypeId) (hs : cs0.size = cs.length) :
    ((w.alloc (.cells cs0 t)).setCells w.heap.size 0 cs).heap[w.heap.size]? = some (.cells cs.toArray t (0, 0)) ∧ Below w.heap.size w ((w.alloc (.cells cs0 t)).setCells w.heap.size 0 cs) ∧ ((w.alloc (.cells cs0 t)).setCells w.heap.size 0 cs).heap.size = w.heap.size + 1 := by
  obtain ⟨c', h1, h2, _, h4⟩ := setCells_row (e := t) (g := w.heap.size) cs 0 (w.alloc (.cells cs0 t)) cs0 (allocNew w _) (by omega)
  have hg := setCells_grown w.heap.size cs 0 (w.alloc (.cells cs0 t))
  have hb : Below w.heap.size w (w.alloc (.cells cs0 t)) := (Below.refl _ _).alloc (Nat.le_refl _) _
  refine ⟨?_, ?_, ?_⟩
  · rw [h1]
    congr 2
    apply Array.ext
    · rw [h2, hs]; simp
    · intro i hi1 hi2
      have hi : i < cs.length := by simpa using hi2
      have := h4 i cs[i] (List.getElem?_eq_getElem hi)
      rw [Nat.zero_add, Array.getElem?_eq_getElem hi1] at this
      simpa using this
  · exact hb.grown hg (by simp) fun k hk => by obtain rfl := Option.some.inj hk; exact Nat.le_refl _
  · have : ∀ (l : List Value) (n : Nat) (W : World), (W.setCells w.heap.size n l).heap.size = W.heap.size := by
      intro l
      induction l with
      | nil => intro n W; rfl
      | cons v l ih => intro n W; rw [World.setCells, ih]; simp [World.setCell]
    rw [this]
    simp
theorem there_new (w : World) (cs0 : Array Value) (t : TypeId) : (w.alloc (.cells cs0 t)).there w.heap.size 0 cs0.size := fun j hj => by
  have h := allocNew w (.cells cs0 t)
  rw [Nat.zero_add]
  simp only [World.cell?, World.frozen?, h]
  simp [hj]
/-- note's contract, at the cells -/
theorem noteC_ {w0 w : World} {Vm Vl Vo Mm Mo : Nat} {v : Value} {R : List En} {p : Nat} {OL : List LO} (hS : LpS w0 w Vm Vl Vo Mm Mo v R p OL) {x : Bp} {wd : List Int} {A : Option Addr} {n c : Nat} (hx1 : x.1.length = 9) (hx2 : x.2.length = 9) (hle : ∀ i j, i < 3 → j < 3 → bg x.1 i j ≤ 2 ∧ bg x.2 i j ≤ 2) (hbw : BpW x) (hRw : ∀ e ∈ R, BpW e.1) (hRn : (R.map Prod.fst).Nodup) (hRl : R.length ≤ 1000000000)
    (hw : WyAt w w0.heap.size (A, n, c) wd) :
    Calls Try.prog 107 #[.agg (bpC x).toArray, .slice A n c, .pointer (some ⟨Vm, 0, none⟩), .pointer (some ⟨Vl, 0, none⟩), .pointer (some ⟨Vo, 0, none⟩)] w (fun e w' => e = .returned (.tuple #[]) ∧ KpL Vl Mm Mo v.ownBlock w w' ∧ ((x ∈ R.map Prod.fst ∧ LpS w0 w' Vm Vl Vo Mm Mo v R p OL) ∨
      (x ∉ R.map Prod.fst ∧ ∃ v' OL', LpS w0 w' Vm Vl Vo Mm Mo v' (R ++ [(x, wd, (A, n, c))]) p OL' ∧ ∀ k, v'.ownBlock = some k → v.ownBlock = some k ∨ w.heap.size ≤ k))) := by
  have h := note_ w0.heap.size Vm Vl Vo Mm Mo v (R.map Prod.fst) (R.drop p) (((A, n, c), wd) :: R.map enW) (OL.map loM) x hx1 hx2 hle hbw wd (A, n, c) (fun y hy => by obtain ⟨e, he, rfl⟩ := List.mem_map.1 hy; exact hRw e he) hRn hS.keys.1 hS.keys.2 (by rw [List.length_map]; exact hRl) (by rw [List.length_drop]; omega) (by
    rw [List.length_map]
    have h1 : OL.length = (outsOf (R.map enP)).length := by rw [← hS.os, List.length_map]
    have h2 := outs_len _ (R.map enP) rfl
    rw [List.length_map] at h2
    omega) w hS.below.size (hS.mem.add hw)
  rw [bpV_c hx1 hx2] at h
  exact h.mono fun e w' hp => hS.note hp
theorem LpS.start (w : World) : LpS w (((((w.alloc (Obj.map #[] 0)).alloc (Obj.cells #[.map (some w.heap.size)] 132)).alloc (Obj.map #[] 0)).alloc (Obj.cells #[.map (some (w.heap.size + 1 + 1))] 149)).alloc (Obj.cells #[.slice none 0 0] 150))
    (w.heap.size + 1 + 1 + 1) (w.heap.size + 1 + 1 + 1 + 1) (w.heap.size + 1) (w.heap.size + 1 + 1) w.heap.size (.slice none 0 0) [] 0 [] := by
  have s1 : (w.alloc (Obj.map #[] 0)).heap.size = w.heap.size + 1 := by simp
  have g1 : GAt 137 s2L slE slD (w.alloc (Obj.map #[] 0)) w.heap.size ([] : List (S2 × Sl)) := GAt.made w
  have b1 : Below w.heap.size w (w.alloc (Obj.map #[] 0)) := (Below.refl _ _).alloc (Nat.le_refl _) _
  generalize w.alloc (Obj.map #[] 0) = w1 at *
  have s2 : (w1.alloc (Obj.cells #[.map (some w.heap.size)] 132)).heap.size = w1.heap.size + 1 := by simp
  have g2 := allocNew w1 (Obj.cells #[.map (some w.heap.size)] 132)
  have b2 : Below w1.heap.size w1 (w1.alloc (Obj.cells #[.map (some w.heap.size)] 132)) := (Below.refl _ _).alloc (Nat.le_refl _) _
  generalize w1.alloc (Obj.cells #[.map (some w.heap.size)] 132) = w2 at *
  have s3 : (w2.alloc (Obj.map #[] 0)).heap.size = w2.heap.size + 1 := by simp
  have g3 : GAt 131 bpL blE blD (w2.alloc (Obj.map #[] 0)) w2.heap.size ([] : List (Bp × Bool)) := GAt.made w2
  have b3 : Below w2.heap.size w2 (w2.alloc (Obj.map #[] 0)) := (Below.refl _ _).alloc (Nat.le_refl _) _
  generalize w2.alloc (Obj.map #[] 0) = w3 at *
  have s4 : (w3.alloc (Obj.cells #[.map (some (w.heap.size + 1 + 1))] 149)).heap.size = w3.heap.size + 1 := by simp
  have g4 := allocNew w3 (Obj.cells #[.map (some (w.heap.size + 1 + 1))] 149)
  have b4 : Below w3.heap.size w3 (w3.alloc (Obj.cells #[.map (some (w.heap.size + 1 + 1))] 149)) := (Below.refl _ _).alloc (Nat.le_refl _) _
  generalize w3.alloc (Obj.cells #[.map (some (w.heap.size + 1 + 1))] 149) = w4 at *
  have g5 := allocNew w4 (Obj.cells #[.slice none 0 0] 150)
  have b5 : Below w4.heap.size w4 (w4.alloc (Obj.cells #[.slice none 0 0] 150)) := (Below.refl _ _).alloc (Nat.le_refl _) _
  generalize w4.alloc (Obj.cells #[.slice none 0 0] 150) = w5 at *
  rw [s1] at g2 b2 s2
  rw [s2] at g3 b3 s3
  rw [s3] at g4 b4 s4
  rw [s4] at g5 b5
  refine ⟨⟨(b5.block _ (by omega)).trans g4, g5, ((b5.block _ (by omega)).trans (b4.block _ (by omega))).trans ((b3.block _ (by omega)).trans g2), ?_, ?_, GQ.nil_, fun s hs => by simp at hs, by omega, by omega, by omega, by omega, by omega, by omega⟩, rfl, fun o ho => by simp at ho, ?_, Nat.le_refl _⟩
  · exact (g3.on (by rw [s3]; exact b4)).on (by rw [s4]; exact b5)
  · exact (((g1.on (by rw [s1]; exact b2)).on (by rw [s2]; exact b3)).on (by rw [s3]; exact b4)).on (by rw [s4]; exact b5)
  · exact Below_on (Below_on (Below_on (Below_on b1 b2 (by omega)) b3 (by omega)) b4 (by omega)) b5 (by omega)
theorem range_row {w : World} {g : Nat} {cs : List Value} {t : TypeId} (h : w.heap[g]? = some (.cells cs.toArray t (0, 0))) : w.rangeAt g 0 cs := fun j v hj => by
  rw [Nat.zero_add]
  simp only [World.cell?, h]
  simpa using hj
/-- a word of one letter -/
theorem way1 (w : World) (lo : Nat) (n : Int) (hl : lo ≤ w.heap.size) : WyAt (w.alloc (Obj.cells #[.int .i64 n] 3)) lo (some ⟨w.heap.size, 0, none⟩, 1, 1) [n] :=
  .inr ⟨w.heap.size, 0, 1, _, rfl, hl, allocNew w _, Nat.le_refl _, by simp, by simp [maxLen], fun j u hj => by rw [Nat.zero_add]; simpa [inC] using hj⟩
/-- the queue's slice is put anew -/
theorem LpMem.requeue {B : Nat} {W : World} {Vm Vl Vo Mm Mo : Nat} {v v2 : Value} {D : List Bp} {xs ys : List En} {Ws : List (Sl × List Int)} {O : List (S2 × Sl)} (h : LpMem B W Vm Vl Vo Mm Mo v D xs Ws O) (hq : GQ 152 enC 19 W B v2 ys) :
    LpMem B (W.setCell ⟨Vl, 0, none⟩ v2) Vm Vl Vo Mm Mo v2 D ys Ws O := by
  have far : ∀ {k : Nat} {o : Obj}, W.heap[k]? = some o → (∀ a, o ≠ Obj.cells a 150 (0, 0)) → (W.setCell ⟨Vl, 0, none⟩ v2).heap[k]? = some o := fun {k o} hk ho => by
    refine (Below.heap_setCell W ⟨Vl, 0, none⟩ _ k (fun he => ?_)).trans hk
    have he : k = Vl := he
    subst he
    rw [h.cl] at hk
    exact ho _ (Option.some.inj hk).symm
  have fc : ∀ {k a t}, W.heap[k]? = some (Obj.cells a t (0, 0)) → t ≠ 150 → (W.setCell ⟨Vl, 0, none⟩ v2).heap[k]? = some (Obj.cells a t (0, 0)) := fun hk ht => far hk fun b he => by cases he; exact ht rfl
  have hcl := h.cl
  refine ⟨fc h.cm (by decide), by simp [World.setCell, Array.getElem?_modify, hcl], fc h.co (by decide), ?_, ?_, ?_, ?_, h.bm, h.bl, h.bo, h.bMm, h.bMo, h.dM⟩
  · obtain ⟨es, c', hM⟩ := h.met.block
    exact h.met.heap ((far hM (fun a he => by cases he)).trans hM.symm)
  · obtain ⟨es, c', hM⟩ := h.out.block
    exact h.out.heap ((far hM (fun a he => by cases he)).trans hM.symm)
  · refine hq.heap fun k hk => ?_
    obtain ⟨cur, hc⟩ := hq.cells hk
    rw [fc hc (by decide), hc]
  · refine fun s hs => (h.ws s hs).heap fun k hk => ?_
    obtain ⟨cur, hc⟩ := (h.ws s hs).cells hk
    rw [fc hc (by decide), hc]
theorem LpS.pop {w0 W : World} {Vm Vl Vo Mm Mo : Nat} {v v2 : Value} {R : List En} {p : Nat} {OL : List LO} (h : LpS w0 W Vm Vl Vo Mm Mo v R p OL) (hp : p < R.length) (hq : GQ 152 enC 19 W w0.heap.size v2 (R.drop (p + 1))) :
    LpS w0 (W.setCell ⟨Vl, 0, none⟩ v2) Vm Vl Vo Mm Mo v2 R (p + 1) OL :=
  ⟨h.mem.requeue hq, h.os, h.ow, h.below.setCell (p := ⟨Vl, 0, none⟩) h.mem.bl v2, hp⟩
/-- what is known of boxes of words -/
structure BpOK (x : Bp) : Prop where
  l1 : x.1.length = 9
  l2 : x.2.length = 9
  le : ∀ i j, i < 3 → j < 3 → bg x.1 i j ≤ 2 ∧ bg x.2 i j ≤ 2
  w : BpW x
theorem BpOK.of {a b : Au} {w : List Int} {x : Bp} (h1 : BoxOf a w x.1) (h2 : BoxOf b w x.2) : BpOK x :=
  ⟨h1.len, h2.len, fun i j hi hj => ⟨h1.le i j hi hj, h2.le i j hi hj⟩, h1.len, h2.len, fun d hd => by
    rcases List.mem_append.1 hd with hd | hd
    · have := box_digits h1 d hd; omega
    · have := box_digits h2 d hd; omega⟩
section
variable {a b : Au} {LS : List Bp}
theorem Bfs.ok (fa : AuFit a) (fb : AuFit b) (a3 : a.st ≤ 3) (b3 : b.st ≤ 3) (hL : LetOK a b LS) {R : List (Bp × List Int)} {p e : Nat} (h : Bfs LS R p e) : ∀ q ∈ R, BpOK q.1 := by
  intro q hq
  obtain ⟨i, hi, rfl⟩ := List.getElem_of_mem hq
  obtain ⟨w1, w2, w3⟩ := h.w i hi
  obtain ⟨m, hm⟩ : ∃ m, R[i].2.length = m + 1 := ⟨R[i].2.length - 1, by
    have : 0 < R[i].2.length := by cases hv : R[i].2 with | nil => exact absurd hv w1 | cons c w => simp
    omega⟩
  obtain ⟨b1, b2⟩ := bxW_box fa fb a3 b3 hL m _ hm w2
  rw [w3]
  exact .of b1 b2
theorem LetOK.ok (hL : LetOK a b LS) {n : Nat} (hn : n < LS.length) : BpOK LS[n] := by
  have h1 := hL.a n hn
  have h2 := hL.b n hn
  rw [getD_lt hn] at h1 h2
  exact .of h1 h2
theorem bfsA_keep {R : List (Bp × List Int)} {x : Bp × List Int} {m : Nat} (h : BfsA LS R m) : BfsA LS (R ++ [x]) m := fun n hn => by
  obtain ⟨j, hj, h1, h2⟩ := h n hn
  refine ⟨j, by simp; omega, ?_, ?_⟩ <;> rw [List.getElem_append_left hj] <;> assumption
theorem bfsA_old {R : List (Bp × List Int)} {m : Nat} (h : BfsA LS R m) (hx : LS.getD m bx0 ∈ R.map Prod.fst) (h1 : ∀ e ∈ R, e.2.length ≤ 1) : BfsA LS R (m + 1) := fun n hn => by
  by_cases hm : n < m
  · exact h n hm
  · obtain rfl : n = m := by omega
    obtain ⟨j, hj, he⟩ := mem_fst.1 hx
    exact ⟨j, hj, he, h1 _ (List.getElem_mem hj)⟩
theorem bfsA_new {R : List (Bp × List Int)} {m : Nat} (h : BfsA LS R m) {w : List Int} (hw : w.length ≤ 1) : BfsA LS (R ++ [(LS.getD m bx0, w)]) (m + 1) := fun n hn => by
  by_cases hm : n < m
  · exact bfsA_keep h n hm
  · obtain rfl : n = m := by omega
    exact ⟨R.length, by simp, by rw [getElem_snoc], by rw [getElem_snoc]; exact hw⟩
/-- a letter noted -/
theorem Bfs.first {R : List (Bp × List Int)} (h : Bfs LS R 0 0) (h1 : ∀ e ∈ R, e.2.length ≤ 1) {n : Nat} (hn : n < LS.length) (hx : LS.getD n bx0 ∉ R.map Prod.fst) : Bfs LS (R ++ [(LS.getD n bx0, [(n : Int)])]) 0 0 := by
  refine h.add (by simp) (fun c hc => ?_) ?_ hx (fun i hi => h1 _ (List.getElem_mem hi)) (fun hp => by simp) ?_
  · obtain rfl : c = (n : Int) := by simpa using hc
    omega
  · simp [bxW]
  · rcases Nat.eq_zero_or_pos R.length with h0 | h0
    · exact .inr ⟨h0.symm, rfl⟩
    · exact .inl h0
end
/-- no word is longer than its place tells -/
def LenOK (R : List En) : Prop := ∀ i (h : i < R.length), R[i].2.1.length ≤ i + 1
theorem LenOK.snoc {R : List En} (h : LenOK R) {e : En} (he : e.2.1.length ≤ R.length + 1) : LenOK (R ++ [e]) := fun i hi => by
  rw [List.length_append, List.length_singleton] at hi
  by_cases hl : i < R.length
  · rw [List.getElem_append_left hl]; exact h i hl
  · obtain rfl : i = R.length := by omega
    rw [getElem_snoc]; exact he
/-- behind a letter's note -/
theorem LpS.next {a b : Au} {LS : List Bp} (fa : AuFit a) (fb : AuFit b) (a3 : a.st ≤ 3) (b3 : b.st ≤ 3) (hL : LetOK a b LS) {w0 W W' : World} {Vm Vl Vo Mm Mo Zo : Nat} {v : Value} {R : List En} {p n : Nat} {OL : List LO} {E : En} {s : Sl}
    (hS : LpS w0 W Vm Vl Vo Mm Mo v R (p + 1) OL) (hB : Bfs LS (R.map enP) p n) (hA : BfsA LS (R.map enP) LS.length) (hE : R[p]? = some E) (hLen : LenOK R) (hn : n < LS.length) (hZ : W.heap[Zo]? = some (Obj.cells (enC E).toArray 152 (0, 0))) (hne : ∀ k, v.ownBlock = some k → k ≠ Zo)
    (hk : KpL Vl Mm Mo v.ownBlock W W') (hor : (bb E.1 (LS.getD n bx0) ∈ R.map Prod.fst ∧ LpS w0 W' Vm Vl Vo Mm Mo v R (p + 1) OL) ∨
      (bb E.1 (LS.getD n bx0) ∉ R.map Prod.fst ∧ ∃ v' OL', LpS w0 W' Vm Vl Vo Mm Mo v' (R ++ [(bb E.1 (LS.getD n bx0), E.2.1 ++ [(n : Int)], s)]) (p + 1) OL' ∧ ∀ k, v'.ownBlock = some k → v.ownBlock = some k ∨ W.heap.size ≤ k)) :
    ∃ v R OL, LpS w0 W' Vm Vl Vo Mm Mo v R (p + 1) OL ∧ W'.heap[Zo]? = some (Obj.cells (enC E).toArray 152 (0, 0)) ∧ (∀ k, v.ownBlock = some k → k ≠ Zo) ∧ Bfs LS (R.map enP) p (n + 1) ∧ BfsA LS (R.map enP) LS.length ∧ R[p]? = some E ∧ LenOK R := by
  have hpl : p < R.length := (List.getElem?_eq_some_iff.1 hE).1
  have hpm : p < (R.map enP).length := by rw [List.length_map]; exact hpl
  have hEg : (R.map enP)[p] = (E.1, E.2.1) := by
    rw [List.getElem_map]
    have := (List.getElem?_eq_some_iff.1 hE).2
    rw [this]; rfl
  have hkm : ∀ R : List En, (R.map enP).map Prod.fst = R.map Prod.fst := fun R => by rw [List.map_map]; rfl
  have hZl : Zo < W.heap.size := (Array.getElem?_eq_some_iff.1 hZ).1
  have hZ' : W'.heap[Zo]? = some (Obj.cells (enC E).toArray 152 (0, 0)) := by
    refine (hk.block Zo hZl ?_ ?_ ?_ (fun e => hne Zo e.symm rfl)).trans hZ
    · rintro rfl; exact cells_ne hZ hS.mem.cl (by decide)
    · rintro rfl
      obtain ⟨es, c, hM⟩ := hS.mem.met.block
      rw [hM] at hZ; cases hZ
    · rintro rfl
      obtain ⟨es, c, hM⟩ := hS.mem.out.block
      rw [hM] at hZ; cases hZ
  have hle := hB.le
  rcases hor with ⟨h1, h2⟩ | ⟨h1, v', OL', h2, h3⟩
  · refine ⟨v, R, OL, h2, hZ', hne, hB.letter hpm ?_, hA, hE, hLen⟩
    rw [hEg]
    obtain ⟨j, hj, he⟩ := mem_fst.1 (show bb E.1 (LS.getD n bx0) ∈ (R.map enP).map Prod.fst by rw [hkm]; exact h1)
    refine ⟨j, hj, he, ?_⟩
    have := hle j hj hpm
    rw [hEg] at this
    exact this
  · obtain ⟨w1, w2, w3⟩ := hB.w p hpm
    rw [hEg] at w1 w2 w3
    simp only at w1 w2 w3
    have hadd : Bfs LS (R.map enP ++ [(bb E.1 (LS.getD n bx0), E.2.1 ++ [(n : Int)])]) p n := by
      refine hB.add (by simp) (LtrIn.snoc.2 ⟨w2, by omega, by omega⟩) ?_ (by rw [hkm]; exact h1) (fun i hi => ?_) (fun _ => ?_) (.inl hpm)
      · rw [bxW_snoc LS w1, ← w3, Int.toNat_natCast]
      · have := hle i hi hpm
        rw [hEg] at this
        simp only at this
        rw [List.length_append, List.length_singleton]
        omega
      · rw [hEg]
        simp
    have hp2 : p < (R.map enP ++ [(bb E.1 (LS.getD n bx0), E.2.1 ++ [(n : Int)])]).length := by rw [List.length_append]; omega
    have e2 : (R ++ [(bb E.1 (LS.getD n bx0), E.2.1 ++ [(n : Int)], s)]).map enP = R.map enP ++ [(bb E.1 (LS.getD n bx0), E.2.1 ++ [(n : Int)])] := by rw [List.map_append]; rfl
    refine ⟨v', _, OL', h2, hZ', fun k hk' => ?_, ?_, ?_, ?_, ?_⟩
    · rcases h3 k hk' with h | h
      · exact hne k h
      · omega
    · rw [e2]
      refine hadd.letter hp2 ?_
      have hg : (R.map enP ++ [(bb E.1 (LS.getD n bx0), E.2.1 ++ [(n : Int)])])[p] = (E.1, E.2.1) := by rw [List.getElem_append_left hpm]; exact hEg
      rw [hg]
      exact ⟨(R.map enP).length, by simp, by rw [getElem_snoc], by rw [getElem_snoc]; simp⟩
    · rw [e2]; exact bfsA_keep hA
    · rw [List.getElem?_append_left hpl]; exact hE
    · refine hLen.snoc ?_
      have := hLen p hpl
      rw [(List.getElem?_eq_some_iff.1 hE).2] at this
      rw [List.length_append, List.length_singleton]
      omega
theorem behC_ {X Y : Bx} (hX : X.length = 9) (hY : Y.length = 9) (w : World) : Calls Try.prog 109 #[.agg (bx9 X).toArray, .agg (bx9 Y).toArray] w fun e w' => e = .returned (.agg (bx9 (behB X Y)).toArray) ∧ Below w.heap.size w w' := by
  have h := behind_ X Y hX hY w
  rw [bx9_arr hX, bx9_arr hY, bx9_arr (behB_is X Y).len] at h
  exact h
/-- letters copied behind letters of one's own -/
theorem lo_app {w : World} {lo : Nat} {v : Value} {n : Nat} {xs ys : List Int} (hown : w.ownsRow lo 3 1 v n (xs.flatMap inC)) (hn : n = xs.length) {A : Option Addr} {c : Nat} (hr : Rd w 0 A (ys.flatMap inC)) (hlo : lo ≤ w.heap.size) (hl : n + ys.length ≤ 1000000000) :
    ∃ A' c' w', (Builtin.append_ #[138, 138] 138 #[v, .slice A ys.length c]).run Try.prog w = .ok (.slice A' (n + ys.length) c') w' ∧ w'.ownsRow lo 3 1 (.slice A' (n + ys.length) c') (n + ys.length) ((xs ++ ys).flatMap inC) ∧ w.grownBy w' v.ownBlock := by
  obtain ⟨i0, hi0, hz0, hz1, hz2⟩ := info_parts infoInt
  obtain ⟨v', w', h1, h2, h3, _⟩ := run_app (P := Try.prog) w lo 138 138 3 i0 _ 1 8 Try.underlying138 hi0 hz0 hz1 hz2 rfl (by decide) v n (xs.flatMap inC) hown A ys.length c (ys.flatMap inC) (flatMap_len inC_len ys) hr (fun u hu => by
    obtain ⟨k, _, hk⟩ := List.mem_flatMap.1 hu
    exact inC_one k u hk) (by unfold maxLen; omega) (by omega) hlo
  obtain ⟨A', c', rfl, _⟩ := own_form h2
  refine ⟨A', c', w', h1, ?_, h3⟩
  rw [List.flatMap_append]
  exact h2
theorem range_sub {w : World} {g : Nat} {xs1 bs cs : List Value} {t : TypeId} (h : w.heap[g]? = some (.cells (xs1 ++ bs ++ cs).toArray t (0, 0))) : w.rangeAt g xs1.length bs := fun j v hj => by
  simp only [World.cell?, h]
  have hjl := (List.getElem?_eq_some_iff.1 hj).1
  have : (xs1 ++ bs ++ cs)[xs1.length + j]? = some v := by
    rw [List.append_assoc, List.getElem?_append_right (by omega), Nat.add_sub_cancel_left, List.getElem?_append_left hjl]
    exact hj
  simpa using this
section
variable {w : World} {Z : Nat} {X : Bp} {wd : List Int} {A : Option Addr} {n c : Nat} {t : TypeId}
theorem ro0 (h : w.heap[Z]? = some (.cells (enC (X, wd, A, n, c)).toArray t (0, 0))) : w.rangeAt Z 0 (bx9 X.1) := range_sub (xs1 := []) (bs := bx9 X.1) (cs := bx9 X.2 ++ [slV (A, n, c)]) (by rw [List.nil_append, ← List.append_assoc]; exact h)
theorem ro9 (h : w.heap[Z]? = some (.cells (enC (X, wd, A, n, c)).toArray t (0, 0))) : w.rangeAt Z 9 (bx9 X.2) := range_sub (xs1 := bx9 X.1) (bs := bx9 X.2) (cs := [slV (A, n, c)]) h
theorem ro18 (h : w.heap[Z]? = some (.cells (enC (X, wd, A, n, c)).toArray t (0, 0))) : w.cell? ⟨Z, 18, none⟩ = some (.slice A n c) := by
  have := range_sub (xs1 := bx9 X.1 ++ bx9 X.2) (bs := [slV (A, n, c)]) (cs := []) (w := w) (g := Z) (t := t) (by rw [List.append_nil]; exact h)
  exact this 0 _ rfl
theorem rx0 (h : w.heap[Z]? = some (.cells (bpC X).toArray t (0, 0))) : w.rangeAt Z 0 (bx9 X.1) := range_sub (xs1 := []) (bs := bx9 X.1) (cs := bx9 X.2) (by rw [List.nil_append]; exact h)
theorem rx9 (h : w.heap[Z]? = some (.cells (bpC X).toArray t (0, 0))) : w.rangeAt Z 9 (bx9 X.2) := range_sub (xs1 := bx9 X.1) (bs := bx9 X.2) (cs := []) (by rw [List.append_nil]; exact h)
end
theorem infoBox9 (X : Bx) : (Try.prog.info? 128).map (fun i => i.size) = some (bx9 X).length := infoBox
theorem LpS.keepB {w0 W W' : World} {Vm Vl Vo Mm Mo k : Nat} {v : Value} {R : List En} {p : Nat} {OL : List LO} (hS : LpS w0 W Vm Vl Vo Mm Mo v R p OL) (hk : KpL Vl Mm Mo v.ownBlock W W') {a : Array Value} (h : W.heap[k]? = some (.cells a 131 (0, 0))) : W'.heap[k]? = some (.cells a 131 (0, 0)) := by
  refine (hk.block k (Array.getElem?_eq_some_iff.1 h).1 ?_ ?_ ?_ (fun e => ?_)).trans h
  · rintro rfl; exact cells_ne h hS.mem.cl (by decide)
  · rintro rfl
    obtain ⟨es, c, hM⟩ := hS.mem.met.block
    rw [hM] at h; cases h
  · rintro rfl
    obtain ⟨es, c, hM⟩ := hS.mem.out.block
    rw [hM] at h; cases h
  · obtain ⟨cur, hc⟩ := hS.mem.q.cells e.symm
    exact cells_ne h hc (by decide)
theorem lo_app0 {w : World} {lo B : Nat} {ys : List Int} (hown : w.ownsRow lo 3 1 (.slice (some ⟨B, 0, none⟩) 0 0) 0 []) {A : Option Addr} {c : Nat} (hr : Rd w 0 A (ys.flatMap inC)) (hlo : lo ≤ w.heap.size) (hl : ys.length ≤ 1000000000) :
    ∃ A' c' w', (Builtin.append_ #[138, 138] 138 #[.slice (some ⟨B, 0, none⟩) 0 0, .slice A ys.length c]).run Try.prog w = .ok (.slice A' ys.length c') w' ∧ w'.ownsRow lo 3 1 (.slice A' ys.length c') ys.length (ys.flatMap inC) ∧ w.grownBy w' (some B) := by
  obtain ⟨A', c', w', h1, h2, h3⟩ := lo_app (xs := []) (ys := ys) hown rfl hr hlo (by omega)
  rw [Nat.zero_add] at h1 h2
  exact ⟨A', c', w', h1, h2, h3⟩
theorem lo_app1 {w : World} {lo : Nat} {A0 : Option Addr} {c0 : Nat} {xs : List Int} {n : Int} (hown : w.ownsRow lo 3 1 (.slice A0 xs.length c0) xs.length (xs.flatMap inC)) {B : Nat} (hr : Rd w 0 (some ⟨B, 0, none⟩) [.int .i64 n]) (hlo : lo ≤ w.heap.size) (hl : xs.length + 1 ≤ 1000000000) :
    ∃ A' c' w', (Builtin.append_ #[138, 138] 138 #[.slice A0 xs.length c0, .slice (some ⟨B, 0, none⟩) 1 1]).run Try.prog w = .ok (.slice A' (xs.length + 1) c') w' ∧ WyAt w' lo (A', xs.length + 1, c') (xs ++ [n]) ∧ w.grownBy w' (Value.slice A0 xs.length c0).ownBlock := by
  obtain ⟨A', c', w', h1, h2, h3⟩ := lo_app (xs := xs) (ys := [n]) (A := some ⟨B, 0, none⟩) (c := 1) hown rfl hr hlo (by simpa using hl)
  exact ⟨A', c', w', h1, GQ.of h2 (by simp) inC_len, h3⟩
theorem lo_rd {w w' : World} {Ba Bn : Nat} {vs : List Value} (h : Rd w 0 (some ⟨Bn, 0, none⟩) vs) (hg : w.grownBy w' (some Ba)) (hne : Bn ≠ Ba) : Rd w' 0 (some ⟨Bn, 0, none⟩) vs := fun hv => by
  obtain ⟨b, off, he, _, h2, h3⟩ := h hv
  cases he
  exact ⟨Bn, 0, rfl, Nat.zero_le _, Nat.lt_of_lt_of_le h2 hg.size, fun j u hj => (World.cell?_of_block (a := ⟨Bn, 0 + j, none⟩) (hg.block Bn h2 (fun e => hne (Option.some.inj e)))).trans (h3 j u hj)⟩
theorem lo_lt {w : World} {Bn : Nat} {v : Value} (h : Rd w 0 (some ⟨Bn, 0, none⟩) [v]) : Bn < w.heap.size := by
  obtain ⟨b, off, he, _, h2, _⟩ := h (by simp)
  cases he
  exact h2
theorem lo_14 (w : World) (lo : Nat) (h : lo ≤ w.heap.size) : (w.alloc (Obj.cells #[] 3)).ownsRow lo 3 1 (.slice (some ⟨w.heap.size, 0, none⟩) 0 0) 0 [] := own_empty _ _ h
theorem lo_19 (w : World) (n : Int) : Rd (w.alloc (Obj.cells #[.int .i64 n] 3)) 0 (some ⟨w.heap.size, 0, none⟩) [.int .i64 n] := fun _ => ⟨w.heap.size, 0, rfl, Nat.zero_le _, by simp, fun j u hj => by
  have h := allocNew w (Obj.cells #[.int .i64 n] 3)
  rw [Nat.zero_add]
  simp only [World.cell?, h]
  simpa using hj⟩
set_option maxRecDepth 100000 in
theorem bld_run {ρ : Operand → Value} {o : Oper} {x y : Operand} (ho : o.op = .build 131 #[(0, x), (1, y)]) {X Y : Bx} (hx : ρ x = .agg (bx9 X).toArray) (hy : ρ y = .agg (bx9 Y).toArray) (w : World) : (execOp ρ o).run Try.prog w = .ok (.value (.agg (bpC (X, Y)).toArray)) w := by
  unfold execOp
  simp only [ho]
  simp [hx, hy, bx9, bpC, go_sem]
end Go.Proofs.Ytoglgeaiiipchaa

namespace Go.Proofs.Ytoglgeaiiipchaa
open Go Go.RowKit Go.Sort

/-- a callee's contract that ends in Below, laid ahead of such a region -/
theorem regrown_call {P : Program} {f : FuncId} {args : Array Value} {w : World} {v : Value} (h : ∀ W, Below w.heap.size w W → Calls P f args W fun e w' => e = .returned v ∧ Below W.heap.size W w') :
    ∀ d os, Calls P f args (grow (redrawn w d) os) fun e w'' => e = .returned v ∧ ∃ p : Regrown, w'' = grow (redrawn w p.d) p.os := fun d os => Calls.regrown_of (h _ (below_regrown w d os))
/-- the world behind -/
theorem regrown_on {w0 w : World} {B : Nat} (h : Below B w0 w) (hB : B ≤ w.heap.size) (d : Nat) (os : Array Obj) : Below B w0 (grow (redrawn w d) os) := h.trans ((below_regrown w d os).mono hB)
end Go.Proofs.Ytoglgeaiiipchaa

namespace Go.Proofs.Ytoglgeaiiipchaa
open Go Go.RowKit

theorem between_ (n a b : Int) (w : World) : Calls Try.prog 36 #[.int .i64 n, .int .i64 a, .int .i64 b] w fun e w' => e = .returned (.bool (btw n a b)) ∧ w = w' := by
  go_enter Try.func36, Try.ntmps36
  go_wp2
  all_goals (go_ret; refine ⟨ret_bool ?_, rfl⟩; unfold btw; simp [*])
  omega
theorem getD_at {xs : List Int} {i : Nat} (h : i < xs.length) : xs.getD i 0 = xs[i] := by rw [List.getD_eq_getElem?_getD, List.getElem?_eq_getElem h]; rfl

def BoolPost (w : World) (b : Bool) (e : Ending) (w' : World) : Prop := e = .returned (.bool b) ∧ Below w.heap.size w w'
theorem cell_on3 {B : Nat} {w w' : World} (hb : Below B w w') {b o : Nat} (h : b < B) : w'.cell? ⟨b, o, none⟩ = w.cell? ⟨b, o, none⟩ := hb.cell (p := ⟨b, o, none⟩) h
end Go.Proofs.Ytoglgeaiiipchaa
