/- The memory of include's apart while it copies a head and a loop. -/
import Derived.Test.YtoglgeaiiipchaaLISM13
import Derived.Test.YtoglgeaiiipchaaLISM8
import Derived.Maps.RangeWalk
import Derived.Test.YtoglgeaiiipchaaLISM12
set_option linter.unusedSimpArgs false
set_option linter.unusedVariables false
namespace Go.Proofs.Ytoglgeaiiipchaa
open Go Go.RowKit Go.Maps

structure Bst (HL OL : List LO) (V : LO → LO → Prop) (found : Bool) (best : La) : Prop where
  some_ : found = true → ∃ e ∈ HL, ∃ o ∈ OL, CondK e.1 o.1 ∧ best = ⟨e.2.1, o.2.1⟩
  none_ : found = false → best = ⟨[], []⟩
  min : ∀ e ∈ HL, ∀ o ∈ OL, V e o → CondK e.1 o.1 → found = true ∧ best.h.length + best.l.length ≤ e.2.1.length + o.2.1.length
section
variable {HL OL : List LO} {V V' : LO → LO → Prop} {found : Bool} {best : La}
theorem Bst.start (HL OL : List LO) (V : LO → LO → Prop) (hV : ∀ e o, ¬ V e o) : Bst HL OL V false ⟨[], []⟩ :=
  ⟨fun h => (by cases h), fun _ => rfl, fun e _ o _ h => absurd h (hV e o)⟩
theorem Bst.to (h : Bst HL OL V found best) (hV : ∀ e ∈ HL, ∀ o ∈ OL, V' e o → V e o) : Bst HL OL V' found best :=
  ⟨h.some_, h.none_, fun e he o ho hv => h.min e he o ho (hV e he o ho hv)⟩
theorem Bst.skip (h : Bst HL OL V found best) {e0 o0 : LO} (hc : ¬ CondK e0.1 o0.1) (hV : ∀ e ∈ HL, ∀ o ∈ OL, V' e o → V e o ∨ (e = e0 ∧ o = o0)) : Bst HL OL V' found best :=
  ⟨h.some_, h.none_, fun e he o ho hv hk => by
    rcases hV e he o ho hv with h1 | ⟨rfl, rfl⟩
    · exact h.min e he o ho h1 hk
    · exact absurd hk hc⟩
theorem Bst.take (h : Bst HL OL V found best) {e0 o0 : LO} (he0 : e0 ∈ HL) (ho0 : o0 ∈ OL) (hc : CondK e0.1 o0.1) (hl : found = true → e0.2.1.length + o0.2.1.length ≤ best.h.length + best.l.length) (hV : ∀ e ∈ HL, ∀ o ∈ OL, V' e o → V e o ∨ (e = e0 ∧ o = o0)) :
    Bst HL OL V' true ⟨e0.2.1, o0.2.1⟩ :=
  ⟨fun _ => ⟨e0, he0, o0, ho0, hc, rfl⟩, fun h => (by cases h), fun e he o ho hv hk => by
    refine ⟨rfl, ?_⟩
    show e0.2.1.length + o0.2.1.length ≤ _
    rcases hV e he o ho hv with h1 | ⟨rfl, rfl⟩
    · obtain ⟨h2, h3⟩ := h.min e he o ho h1 hk
      have := hl h2
      omega
    · exact Nat.le_refl _⟩
theorem Bst.keep (h : Bst HL OL V true best) {e0 o0 : LO} (hl : best.h.length + best.l.length ≤ e0.2.1.length + o0.2.1.length) (hV : ∀ e ∈ HL, ∀ o ∈ OL, V' e o → V e o ∨ (e = e0 ∧ o = o0)) : Bst HL OL V' true best :=
  ⟨h.some_, fun h => (by cases h), fun e he o ho hv hk => by
    rcases hV e he o ho hv with h1 | ⟨rfl, rfl⟩
    · exact h.min e he o ho h1 hk
    · exact ⟨rfl, hl⟩⟩
/-- what apart answers -/
structure ApIs (a b : Au) (found : Bool) (l : La) : Prop where
  iff_ : found = true ↔ Apart a b
  some_ : found = true → TakesU a l.at ∧ ¬ TakesU b l.at ∧ 0 < l.l.length ∧ LtrIn a.le.toNat l.h ∧ LtrIn a.le.toNat l.l ∧ l.h.length ≤ 4000 ∧ l.l.length ≤ 4000
  none_ : found = false → l = ⟨[], []⟩
theorem Bst.done (h : Bst HL OL V found best) (hV : ∀ e ∈ HL, ∀ o ∈ OL, V e o) {a b : Au} {LS : List Bp} (oa : AuOK a) (sa : ssSorted a.ss) (ob : AuOK b) (sb : ssSorted b.ss) (a3 : a.st ≤ 3) (b3 : b.st ≤ 3) (hL : LetOK a b LS)
    {R : List (Bp × List Int)} {p : Nat} (hR : Bfs LS R p 0) (hp : R.length ≤ p) (hA : BfsA LS R LS.length) {q : Nat} (hh : Hds a b LS (HL.map hdP) q 0) (hq : HL.length ≤ q) (hO : OL.map loP = outsOf R) : ApIs a b found best := by
  obtain ⟨h1, h2⟩ := apart_law oa sa ob sb a3 b3 hL hR hp hA hh (by rw [List.length_map]; exact hq)
  rw [← hO] at h1 h2
  have hle : a.le.toNat = LS.length := by have := hL.len; omega
  refine ⟨⟨fun hf => ?_, fun ha => ?_⟩, fun hf => ?_, h.none_⟩
  · obtain ⟨e, he, o, ho, hc, _⟩ := h.some_ hf
    exact h1.2 ⟨hdP e, List.mem_map_of_mem he, loP o, List.mem_map_of_mem ho, hc⟩
  · obtain ⟨e, he, o, ho, hc⟩ := h1.1 ha
    obtain ⟨e, he2, rfl⟩ := List.mem_map.1 he
    obtain ⟨o, ho2, rfl⟩ := List.mem_map.1 ho
    exact (h.min e he2 o ho2 (hV e he2 o ho2) hc).1
  · obtain ⟨e, he, o, ho, hc, rfl⟩ := h.some_ hf
    obtain ⟨⟨k1, k2, k3, k4, k5⟩, k6⟩ := h2 (hdP e) (List.mem_map_of_mem he) (loP o) (List.mem_map_of_mem ho) hc
    obtain ⟨k7, k8⟩ := k6 fun e' he' o' ho' hc' => by
      obtain ⟨e', he2, rfl⟩ := List.mem_map.1 he'
      obtain ⟨o', ho2, rfl⟩ := List.mem_map.1 ho'
      exact (h.min e' he2 o' ho2 (hV e' he2 o' ho2) hc').2
    rw [hle]
    exact ⟨k1, k2, k3, k4, k5, k7, k8⟩
end
end Go.Proofs.Ytoglgeaiiipchaa

namespace Go.Proofs.Ytoglgeaiiipchaa
open Go Go.RowKit Go.Shelf

theorem bg_take {xs : List Int} {i : Nat} (h : i < xs.length) {k : Nat} (hk : k < 3) (he : xs[i] = (k : Int)) : bits3 (fun j => (j : Int) ∈ xs.take (i + 1)) = bits3 (fun j => (j : Int) ∈ xs.take i) ||| 2 ^ k := by
  refine bits3_or hk fun j _ => ?_
  rw [List.take_succ_eq_append_getElem h, List.mem_append, List.mem_singleton, he]
  constructor
  · rintro (h | h)
    · exact .inl h
    · exact .inr (by omega)
  · rintro (h | h)
    · exact .inl h
    · exact .inr (by omega)
set_option maxRecDepth 100000 in
set_option maxHeartbeats 2000000 in
theorem begins_ (a : Au) (hf : AuFit a) (h3 : a.st ≤ 3) (A B C : Option Addr) (ca cb cc : Nat) (w : World) (hr : AuRd w 0 a A B C ca cb cc) :
    Calls Try.prog 93 #[.agg #[.int .i64 a.st, .int .i64 a.le, .slice A a.fs.length ca, .slice B a.gs.length cb, .slice C a.ss.length cc]] w fun e w' => e = .returned (.int .i64 (bits3 (fun k => (k : Int) ∈ a.fs) : Nat)) ∧ Below w.heap.size w w' := by
  have HW := auW_is w a A B C ca cb cc
  have HB := Lib.hid HW.below
  have hV := HW.at
  have h63 := hr.fs.cap
  have hlc := hr.fs.le
  have HF := Lib.hid (hr.fs.below HW.below)
  have HR := Lib.hid hf.fr
  have H3 := Lib.hid h3
  obtain ⟨_, c0, c1, c2, c3, c4⟩ := hV
  unfold auW at HB HF c0 c1 c2 c3 c4
  clear HW hf h3 hr
  go_enter Try.func93, Try.ntmps93
  go_upto_region 1 with fail
  obtain ⟨V, hV⟩ : ∃ V, V = w.heap.size := ⟨_, rfl⟩
  rw [← hV] at c0 c1 c2 c3 c4 ⊢
  clear hV
  generalize w.alloc (Obj.cells #[.int .i64 a.st, .int .i64 a.le, .slice A a.fs.length ca, .slice B a.gs.length cb, .slice C a.ss.length cc] 49) = W1 at *
  go_wp2_with fail
  clear c0 c1 c2 c3 c4
  go_loopw [3, 9] (fun v3 v9 wr => ∃ i : Nat, i ≤ a.fs.length ∧ v9 = .int .i64 (i : Int) ∧ v3 = .int .i64 ((bits3 (fun k => (k : Int) ∈ a.fs.take i) : Nat) : Int) ∧ wr = W1) (fun _ v9 _ => a.fs.length - (intOf v9).toNat)
  case atStart => exact ⟨0, Nat.zero_le _, rfl, by rw [bits3_none (fun j _ => by simp)]; rfl, rfl⟩
  case round =>
    obtain ⟨i, hi, rfl, rfl, rfl⟩ := hrel
    by_cases hlt : i < a.fs.length
    · obtain ⟨b, o, rfl, _, _, hc1⟩ := Ints.at_ HF.out hlt
      have hr := HR.out _ (List.getElem_mem hlt)
      have h3 := H3.out
      obtain ⟨k, hk⟩ := Int.eq_ofNat_of_zero_le hr.1
      have hk3 : k < 3 := by omega
      have HT := Lib.hid (bg_take hlt hk3 hk)
      rw [hk] at hc1
      have HO := Lib.hid (bit3_or (n := bits3 (fun k => (k : Int) ∈ a.fs.take i)) (bits3_lt _) hk3)
      have hw := wrap_pow3 hk3
      have HL := Lib.hid hlt
      have q1 : (i : Int) < (a.fs.length : Int) := by omega
      clear hk hr h3
      go_wp2_with fail
      go_roundw
      case rel => exact ⟨i + 1, HL.out, by go_num, by rw [HO.out, HT.out], trivial⟩
      case measure => simp [intOf]; have := HL.out; omega
    · have q1 : ¬ (i : Int) < (a.fs.length : Int) := by omega
      have HE : Hid (bits3 (fun k => (k : Int) ∈ a.fs.take i) = bits3 (fun k => (k : Int) ∈ a.fs)) := by show _ = _; rw [List.take_of_length_le (by omega)]
      go_wp2_with fail
      go_ret
      exact ⟨ret_int (by rw [HE.out]), HB.out⟩
end Go.Proofs.Ytoglgeaiiipchaa

namespace Go.Proofs.Ytoglgeaiiipchaa
open Go Go.RowKit Go.Maps
theorem step_range {H : Type} {P : Program} {w : World} {ops : Array Oper} {o : Oper} {a : Act} {K0 : Act → World → Prop} {Q : Exit → Act → World → Prop} {E : Prop} {d : Option Tmp} (hgd : o.guard = none) (hd : o.dst = d) (m : Operand) (t : TypeId) (hop : o.op = Op.range t m) (k e : TypeId) (K : Keyed P k) (ht : P.underlying t = some (.map k e)) (R : Value → Option (DataW H × List MemPlace)) (b n : Nat) (D : DataW H)
    (hm : a.eval m = .map (some b)) (hown : w.ownsMap P k R b n D)
    (h : ∀ w', w'.ranges P k R b w.heap.size n D (Maps.has D) (Maps.size D) → w.grownBy w' none → w'.heap.size = w.heap.size + 1 → K0 (a.put d (.pointer (some ⟨w.heap.size, 0, none⟩))) w') :
    if Region.wanted o (yielded ops a.tmps) = true then Oper.wp P o a w K0 Q else E := by
  have hw : Region.wanted o (yielded ops a.tmps) = true := by simp [Region.wanted, hgd]
  rw [if_pos hw]
  subst hd
  obtain ⟨w', hrun, r1, r2, r3⟩ := hown.range K ht
  unfold Oper.wp
  simp [execOp, hop, hm, hrun, Result.andThen]
  exact h w' r1 r2 r3
/-- begins' contract, at the cells -/
theorem bgC_ (a : Au) (hf : AuFit a) (h3 : a.st ≤ 3) (A B C : Option Addr) (ca cb cc : Nat) (w : World) (hr : AuRd w 0 a A B C ca cb cc) :
    Calls Try.prog 93 #[.agg #[.int .i64 a.st, .int .i64 a.le, .slice A a.fs.length ca, .slice B a.gs.length cb, .slice C a.ss.length cc]] w fun e w' => e = .returned (.int .i64 ((hset a [] : Nat) : Int)) ∧ Below w.heap.size w w' := by
  rw [hset_nil]
  exact begins_ a hf h3 A B C ca cb cc w hr
end Go.Proofs.Ytoglgeaiiipchaa

namespace Go.Proofs.Ytoglgeaiiipchaa
open Go Go.RowKit Go.Maps

structure AnM (w0 W : World) (Vr Vt Mo Mh : Nat) (OL HL : List LO) (D E : Option Addr) (cd ce : Nat) (best : La) : Prop where
  cr : W.heap[Vr]? = some (.cells #[.slice none 0 0, .slice none 0 0] 26 (0, 0))
  ct : W.heap[Vt]? = some (.cells #[.slice D best.h.length cd, .slice E best.l.length ce] 26 (0, 0))
  dv : Vr ≠ Vt
  go : GAt 137 s2L slE slD W Mo (OL.map loM)
  gh : GAt 137 s2L slE slD W Mh (HL.map loM)
  wo : ∀ o ∈ OL, WyAt W w0.heap.size o.2.2 o.2.1
  wh : ∀ o ∈ HL, WyAt W w0.heap.size o.2.2 o.2.1
  bh : WyAt W w0.heap.size (D, best.h.length, cd) best.h
  bl : WyAt W w0.heap.size (E, best.l.length, ce) best.l
  below : Below w0.heap.size w0 W
  lr : w0.heap.size ≤ Vr
  lt : w0.heap.size ≤ Vt
section
variable {w0 W W' : World} {Vr Vt Mo Mh : Nat} {OL HL : List LO} {D E : Option Addr} {cd ce : Nat} {best : La}
theorem AnM.on (h : AnM w0 W Vr Vt Mo Mh OL HL D E cd ce best) (hb : Below W.heap.size W W') : AnM w0 W' Vr Vt Mo Mh OL HL D E cd ce best := by
  have lt : ∀ {k o}, W.heap[k]? = some o → k < W.heap.size := fun h => (Array.getElem?_eq_some_iff.1 h).1
  exact ⟨(hb.block _ (lt h.cr)).trans h.cr, (hb.block _ (lt h.ct)).trans h.ct, h.dv, h.go.on hb, h.gh.on hb, fun o ho => (h.wo o ho).on hb, fun o ho => (h.wh o ho).on hb, h.bh.on hb, h.bl.on hb, Below_on h.below hb h.below.size, h.lr, h.lt⟩
/-- a range's place moves on -/
theorem AnM.iter (h : AnM w0 W Vr Vt Mo Mh OL HL D E cd ce best) {r : Nat} (hg : W.grownBy W' (some r)) {m : Option Nat} {s c : Nat} {n : Array Nat} (hr : W.heap[r]? = some (.mapIter m s n c)) (hlo : w0.heap.size ≤ r) : AnM w0 W' Vr Vt Mo Mh OL HL D E cd ce best := by
  have nc : ∀ {k : Nat} {a : Array Value} {t : TypeId}, W.heap[k]? = some (Obj.cells a t (0, 0)) → W'.heap[k]? = W.heap[k]? := fun {k a t} hk => hg.block k (Array.getElem?_eq_some_iff.1 hk).1 fun e => by
    obtain rfl := Option.some.inj e
    rw [hr] at hk; cases hk
  have nm : ∀ {M : Nat} {D : List (S2 × Sl)}, GAt 137 s2L slE slD W M D → GAt 137 s2L slE slD W' M D := fun {M D} hk => hk.heap (hg.block M hk.lt fun e => by
    obtain ⟨es, c', hM⟩ := hk.block
    obtain rfl := Option.some.inj e
    rw [hr] at hM; cases hM)
  have nw : ∀ {s : Sl} {x : List Int}, WyAt W w0.heap.size s x → WyAt W' w0.heap.size s x := fun {s x} hk => hk.heap fun k hk2 => by
    obtain ⟨cur, hc⟩ := hk.cells hk2
    exact nc hc
  exact ⟨(nc h.cr).trans h.cr, (nc h.ct).trans h.ct, h.dv, nm h.go, nm h.gh, fun o ho => nw (h.wo o ho), fun o ho => nw (h.wh o ho), nw h.bh, nw h.bl, h.below.grown hg h.below.size (fun k hk => by obtain rfl := Option.some.inj hk; exact hlo), h.lr, h.lt⟩
/-- another best one -/
theorem AnM.store (h : AnM w0 W Vr Vt Mo Mh OL HL D E cd ce best) {D' E' : Option Addr} {cd' ce' : Nat} {x : La} (hx : WyAt W w0.heap.size (D', x.h.length, cd') x.h) (hy : WyAt W w0.heap.size (E', x.l.length, ce') x.l) :
    AnM w0 ((W.setCell ⟨Vt, 0, none⟩ (.slice D' x.h.length cd')).setCell ⟨Vt, 1, none⟩ (.slice E' x.l.length ce')) Vr Vt Mo Mh OL HL D' E' cd' ce' x := by
  have far : ∀ k, k ≠ Vt → ((W.setCell ⟨Vt, 0, none⟩ (.slice D' x.h.length cd')).setCell ⟨Vt, 1, none⟩ (.slice E' x.l.length ce')).heap[k]? = W.heap[k]? := fun k hk =>
    (Below.heap_setCell _ ⟨Vt, 1, none⟩ _ k hk).trans (Below.heap_setCell W ⟨Vt, 0, none⟩ _ k hk)
  have ne : ∀ {k : Nat} {o : Obj}, W.heap[k]? = some o → (∀ a, o ≠ Obj.cells a 26 (0, 0)) → k ≠ Vt := fun {k o} hk ho e => by
    subst e
    rw [h.ct] at hk
    exact ho _ (Option.some.inj hk).symm
  have nm : ∀ {M : Nat} {D : List (S2 × Sl)}, GAt 137 s2L slE slD W M D → GAt 137 s2L slE slD ((W.setCell ⟨Vt, 0, none⟩ (.slice D' x.h.length cd')).setCell ⟨Vt, 1, none⟩ (.slice E' x.l.length ce')) M D := fun {M D} hk => by
    obtain ⟨es, c', hM⟩ := hk.block
    exact hk.heap (far M (ne hM fun a e => by cases e))
  have nw : ∀ {s : Sl} {y : List Int}, WyAt W w0.heap.size s y → WyAt ((W.setCell ⟨Vt, 0, none⟩ (.slice D' x.h.length cd')).setCell ⟨Vt, 1, none⟩ (.slice E' x.l.length ce')) w0.heap.size s y := fun {s y} hk => hk.heap fun k hk2 => by
    obtain ⟨cur, hc⟩ := hk.cells hk2
    exact far k (ne hc fun a e => by cases e)
  have hct := h.ct
  exact ⟨(far Vr h.dv).trans h.cr, by simp [World.setCell, Array.getElem?_modify, hct], h.dv, nm h.go, nm h.gh, fun o ho => nw (h.wo o ho), fun o ho => nw (h.wh o ho), nw hx, nw hy, (h.below.setCell (p := ⟨Vt, 0, none⟩) h.lt _).setCell (p := ⟨Vt, 1, none⟩) h.lt _, h.lr, h.lt⟩
end
end Go.Proofs.Ytoglgeaiiipchaa

namespace Go.Proofs.Ytoglgeaiiipchaa
open Go Go.RowKit Go.Maps

section
variable {w0 W W' : World} {Va Vb Vr Vs : Nat} {as' bs' : Array Value} {v : Value} {LS : List Bp}
theorem ApM.drew (h : ApM w0 W Va Vb Vr Vs as' bs' v LS) : ApM w0 W.drew Va Vb Vr Vs as' bs' v LS := h.on ((Below.refl _ _).drew)
theorem ApM.cs0 (h : ApM w0 W Va Vb Vr Vs as' bs' v LS) : W.cell? ⟨Vs, 0, none⟩ = some v := by simp [World.cell?, h.cs]
end
structure ApPost (a b : Au) (w : World) (e : Ending) (w' : World) : Prop where
  is : ∃ (found : Bool) (best : La) (D E : Option Addr) (cd ce : Nat), e = .returned (.tuple #[.agg #[.slice D best.h.length cd, .slice E best.l.length ce], .bool found]) ∧ ApIs a b found best ∧ WyAt w' w.heap.size (D, best.h.length, cd) best.h ∧ WyAt w' w.heap.size (E, best.l.length, ce) best.l
  below : Below w.heap.size w w'
theorem la_cell2 {W : World} {V : Nat} {v0 v1 : Value} (h : W.heap[V]? = some (.cells #[v0, v1] 26 (0, 0))) : W.cell? ⟨V, 0, none⟩ = some v0 ∧ W.cell? ⟨V, 1, none⟩ = some v1 ∧ W.frozen? ⟨V, 0, none⟩ = false ∧ W.frozen? ⟨V, 1, none⟩ = false := by
  refine ⟨?_, ?_, ?_, ?_⟩ <;> simp [World.cell?, World.frozen?, h]
theorem ranges_iter {H : Type} {P : Program} {k : TypeId} {R : Value → Option (DataW H × List MemPlace)} {w : World} {b r n : Nat} {D : DataW H} {left : Lit → Bool} {cnt : Nat} (h : w.ranges P k R b r n D left cnt) : ∃ s c seen, w.heap[r]? = some (.mapIter (some b) s seen c) := by
  obtain ⟨es, clock, since, seen, c0, _, _, _, _, hr, _⟩ := h
  exact ⟨_, _, _, hr⟩
theorem AnM.ranged {w0 W W' : World} {Vr Vt Mo Mh : Nat} {OL HL : List LO} {D E : Option Addr} {cd ce : Nat} {best : La} (h : AnM w0 W Vr Vt Mo Mh OL HL D E cd ce best) {k : TypeId} {R : Value → Option (DataW Unit × List MemPlace)} {b r n : Nat} {D' : DataW Unit} {left : Lit → Bool} {cnt : Nat} (hr : W.ranges Try.prog k R b r n D' left cnt) (hg : W.grownBy W' (some r)) (hlo : w0.heap.size ≤ r) : AnM w0 W' Vr Vt Mo Mh OL HL D E cd ce best := by
  obtain ⟨s, c, seen, h1⟩ := ranges_iter hr
  exact h.iter hg h1 hlo
/-- the answer is put into the result -/
theorem AnM.ret {w0 W : World} {Vr Vt Mo Mh : Nat} {OL HL : List LO} {D E : Option Addr} {cd ce : Nat} {best : La} (h : AnM w0 W Vr Vt Mo Mh OL HL D E cd ce best) :
    WyAt ((W.setCell ⟨Vr, 0, none⟩ (.slice D best.h.length cd)).setCell ⟨Vr, 1, none⟩ (.slice E best.l.length ce)) w0.heap.size (D, best.h.length, cd) best.h ∧ WyAt ((W.setCell ⟨Vr, 0, none⟩ (.slice D best.h.length cd)).setCell ⟨Vr, 1, none⟩ (.slice E best.l.length ce)) w0.heap.size (E, best.l.length, ce) best.l ∧
    Below w0.heap.size w0 ((W.setCell ⟨Vr, 0, none⟩ (.slice D best.h.length cd)).setCell ⟨Vr, 1, none⟩ (.slice E best.l.length ce)) ∧ ((W.setCell ⟨Vr, 0, none⟩ (.slice D best.h.length cd)).setCell ⟨Vr, 1, none⟩ (.slice E best.l.length ce)).heap[Vr]? = some (.cells #[.slice D best.h.length cd, .slice E best.l.length ce] 26 (0, 0)) := by
  have hcr := h.cr
  have far : ∀ k, k ≠ Vr → ((W.setCell ⟨Vr, 0, none⟩ (.slice D best.h.length cd)).setCell ⟨Vr, 1, none⟩ (.slice E best.l.length ce)).heap[k]? = W.heap[k]? := fun k hk =>
    (Below.heap_setCell _ ⟨Vr, 1, none⟩ _ k hk).trans (Below.heap_setCell W ⟨Vr, 0, none⟩ _ k hk)
  have nw : ∀ {s : Sl} {y : List Int}, WyAt W w0.heap.size s y → WyAt ((W.setCell ⟨Vr, 0, none⟩ (.slice D best.h.length cd)).setCell ⟨Vr, 1, none⟩ (.slice E best.l.length ce)) w0.heap.size s y := fun {s y} hk => hk.heap fun k hk2 => by
    obtain ⟨cur, hc⟩ := hk.cells hk2
    refine far k fun e => ?_
    subst e
    rw [hcr] at hc
    exact absurd hc (by simp)
  exact ⟨nw h.bh, nw h.bl, (h.below.setCell (p := ⟨Vr, 0, none⟩) h.lr _).setCell (p := ⟨Vr, 1, none⟩) h.lr _, by simp [World.setCell, Array.getElem?_modify, hcr]⟩
theorem retLa2 {fn : Func} (h : fn.results = #[.cell 4 26, .tmp 5]) (tmps : Array Value) (w : World) (V : Nat) {v0 v1 x : Value} (hp : tmps[4]? = some (.pointer (some ⟨V, 0, none⟩))) (hx : tmps[5]? = some x)
    (ho : w.heap[V]? = some (.cells #[v0, v1] 26 (0, 0))) : (results fn tmps).run Try.prog w = .ok (.tuple #[.agg #[v0, v1], x]) w := by
  have r0 : w.cell? ⟨V, 0, none⟩ = some v0 := by simp [World.cell?, ho]
  have r1 : w.cell? ⟨V, 1, none⟩ = some v1 := by simp [World.cell?, ho]
  simp [results, h, go_sem, hp, hx, r0, r1]
theorem and_meet {x y : Nat} (hx : x < 8) (hy : y < 8) : bits BinOp.and IntKind.i64 (x : Int) (y : Int) = 0 ↔ ¬ ∃ i, i < 3 ∧ x.testBit i = true ∧ y.testBit i = true := by
  have h : ∀ x y : Fin 8, bits BinOp.and IntKind.i64 ((x : Nat) : Int) ((y : Nat) : Int) = 0 ↔ ¬ ∃ i : Fin 3, (x : Nat).testBit i = true ∧ (y : Nat).testBit i = true := by decide +kernel
  rw [h ⟨x, hx⟩ ⟨y, hy⟩]
  constructor
  · rintro h1 ⟨i, hi, h2⟩
    exact h1 ⟨⟨i, hi⟩, h2⟩
  · rintro h1 ⟨i, h2⟩
    exact h1 ⟨i, i.2, h2⟩
end Go.Proofs.Ytoglgeaiiipchaa

namespace Go.Proofs.Ytoglgeaiiipchaa
open Go Go.RowKit Go.Maps

theorem s2_same (x y : S2) (hx : S2W x) (hy : S2W y) (h : (s2L x).sameKey (s2L y) = true) : x = y := by
  refine s2Inj x y hx hy ?_
  unfold s2L at *
  simpa [Lit.sameKey] using h
theorem lo_key {HL : List LO} (hn : ((HL.map loM).map Prod.fst).Nodup) {e e' : LO} (he : e ∈ HL) (he' : e' ∈ HL) (h : (loM e).1 = (loM e').1) : e = e' := by
  induction HL with
  | nil => cases he
  | cons a HL ih =>
    simp only [List.map_cons, List.nodup_cons] at hn
    have inn : ∀ {z : LO}, z ∈ HL → (loM z).1 ∈ (HL.map loM).map Prod.fst := fun hz => List.mem_map_of_mem (List.mem_map_of_mem hz)
    rcases List.mem_cons.1 he with rfl | h1
    · rcases List.mem_cons.1 he' with rfl | h2
      · rfl
      · exact absurd (h ▸ inn h2) hn.1
    · rcases List.mem_cons.1 he' with rfl | h2
      · exact absurd (h ▸ inn h1) hn.1
      · exact ih hn.2 h1 h2
/-- the keys of a list of ways -/
structure LoK (HL : List LO) : Prop where
  lt : ∀ e ∈ HL, e.1.1 < 8 ∧ e.1.2 < 8
  w : ∀ p ∈ HL.map loM, S2W p.1
  n : ((HL.map loM).map Prod.fst).Nodup
theorem LoK.left {HL : List LO} (h : LoK HL) {left : Lit → Bool} {e e0 : LO} (he : e ∈ HL) (he0 : e0 ∈ HL) (hl : (left (s2L (loM e).1) && !(s2L (loM e).1).sameKey (s2L (loM e0).1)) = false) : left (s2L (loM e).1) = false ∨ e = e0 := by
  by_cases h1 : left (s2L (loM e).1) = true
  · right
    rw [h1, Bool.true_and] at hl
    exact lo_key h.n he he0 (s2_same _ _ (h.w _ (List.mem_map_of_mem he)) (h.w _ (List.mem_map_of_mem he0)) (by simpa using hl))
  · left
    simpa using h1
theorem LoK.of_lt {HL : List LO} (hk : ∀ e ∈ HL, e.1.1 < 8 ∧ e.1.2 < 8) (hn : (HL.map Prod.fst).Nodup) : LoK HL := by
  refine ⟨hk, fun p hp => ?_, ?_⟩
  · obtain ⟨e, he, rfl⟩ := List.mem_map.1 hp
    obtain ⟨h1, h2⟩ := hk e he
    exact ⟨WalkArith.wf_i64 (n := ((e.1.1 : Nat) : Int)) (by omega), WalkArith.wf_i64 (n := ((e.1.2 : Nat) : Int)) (by omega)⟩
  · have e1 : (HL.map loM).map Prod.fst = (HL.map Prod.fst).map (fun k : Nat × Nat => (((k.1 : Nat) : Int), ((k.2 : Nat) : Int))) := by
      rw [List.map_map, List.map_map]; rfl
    rw [e1]
    unfold List.Nodup at hn ⊢
    rw [List.pairwise_map]
    refine hn.imp fun {a b} hne he => hne ?_
    simp only [Prod.mk.injEq] at he
    exact Prod.ext (by omega) (by omega)
theorem LoK.heads {a b : Au} {LS : List Bp} {HL : List LO} {p e : Nat} (h : Hds a b LS (HL.map hdP) p e) : LoK HL := by
  refine LoK.of_lt (fun o ho => ?_) ?_
  · obtain ⟨i, hi, rfl⟩ := List.getElem_of_mem ho
    obtain ⟨_, h1, _⟩ := h.w i (by rw [List.length_map]; exact hi)
    rw [List.getElem_map] at h1
    have h2 := hkey_lt a b (hdP HL[i]).2
    rw [← h1] at h2
    exact h2
  · have h1 := h.nd
    rw [List.map_map] at h1
    exact h1
theorem LoK.loops {OL : List LO} {R : List (Bp × List Int)} (h : OL.map loP = outsOf R) : LoK OL := by
  refine LoK.of_lt (fun o ho => ?_) ?_
  · have h1 : o.1 ∈ (OL.map loP).map Prod.fst := List.mem_map.2 ⟨loP o, List.mem_map_of_mem ho, rfl⟩
    rw [h, outsOf_key _ _ rfl] at h1
    obtain ⟨e, _, he⟩ := h1
    rw [← he]
    exact ⟨bits3_lt _, bits3_lt _⟩
  · have h1 := outs_nodup _ R rfl
    rw [← h, List.map_map] at h1
    exact h1
theorem heads_len {a b : Au} {LS : List Bp} {HL : List LO} {p e : Nat} (h : Hds a b LS (HL.map hdP) p e) : ∀ o ∈ HL, o.2.1.length ≤ 64 := fun o ho => by
  obtain ⟨i, hi, rfl⟩ := List.getElem_of_mem ho
  obtain ⟨_, _, h1⟩ := h.w i (by rw [List.length_map]; exact hi)
  rw [List.getElem_map] at h1
  have h2 := h.few
  rw [List.length_map] at h2
  have h1 : HL[i].2.1.length ≤ i := h1
  omega
theorem wpList_next_lo {w : World} {ops : Array Oper} {rest : List Oper} {o : Oper} {a : Act} {Q : Exit → Act → World → Prop} (hg : o.guard = none) (it : Operand) (hop : o.op = Op.next it false) {HL : List LO} (hK : LoK HL) {M r n : Nat} {left : Lit → Bool} {cnt : Nat}
    (hit : a.eval it = .pointer (some ⟨r, 0, none⟩)) (h : w.ranges Try.prog 137 slE M r n (gD s2L slD (HL.map loM)) left cnt)
    (hDone : (∀ kl, left kl = false) → wpList Try.prog ops Q rest (a.put o.dst (.tuple #[.bool false])) w)
    (hMore : ∀ (e : LO) (w' : World) (cnt' : Nat), e ∈ HL → left (s2L (loM e).1) = true → w'.ranges Try.prog 137 slE M r n (gD s2L slD (HL.map loM)) (fun z => left z && !z.sameKey (s2L (loM e).1)) cnt' → cnt' < cnt → w.grownBy w' (some r) → w'.heap.size = w.heap.size →
      (Instr.entry (.pointer (some ⟨r, 0, none⟩))).run Try.prog w' = .ok (.tuple #[.agg #[.int .i64 ((e.1.1 : Nat) : Int), .int .i64 ((e.1.2 : Nat) : Int)], .slice e.2.2.1 e.2.2.2.1 e.2.2.2.2]) w' → wpList Try.prog ops Q rest (a.put o.dst (.tuple #[.bool true, .agg #[.int .i64 ((e.1.1 : Nat) : Int), .int .i64 ((e.1.2 : Nat) : Int)], .slice e.2.2.1 e.2.2.2.1 e.2.2.2.2])) w') :
    wpList Try.prog ops Q (o :: rest) a w := by
  refine wpList_next_ranges (α := S2) (β := Sl) w hg it hop _ s2K.keyed slE s2V slV (fun key kl hkey => ?_) (fun v y hv => ?_) M r n _ left cnt hit h (fun _ hl => hDone hl) (fun x c kl y w' cnt' hkey hlk hv hat hrg hlt hgr hsz hen => ?_)
  · obtain ⟨z, rfl, _⟩ := s2Kinv hkey
    exact ⟨z, rfl⟩
  · obtain ⟨e, rfl, _⟩ := s2K.inv v y hv
    exact ⟨e, rfl⟩
  · obtain ⟨z, hz, rfl, hzw⟩ := s2Kinv hkey
    obtain rfl : x = z := by
      unfold s2V at hz
      simp at hz
      exact Prod.ext hz.1 hz.2
    have hy : y = (slD c, []) := by
      have h1 := s2K.enc c
      rw [hv] at h1
      exact Option.some.inj h1
    subst hy
    have hm := s2K.entry hK.w hK.n hzw (e := c) ⟨(c.1, c.2.1 + 1, c.2.2), fun he => by
      have := congrArg (fun s : Sl => s.2.1) (slD_inj _ _ he)
      simp at this⟩ hat
    obtain ⟨e, he, hxe⟩ := List.mem_map.1 hm
    obtain ⟨h1, h2⟩ := Prod.mk.inj hxe
    subst h1
    subst h2
    exact hMore e w' cnt' he hlk hrg hlt hgr hsz hen
end Go.Proofs.Ytoglgeaiiipchaa

namespace Go.Proofs.Ytoglgeaiiipchaa
open Go Go.RowKit Go.Maps

theorem append_types {P : Program} {t u e e' : TypeId} (ht : P.underlying t = some (.slice e)) (hu : P.underlying u = some (.slice e')) (ty : TypeId) (b : Option Addr) (n c : Nat) (x : Value) (w : World) : (Builtin.append_ #[t, u] ty #[.slice b n c, x]).run P w = (Builtin.append_ #[t, t] ty #[.slice b n c, x]).run P w := by
  unfold Builtin.append_
  simp [run_underlying ht, run_underlying hu]
/-- letters copied behind an empty row of one's own -/
theorem in_app0 {w : World} {lo B : Nat} {ys : List Int} (hown : w.ownsRow lo 3 1 (.slice (some ⟨B, 0, none⟩) 0 0) 0 []) {A : Option Addr} {c : Nat} (hr : Rd w 0 A (ys.flatMap inC)) (hlo : lo ≤ w.heap.size) (hl : ys.length ≤ 1000000000) :
    ∃ A' c' w', (Builtin.append_ #[24, 138] 24 #[.slice (some ⟨B, 0, none⟩) 0 0, .slice A ys.length c]).run Try.prog w = .ok (.slice A' ys.length c') w' ∧ WyAt w' lo (A', ys.length, c') ys ∧ w.grownBy w' (some B) ∧
      ((slV (A', ys.length, c')).ownBlock = some B ∨ (slV (A', ys.length, c')).ownBlock = some w.heap.size) := by
  obtain ⟨i0, hi0, hz0, hz1, hz2⟩ := info_parts infoInt
  obtain ⟨v', w', h1, h2, h3, h4⟩ := run_app (P := Try.prog) w lo 24 24 3 i0 _ 1 8 Try.underlying24 hi0 hz0 hz1 hz2 rfl (by decide) (.slice (some ⟨B, 0, none⟩) 0 0) 0 [] hown A ys.length c (ys.flatMap inC) (flatMap_len inC_len ys) hr (fun u hu => by
    obtain ⟨k, _, hk⟩ := List.mem_flatMap.1 hu
    exact inC_one k u hk) (by unfold maxLen; omega) (by omega) hlo
  rw [Nat.zero_add, List.nil_append] at h2
  obtain ⟨A', c', rfl, _⟩ := own_form h2
  exact ⟨A', c', w', (append_types Try.underlying24 Try.underlying138 _ _ _ _ _ _).trans h1, GQ.of h2 rfl inC_len, h3, h4⟩
theorem ranges_on {P : Program} {k : TypeId} {R : Value → Option (DataW Unit × List MemPlace)} {W W' : World} {b r n : Nat} {D : DataW Unit} {left : Lit → Bool} {cnt : Nat} (h : W.ranges P k R b r n D left cnt) (hb : Below W.heap.size W W') : W'.ranges P k R b r n D left cnt :=
  h.kept (row := none) ⟨hb.os, hb.tape, hb.output, hb.size, fun k hk _ => hb.block k hk⟩ (by simp) (by simp)
theorem wy_ints {W : World} {lo : Nat} {A : Option Addr} {n c : Nat} {xs : List Int} (h : WyAt W lo (A, n, c) xs) (hl : xs.length ≤ 1000000000) : Ints W 0 A c xs := by
  obtain ⟨A', c', he, hs⟩ := GQ.read h (bt := 8) (by omega)
  simp only [slV, Value.slice.injEq] at he
  obtain ⟨rfl, rfl, rfl⟩ := he
  exact hs.zero
theorem wy_len {W : World} {lo : Nat} {A : Option Addr} {n c : Nat} {xs : List Int} (h : WyAt W lo (A, n, c) xs) : n = xs.length := by
  obtain ⟨A', c', he, _⟩ := GQ.form h
  simp only [slV, Value.slice.injEq] at he
  exact he.2.1
theorem ap_ne {W : World} {M V : Nat} {D : List (S2 × Sl)} {a : Array Value} (h : GAt 137 s2L slE slD W M D) (hV : W.heap[V]? = some (Obj.cells a 26 (0, 0))) (e : M = V) : False := by
  subst e
  obtain ⟨es, c, h1⟩ := h.block
  rw [hV] at h1
  cases h1
theorem ap_nei {P : Program} {k : TypeId} {R : Value → Option (DataW Unit × List MemPlace)} {W : World} {b r n V : Nat} {D : DataW Unit} {left : Lit → Bool} {cnt : Nat} {a : Array Value} (h : W.ranges P k R b r n D left cnt) (hV : W.heap[V]? = some (Obj.cells a 26 (0, 0))) (e : r = V) : False := by
  subst e
  obtain ⟨s, c, seen, h1⟩ := ranges_iter h
  rw [hV] at h1
  cases h1
structure ApR (w0 W : World) (b0 b3 : Option Nat) (su sv : Option Sl) (x : Option Nat) (ew ow : List Int) : Prop where
  below : Below w0.heap.size w0 W
  h0 : ∀ B, b0 = some B → W.ownsRow w0.heap.size 3 1 (.slice (some ⟨B, 0, none⟩) 0 0) 0 []
  h3 : ∀ B, b3 = some B → W.ownsRow w0.heap.size 3 1 (.slice (some ⟨B, 0, none⟩) 0 0) 0 []
  hu : ∀ s, su = some s → WyAt W w0.heap.size s ew
  hv : ∀ s, sv = some s → WyAt W w0.heap.size s ow
  hx : ∀ X, x = some X → W.heap[X]? = some (.cells #[.slice none 0 0, .slice none 0 0] 26 (0, 0)) ∧ w0.heap.size ≤ X
  d03 : ∀ B B', b0 = some B → b3 = some B' → B ≠ B'
  du3 : ∀ s B, su = some s → b3 = some B → (slV s).ownBlock ≠ some B
section
variable {w0 W W' : World} {b0 b3 : Option Nat} {su sv : Option Sl} {x : Option Nat} {ew ow : List Int}
theorem ApR.start (hb : Below w0.heap.size w0 W) : ApR w0 W none none none none none ew ow :=
  ⟨hb, fun B h => (by cases h), fun B h => (by cases h), fun B h => (by cases h), fun B h => (by cases h), fun B h => (by cases h), fun B B' h => (by cases h), fun B B' h => (by cases h)⟩
theorem ApR.on (h : ApR w0 W b0 b3 su sv x ew ow) (hb : Below W.heap.size W W') : ApR w0 W' b0 b3 su sv x ew ow :=
  ⟨Below_on h.below hb h.below.size, fun B e => own_below (h.h0 B e) hb, fun B e => own_below (h.h3 B e) hb, fun s e => (h.hu s e).on hb, fun s e => (h.hv s e).on hb, fun X e => ⟨(hb.block X (Array.getElem?_eq_some_iff.1 (h.hx X e).1).1).trans (h.hx X e).1, (h.hx X e).2⟩, h.d03, h.du3⟩
theorem own_lt {B : Nat} {lo : Nat} (h : W.ownsRow lo 3 1 (.slice (some ⟨B, 0, none⟩) 0 0) 0 []) : B < W.heap.size := (h.lt B rfl).2
theorem ApR.mk0 (h : ApR w0 W none b3 su sv x ew ow) : ApR w0 (W.alloc (Obj.cells #[] 3)) (some W.heap.size) b3 su sv x ew ow := by
  have hb : Below W.heap.size W (W.alloc (Obj.cells #[] 3)) := (Below.refl _ _).alloc (Nat.le_refl _) _
  have h1 := h.on hb
  refine ⟨h1.below, fun B e => ?_, h1.h3, h1.hu, h1.hv, h1.hx, fun B B' e e' => ?_, h1.du3⟩
  · obtain rfl := Option.some.inj e
    exact lo_14 W _ h.below.size
  · obtain rfl := Option.some.inj e
    have := own_lt (h.h3 B' e')
    omega
theorem ApR.mk3 (h : ApR w0 W b0 none su sv x ew ow) : ApR w0 (W.alloc (Obj.cells #[] 3)) b0 (some W.heap.size) su sv x ew ow := by
  have hb : Below W.heap.size W (W.alloc (Obj.cells #[] 3)) := (Below.refl _ _).alloc (Nat.le_refl _) _
  have h1 := h.on hb
  refine ⟨h1.below, h1.h0, fun B e => ?_, h1.hu, h1.hv, h1.hx, fun B B' e e' => ?_, fun s B e e' he => ?_⟩
  · obtain rfl := Option.some.inj e
    exact lo_14 W _ h.below.size
  · obtain rfl := Option.some.inj e'
    have := own_lt (h.h0 B e)
    omega
  · obtain rfl := Option.some.inj e'
    have := ((h.hu s e).lt _ he).2
    omega
theorem ApR.mkx (h : ApR w0 W b0 b3 su sv none ew ow) : ApR w0 (W.alloc (Obj.cells #[.slice none 0 0, .slice none 0 0] 26)) b0 b3 su sv (some W.heap.size) ew ow := by
  have hb : Below W.heap.size W (W.alloc (Obj.cells #[.slice none 0 0, .slice none 0 0] 26)) := (Below.refl _ _).alloc (Nat.le_refl _) _
  have h1 := h.on hb
  refine ⟨h1.below, h1.h0, h1.h3, h1.hu, h1.hv, fun X e => ?_, h1.d03, h1.du3⟩
  obtain rfl := Option.some.inj e
  exact ⟨allocNew W _, h.below.size⟩
/-- what an append onto an empty row leaves -/
theorem ApR.grown {B : Nat} (h : ApR w0 W b0 b3 su sv x ew ow) (hB : W.ownsRow w0.heap.size 3 1 (.slice (some ⟨B, 0, none⟩) 0 0) 0 []) (hg : W.grownBy W' (some B)) : Below w0.heap.size w0 W' ∧
    (∀ B' : Nat, B' ≠ B → W.ownsRow w0.heap.size 3 1 (.slice (some ⟨B', 0, none⟩) 0 0) 0 [] → W'.ownsRow w0.heap.size 3 1 (.slice (some ⟨B', 0, none⟩) 0 0) 0 []) ∧
    (∀ (s : Sl) (z : List Int), (slV s).ownBlock ≠ some B → WyAt W w0.heap.size s z → WyAt W' w0.heap.size s z) ∧ (∀ X : Nat, W.heap[X]? = some (Obj.cells #[.slice none 0 0, .slice none 0 0] 26 (0, 0)) → W'.heap[X]? = some (Obj.cells #[.slice none 0 0, .slice none 0 0] 26 (0, 0))) := by
  refine ⟨h.below.grown hg h.below.size (fun k hk => by obtain rfl := Option.some.inj hk; exact (hB.lt _ rfl).1), fun B' hne hB' => ?_, fun s z hne hz => ?_, fun X hX => ?_⟩
  · exact World.ownsRow.kept hB' hg (.inr fun e => hne (Option.some.inj e))
  · exact hz.heap fun k hk => hg.block k (hz.lt k hk).2 (fun e => hne (hk.trans e))
  · refine (hg.block X (Array.getElem?_eq_some_iff.1 hX).1 (fun e => ?_)).trans hX
    obtain rfl := Option.some.inj e
    obtain ⟨cur, hc⟩ := (GQ.of (enc := inC) (xs := ([] : List Int)) hB rfl inC_len).cells (r := X) rfl
    exact cells_ne hX hc (by decide)
theorem ApR.app0 {B : Nat} (h : ApR w0 W (some B) b3 none none x ew ow) {A : Option Addr} {c : Nat} (hr : Rd W 0 A (ew.flatMap inC)) (hl : ew.length ≤ 1000000000) :
    ∃ A' c' W', (Builtin.append_ #[24, 138] 24 #[.slice (some ⟨B, 0, none⟩) 0 0, .slice A ew.length c]).run Try.prog W = .ok (.slice A' ew.length c') W' ∧ ApR w0 W' none b3 (some (A', ew.length, c')) none x ew ow := by
  have hB := h.h0 B rfl
  obtain ⟨A', c', W', h1, h2, h3, h4⟩ := in_app0 hB hr h.below.size hl
  obtain ⟨g1, g2, g3, g4⟩ := h.grown hB h3
  refine ⟨A', c', W', h1, g1, fun B' e => (by cases e), fun B' e => g2 B' (fun e2 => h.d03 B B' rfl e e2.symm) (h.h3 B' e), fun s e => ?_, fun s e => (by cases e), fun X e => ⟨g4 X (h.hx X e).1, (h.hx X e).2⟩, fun B B' e => (by cases e), fun s B' e e' he => ?_⟩
  · obtain rfl := Option.some.inj e
    exact h2
  · obtain rfl := Option.some.inj e
    have hlt := own_lt (h.h3 B' e')
    rcases h4 with h5 | h5
    · rw [h5] at he
      exact h.d03 B B' rfl e' (Option.some.inj he)
    · rw [h5] at he
      have := Option.some.inj he
      omega
theorem ApR.app3 {B : Nat} (h : ApR w0 W none (some B) su none x ew ow) {A : Option Addr} {c : Nat} (hr : Rd W 0 A (ow.flatMap inC)) (hl : ow.length ≤ 1000000000) :
    ∃ A' c' W', (Builtin.append_ #[24, 138] 24 #[.slice (some ⟨B, 0, none⟩) 0 0, .slice A ow.length c]).run Try.prog W = .ok (.slice A' ow.length c') W' ∧ ApR w0 W' none none su (some (A', ow.length, c')) x ew ow := by
  have hB := h.h3 B rfl
  obtain ⟨A', c', W', h1, h2, h3, h4⟩ := in_app0 hB hr h.below.size hl
  obtain ⟨g1, g2, g3, g4⟩ := h.grown hB h3
  refine ⟨A', c', W', h1, g1, fun B' e => (by cases e), fun B' e => (by cases e), fun s e => g3 s _ (h.du3 s B e rfl) (h.hu s e), fun s e => ?_, fun X e => ⟨g4 X (h.hx X e).1, (h.hx X e).2⟩, fun B B' e => (by cases e), fun s B' e e' => (by cases e')⟩
  obtain rfl := Option.some.inj e
  exact h2
end
end Go.Proofs.Ytoglgeaiiipchaa
