/- A region that draws its order, whose operations up to number c only read, and from c on come up one behind another (a call that ends it, say): walked once, in whatever frame. -/
import Derived.Test.YtoglgeaiiipchabLTTM13
import Derived.Test.YtoglgeaiiipchabLTTM14
import Derived.Test.YtoglgeaiiipchabLTTM15
import Derived.Sort.BigQuietIn
import Derived.OwnWalkIn
import Derived.Test.YtoglgeaiiipchabLTTM1
set_option linter.unusedSimpArgs false
set_option linter.unusedVariables false
namespace Go.Proofs.Ytoglgeaiiipchab
open Go Go.RowKit Go.Maps Go.Shelf Go.Sort

structure TbW (w0 : World) (Bk M : Nat) (f : List Nd) (FA : Option Addr) (fc : Nat) (gv sv : Value) (es : List Stp) (W : World) : Prop where
  lo : w0.heap.size ≤ Bk
  obj : W.heap[Bk]? = some (.cells #[.slice FA f.length fc, .map (some M), gv, sv] 111 (0, 0))
  nd : Nds w0 0 FA fc f
  below : Below w0.heap.size w0 W
  at_ : AtI W M (atD f f.length)
  fr : W.ownsRow w0.heap.size 3 1 gv (fairI f).length ((fairI f).flatMap viL)
  s : W.ownsRow w0.heap.size 49 3 sv es.length (es.flatMap Stp.cells)
section
variable {w0 W W' : World} {Bk M : Nat} {f : List Nd} {FA : Option Addr} {fc : Nat} {gv sv : Value} {es : List Stp}
theorem TbW.lt (h : TbW w0 Bk M f FA fc gv sv es W) : Bk < W.heap.size := (Array.getElem?_eq_some_iff.1 h.obj).1
theorem TbW.on (h : TbW w0 Bk M f FA fc gv sv es W) (hb : Below W.heap.size W W') : TbW w0 Bk M f FA fc gv sv es W' :=
  ⟨h.lo, (hb.block _ h.lt).trans h.obj, h.nd, Below_on h.below hb h.below.size, h.at_.on hb, own_below h.fr hb, own_below h.s hb⟩
theorem heap_set43 {W : World} {G : Nat} {a b c d : Value} {t : TypeId} {m : Nat × Nat} (h : W.heap[G]? = some (.cells #[a, b, c, d] t m)) (v : Value) : (W.setCell ⟨G, 3, none⟩ v).heap[G]? = some (.cells #[a, b, c, v] t m) := by
  simp [World.setCell, Array.getElem?_modify, h]
theorem cells4 {W : World} {G : Nat} {a b c d : Value} {t : TypeId} (h : W.heap[G]? = some (.cells #[a, b, c, d] t (0, 0))) : W.cell? ⟨G, 0, none⟩ = some a ∧ W.cell? ⟨G, 1, none⟩ = some b ∧ W.cell? ⟨G, 2, none⟩ = some c ∧ W.cell? ⟨G, 3, none⟩ = some d ∧ W.frozen? ⟨G, 3, none⟩ = false := by
  refine ⟨?_, ?_, ?_, ?_, ?_⟩ <;> simp [World.cell?, World.frozen?, h]
theorem TbW.rd (h : TbW w0 Bk M f FA fc gv sv es W) (hf : FmOK f) : ∃ GA gc, gv = .slice GA (fairI f).length gc ∧ TbAt W Bk M f FA fc GA gc := by
  obtain ⟨GA, gc, rfl, hG⟩ := SlE.of_own (enc := viL) (bt := 8) h.fr (by rw [fairI_len]; have := tn_le hf; omega)
  obtain ⟨c0, c1, c2, c3, _⟩ := cells4 h.obj
  exact ⟨GA, gc, rfl, h.lt, c0, c1, c2, h.nd.below h.below, h.at_, hG.zero⟩
theorem at_ne_row {B n sz : Nat} {e : TypeId} {v : Value} {xs : List Value} {D : List (Int × Int)} (h : AtI W M D) (hv : W.ownsRow B e sz v n xs) : v.ownBlock ≠ some M := fun hb => by
  obtain ⟨es, c, h1, _⟩ := h
  rcases hv.2 with ⟨rfl, _⟩ | ⟨g', cap, cur, rfl, _, hh, _⟩
  · cases hb
  · obtain rfl : g' = M := by simpa [Value.ownBlock] using hb
    rw [h1] at hh
    cases hh
/-- what no append to the steps touches: all but the builder and rows of steps -/
def KeepS (Bk : Nat) (W W' : World) : Prop := ∀ (k : Nat) (o : Obj), W.heap[k]? = some o → k ≠ Bk → (∀ cs m, o ≠ .cells cs 49 m) → W'.heap[k]? = some o
theorem KeepS.refl (Bk : Nat) (W : World) : KeepS Bk W W := fun _ _ h _ _ => h
theorem KeepS.of_below {Bk : Nat} {W W' : World} (h : Below W.heap.size W W') : KeepS Bk W W' := fun k o ho _ _ => (h.block k (Array.getElem?_eq_some_iff.1 ho).1).trans ho
theorem KeepS.trans {Bk : Nat} {W W' W'' : World} (h : KeepS Bk W W') (h' : KeepS Bk W' W'') : KeepS Bk W W'' := fun k o ho h1 h2 => h' k o (h k o ho h1 h2) h1 h2
theorem KeepS.brow {W W' : World} {G : Nat} {t : List Bool} {Bk : Nat} (h : KeepS Bk W W') (hB : G ≠ Bk) (hR : BRow W G t) : BRow W' G t :=
  h G _ hR hB (fun cs m e => by injection e with _ h2 _; exact absurd h2 (by decide))
theorem TbW.brow_ne {w0 W : World} {Bk M : Nat} {f : List Nd} {FA : Option Addr} {fc : Nat} {gv sv : Value} {es : List Stp} {G : Nat} {t : List Bool} (h : TbW w0 Bk M f FA fc gv sv es W) (hR : BRow W G t) : G ≠ Bk := fun e => by
  have h1 : W.heap[G]? = _ := hR
  rw [e, h.obj] at h1
  simp at h1
theorem own_notS {W : World} {B n : Nat} {v : Value} {xs : List Value} (hv : W.ownsRow B 49 3 v n xs) {k : Nat} {o : Obj} (ho : W.heap[k]? = some o) (hn : ∀ cs m, o ≠ .cells cs 49 m) : v.ownBlock ≠ some k := fun hb => by
  rcases hv.2 with ⟨rfl, _⟩ | ⟨g', cap, cur, rfl, _, hh, _⟩
  · cases hb
  · obtain rfl : g' = k := by simpa [Value.ownBlock] using hb
    rw [hh] at ho
    exact hn _ _ (Option.some.inj ho).symm
theorem TbW.app (h : TbW w0 Bk M f FA fc gv sv es W) (x : Stp) (hl : es.length ≤ 1000000000) :
    AppTo Bk 3 sv 24 49 #[.int .i64 x.f, .int .i64 x.l, .int .i64 x.t] es.length W (fun v' W' => TbW w0 Bk M f FA fc gv v' (es ++ [x]) W' ∧ KeepS Bk W W') := by
  obtain ⟨i0, hi0, hz0, hz1, hz2⟩ := info_parts infoSt
  have hlt := h.lt
  have hb : Below W.heap.size W (W.alloc (Obj.cells #[.int .i64 x.f, .int .i64 x.l, .int .i64 x.t] 49)) := (Below.refl _ _).alloc (Nat.le_refl _) _
  obtain ⟨A1, c1, e1, hc1, hc2, _⟩ := own_form h.s
  obtain ⟨v3, w3, hr, hown, hg, hat⟩ := run_app (P := Try.prog) (W.alloc (Obj.cells #[.int .i64 x.f, .int .i64 x.l, .int .i64 x.t] 49)) w0.heap.size 24 24 49 i0 _ 3 24 Try.underlying24 hi0 hz0 hz1 hz2 rfl (by decide) _ es.length _ (own_below h.s hb) (some ⟨W.heap.size, 0, none⟩) 1 1 [.int .i64 x.f, .int .i64 x.l, .int .i64 x.t] rfl
    (Rd.new W #[.int .i64 x.f, .int .i64 x.l, .int .i64 x.t] 49) (by simp [Value.oneCell']) (by simp only [maxLen]; omega) (by omega) (by have := h.below.size; simp; omega)
  obtain ⟨T3, c3, rfl, _, _, _⟩ := own_form hown
  have hG3 := obj_appN h.obj h.s (by decide) hb hg
  obtain ⟨_, _, _, q, fz⟩ := cells4 hG3
  have far : ∀ k, k < W.heap.size → sv.ownBlock ≠ some k → k ≠ Bk → (w3.setCell ⟨Bk, 3, none⟩ (.slice T3 (es.length + 1) c3)).heap[k]? = W.heap[k]? := fun k hk h1 h2 =>
    (Below.heap_setCell _ ⟨Bk, 3, none⟩ _ _ h2).trans ((hg.block k (by have := hb.size; omega) (fun e => h1 e.symm)).trans (hb.block k hk))
  refine ⟨A1, c1, e1, hc1, hc2, T3, c3, w3, by rw [← e1]; exact hr, q, fz, hg, ⟨⟨h.lo, heap_set43 hG3 _, h.nd, ?_, ?_, own_otherN h.fr h.s (by decide) hb hg hG3 (by decide) 3 (.slice T3 (es.length + 1) c3), ?_⟩, ?_⟩⟩
  · exact h.below.trans (below_appN h.s hlt h.lo hb hg 3 _)
  · refine h.at_.heap (far M h.at_.lt (at_ne_row h.at_ h.s) fun e => ?_)
    obtain ⟨es', c, h1, _⟩ := h.at_
    rw [e, h.obj] at h1
    cases h1
  · have := own_set_ty hown hG3 (by decide) 3 (.slice T3 (es.length + 1) c3)
    rw [show (es ++ [x]).length = es.length + 1 by simp, show (es ++ [x]).flatMap Stp.cells = es.flatMap Stp.cells ++ [.int .i64 x.f, .int .i64 x.l, .int .i64 x.t] by simp [Stp.cells]]
    exact this
  · intro k o ho h1 h2
    exact (far k (Array.getElem?_eq_some_iff.1 ho).1 (own_notS h.s ho h2) h1).trans ho
/-- between the append and the store -/
theorem TbW.mid {GA : Option Addr} {gc : Nat} {W1 w3 : World} (hf : FmOK f) (h : TbW w0 Bk M f FA fc (.slice GA (fairI f).length gc) sv es W) (hb : Below W.heap.size W W1) (hg : W1.grownBy w3 sv.ownBlock) :
    TbAt w3 Bk M f FA fc GA gc ∧ ∀ G t, BRow W G t → BRow w3 G t := by
  have hG3 := obj_appN h.obj h.s (by decide) hb hg
  have hk : Below w0.heap.size w0 w3 := h.below.trans ((hb.mono h.below.size).grown hg (by have := hb.size; have := h.below.size; omega) (fun k hk => (h.s.lt k hk).1))
  obtain ⟨c0, c1, c2, c3, _⟩ := cells4 hG3
  have hfr : w3.ownsRow w0.heap.size 3 1 (.slice GA (fairI f).length gc) (fairI f).length ((fairI f).flatMap viL) := World.ownsRow.kept (own_below h.fr hb) hg (own_ty2 h.fr h.s (by decide))
  obtain ⟨GA', gc', he, hG⟩ := SlE.of_own (enc := viL) (bt := 8) hfr (by rw [fairI_len]; have := tn_le hf; omega)
  obtain ⟨rfl, rfl⟩ : GA = GA' ∧ gc = gc' := by simpa using he
  have far : ∀ k, k < W.heap.size → sv.ownBlock ≠ some k → w3.heap[k]? = W.heap[k]? := fun k hk h1 => (hg.block k (by have := hb.size; omega) (fun e => h1 e.symm)).trans (hb.block k hk)
  exact ⟨⟨(Array.getElem?_eq_some_iff.1 hG3).1, c0, c1, c2, h.nd.below hk, h.at_.heap (far M h.at_.lt (at_ne_row h.at_ h.s)), hG.zero⟩, fun G t hR => (far G hR.lt (own_ty h.s hR (by decide))).trans hR⟩
end
end Go.Proofs.Ytoglgeaiiipchab

namespace Go.Proofs.Ytoglgeaiiipchab
open Go

section
variable {F : Fence} {n : Nat} {P : Program} {ops : Array Oper} {md : Region.Mode} {C : World → Prop}

/-- whatever order is picked, up to where operation c alone may come up -/
def wpAnyT (F : Fence) (n : Nat) (P : Program) (md : Region.Mode) (ops : Array Oper) (C : World → Prop) (c : List Nat) (Q : Nat → Array Bool → Act → Prop) : Nat → Array Bool → Act → Prop
  | 0, listed, a => Region.ready md ops listed = c ∧ Q 0 listed a
  | fuel + 1, listed, a =>
    (Region.ready md ops listed = c → Q (fuel + 1) listed a) ∧
    (Region.ready md ops listed ≠ c → Region.ready md ops listed ≠ [] ∧ ∀ i ∈ Region.ready md ops listed, qOpIn F n P ops C i (wpAnyT F n P md ops C c Q fuel (listed.setIfInBounds i true)) a)

/-- what has come up has what it waits for -/
def DownC (md : Region.Mode) (ops : Array Oper) (listed : Array Bool) : Prop := ∀ k ok, ops[k]? = some ok → listed.getD k true = true → ∀ e ∈ ok.after, Region.binds md e = true → listed.getD e.on false = true
theorem DownC.start : DownC md ops (Array.replicate ops.size false) := by
  intro k ok hk h
  have hlt := (Array.getElem?_eq_some_iff.1 hk).1
  simp [hlt] at h
theorem getD_true_false {listed : Array Bool} {i : Nat} (h : listed.getD i false = true) : listed.getD i true = true := by
  rcases Nat.lt_or_ge i listed.size with h' | h'
  · simpa [h'] using h
  · simp [Array.getElem?_eq_none h'] at h
theorem DownC.step {listed : Array Bool} (h : DownC md ops listed) {j : Nat} (hj : j ∈ Region.ready md ops listed) : DownC md ops (listed.setIfInBounds j true) := by
  intro k ok hk hl e he hb
  by_cases hjk : j = k
  · subst hjk
    obtain ⟨_, o, ho, hall⟩ := mem_ready.1 hj
    obtain rfl : o = ok := Option.some.inj (ho.symm.trans hk)
    exact getD_set_true (hall e he hb)
  · rw [getD_set_ne true hjk] at hl
    exact getD_set_true (h k ok hk hl e he hb)

/-- the operations that c waits for, they and those that they wait for -/
def marksT (md : Region.Mode) (ops : Array Oper) (c : Nat) : List Nat :=
  (List.range (c + 1)).reverse.foldl (fun ms k => if ms.contains k then (match ops[k]? with | some o => (o.after.toList.filter (fun e => Region.binds md e)).map (·.on) | none => []) ++ ms else ms) [c]
theorem marks_listed {c : Nat} {listed : Array Bool} (hd : DownC md ops listed) (hc : c ∈ Region.ready md ops listed) : ∀ x ∈ marksT md ops c, x ≠ c → listed.getD x false = true := by
  unfold marksT
  have key : ∀ (ks ms : List Nat), (∀ x ∈ ms, x ≠ c → listed.getD x false = true) →
      ∀ x ∈ ks.foldl (fun ms k => if ms.contains k then (match ops[k]? with | some o => (o.after.toList.filter (fun e => Region.binds md e)).map (·.on) | none => []) ++ ms else ms) ms, x ≠ c → listed.getD x false = true := by
    intro ks
    induction ks with
    | nil => exact fun ms h => h
    | cons k ks ih =>
      intro ms h
      rw [List.foldl_cons]
      refine ih _ ?_
      split
      · rename_i hk
        have hk := List.contains_iff_mem.1 hk
        intro x hx hxc
        rcases List.mem_append.1 hx with hx | hx
        · split at hx
          · rename_i o ho
            obtain ⟨e, he, rfl⟩ := List.mem_map.1 hx
            obtain ⟨he, hb⟩ := List.mem_filter.1 he
            have he := Array.mem_toList_iff.1 he
            by_cases hkc : k = c
            · subst hkc
              obtain ⟨_, o', ho', hall⟩ := mem_ready.1 hc
              obtain rfl : o' = o := Option.some.inj (ho'.symm.trans ho)
              exact hall e he hb
            · exact hd k o ho (getD_true_false (h k hk hkc)) e he hb
          · cases hx
        · exact h x hx hxc
      · exact h
  exact key _ [c] (fun x hx hxc => absurd (List.mem_singleton.1 hx) hxc)

theorem wpAnyT_first {c : Nat} {cs : List Nat} (hcs : ∀ x ∈ cs, x = c) {Q : Nat → Array Bool → Act → Prop} {i : Nat} {oi : Oper} {v : Value} (hi : ops[i]? = some oi) (hsel : ∀ (j : Nat) (o : Oper) cs b, ops[j]? = some o → o.op ≠ .select cs b) (hic : i ≠ c) (him : i ∈ marksT md ops c) :
    ∀ (fuel : Nat) (listed : Array Bool) (a : Act), DownC md ops listed →
      (∀ j oj, ops[j]? = some oj → j ≠ i → listed.getD j true = false → (∀ e ∈ oj.after, Region.binds md e = true → e.on ≠ i) → oi.apart ops oj = true) →
      i ∈ Region.ready md ops listed → YieldsQuiet F n P ops C oi v a →
      wpAnyT F n P md ops C cs Q fuel (listed.setIfInBounds i true) (a.put oi.dst v) → wpAnyT F n P md ops C cs Q (fuel + 1) listed a := by
  have nc : ∀ listed, DownC md ops listed → i ∈ Region.ready md ops listed → c ∉ Region.ready md ops listed := fun listed hd hr hcr => by
    have h1 := marks_listed hd hcr i him hic
    have h0 := (mem_ready.1 hr).1
    rw [getD_true_false h1] at h0
    cases h0
  intro fuel
  induction fuel with
  | zero =>
    intro listed a hdn _ hr hy H
    refine ⟨fun h => absurd (hcs i (by rw [← h]; exact hr)) hic, fun _ => ⟨fun h => (by rw [h] at hr; cases hr), fun j hj => ?_⟩⟩
    by_cases hji : j = i
    · subst hji; exact hy.qOpIn hi H
    · have := ready_mono hj hji
      rw [H.1] at this
      exact absurd (by rw [← hcs j this]; exact hj) (nc listed hdn hr)
  | succ fuel ih =>
    intro listed a hdn hfree hr hy H
    refine ⟨fun h => absurd (hcs i (by rw [← h]; exact hr)) hic, fun _ => ⟨fun h => (by rw [h] at hr; cases hr), fun j hj => ?_⟩⟩
    by_cases hji : j = i
    · subst hji; exact hy.qOpIn hi H
    · have hjr := ready_mono hj hji
      have hne : Region.ready md ops (listed.setIfInBounds i true) ≠ cs := fun h => by
        rw [h] at hjr
        exact absurd (by rw [← hcs j hjr]; exact hj) (nc listed hdn hr)
      have h1 := (H.2 hne).2 j hjr
      obtain ⟨hjun, oj, hoj, hall⟩ := mem_ready.1 hj
      have hnot : ∀ e ∈ oj.after, Region.binds md e = true → e.on ≠ i := fun e he hb heq => by
        have h1 := getD_true_false (hall e he hb)
        have h0 := (mem_ready.1 hr).1
        rw [heq, h0] at h1
        cases h1
      have h2 := qOpIn_put hoj (hfree j oj hoj hji hjun hnot) (fun cs b => hsel i oi cs b hi) (fun cs b => hsel j oj cs b hoj) hy h1
      have hfree' : ∀ k ok, ops[k]? = some ok → k ≠ i → (listed.setIfInBounds j true).getD k true = false →
          (∀ e ∈ ok.after, Region.binds md e = true → e.on ≠ i) → oi.apart ops ok = true := fun k ok hk hki hun hno => by
        refine hfree k ok hk hki ?_ hno
        by_cases hjk : j = k
        · subst hjk; exact hjun
        · rw [getD_set_ne true hjk] at hun; exact hun
      refine qOpIn_mono (fun a' h3 => ih (listed.setIfInBounds j true) a' (hdn.step hj) hfree' (ready_mono hr (Ne.symm hji)) h3.1 ?_) h2
      rw [Array.setIfInBounds_comm _ _ hji]
      exact h3.2

/-- the first m operations, from number k on, may be taken in order; behind them is reached what c is -/
def Region.lexUpto (md : Region.Mode) (ops : Array Oper) (c : List Nat) (ms : List Nat) : Nat → Nat → Array Bool → Bool
  | 0, _, listed => Region.ready md ops listed == c
  | fuel + 1, k, listed => (Region.ready md ops listed).contains k && Region.free md ops listed k && ms.contains k && Region.lexUpto md ops c ms fuel (k + 1) (listed.setIfInBounds k true)
def listedBy : Nat → Nat → Array Bool → Array Bool
  | 0, _, listed => listed
  | fuel + 1, k, listed => listedBy fuel (k + 1) (listed.setIfInBounds k true)

theorem wpAnyT_lex {c : Nat} {cs : List Nat} (hcs : ∀ x ∈ cs, x = c) {Q : Nat → Array Bool → Act → Prop} (hs : Region.noSelect ops = true) (r : Nat) : ∀ (l : List Oper) (k : Nat) (listed : Array Bool) (a : Act), (∀ j, j < l.length → l[j]? = ops[k + j]?) → k + l.length ≤ c → DownC md ops listed →
    Region.lexUpto md ops cs (marksT md ops c) l.length k listed = true → wpQuietIn F n P ops C (fun a' => Q r (listedBy l.length k listed) a') l a → wpAnyT F n P md ops C cs Q (l.length + r) listed a
  | [], k, listed, a, _, _, _, hB, h => by
    have hB : Region.ready md ops listed = cs := by simpa [Region.lexUpto] using hB
    rw [List.length_nil, Nat.zero_add]
    cases r with
    | zero => exact ⟨hB, h⟩
    | succ r => exact ⟨fun _ => h, fun hn => absurd hB hn⟩
  | o :: l, k, listed, a, hl, hkc, hdn, hB, h => by
    have h0 : ops[k]? = some o := by simpa using (hl 0 (by simp)).symm
    simp only [List.length_cons, Region.lexUpto, Bool.and_eq_true] at hB
    obtain ⟨⟨⟨hr, hf⟩, hm⟩, hB'⟩ := hB
    have hrk : k ∈ Region.ready md ops listed := by simpa using hr
    have hst : qOpIn F n P ops C k (wpQuietIn F n P ops C (fun a' => Q r (listedBy l.length (k + 1) (listed.setIfInBounds k true)) a') l) a := by unfold qOpIn; simp only [h0]; exact h
    obtain ⟨v, hy, hK⟩ := yieldsQuiet_of_qOpIn h0 hst
    have := wpAnyT_first hcs (Q := Q) h0 (Region.noSelect_spec hs) (by simp at hkc; omega) (List.contains_iff_mem.1 hm) (l.length + r) listed a hdn (Region.free_spec h0 hf) hrk hy
      (wpAnyT_lex hcs hs r l (k + 1) _ _ (fun j hj => by have := hl (j + 1) (by simp; omega); simpa [Nat.add_assoc, Nat.add_comm 1 j] using this) (by simp at hkc; omega) (hdn.step hrk) hB' hK)
    rw [List.length_cons, show l.length + 1 + r = l.length + r + 1 by omega]
    exact this

/-- no defer statement -/
def noDefer (ops : Array Oper) : Bool := ops.all fun o => match o.op with | .defer _ => false | _ => true
theorem noDefer_spec (h : noDefer ops = true) {i : Nat} {o : Oper} (hi : ops[i]? = some o) : ∀ c, o.op ≠ .defer c := by
  intro c hc
  have := Array.all_eq_true'.1 h o (Array.mem_of_getElem? hi)
  rw [hc] at this
  cases this
theorem Oper.wpIn_of_quietT {o : Oper} {a : Act} {K : Act → Prop} {K' : Act → World → Prop} {Q' : Exit → Act → World → Prop} {w : World} (hnd : ∀ c, o.op ≠ .defer c) (hw : C w) (h : ∀ a w', C w' → K a → K' a w')
    (ha : o.askedIn F P a C) (hh : o.quietIn F n P a C K) : o.wpIn F n P a w K' Q' := by
  obtain ⟨v, h1, h2⟩ := hh
  have h3 := h1 w hw
  unfold Oper.quietAtIn at h3
  unfold Oper.wpIn
  refine ⟨ha w hw, ?_⟩
  rw [Oper.semAt_plain F _ _ hnd]
  generalize (execOp a.eval o).run P w = r at *
  cases r with
  | ok x w' =>
    cases x <;> simp only [Oper.quietUponIn] at h3 <;> simp only [Oper.uponIn]
    case value u =>
      obtain ⟨e1, e2⟩ := h3
      rw [e1, e2]
      exact h _ _ hw h2
    case skip =>
      obtain ⟨e1, e2⟩ := h3
      rw [e1, ← e2]
      exact h _ _ hw h2
    case enter f args =>
      obtain ⟨e1, hd, hc⟩ := h3
      rw [e1]
      exact ⟨hd, hc.mono fun e w'' ⟨he, hw''⟩ => by subst he; exact h _ _ hw'' h2⟩
  | halt x w' => simp only [Oper.quietUponIn] at h3
theorem wpOpIn_of_qOpT {i : Nat} {a : Act} {K : Act → Prop} {K' : Act → World → Prop} {Q' : Exit → Act → World → Prop} {w : World} (hnd : noDefer ops = true) (hC : C w) (h : ∀ a w', C w' → K a → K' a w')
    (hh : qOpIn F n P ops C i K a) : wpOpIn F n P ops Q' i K' a w := by
  unfold qOpIn at hh
  unfold wpOpIn
  split
  · rename_i ho; simp only [ho] at hh; exact h _ _ hC hh
  · rename_i o ho
    simp only [ho] at hh
    obtain ⟨ha, hh⟩ := hh
    split
    · rename_i hw; simp only [hw, if_true] at hh; exact Oper.wpIn_of_quietT (noDefer_spec hnd ho) hC h ha hh
    · rename_i hw; simp only [hw] at hh; exact ⟨ha w hC, h _ _ hC hh⟩
theorem wpAnyIn_of_T {cs : List Nat} {Q : Nat → Array Bool → Act → Prop} {Q' : Exit → Act → World → Prop} (hnd : noDefer ops = true) (hQ : ∀ r listed a w, C w → Q r listed a → wpAnyIn F n P md ops Q' r listed a w) : ∀ (fuel : Nat) (listed : Array Bool) (a : Act) (w : World), C w →
    wpAnyT F n P md ops C cs Q fuel listed a → wpAnyIn F n P md ops Q' fuel listed a w
  | 0, _, _, _, hw, h => hQ _ _ _ _ hw h.2
  | fuel + 1, listed, a, w, hw, h => by
    by_cases hc : Region.ready md ops listed = cs
    · exact hQ _ _ _ _ hw (h.1 hc)
    · obtain ⟨h1, h2⟩ := h.2 hc
      exact ⟨fun h0 => absurd h0 h1, fun i hi => wpOpIn_of_qOpT hnd hw (fun a' w' hw' => wpAnyIn_of_T hnd hQ fuel _ a' w' hw') (h2 i hi)⟩

theorem wpQuietIn_mono' {Q Q' : Act → Prop} (h : ∀ a, Q a → Q' a) : ∀ (l : List Oper) (a : Act), wpQuietIn F n P ops C Q l a → wpQuietIn F n P ops C Q' l a
  | [], a, hh => h a hh
  | o :: l, a, hh => by
    refine ⟨hh.1, ?_⟩
    have h2 := hh.2
    split
    · rename_i hw
      simp only [hw, if_true] at h2
      exact Oper.quietIn_mono (wpQuietIn_mono' h l) h2
    · rename_i hw
      simp only [hw] at h2
      exact wpQuietIn_mono' h l _ h2
/-- from number k on, one behind another -/
def Region.rowFrom (md : Region.Mode) (ops : Array Oper) : Nat → Nat → Array Bool → Bool
  | 0, _, listed => (Region.ready md ops listed).isEmpty
  | fuel + 1, k, listed => (Region.ready md ops listed == [k]) && Region.rowFrom md ops fuel (k + 1) (listed.setIfInBounds k true)
theorem wpAnyIn_row {Q : Exit → Act → World → Prop} : ∀ (l : List Oper) (k : Nat) (listed : Array Bool) (a : Act) (w : World), (∀ j, l[j]? = ops[k + j]?) → Region.rowFrom md ops l.length k listed = true →
    wpListIn F n P ops Q l a w → wpAnyIn F n P md ops Q l.length listed a w
  | [], k, listed, a, w, _, hB, h => ⟨by simpa [Region.rowFrom] using hB, h⟩
  | o :: l, k, listed, a, w, hl, hB, h => by
    have h0 : ops[k]? = some o := by simpa using (hl 0).symm
    simp only [List.length_cons, Region.rowFrom, Bool.and_eq_true, beq_iff_eq] at hB
    obtain ⟨hr, hB'⟩ := hB
    refine ⟨fun h => (by rw [hr] at h; cases h), fun i hi => ?_⟩
    rw [hr] at hi
    obtain rfl := List.mem_singleton.1 hi
    have h' : wpOpIn F n P ops Q i (wpListIn F n P ops Q l) a w := by
      unfold wpOpIn
      simp only [h0]
      exact h
    exact wpOpIn_mono (fun a' w' hh => wpAnyIn_row l (i + 1) _ a' w' (fun j => by have := hl (j + 1); simpa [Nat.add_assoc, Nat.add_comm 1 j] using this) hB' hh) h'

def Region.tailB (md : Region.Mode) (ops : Array Oper) (c : Nat) : Bool :=
  Region.noSelect ops && noDefer ops && Nat.ble c ops.size && Region.lexUpto md ops (if c < ops.size then [c] else []) (marksT md ops c) c 0 (Array.replicate ops.size false) && Region.rowFrom md ops (ops.size - c) c (listedBy c 0 (Array.replicate ops.size false))

/-- **one walk, in the text's order, serves every order** -/
theorem wpIn_region_tail {id : Nat} {Q : Exit → Act → World → Prop} {a : Act} {w : World} {l : List Oper} (c : Nat) (hm : P.follows .mixedOrders = true) (hB : Region.tailB .any l.toArray c = true)
    (h : wpQuietIn F n P l.toArray (fun w' => ∃ k, w' = w.drewN k) (fun a' => ∀ w', (∃ k, w' = w.drewN k) → wpListIn F n P l.toArray Q (l.drop c) a' w') (l.take c) a) : (Code.region id l.toArray true).wpIn F n P Q a w := by
  simp only [Region.tailB, Bool.and_eq_true, Nat.ble_eq] at hB
  obtain ⟨⟨⟨⟨hs, hnd⟩, hle⟩, hL⟩, hR⟩ := hB
  have hle' : c ≤ l.length := by simpa using hle
  have hsz : l.toArray.size = (l.take c).length + (l.drop c).length := by simp; omega
  have hl1 : (l.take c).length = c := by simp; omega
  have hl2 : (l.drop c).length = l.toArray.size - c := by simp
  refine wpIn_region_any hm (wpAnyIn_of_T (C := fun w' => ∃ k, w' = w.drewN k) (cs := if c < l.toArray.size then [c] else []) (Q := fun r listed a' => r = (l.drop c).length ∧ listed = listedBy c 0 (Array.replicate l.toArray.size false) ∧ ∀ w', (∃ k, w' = w.drewN k) → wpListIn F n P l.toArray Q (l.drop c) a' w') hnd ?_ _ _ _ _ ⟨1, rfl⟩ ?_)
  · rintro r listed a' w' hC ⟨rfl, rfl, hh⟩
    refine wpAnyIn_row (l.drop c) c _ a' w' (fun j => by simp) (by rw [hl2]; exact hR) (hh w' hC)
  · have hq := wpAnyT_lex (F := F) (n := n) (P := P) (C := fun w' => ∃ k, w' = w.drewN k) (md := .any) (c := c) (cs := if c < l.toArray.size then [c] else []) (fun x hx => by split at hx; exact List.mem_singleton.1 hx; cases hx)
      (Q := fun r listed a' => r = (l.drop c).length ∧ listed = listedBy c 0 (Array.replicate l.toArray.size false) ∧ ∀ w', (∃ k, w' = w.drewN k) → wpListIn F n P l.toArray Q (l.drop c) a' w') hs (l.drop c).length (l.take c) 0 (Array.replicate l.toArray.size false) a
      (fun j hj => by rw [hl1] at hj; rw [List.getElem?_take_of_lt hj, Nat.zero_add, List.getElem?_toArray]) (by omega) DownC.start (by rw [hl1]; exact hL) (by
        rw [hl1]
        refine wpQuietIn_mono' ?_ _ _ h
        exact fun a' hh => ⟨rfl, rfl, hh⟩)
    rw [← hsz] at hq
    exact hq
/-- the same, what stands behind hidden while the reading operations are walked -/
theorem wpIn_region_tail' {id : Nat} {Q : Exit → Act → World → Prop} {a : Act} {w : World} {l : List Oper} (c : Nat) (hm : P.follows .mixedOrders = true) (hB : Region.tailB .any l.toArray c = true)
    (h : ∀ X : Act → Prop, (∀ a', (∀ k, wpListIn F n P l.toArray Q (l.drop c) a' (w.drewN k)) → X a') → wpQuietIn F n P l.toArray (fun w' => ∃ k, w' = w.drewN k) X (l.take c) a) : (Code.region id l.toArray true).wpIn F n P Q a w :=
  wpIn_region_tail c hm hB (h _ fun a' ha w' ⟨k, hk⟩ => by rw [hk]; exact ha k)
end
end Go.Proofs.Ytoglgeaiiipchab
