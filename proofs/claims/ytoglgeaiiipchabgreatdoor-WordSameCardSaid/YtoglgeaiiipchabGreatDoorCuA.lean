/- Walks: strings.Split at one sign. -/
import Derived.Test.YtoglgeaiiipchabGreatDoorWLn
import Derived.Test.YtoglgeaiiipchabGreatDoorDg
namespace Go.Proofs.YtoglgeaiiipchabGreatDoor
open Go Go.RowKit Go.Sort

theorem sB_get (s : List UInt8) (i : Nat) (h : i < (sB s).size) : (sB s)[i]'h = s[i]'(by rw [sB_size] at h; exact h) := rfl
theorem sB_ext (s : List UInt8) (a b : Nat) : (sB s).extract a b = sB ((s.drop a).take (b - a)) := by
  apply ByteArray.ext
  simp [sB, ByteArray.extract, ByteArray.copySlice]
/-- what has been cut off, ahead of place i -/
structure CutI (s : List UInt8) (c : UInt8) (done : List (List UInt8)) (from_ i : Nat) : Prop where
  le : from_ ≤ i
  no : ∀ j (h : j < s.length), from_ ≤ j → j < i → s[j] ≠ c
  eq : splitL c s = done ++ splitL c (s.drop from_)
theorem CutI.piece {s : List UInt8} {c : UInt8} {done : List (List UInt8)} {f i : Nat} (h : CutI s c done f i) : ∀ x ∈ (s.drop f).take (i - f), x ≠ c := by
  intro x hx
  obtain ⟨j, hj, rfl⟩ := List.getElem_of_mem hx
  rw [List.length_take, List.length_drop] at hj
  rw [List.getElem_take, List.getElem_drop]
  exact h.no _ (by omega) (by omega) (by omega)
theorem CutI.hit {s : List UInt8} {c : UInt8} {done : List (List UInt8)} {f i : Nat} (h : CutI s c done f i) (hi : i < s.length) (hc : s[i] = c) : CutI s c (done ++ [(s.drop f).take (i - f)]) (i + 1) (i + 1) := by
  refine ⟨Nat.le_refl _, fun j _ h1 h2 => absurd h1 (by omega), ?_⟩
  have e : s.drop f = (s.drop f).take (i - f) ++ c :: s.drop (i + 1) := by
    have h1 := (List.take_append_drop (i - f) (s.drop f)).symm
    have h2 : (s.drop f).drop (i - f) = c :: s.drop (i + 1) := by
      rw [List.drop_drop, show f + (i - f) = i by have := h.le; omega, List.drop_eq_getElem_cons hi, hc]
    rwa [h2] at h1
  have hp := splitL_pre (s.drop (i + 1)) h.piece
  rw [← e] at hp
  rw [h.eq, hp]
  simp
theorem CutI.miss {s : List UInt8} {c : UInt8} {done : List (List UInt8)} {f i : Nat} (h : CutI s c done f i) (hi : i < s.length) (hc : s[i] ≠ c) : CutI s c done f (i + 1) :=
  ⟨by have := h.le; omega, fun j hj h1 h2 => by
    rcases Nat.lt_or_ge j i with h3 | h3
    · exact h.no j hj h1 h3
    · obtain rfl : j = i := by omega
      exact hc, h.eq⟩
theorem CutI.done {s : List UInt8} {c : UInt8} {done : List (List UInt8)} {f i : Nat} (h : CutI s c done f i) (hi : i = s.length) : splitL c s = done ++ [s.drop f] := by
  rw [h.eq, splitL_none]
  intro x hx
  obtain ⟨j, hj, rfl⟩ := List.getElem_of_mem hx
  rw [List.length_drop] at hj
  rw [List.getElem_drop]
  exact h.no _ (by omega) (by omega) (by omega)
/-- the append of one string, at the operation -/
theorem wpList_str {ops : Array Oper} {rest : List Oper} {o : Oper} {a : Act} {Q : Exit → Act → World → Prop} {W : World} {base : Nat} {xs : List (List UInt8)} {y : List UInt8} {vA : Option Addr} {vc g : Nat} (hgd : o.guard = none) (s x : Operand)
    (ho : o.op = .call { callee := .builtin .append, args := #[s, x], argTypes := #[156, 156] }) (hs : a.eval s = .slice vA xs.length vc) (hx : a.eval x = .slice (some ⟨g, 0, none⟩) 1 1)
    (hown : StrOwn W base (.slice vA xs.length vc) xs) (hr : Rd W 0 (some ⟨g, 0, none⟩) [.string (sB y)]) (hl : xs.length ≤ 1000000) (hb : base ≤ W.heap.size)
    (h : ∀ v' w', StrOwn w' base v' (xs ++ [y]) → Below base W w' → wpList Tryz.prog ops Q rest (a.put o.dst v') w') : wpList Tryz.prog ops Q (o :: rest) a W := by
  obtain ⟨i0, hi0, hz0, hz1, hz2⟩ := info_parts infoStr
  refine wpList_app W hgd s x _ ho base 9 i0 _ 1 16 Tryz.underlying156 hi0 hz0 hz1 hz2 rfl (by decide) _ xs.length _ hs hown (some ⟨g, 0, none⟩) 1 1 [.string (sB y)] hx rfl hr (by simp [Value.oneCell']) (by simp only [maxLen]; omega) (by omega) hb fun v2 w2 hown2 hg2 hat2 => h v2 w2 ?_ (grownOwn_ (Below.refl _ _) hg2 hown (Nat.le_refl _) hb)
  unfold StrOwn
  rw [List.length_append, List.flatMap_append]
  exact hown2
theorem splitL_len (c : UInt8) : ∀ (s : List UInt8), (splitL c s).length ≤ s.length + 1
  | [] => by simp [splitL]
  | x :: r => by
    have ih := splitL_len c r
    rw [splitL_cons]
    split
    · simp; omega
    · split <;> simp_all <;> omega
def StrPost (w : World) (xs : List (List UInt8)) (e : Ending) (w' : World) : Prop := ∃ v, e = .returned v ∧ StrOwn w' w.heap.size v xs ∧ Below w.heap.size w w'
end Go.Proofs.YtoglgeaiiipchabGreatDoor

namespace Go.Proofs.YtoglgeaiiipchabGreatDoor
open Go Go.RowKit Go.Sort

theorem valF_snoc (l : List UInt8) (b : UInt8) (acc : Nat) : valF acc (l ++ [b]) = 10 * valF acc l + (b.toNat - 48) := by rw [valF_append]; rfl
theorem sB_toList (l : List UInt8) : (sB l).toList = l := by rw [Lib.toList_data, sB_list]
def UdPost (w : World) (x : List UInt8) (e : Ending) (w' : World) : Prop := ∃ (v : Int) (b : Bool), e = .returned (.tuple #[.int .i64 v, .bool b]) ∧ Below w.heap.size w w' ∧ (match und x with | some n => v = n ∧ b = true | none => b = false)
theorem und_none_len {x : List UInt8} (h : btw x.length 1 6 = false) : und x = none := by
  unfold und
  rw [if_neg]
  intro hc
  simp only [Bool.and_eq_true, decide_eq_true_eq] at hc
  have := (btw_iff x.length 1 6).2 (by omega)
  rw [this] at h
  cases h
theorem und_none_dig {x : List UInt8} {i : Nat} (hi : i < x.length) (h : isDig x[i] = false) : und x = none := by
  unfold und
  rw [if_neg]
  intro hc
  simp only [Bool.and_eq_true, decide_eq_true_eq] at hc
  have := List.all_eq_true.1 hc.1.2 _ (List.getElem_mem hi)
  rw [this] at h
  cases h
/-- numbers of words -/
def UlPost (w : World) (l : List (List UInt8)) (e : Ending) (w' : World) : Prop := ∃ (A : Option Addr) (c : Nat) (ns : List Int) (b : Bool), e = .returned (.tuple #[.slice A ns.length c, .bool b]) ∧ Ints w' w.heap.size A c ns ∧ Below w.heap.size w w' ∧ (match undL l with | some m => ns = m ∧ b = true | none => b = false)
/-- strings as a slice reads -/
def StrRd (w : World) (B : Option Addr) (c : Nat) (xs : List (List UInt8)) : Prop := xs.length ≤ c ∧ c ≤ 9223372036854775807 ∧ Rd w 0 B (xs.flatMap fun x => [Value.string (sB x)])
theorem StrRd.below {w w' : World} {B : Option Addr} {c : Nat} {xs : List (List UInt8)} (h : StrRd w B c xs) (hb : Below w.heap.size w w') : StrRd w' B c xs := by
  refine ⟨h.1, h.2.1, fun hne => ?_⟩
  obtain ⟨b, off, hA, hlo, hlt, hc⟩ := h.2.2 hne
  exact ⟨b, off, hA, hlo, Nat.lt_of_lt_of_le hlt hb.size, fun j u hu => (hb.cell (p := ⟨b, off + j, none⟩) hlt).trans (hc j u hu)⟩
theorem StrRd.at_ {w : World} {B : Option Addr} {c : Nat} {xs : List (List UInt8)} (h : StrRd w B c xs) {k : Nat} (hk : k < xs.length) : ∃ b o, B = some ⟨b, o, none⟩ ∧ b < w.heap.size ∧ w.cell? ⟨b, o + k, none⟩ = some (.string (sB xs[k])) := by
  have hne : (xs.flatMap fun x => [Value.string (sB x)]) ≠ [] := by
    rw [flat_get]
    intro e
    have := congrArg List.length e
    simp at this
    rw [this] at hk
    simp at hk
  obtain ⟨b, off, hA, hlo, hlt, hc⟩ := h.2.2 hne
  exact ⟨b, off, hA, hlt, hc k _ (by rw [flat_get, List.getElem?_map, List.getElem?_eq_getElem hk]; rfl)⟩
theorem undL_take {l : List (List UInt8)} {k : Nat} {ns : List Int} {n : Int} (hk : k < l.length) (h : undL (l.take k) = some ns) (hn : und l[k] = some n) : undL (l.take (k + 1)) = some (ns ++ [n]) := by
  rw [List.take_succ_eq_append_getElem hk, undL_append, h, undL_cons, hn]
  rfl
theorem undL_bad {l : List (List UInt8)} {k : Nat} (hk : k < l.length) (hn : und l[k] = none) : undL l = none := by
  have e : l = l.take k ++ (l[k] :: l.drop (k + 1)) := by rw [← List.drop_eq_getElem_cons hk, List.take_append_drop]
  rw [e, undL_append, undL_cons, hn]
  cases undL (l.take k) <;> rfl
end Go.Proofs.YtoglgeaiiipchabGreatDoor

namespace Go.Proofs.YtoglgeaiiipchabGreatDoor
open Go Go.RowKit Go.Sort

theorem index_no {s : List UInt8} {c : UInt8} (h : ∀ x ∈ s, x ≠ c) : Lib.index s [c] = -1 := Lib.index_none fun j hj => by
  cases ho : Lib.occAt s [c] j with
  | false => rfl
  | true =>
    have := Lib.occAt_head (c := c) (t := []) rfl ho
    obtain ⟨h1, h2⟩ := List.getElem?_eq_some_iff.1 this
    exact absurd h2 (h _ (List.getElem_mem h1))
theorem count_no {s : List UInt8} {c : UInt8} (h : ∀ x ∈ s, x ≠ c) : s.count c = 0 := List.count_eq_zero.2 fun hm => h c hm rfl
theorem count_cut {p r : List UInt8} {c : UInt8} (h : ∀ x ∈ p, x ≠ c) : (p ++ c :: r).count c = r.count c + 1 := by
  rw [List.count_append, count_no h, List.count_cons_self]; omega
theorem countFrom_eq (c : UInt8) : ∀ (f : Nat) (s : List UInt8), s.length < f → Lib.countFrom [c] f s = s.count c
  | 0, s, h => absurd h (by omega)
  | f + 1, s, h => by
    unfold Lib.countFrom
    rcases split_cases c s with h1 | ⟨p, r, rfl, h1⟩
    · rw [index_no h1, count_no h1]; rfl
    · rw [index_at h1, count_cut h1]
      have : ¬ (((p.length : Nat) : Int) == -1) = true := by simp
      rw [if_neg this, Int.toNat_natCast]
      have e : (p ++ c :: r).drop (p.length + [c].length) = r := by simp
      rw [e, countFrom_eq c f r (by simp at h; omega)]
      omega
theorem splitK_eq (c : UInt8) : ∀ (k : Nat) (s : List UInt8), s.count c ≤ k → Lib.splitK [c] 0 k s = splitL c s
  | 0, s, h => by
    have : ∀ x ∈ s, x ≠ c := fun x hx he => by
      have := List.count_pos_iff.2 (he ▸ hx)
      omega
    rw [splitL_none this]; rfl
  | k + 1, s, h => by
    unfold Lib.splitK
    rcases split_cases c s with h1 | ⟨p, r, rfl, h1⟩
    · rw [index_no h1, splitL_none h1]; rfl
    · rw [index_at h1, splitL_pre r h1]
      have : ¬ (((p.length : Nat) : Int) == -1) = true := by simp
      rw [count_cut h1] at h
      rw [if_neg this, Int.toNat_natCast]
      have e : (p ++ c :: r).drop (p.length + [c].length) = r := by simp
      rw [e, splitK_eq c k r (by omega)]
      simp
theorem split_eq (c : UInt8) (s : List UInt8) : (Lib.splitB (sB [c]) 0 (Lib.countB (sB s) (sB [c])) (sB s)).map (fun b => b.data.toList) = splitL c s := by
  rw [Lib.splitB_data, sB_list, sB_list]
  refine splitK_eq c _ s ?_
  show _ ≤ Lib.count (sB s).data.toList (sB [c]).data.toList
  rw [sB_list, sB_list]
  unfold Lib.count
  rw [countFrom_eq c _ _ (by omega)]
  exact Nat.le_refl _
theorem SplitS_ (s : List UInt8) (c : UInt8) (w : World) (hL : LaidOK w) (hs : s.length ≤ 1000000) :
    Calls Tryz.prog 136 #[.string (sB s), .string (sB [c])] w fun e w' => e = .returned (.slice (some ⟨w.heap.size, 0, none⟩) (splitL c s).length (splitL c s).length) ∧ StrRd w' (some ⟨w.heap.size, 0, none⟩) (splitL c s).length (splitL c s) ∧ Below w.heap.size w w' := by
  obtain ⟨m, hm⟩ := hL.ml
  have hlen := splitL_len c s
  refine (Tryz.strings_Split (sB s) (sB [c]) m w (by rw [sB_size]; omega) hm (by rw [sB_size]; simp)).mono fun e w' ⟨he, hw⟩ => ?_
  have h1 := Lib.splitB_all (sB [c]) (by rw [sB_size]; simp) 0 _ (sB s) rfl
  have h2 := split_eq c s
  have h3 : Lib.countB (sB s) (sB [c]) + 1 = (splitL c s).length := by rw [← h2, List.length_map, h1]
  have h4 : (Lib.splitB (sB [c]) 0 (Lib.countB (sB s) (sB [c])) (sB s)).map Value.string = (splitL c s).flatMap fun x => [Value.string (sB x)] := by
    rw [flat_get, ← h2, List.map_map]
    exact List.map_congr_left fun b _ => congrArg Value.string (sB_eta b)
  rw [h3] at he
  rw [h4] at hw
  refine ⟨he, ⟨Nat.le_refl _, by omega, ?_⟩, by rw [hw]; exact (Below.refl _ _).alloc (Nat.le_refl _) _⟩
  have := Rd.new w ((splitL c s).flatMap fun x => [Value.string (sB x)]).toArray 9
  rw [hw]
  simpa using this
end Go.Proofs.YtoglgeaiiipchabGreatDoor
