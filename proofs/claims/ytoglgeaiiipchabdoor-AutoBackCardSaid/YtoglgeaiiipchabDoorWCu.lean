/- Walks: the reference's Cut, Undigit, Undigits. -/
import Derived.Test.YtoglgeaiiipchabDoorWLn
import Derived.Test.YtoglgeaiiipchabDoorDg
namespace Go.Proofs.YtoglgeaiiipchabDoor
open Go Go.RowKit Go.Sort

theorem sB_get (s : List UInt8) (i : Nat) (h : i < (sB s).size) : (sB s)[i]'h = s[i]'(by rw [sB_size] at h; exact h) := rfl
theorem sB_ext (s : List UInt8) (a b : Nat) : (sB s).extract a b = sB ((s.drop a).take (b - a)) := by
  apply ByteArray.ext
  simp [sB, ByteArray.extract, ByteArray.copySlice]
/-- what has been cut off, ahead of place i -/
structure CutI (s : List UInt8) (c : UInt8) (done : List (List UInt8)) (from_ i : Nat) : Prop where
  le : from_ ≤ i
  no : ∀ j (h : j < s.length), from_ ≤ j → j < i → s[j] ≠ c
  eq : splitL c s = done ++ splitL c (s.drop from_)
theorem CutI.piece {s : List UInt8} {c : UInt8} {done : List (List UInt8)} {f i : Nat} (h : CutI s c done f i) : ∀ x ∈ (s.drop f).take (i - f), x ≠ c := by
  intro x hx
  obtain ⟨j, hj, rfl⟩ := List.getElem_of_mem hx
  rw [List.length_take, List.length_drop] at hj
  rw [List.getElem_take, List.getElem_drop]
  exact h.no _ (by omega) (by omega) (by omega)
theorem CutI.hit {s : List UInt8} {c : UInt8} {done : List (List UInt8)} {f i : Nat} (h : CutI s c done f i) (hi : i < s.length) (hc : s[i] = c) : CutI s c (done ++ [(s.drop f).take (i - f)]) (i + 1) (i + 1) := by
  refine ⟨Nat.le_refl _, fun j _ h1 h2 => absurd h1 (by omega), ?_⟩
  have e : s.drop f = (s.drop f).take (i - f) ++ c :: s.drop (i + 1) := by
    have h1 := (List.take_append_drop (i - f) (s.drop f)).symm
    have h2 : (s.drop f).drop (i - f) = c :: s.drop (i + 1) := by
      rw [List.drop_drop, show f + (i - f) = i by have := h.le; omega, List.drop_eq_getElem_cons hi, hc]
    rwa [h2] at h1
  have hp := splitL_pre (s.drop (i + 1)) h.piece
  rw [← e] at hp
  rw [h.eq, hp]
  simp
theorem CutI.miss {s : List UInt8} {c : UInt8} {done : List (List UInt8)} {f i : Nat} (h : CutI s c done f i) (hi : i < s.length) (hc : s[i] ≠ c) : CutI s c done f (i + 1) :=
  ⟨by have := h.le; omega, fun j hj h1 h2 => by
    rcases Nat.lt_or_ge j i with h3 | h3
    · exact h.no j hj h1 h3
    · obtain rfl : j = i := by omega
      exact hc, h.eq⟩
theorem CutI.done {s : List UInt8} {c : UInt8} {done : List (List UInt8)} {f i : Nat} (h : CutI s c done f i) (hi : i = s.length) : splitL c s = done ++ [s.drop f] := by
  rw [h.eq, splitL_none]
  intro x hx
  obtain ⟨j, hj, rfl⟩ := List.getElem_of_mem hx
  rw [List.length_drop] at hj
  rw [List.getElem_drop]
  exact h.no _ (by omega) (by omega) (by omega)
/-- the append of one string, at the operation -/
theorem wpList_str {ops : Array Oper} {rest : List Oper} {o : Oper} {a : Act} {Q : Exit → Act → World → Prop} {W : World} {base : Nat} {xs : List (List UInt8)} {y : List UInt8} {vA : Option Addr} {vc g : Nat} (hgd : o.guard = none) (s x : Operand)
    (ho : o.op = .call { callee := .builtin .append, args := #[s, x], argTypes := #[68, 68] }) (hs : a.eval s = .slice vA xs.length vc) (hx : a.eval x = .slice (some ⟨g, 0, none⟩) 1 1)
    (hown : StrOwn W base (.slice vA xs.length vc) xs) (hr : Rd W 0 (some ⟨g, 0, none⟩) [.string (sB y)]) (hl : xs.length ≤ 1000000) (hb : base ≤ W.heap.size)
    (h : ∀ v' w', StrOwn w' base v' (xs ++ [y]) → Below base W w' → wpList Tryd.prog ops Q rest (a.put o.dst v') w') : wpList Tryd.prog ops Q (o :: rest) a W := by
  obtain ⟨i0, hi0, hz0, hz1, hz2⟩ := info_parts infoStr
  refine wpList_app W hgd s x _ ho base 9 i0 _ 1 16 Tryd.underlying68 hi0 hz0 hz1 hz2 rfl (by decide) _ xs.length _ hs hown (some ⟨g, 0, none⟩) 1 1 [.string (sB y)] hx rfl hr (by simp [Value.oneCell']) (by simp only [maxLen]; omega) (by omega) hb fun v2 w2 hown2 hg2 hat2 => h v2 w2 ?_ (grownOwn_ (Below.refl _ _) hg2 hown (Nat.le_refl _) hb)
  unfold StrOwn
  rw [List.length_append, List.flatMap_append]
  exact hown2
theorem splitL_len (c : UInt8) : ∀ (s : List UInt8), (splitL c s).length ≤ s.length + 1
  | [] => by simp [splitL]
  | x :: r => by
    have ih := splitL_len c r
    rw [splitL_cons]
    split
    · simp; omega
    · split <;> simp_all <;> omega
def StrPost (w : World) (xs : List (List UInt8)) (e : Ending) (w' : World) : Prop := ∃ v, e = .returned v ∧ StrOwn w' w.heap.size v xs ∧ Below w.heap.size w w'
set_option maxRecDepth 100000 in
set_option maxHeartbeats 2000000 in
theorem CutR_ (s : List UInt8) (c : UInt8) (w : World) (hs : s.length ≤ 200000) :
    Calls Tryd.prog 34 #[.string (sB s), .int .u8 (c.toNat : Int)] w (StrPost w (splitL c s)) := by
  obtain ⟨S, hS⟩ : ∃ S, S = sB s := ⟨_, rfl⟩
  have hsz : S.size = s.length := by rw [hS, sB_size]
  have HG : Hid (∀ (i : Nat) (h : i < S.size) (h' : i < s.length), S[i]'h = s[i]) := fun i h h' => by subst hS; rfl
  have HX : Hid (∀ a b, S.extract a b = sB ((s.drop a).take (b - a))) := fun a b => by rw [hS]; exact sB_ext s a b
  rw [← hS]
  have hsl := splitL_len c s
  clear hS
  go_enter Tryd.func34, Tryd.ntmps34
  go_wp2_with fail
  go_loopw [5, 6, 7] (fun v f i wr => ∃ (k ff : Nat) (done : List (List UInt8)), k ≤ s.length ∧ i = .int .i64 (k : Int) ∧ f = .int .i64 (ff : Int) ∧ Hid (CutI s c done ff k) ∧ Hid (StrOwn wr w.heap.size v done) ∧ Hid (Below w.heap.size w wr)) (fun _ _ i _ => s.length - (intOf i).toNat)
  case atStart => exact ⟨0, 0, [], Nat.zero_le _, rfl, rfl, ⟨Nat.le_refl _, fun j _ h1 h2 => absurd h2 (by omega), by simp⟩, StrOwn.nil _ _, Below.refl _ _⟩
  case round =>
    obtain ⟨k, ff, done, hk, rfl, rfl, HC, HO, HB⟩ := hrel
    have hfk := HC.out.le
    have hdl : done.length ≤ 200001 := by
      have := congrArg List.length HC.out.eq
      rw [List.length_append] at this
      omega
    obtain ⟨vA, vc, rfl, hvl, hvc, _, _⟩ := own_form HO.out
    by_cases hkl : k < s.length
    · have q1 : (k : Int) < (S.size : Int) := by omega
      have b0 : k < S.size := by omega
      have g0 := HG.out k b0 hkl
      have HHIT := Lib.hid (HC.out.hit hkl)
      have HMISS := Lib.hid (HC.out.miss hkl)
      obtain ⟨ch, hch⟩ : ∃ ch, ch = s[k] := ⟨_, rfl⟩
      rw [← hch] at g0 HHIT HMISS
      clear hch
      by_cases hcc : ch = c
      · have e1 : ((ch.toNat : Int) == (c.toNat : Int)) = true := by simp [hcc]
        have HN := Lib.hid (HHIT.out hcc)
        have q2 : (ff : Int) ≤ (k : Int) := by omega
        have q3 : (k : Int) ≤ (S.size : Int) := by omega
        have hxx := HX.out ff k
        have HB4 : Hid (Below w.heap.size w (wr.alloc (Obj.cells #[.string (S.extract ff k)] 9))) := HB.out.alloc HB.out.size _
        have HO4 : Hid (StrOwn (wr.alloc (Obj.cells #[.string (S.extract ff k)] 9)) w.heap.size (.slice vA done.length vc) done) := own_below HO.out ((Below.refl _ _).alloc (Nat.le_refl _) _)
        have HRd : Hid (Rd (wr.alloc (Obj.cells #[.string (S.extract ff k)] 9)) 0 (some ⟨wr.heap.size, 0, none⟩) [.string (sB ((s.drop ff).take (k - ff)))]) := by
          have := Rd.new wr #[.string (S.extract ff k)] 9
          rwa [hxx] at this ⊢
        clear hcc hxx HHIT HMISS
        go_wp2_with (at_builtin; refine wpList_str rfl (.tmp 19) (.tmp 24) rfl rfl rfl HO4.out HRd.out (by omega) HB4.out.size ?_; intro v2 w2 hown2 hb2)
        have HO5 := Lib.hid hown2
        have HB5 := Lib.hid (Below_on HB4.out hb2 (Nat.le_refl _))
        clear hown2 hb2
        go_wp2_with fail
        go_roundw
        case rel => exact ⟨k + 1, k + 1, _, by omega, by go_num, by go_num, HN.out, HO5.out, HB5.out⟩
        case measure => simp [intOf]; omega
      · have e1 : ((ch.toNat : Int) == (c.toNat : Int)) = false := by
          simp
          intro h
          exact hcc (UInt8.toNat_inj.1 (by omega))
        have HN := Lib.hid (HMISS.out hcc)
        clear hcc HHIT HMISS
        go_wp2_with fail
        go_roundw
        case rel => exact ⟨k + 1, ff, done, by omega, by go_num, rfl, HN.out, HO.out, HB.out⟩
        case measure => simp [intOf]; omega
    · have q1 : ¬ (k : Int) < (S.size : Int) := by omega
      have HD := Lib.hid (HC.out.done (by omega))
      have q2 : (ff : Int) ≤ (S.size : Int) := by omega
      have hxx := HX.out ff s.length
      rw [List.take_of_length_le (by rw [List.length_drop]; omega)] at hxx
      have HB4 : Hid (Below w.heap.size w (wr.alloc (Obj.cells #[.string (S.extract ff s.length)] 9))) := HB.out.alloc HB.out.size _
      have HO4 : Hid (StrOwn (wr.alloc (Obj.cells #[.string (S.extract ff s.length)] 9)) w.heap.size (.slice vA done.length vc) done) := own_below HO.out ((Below.refl _ _).alloc (Nat.le_refl _) _)
      have HRd : Hid (Rd (wr.alloc (Obj.cells #[.string (S.extract ff s.length)] 9)) 0 (some ⟨wr.heap.size, 0, none⟩) [.string (sB (s.drop ff))]) := by
        have := Rd.new wr #[.string (S.extract ff s.length)] 9
        rwa [hxx] at this ⊢
      clear hxx
      go_wp2_with (at_builtin; refine wpList_str rfl (.tmp 28) (.tmp 32) rfl rfl rfl HO4.out HRd.out (by omega) HB4.out.size ?_; intro v2 w2 hown2 hb2)
      have HP : Hid (StrPost w (splitL c s) (.returned v2) w2) := ⟨v2, rfl, by rw [HD.out]; exact hown2, Below_on HB4.out hb2 (Nat.le_refl _)⟩
      clear hown2 hb2
      go_wp2_with fail
      go_ret
      exact HP.out
end Go.Proofs.YtoglgeaiiipchabDoor
