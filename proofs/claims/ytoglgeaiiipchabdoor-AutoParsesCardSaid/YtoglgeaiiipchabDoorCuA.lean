/- Walks: strings.Split at one sign. -/
import Derived.Test.YtoglgeaiiipchabDoorWLn
import Derived.Test.YtoglgeaiiipchabDoorDg
namespace Go.Proofs.YtoglgeaiiipchabDoor
open Go Go.RowKit Go.Sort

theorem sB_get (s : List UInt8) (i : Nat) (h : i < (sB s).size) : (sB s)[i]'h = s[i]'(by rw [sB_size] at h; exact h) := rfl
theorem sB_ext (s : List UInt8) (a b : Nat) : (sB s).extract a b = sB ((s.drop a).take (b - a)) := by
  apply ByteArray.ext
  simp [sB, ByteArray.extract, ByteArray.copySlice]
/-- what has been cut off, ahead of place i -/
structure CutI (s : List UInt8) (c : UInt8) (done : List (List UInt8)) (from_ i : Nat) : Prop where
  le : from_ ≤ i
  no : ∀ j (h : j < s.length), from_ ≤ j → j < i → s[j] ≠ c
  eq : splitL c s = done ++ splitL c (s.drop from_)
theorem CutI.piece {s : List UInt8} {c : UInt8} {done : List (List UInt8)} {f i : Nat} (h : CutI s c done f i) : ∀ x ∈ (s.drop f).take (i - f), x ≠ c := by
  intro x hx
  obtain ⟨j, hj, rfl⟩ := List.getElem_of_mem hx
  rw [List.length_take, List.length_drop] at hj
  rw [List.getElem_take, List.getElem_drop]
  exact h.no _ (by omega) (by omega) (by omega)
theorem CutI.hit {s : List UInt8} {c : UInt8} {done : List (List UInt8)} {f i : Nat} (h : CutI s c done f i) (hi : i < s.length) (hc : s[i] = c) : CutI s c (done ++ [(s.drop f).take (i - f)]) (i + 1) (i + 1) := by
  refine ⟨Nat.le_refl _, fun j _ h1 h2 => absurd h1 (by omega), ?_⟩
  have e : s.drop f = (s.drop f).take (i - f) ++ c :: s.drop (i + 1) := by
    have h1 := (List.take_append_drop (i - f) (s.drop f)).symm
    have h2 : (s.drop f).drop (i - f) = c :: s.drop (i + 1) := by
      rw [List.drop_drop, show f + (i - f) = i by have := h.le; omega, List.drop_eq_getElem_cons hi, hc]
    rwa [h2] at h1
  have hp := splitL_pre (s.drop (i + 1)) h.piece
  rw [← e] at hp
  rw [h.eq, hp]
  simp
theorem CutI.miss {s : List UInt8} {c : UInt8} {done : List (List UInt8)} {f i : Nat} (h : CutI s c done f i) (hi : i < s.length) (hc : s[i] ≠ c) : CutI s c done f (i + 1) :=
  ⟨by have := h.le; omega, fun j hj h1 h2 => by
    rcases Nat.lt_or_ge j i with h3 | h3
    · exact h.no j hj h1 h3
    · obtain rfl : j = i := by omega
      exact hc, h.eq⟩
theorem CutI.done {s : List UInt8} {c : UInt8} {done : List (List UInt8)} {f i : Nat} (h : CutI s c done f i) (hi : i = s.length) : splitL c s = done ++ [s.drop f] := by
  rw [h.eq, splitL_none]
  intro x hx
  obtain ⟨j, hj, rfl⟩ := List.getElem_of_mem hx
  rw [List.length_drop] at hj
  rw [List.getElem_drop]
  exact h.no _ (by omega) (by omega) (by omega)
/-- the append of one string, at the operation -/
theorem wpList_str {ops : Array Oper} {rest : List Oper} {o : Oper} {a : Act} {Q : Exit → Act → World → Prop} {W : World} {base : Nat} {xs : List (List UInt8)} {y : List UInt8} {vA : Option Addr} {vc g : Nat} (hgd : o.guard = none) (s x : Operand)
    (ho : o.op = .call { callee := .builtin .append, args := #[s, x], argTypes := #[68, 68] }) (hs : a.eval s = .slice vA xs.length vc) (hx : a.eval x = .slice (some ⟨g, 0, none⟩) 1 1)
    (hown : StrOwn W base (.slice vA xs.length vc) xs) (hr : Rd W 0 (some ⟨g, 0, none⟩) [.string (sB y)]) (hl : xs.length ≤ 1000000) (hb : base ≤ W.heap.size)
    (h : ∀ v' w', StrOwn w' base v' (xs ++ [y]) → Below base W w' → wpList Tryd.prog ops Q rest (a.put o.dst v') w') : wpList Tryd.prog ops Q (o :: rest) a W := by
  obtain ⟨i0, hi0, hz0, hz1, hz2⟩ := info_parts infoStr
  refine wpList_app W hgd s x _ ho base 9 i0 _ 1 16 Tryd.underlying68 hi0 hz0 hz1 hz2 rfl (by decide) _ xs.length _ hs hown (some ⟨g, 0, none⟩) 1 1 [.string (sB y)] hx rfl hr (by simp [Value.oneCell']) (by simp only [maxLen]; omega) (by omega) hb fun v2 w2 hown2 hg2 hat2 => h v2 w2 ?_ (grownOwn_ (Below.refl _ _) hg2 hown (Nat.le_refl _) hb)
  unfold StrOwn
  rw [List.length_append, List.flatMap_append]
  exact hown2
theorem splitL_len (c : UInt8) : ∀ (s : List UInt8), (splitL c s).length ≤ s.length + 1
  | [] => by simp [splitL]
  | x :: r => by
    have ih := splitL_len c r
    rw [splitL_cons]
    split
    · simp; omega
    · split <;> simp_all <;> omega
def StrPost (w : World) (xs : List (List UInt8)) (e : Ending) (w' : World) : Prop := ∃ v, e = .returned v ∧ StrOwn w' w.heap.size v xs ∧ Below w.heap.size w w'
set_option maxRecDepth 100000 in
set_option maxHeartbeats 2000000 in
theorem CutR_ (s : List UInt8) (c : UInt8) (w : World) (hs : s.length ≤ 200000) :
    Calls Tryd.prog 34 #[.string (sB s), .int .u8 (c.toNat : Int)] w (StrPost w (splitL c s)) := by
  obtain ⟨S, hS⟩ : ∃ S, S = sB s := ⟨_, rfl⟩
  have hsz : S.size = s.length := by rw [hS, sB_size]
  have HG : Hid (∀ (i : Nat) (h : i < S.size) (h' : i < s.length), S[i]'h = s[i]) := fun i h h' => by subst hS; rfl
  have HX : Hid (∀ a b, S.extract a b = sB ((s.drop a).take (b - a))) := fun a b => by rw [hS]; exact sB_ext s a b
  rw [← hS]
  have hsl := splitL_len c s
  clear hS
  go_enter Tryd.func34, Tryd.ntmps34
  go_wp2_with fail
  go_loopw [5, 6, 7] (fun v f i wr => ∃ (k ff : Nat) (done : List (List UInt8)), k ≤ s.length ∧ i = .int .i64 (k : Int) ∧ f = .int .i64 (ff : Int) ∧ Hid (CutI s c done ff k) ∧ Hid (StrOwn wr w.heap.size v done) ∧ Hid (Below w.heap.size w wr)) (fun _ _ i _ => s.length - (intOf i).toNat)
  case atStart => exact ⟨0, 0, [], Nat.zero_le _, rfl, rfl, ⟨Nat.le_refl _, fun j _ h1 h2 => absurd h2 (by omega), by simp⟩, StrOwn.nil _ _, Below.refl _ _⟩
  case round =>
    obtain ⟨k, ff, done, hk, rfl, rfl, HC, HO, HB⟩ := hrel
    have hfk := HC.out.le
    have hdl : done.length ≤ 200001 := by
      have := congrArg List.length HC.out.eq
      rw [List.length_append] at this
      omega
    obtain ⟨vA, vc, rfl, hvl, hvc, _, _⟩ := own_form HO.out
    by_cases hkl : k < s.length
    · have q1 : (k : Int) < (S.size : Int) := by omega
      have b0 : k < S.size := by omega
      have g0 := HG.out k b0 hkl
      have HHIT := Lib.hid (HC.out.hit hkl)
      have HMISS := Lib.hid (HC.out.miss hkl)
      obtain ⟨ch, hch⟩ : ∃ ch, ch = s[k] := ⟨_, rfl⟩
      rw [← hch] at g0 HHIT HMISS
      clear hch
      by_cases hcc : ch = c
      · have e1 : ((ch.toNat : Int) == (c.toNat : Int)) = true := by simp [hcc]
        have HN := Lib.hid (HHIT.out hcc)
        have q2 : (ff : Int) ≤ (k : Int) := by omega
        have q3 : (k : Int) ≤ (S.size : Int) := by omega
        have hxx := HX.out ff k
        have HB4 : Hid (Below w.heap.size w (wr.alloc (Obj.cells #[.string (S.extract ff k)] 9))) := HB.out.alloc HB.out.size _
        have HO4 : Hid (StrOwn (wr.alloc (Obj.cells #[.string (S.extract ff k)] 9)) w.heap.size (.slice vA done.length vc) done) := own_below HO.out ((Below.refl _ _).alloc (Nat.le_refl _) _)
        have HRd : Hid (Rd (wr.alloc (Obj.cells #[.string (S.extract ff k)] 9)) 0 (some ⟨wr.heap.size, 0, none⟩) [.string (sB ((s.drop ff).take (k - ff)))]) := by
          have := Rd.new wr #[.string (S.extract ff k)] 9
          rwa [hxx] at this ⊢
        clear hcc hxx HHIT HMISS
        go_wp2_with (at_builtin; refine wpList_str rfl (.tmp 19) (.tmp 24) rfl rfl rfl HO4.out HRd.out (by omega) HB4.out.size ?_; intro v2 w2 hown2 hb2)
        have HO5 := Lib.hid hown2
        have HB5 := Lib.hid (Below_on HB4.out hb2 (Nat.le_refl _))
        clear hown2 hb2
        go_wp2_with fail
        go_roundw
        case rel => exact ⟨k + 1, k + 1, _, by omega, by go_num, by go_num, HN.out, HO5.out, HB5.out⟩
        case measure => simp [intOf]; omega
      · have e1 : ((ch.toNat : Int) == (c.toNat : Int)) = false := by
          simp
          intro h
          exact hcc (UInt8.toNat_inj.1 (by omega))
        have HN := Lib.hid (HMISS.out hcc)
        clear hcc HHIT HMISS
        go_wp2_with fail
        go_roundw
        case rel => exact ⟨k + 1, ff, done, by omega, by go_num, rfl, HN.out, HO.out, HB.out⟩
        case measure => simp [intOf]; omega
    · have q1 : ¬ (k : Int) < (S.size : Int) := by omega
      have HD := Lib.hid (HC.out.done (by omega))
      have q2 : (ff : Int) ≤ (S.size : Int) := by omega
      have hxx := HX.out ff s.length
      rw [List.take_of_length_le (by rw [List.length_drop]; omega)] at hxx
      have HB4 : Hid (Below w.heap.size w (wr.alloc (Obj.cells #[.string (S.extract ff s.length)] 9))) := HB.out.alloc HB.out.size _
      have HO4 : Hid (StrOwn (wr.alloc (Obj.cells #[.string (S.extract ff s.length)] 9)) w.heap.size (.slice vA done.length vc) done) := own_below HO.out ((Below.refl _ _).alloc (Nat.le_refl _) _)
      have HRd : Hid (Rd (wr.alloc (Obj.cells #[.string (S.extract ff s.length)] 9)) 0 (some ⟨wr.heap.size, 0, none⟩) [.string (sB (s.drop ff))]) := by
        have := Rd.new wr #[.string (S.extract ff s.length)] 9
        rwa [hxx] at this ⊢
      clear hxx
      go_wp2_with (at_builtin; refine wpList_str rfl (.tmp 28) (.tmp 32) rfl rfl rfl HO4.out HRd.out (by omega) HB4.out.size ?_; intro v2 w2 hown2 hb2)
      have HP : Hid (StrPost w (splitL c s) (.returned v2) w2) := ⟨v2, rfl, by rw [HD.out]; exact hown2, Below_on HB4.out hb2 (Nat.le_refl _)⟩
      clear hown2 hb2
      go_wp2_with fail
      go_ret
      exact HP.out
end Go.Proofs.YtoglgeaiiipchabDoor

namespace Go.Proofs.YtoglgeaiiipchabDoor
open Go Go.RowKit Go.Sort

theorem valF_snoc (l : List UInt8) (b : UInt8) (acc : Nat) : valF acc (l ++ [b]) = 10 * valF acc l + (b.toNat - 48) := by rw [valF_append]; rfl
theorem sB_toList (l : List UInt8) : (sB l).toList = l := by rw [Lib.toList_data, sB_list]
def UdPost (w : World) (x : List UInt8) (e : Ending) (w' : World) : Prop := ∃ (v : Int) (b : Bool), e = .returned (.tuple #[.int .i64 v, .bool b]) ∧ Below w.heap.size w w' ∧ (match und x with | some n => v = n ∧ b = true | none => b = false)
theorem und_none_len {x : List UInt8} (h : btw x.length 1 6 = false) : und x = none := by
  unfold und
  rw [if_neg]
  intro hc
  simp only [Bool.and_eq_true, decide_eq_true_eq] at hc
  have := (btw_iff x.length 1 6).2 (by omega)
  rw [this] at h
  cases h
theorem und_none_dig {x : List UInt8} {i : Nat} (hi : i < x.length) (h : isDig x[i] = false) : und x = none := by
  unfold und
  rw [if_neg]
  intro hc
  simp only [Bool.and_eq_true, decide_eq_true_eq] at hc
  have := List.all_eq_true.1 hc.1.2 _ (List.getElem_mem hi)
  rw [this] at h
  cases h
set_option maxRecDepth 100000 in
set_option maxHeartbeats 2000000 in
theorem Undigit_ (x : List UInt8) (w : World) (hx : x.length ≤ 200000) : Calls Tryd.prog 35 #[.string (sB x)] w (UdPost w x) := by
  obtain ⟨S, hS⟩ : ∃ S, S = sB x := ⟨_, rfl⟩
  have hsz : S.size = x.length := by rw [hS, sB_size]
  have HG : Hid (∀ (i : Nat) (h : i < S.size) (h' : i < x.length), S[i]'h = x[i]) := fun i h h' => by subst hS; rfl
  have HS := Lib.hid hS
  rw [← hS]
  clear hS
  have HBT := Lib.hid (fun W => between_b (x.length : Int) 1 6 W)
  have HBV := Lib.hid (btw_iff (x.length : Int) 1 6)
  have HNL := Lib.hid (und_none_len (x := x))
  generalize btw (x.length : Int) 1 6 = bt at *
  go_enter Tryd.func35, Tryd.ntmps35
  go_wp2_with fail
  refine (HBT.out _).mono ?_
  rintro e w1 ⟨rfl, hb1⟩
  have HB1 := Lib.hid hb1
  clear hb1 HBT
  cases bt with
  | false =>
    have HP : Hid (UdPost w x (.returned (.tuple #[.int .i64 0, .bool false])) w1) := ⟨0, false, rfl, HB1.out, by rw [HNL.out rfl]⟩
    go_wp2_with fail
    go_ret2
    exact HP.out
  | true =>
    have hl := HBV.out.1 rfl
    clear HNL
    go_wp2_with fail
    go_loopw [4, 5] (fun n i wr => ∃ k : Nat, k ≤ x.length ∧ i = .int .i64 (k : Int) ∧ n = .int .i64 ((valF 0 (x.take k) : Nat) : Int) ∧ Hid ((x.take k).all isDig = true) ∧ Hid (Below w.heap.size w wr)) (fun _ i _ => x.length - (intOf i).toNat)
    case atStart => exact ⟨0, Nat.zero_le _, rfl, rfl, rfl, HB1.out⟩
    case round =>
      obtain ⟨k, hk, rfl, rfl, HD, HB⟩ := hrel
      have hv := valF_lt (x.take k) 0 HD.out
      have hpw : 10 ^ (x.take k).length ≤ 10 ^ 6 := Nat.pow_le_pow_right (by decide) (by rw [List.length_take]; omega)
      have h6 : (10 : Nat) ^ 6 = 1000000 := by decide
      have hvm : valF 0 (x.take k) < 1000000 := by omega
      clear hv hpw h6
      by_cases hkl : k < x.length
      · have q1 : (k : Int) < (x.length : Int) := by omega
        have b0 : k < S.size := by omega
        have g0 := HG.out k b0 hkl
        have HV : Hid (valF 0 (x.take (k + 1)) = 10 * valF 0 (x.take k) + (x[k].toNat - 48)) := by
          show _ = _
          rw [List.take_succ_eq_append_getElem hkl, valF_snoc]
        have HA : Hid (isDig x[k] = true → (x.take (k + 1)).all isDig = true) := fun h => by
          rw [List.take_succ_eq_append_getElem hkl, List.all_append, HD.out]
          simp [h]
        have HN := Lib.hid (und_none_dig (x := x) hkl)
        have HDG : Hid (isDig x[k] = (decide (48 ≤ x[k].toNat) && decide (x[k].toNat ≤ 57))) := rfl
        generalize valF 0 (x.take k) = n at *
        generalize hvn : valF 0 (x.take (k + 1)) = n' at *
        have HVN := Lib.hid hvn
        clear hvn
        obtain ⟨ch, hch⟩ : ∃ ch, ch = x[k] := ⟨_, rfl⟩
        rw [← hch] at g0 HV HA HN HDG
        clear hch
        have hcm : ch.toNat < 256 := by have := UInt8.toNat_lt ch; omega
        by_cases h1 : ch.toNat < 48
        · have e1 : ((ch.toNat : Int) < 48) := by omega
          have HP : Hid (UdPost w x (.returned (.tuple #[.int .i64 0, .bool false])) wr) := ⟨0, false, rfl, HB.out, by rw [HN.out (by rw [HDG.out]; simp; omega)]⟩
          go_wp2_with fail
          go_ret2
          exact HP.out
        · have e1 : ¬ ((ch.toNat : Int) < 48) := by omega
          by_cases h2 : 57 < ch.toNat
          · have e2 : (57 : Int) < (ch.toNat : Int) := by omega
            have HP : Hid (UdPost w x (.returned (.tuple #[.int .i64 0, .bool false])) wr) := ⟨0, false, rfl, HB.out, by rw [HN.out (by rw [HDG.out]; simp; omega)]⟩
            go_wp2_with fail
            go_ret2
            exact HP.out
          · have e2 : ¬ ((57 : Int) < (ch.toNat : Int)) := by omega
            have HAA := Lib.hid (HA.out (by rw [HDG.out]; simp; omega))
            have HE : Hid (10 * (n : Int) + (ch.toNat : Int) - 48 = (n' : Int)) := by show _ = _; rw [HV.out]; omega
            clear HA HN
            go_wp2_with fail
            go_roundw
            case rel => exact ⟨k + 1, by omega, by go_num, by rw [HVN.out]; exact congrArg (Value.int .i64) HE.out, HAA.out, HB.out⟩
            case measure => simp [intOf]; omega
      · have q1 : ¬ (k : Int) < (x.length : Int) := by omega
        have hkk : x.take k = x := List.take_of_length_le (by omega)
        rw [hkk] at HD hvm ⊢
        have HDI := Lib.hid (Digits_ ((valF 0 x : Nat) : Int) (by omega) (by omega) wr)
        have HU : Hid (und x = if Lib.decDigits (valF 0 x) = x then some ((valF 0 x : Nat) : Int) else none) := by
          show und x = _
          unfold und
          rw [HD.out]
          by_cases h : Lib.decDigits (valF 0 x) = x
          · rw [if_pos h, if_pos (by simp [h]; omega)]
          · rw [if_neg h, if_neg (by simp [h])]
        have HDD : Hid (sB (dn ((valF 0 x : Nat) : Int)) = sB (Lib.decDigits (valF 0 x))) := by show _ = _; unfold dn; rw [Int.toNat_natCast]
        clear hkk
        generalize valF 0 x = n at *
        go_wp2_with fail
        refine HDI.out.mono ?_
        rintro e w2 ⟨rfl, hb2⟩
        have HB2 := Lib.hid (Below_on HB.out hb2 HB.out.size)
        clear hb2 HDI
        rw [HDD.out]
        go_wp2_with fail
        have HEQ : Hid (((sB (Lib.decDigits n)).toList == S.toList) = decide (Lib.decDigits n = x)) := by
          show _ = _
          rw [HS.out, sB_toList, sB_toList]
          by_cases h : Lib.decDigits n = x <;> simp [h]
        have HP : Hid (UdPost w x (.returned (.tuple #[.int .i64 (n : Int), .bool ((sB (Lib.decDigits n)).toList == S.toList)])) w2) := by
          refine ⟨_, _, rfl, HB2.out, ?_⟩
          rw [HU.out, HEQ.out]
          by_cases h : Lib.decDigits n = x
          · rw [if_pos h]; exact ⟨rfl, by simp [h]⟩
          · rw [if_neg h]; simp [h]
        go_ret2
        exact HP.out
/-- numbers of words -/
def UlPost (w : World) (l : List (List UInt8)) (e : Ending) (w' : World) : Prop := ∃ (A : Option Addr) (c : Nat) (ns : List Int) (b : Bool), e = .returned (.tuple #[.slice A ns.length c, .bool b]) ∧ Ints w' w.heap.size A c ns ∧ Below w.heap.size w w' ∧ (match undL l with | some m => ns = m ∧ b = true | none => b = false)
/-- strings as a slice reads -/
def StrRd (w : World) (B : Option Addr) (c : Nat) (xs : List (List UInt8)) : Prop := xs.length ≤ c ∧ c ≤ 9223372036854775807 ∧ Rd w 0 B (xs.flatMap fun x => [Value.string (sB x)])
theorem StrRd.below {w w' : World} {B : Option Addr} {c : Nat} {xs : List (List UInt8)} (h : StrRd w B c xs) (hb : Below w.heap.size w w') : StrRd w' B c xs := by
  refine ⟨h.1, h.2.1, fun hne => ?_⟩
  obtain ⟨b, off, hA, hlo, hlt, hc⟩ := h.2.2 hne
  exact ⟨b, off, hA, hlo, Nat.lt_of_lt_of_le hlt hb.size, fun j u hu => (hb.cell (p := ⟨b, off + j, none⟩) hlt).trans (hc j u hu)⟩
theorem StrRd.at_ {w : World} {B : Option Addr} {c : Nat} {xs : List (List UInt8)} (h : StrRd w B c xs) {k : Nat} (hk : k < xs.length) : ∃ b o, B = some ⟨b, o, none⟩ ∧ b < w.heap.size ∧ w.cell? ⟨b, o + k, none⟩ = some (.string (sB xs[k])) := by
  have hne : (xs.flatMap fun x => [Value.string (sB x)]) ≠ [] := by
    rw [flat_get]
    intro e
    have := congrArg List.length e
    simp at this
    rw [this] at hk
    simp at hk
  obtain ⟨b, off, hA, hlo, hlt, hc⟩ := h.2.2 hne
  exact ⟨b, off, hA, hlt, hc k _ (by rw [flat_get, List.getElem?_map, List.getElem?_eq_getElem hk]; rfl)⟩
theorem undL_take {l : List (List UInt8)} {k : Nat} {ns : List Int} {n : Int} (hk : k < l.length) (h : undL (l.take k) = some ns) (hn : und l[k] = some n) : undL (l.take (k + 1)) = some (ns ++ [n]) := by
  rw [List.take_succ_eq_append_getElem hk, undL_append, h, undL_cons, hn]
  rfl
theorem undL_bad {l : List (List UInt8)} {k : Nat} (hk : k < l.length) (hn : und l[k] = none) : undL l = none := by
  have e : l = l.take k ++ (l[k] :: l.drop (k + 1)) := by rw [← List.drop_eq_getElem_cons hk, List.take_append_drop]
  rw [e, undL_append, undL_cons, hn]
  cases undL (l.take k) <;> rfl
set_option maxRecDepth 100000 in
set_option maxHeartbeats 2000000 in
theorem Undigits_ (l : List (List UInt8)) (B : Option Addr) (c : Nat) (m : Nat) (w : World) (hr : StrRd w B c l) (hm : m ≤ l.length) (hl : l.length ≤ 200001) (hx : ∀ x ∈ l, x.length ≤ 200000) :
    Calls Tryd.prog 36 #[.slice B l.length c, .int .i64 (m : Int)] w (UlPost w (l.drop m)) := by
  obtain ⟨i0, hi0, hz0, hz1, hz2⟩ := info_parts infoInt
  have HR := Lib.hid hr
  have HX := Lib.hid hx
  have hle := hr.1
  have hcp := hr.2.1
  clear hr hx
  go_enter Tryd.func36, Tryd.ntmps36
  go_wp2_with fail
  go_loopw [6, 7, 8, 9] (fun v i _ _ wr => ∃ (k : Nat) (ns : List Int), m ≤ k ∧ k ≤ l.length ∧ i = .int .i64 (k : Int) ∧ Hid (undL ((l.drop m).take (k - m)) = some ns) ∧ Hid (wr.ownsRow w.heap.size 3 1 v ns.length (ns.flatMap fun n : Int => [Value.int .i64 n])) ∧ Hid (Below w.heap.size w wr)) (fun _ i _ _ _ => l.length - (intOf i).toNat)
  case atStart => exact ⟨m, [], Nat.le_refl _, hm, rfl, by show undL _ = _; rw [Nat.sub_self]; rfl, World.ownsRow_nil _ _ _ _, Below.refl _ _⟩
  case round =>
    obtain ⟨k, ns, hmk, hk, rfl, HU, HO, HB⟩ := hrel
    have hnl : ns.length ≤ 200001 := by
      have := undL_len HU.out
      rw [List.length_take, List.length_drop] at this
      omega
    by_cases hkl : k < l.length
    · have q1 : (k : Int) < (l.length : Int) := by omega
      obtain ⟨b, o, rfl, _, y0⟩ := (HR.out.below HB.out).at_ hkl
      have HD := Lib.hid (Undigit_ l[k] wr (HX.out _ (List.getElem_mem hkl)))
      have hkd : k - m < (l.drop m).length := by rw [List.length_drop]; omega
      have hek : (l.drop m)[k - m] = l[k] := by rw [List.getElem_drop]; congr 1; omega
      have HS : Hid (∀ n, und l[k] = some n → undL ((l.drop m).take (k + 1 - m)) = some (ns ++ [n])) := fun n hn => by
        have := undL_take hkd HU.out (by rw [hek]; exact hn)
        rwa [show k - m + 1 = k + 1 - m by omega] at this
      have HN : Hid (und l[k] = none → undL (l.drop m) = none) := fun hn => undL_bad hkd (by rw [hek]; exact hn)
      clear hkd hek
      generalize l[k]'hkl = x at *
      obtain ⟨vA, vc, rfl, hvl, hvc, _, _⟩ := own_form HO.out
      go_wp2_with fail
      refine HD.out.mono ?_
      rintro e w1 ⟨v, b1, rfl, hb1, hmt⟩
      have HB1 := Lib.hid (Below_on HB.out hb1 HB.out.size)
      have HO1 : Hid (w1.ownsRow w.heap.size 3 1 (.slice vA ns.length vc) ns.length (ns.flatMap fun n : Int => [Value.int .i64 n])) := own_below HO.out hb1
      clear hb1 HD HO
      cases hu : und x with
      | none =>
        rw [hu] at hmt
        subst hmt
        have HP : Hid (UlPost w (l.drop m) (.returned (.tuple #[.slice none 0 0, .bool false])) w1) := ⟨none, 0, [], false, rfl, ⟨Nat.le_refl _, by omega, by simp, Rd.nil⟩, HB1.out, by rw [HN.out hu]⟩
        clear hu
        go_wp2_with fail
        go_ret2
        exact HP.out
      | some n =>
        rw [hu] at hmt
        obtain ⟨rfl, rfl⟩ := hmt
        have HS2 := Lib.hid (HS.out _ hu)
        have HO3 : Hid ((w1.alloc (Obj.cells #[.int .i64 v] 3)).ownsRow w.heap.size 3 1 (.slice vA ns.length vc) ns.length (ns.flatMap fun n : Int => [Value.int .i64 n])) := own_below HO1.out ((Below.refl _ _).alloc (Nat.le_refl _) _)
        have HRd := Lib.hid (Rd.new w1 #[.int .i64 v] 3)
        have HB4 : Hid (Below w.heap.size w (w1.alloc (Obj.cells #[.int .i64 v] 3))) := HB1.out.alloc HB1.out.size _
        have hsz4 : w.heap.size ≤ (w1.alloc (Obj.cells #[.int .i64 v] 3)).heap.size := HB4.out.size
        clear hu HS HN HO1
        go_wp2_with (at_builtin; refine wpList_app _ rfl (.tmp 27) (.tmp 29) _ rfl w.heap.size 3 i0 _ 1 8 Tryd.underlying22 hi0 hz0 hz1 hz2 rfl (by decide) (.slice vA ns.length vc) ns.length _ rfl HO3.out (some ⟨w1.heap.size, 0, none⟩) 1 1 [.int .i64 v] rfl rfl HRd.out (by simp [Value.oneCell']) (by simp only [maxLen]; omega) (by omega) hsz4 ?_; intro v2 w2' hown2 hg2 hat2)
        have HP' : Hid (w2'.ownsRow w.heap.size 3 1 v2 (ns ++ [v]).length ((ns ++ [v]).flatMap fun n : Int => [Value.int .i64 n])) := by
          show World.ownsRow _ _ _ _ _ _ _
          rw [List.length_append, List.flatMap_append]
          exact hown2
        have HB5 := Lib.hid (grownOwn_ HB4.out hg2 HO3.out (Nat.le_refl _) hsz4)
        clear hown2 hg2 hat2
        go_wp2_with fail
        go_roundw
        case rel => exact ⟨k + 1, ns ++ [v], by omega, by omega, by go_num, HS2.out, HP'.out, HB5.out⟩
        case measure => simp [intOf]; omega
    · have q1 : ¬ (k : Int) < (l.length : Int) := by omega
      have hkk : (l.drop m).take (k - m) = l.drop m := List.take_of_length_le (by rw [List.length_drop]; omega)
      rw [hkk] at HU
      obtain ⟨vA, vc, rfl, hints⟩ := SlE.of_own (bt := 8) HO.out (by omega)
      have HP : Hid (UlPost w (l.drop m) (.returned (.tuple #[.slice vA ns.length vc, .bool true])) wr) := ⟨vA, vc, ns, true, rfl, hints, HB.out, by rw [HU.out]; exact ⟨rfl, rfl⟩⟩
      clear hints hkk
      go_wp2_with fail
      go_ret2
      exact HP.out
end Go.Proofs.YtoglgeaiiipchabDoor

namespace Go.Proofs.YtoglgeaiiipchabDoor
open Go Go.RowKit Go.Sort

theorem index_no {s : List UInt8} {c : UInt8} (h : ∀ x ∈ s, x ≠ c) : Lib.index s [c] = -1 := Lib.index_none fun j hj => by
  cases ho : Lib.occAt s [c] j with
  | false => rfl
  | true =>
    have := Lib.occAt_head (c := c) (t := []) rfl ho
    obtain ⟨h1, h2⟩ := List.getElem?_eq_some_iff.1 this
    exact absurd h2 (h _ (List.getElem_mem h1))
theorem count_no {s : List UInt8} {c : UInt8} (h : ∀ x ∈ s, x ≠ c) : s.count c = 0 := List.count_eq_zero.2 fun hm => h c hm rfl
theorem count_cut {p r : List UInt8} {c : UInt8} (h : ∀ x ∈ p, x ≠ c) : (p ++ c :: r).count c = r.count c + 1 := by
  rw [List.count_append, count_no h, List.count_cons_self]; omega
theorem countFrom_eq (c : UInt8) : ∀ (f : Nat) (s : List UInt8), s.length < f → Lib.countFrom [c] f s = s.count c
  | 0, s, h => absurd h (by omega)
  | f + 1, s, h => by
    unfold Lib.countFrom
    rcases split_cases c s with h1 | ⟨p, r, rfl, h1⟩
    · rw [index_no h1, count_no h1]; rfl
    · rw [index_at h1, count_cut h1]
      have : ¬ (((p.length : Nat) : Int) == -1) = true := by simp
      rw [if_neg this, Int.toNat_natCast]
      have e : (p ++ c :: r).drop (p.length + [c].length) = r := by simp
      rw [e, countFrom_eq c f r (by simp at h; omega)]
      omega
theorem splitK_eq (c : UInt8) : ∀ (k : Nat) (s : List UInt8), s.count c ≤ k → Lib.splitK [c] 0 k s = splitL c s
  | 0, s, h => by
    have : ∀ x ∈ s, x ≠ c := fun x hx he => by
      have := List.count_pos_iff.2 (he ▸ hx)
      omega
    rw [splitL_none this]; rfl
  | k + 1, s, h => by
    unfold Lib.splitK
    rcases split_cases c s with h1 | ⟨p, r, rfl, h1⟩
    · rw [index_no h1, splitL_none h1]; rfl
    · rw [index_at h1, splitL_pre r h1]
      have : ¬ (((p.length : Nat) : Int) == -1) = true := by simp
      rw [count_cut h1] at h
      rw [if_neg this, Int.toNat_natCast]
      have e : (p ++ c :: r).drop (p.length + [c].length) = r := by simp
      rw [e, splitK_eq c k r (by omega)]
      simp
theorem split_eq (c : UInt8) (s : List UInt8) : (Lib.splitB (sB [c]) 0 (Lib.countB (sB s) (sB [c])) (sB s)).map (fun b => b.data.toList) = splitL c s := by
  rw [Lib.splitB_data, sB_list, sB_list]
  refine splitK_eq c _ s ?_
  show _ ≤ Lib.count (sB s).data.toList (sB [c]).data.toList
  rw [sB_list, sB_list]
  unfold Lib.count
  rw [countFrom_eq c _ _ (by omega)]
  exact Nat.le_refl _
theorem SplitS_ (s : List UInt8) (c : UInt8) (w : World) (hL : LaidOK w) (hs : s.length ≤ 1000000) :
    Calls Tryd.prog 59 #[.string (sB s), .string (sB [c])] w fun e w' => e = .returned (.slice (some ⟨w.heap.size, 0, none⟩) (splitL c s).length (splitL c s).length) ∧ StrRd w' (some ⟨w.heap.size, 0, none⟩) (splitL c s).length (splitL c s) ∧ Below w.heap.size w w' := by
  obtain ⟨m, hm⟩ := hL.ml
  have hlen := splitL_len c s
  refine (Tryd.strings_Split (sB s) (sB [c]) m w (by rw [sB_size]; omega) hm (by rw [sB_size]; simp)).mono fun e w' ⟨he, hw⟩ => ?_
  have h1 := Lib.splitB_all (sB [c]) (by rw [sB_size]; simp) 0 _ (sB s) rfl
  have h2 := split_eq c s
  have h3 : Lib.countB (sB s) (sB [c]) + 1 = (splitL c s).length := by rw [← h2, List.length_map, h1]
  have h4 : (Lib.splitB (sB [c]) 0 (Lib.countB (sB s) (sB [c])) (sB s)).map Value.string = (splitL c s).flatMap fun x => [Value.string (sB x)] := by
    rw [flat_get, ← h2, List.map_map]
    exact List.map_congr_left fun b _ => congrArg Value.string (sB_eta b)
  rw [h3] at he
  rw [h4] at hw
  refine ⟨he, ⟨Nat.le_refl _, by omega, ?_⟩, by rw [hw]; exact (Below.refl _ _).alloc (Nat.le_refl _) _⟩
  have := Rd.new w ((splitL c s).flatMap fun x => [Value.string (sB x)]).toArray 9
  rw [hw]
  simpa using this
end Go.Proofs.YtoglgeaiiipchabDoor
