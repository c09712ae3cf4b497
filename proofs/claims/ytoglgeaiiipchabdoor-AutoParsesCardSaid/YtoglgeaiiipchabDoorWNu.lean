/- Walks: auto.numbers. -/
import Derived.Test.YtoglgeaiiipchabDoorCuA
namespace Go.Proofs.YtoglgeaiiipchabDoor
open Go Go.RowKit Go.Sort

/-- numbers of a line, behind a word -/
def numsOf (word x : List UInt8) : Option (List Int) := if word = [] then undL (splitL 32 x) else wordN word x
theorem pre_of_split {word x : List UInt8} {r : List (List UInt8)} (h : splitL 32 x = word :: r) : word <+: x := by
  have := gather_split 32 _ x (Nat.le_refl _)
  rw [h] at this
  cases r with
  | nil => exact ⟨[], by simpa [gather] using this⟩
  | cons y r => exact ⟨32 :: gather 32 (y :: r), this⟩
theorem wordN_no {word x : List UInt8} (h : Lib.hasPrefix x word = false) : wordN word x = none := by
  unfold wordN
  split
  · rfl
  · rename_i p r hs
    split
    · rename_i hp
      subst hp
      have := pre_of_split hs
      unfold Lib.hasPrefix at h
      rw [List.isPrefixOf_iff_prefix.2 this] at h
      cases h
    · rfl
theorem wordN_end {word : List UInt8} (hw : ∀ x ∈ word, x ≠ 32) : wordN word word = some [] := by
  unfold wordN
  rw [splitL_none hw]
  simp only
  rw [if_pos trivial]; rfl
theorem wordN_bad {word r : List UInt8} {ch : UInt8} (hw : ∀ x ∈ word, x ≠ 32) (hc : ch ≠ 32) : wordN word (word ++ ch :: r) = none := by
  unfold wordN
  rcases split_cases 32 r with h | ⟨p, q, rfl, h⟩
  · rw [splitL_none (by intro x hx; rcases List.mem_append.1 hx with h1 | h1; exact hw x h1; rcases List.mem_cons.1 h1 with rfl | h1; exact hc; exact h x h1)]
    simp only
    rw [if_neg]
    intro e
    have := congrArg List.length e
    simp at this
  · have : word ++ ch :: (p ++ 32 :: q) = (word ++ ch :: p) ++ 32 :: q := by simp
    rw [this, splitL_pre q (by intro x hx; rcases List.mem_append.1 hx with h1 | h1; exact hw x h1; rcases List.mem_cons.1 h1 with rfl | h1; exact hc; exact h x h1)]
    simp only
    rw [if_neg]
    intro e
    have := congrArg List.length e
    simp at this
theorem wordN_on {word r : List UInt8} (hw : ∀ x ∈ word, x ≠ 32) : wordN word (word ++ 32 :: r) = undL (splitL 32 r) := by
  unfold wordN
  rw [splitL_pre r hw]
  simp only
  rw [if_pos trivial]
def NuPost (w : World) (o : Option (List Int)) (e : Ending) (w' : World) : Prop := ∃ (A : Option Addr) (c : Nat) (ns : List Int) (b : Bool), e = .returned (.tuple #[.slice A ns.length c, .bool b]) ∧ Ints w' w.heap.size A c ns ∧ Below w.heap.size w w' ∧ (match o with | some m => ns = m ∧ b = true | none => b = false)
theorem ints_none (w : World) (lo : Nat) : Ints w lo none 0 [] := ⟨Nat.le_refl _, by omega, by simp, Rd.nil⟩
/-- Atoi, whatever it is handed -/
theorem AtoiA_ (x : List UInt8) (w : World) (hL : LaidOK w) (hx : x.length ≤ 1000000) :
    Calls Tryd.prog 61 #[.string (sB x)] w fun e w' => (∃ (n : Int) (v : Value), e = .returned (.tuple #[.int .i64 n, v]) ∧ -9223372036854775808 ≤ n ∧ n ≤ 9223372036854775807 ∧ ((v = .nilIface ∧ Lib.atoiAll x = .ok n) ∨ (∃ t p, v = .iface t p) ∧ ∀ m, Lib.atoiAll x ≠ .ok m)) ∧ Below w.heap.size w w' := by
  cases h : Lib.atoiAll x with
  | ok n =>
    refine (Tryd.strconv_Atoi_ok (sB x) (by rw [sB_size]; omega) n (by rw [sB_list]; exact h) w).mono fun e w' ⟨he, hw⟩ => ⟨⟨n, _, he, (Lib.atoiAll_bounds h).1, (Lib.atoiAll_bounds h).2, .inl ⟨rfl, rfl⟩⟩, ?_⟩
    rcases hw with rfl | ⟨t, rfl⟩
    · exact Below.refl _ _
    · exact Lib.bytesWorld_below _ _ _
  | range =>
    obtain ⟨ev, h1, h2⟩ := hL.er
    exact (Tryd.strconv_Atoi_range (sB x) (by rw [sB_size]; omega) (by rw [sB_list]; exact h) ev w h1 h2).mono fun e w' ⟨N, he, _, _, hb⟩ => ⟨⟨_, _, he, by rw [sB_list]; exact (Lib.atoiSat_bounds x).1, by rw [sB_list]; exact (Lib.atoiSat_bounds x).2, .inr ⟨⟨_, _, rfl⟩, fun m hm => by cases hm⟩⟩, hb⟩
  | _ =>
    obtain ⟨ev, h1, h2⟩ := hL.es
    exact (Tryd.strconv_Atoi_syntax (sB x) (by rw [sB_size]; omega) (by rw [sB_list, h]; intro n hn; cases hn) (by rw [sB_list, h]; intro hn; cases hn) ev w h1 h2).mono fun e w' ⟨N, he, _, _, hb⟩ => ⟨⟨0, _, he, by omega, by omega, .inr ⟨⟨_, _, rfl⟩, fun m hm => by cases hm⟩⟩, hb⟩
theorem numP_some {x : List UInt8} {n : Int} (h : Lib.atoiAll x = .ok n) : und x = if x.length ≤ 6 ∧ Lib.itoa n = x ∧ 0 ≤ n then some n else none := by
  rw [← numP_und]
  unfold numP
  rw [h]
  simp only
  by_cases hc : x.length ≤ 6 ∧ Lib.itoa n = x ∧ 0 ≤ n
  · rw [if_pos hc, if_pos (by simp [hc])]
  · rw [if_neg hc, if_neg (by simpa [and_assoc] using hc)]
theorem numP_none {x : List UInt8} (h : ∀ m, Lib.atoiAll x ≠ .ok m) : und x = none := by
  rw [← numP_und]
  unfold numP
  split
  · rename_i n hn
    exact absurd hn (h n)
  · rfl
theorem split_piece_len (c : UInt8) : ∀ (n : Nat) (s : List UInt8), s.length ≤ n → ∀ z ∈ splitL c s, z.length ≤ s.length
  | n, s, hn, z, hz => by
    rcases split_cases c s with h | ⟨q, r, rfl, h⟩
    · rw [splitL_none h] at hz
      rw [List.mem_singleton.1 hz]
      exact Nat.le_refl _
    · rw [splitL_pre r h] at hz
      rcases List.mem_cons.1 hz with rfl | hz
      · simp
      · cases n with
        | zero => simp at hn
        | succ n =>
          have := split_piece_len c n r (by simp at hn; omega) z hz
          simp
          omega
set_option maxRecDepth 100000 in
set_option maxHeartbeats 4000000 in
theorem numbers_ (word x : List UInt8) (w : World) (hL : LaidOK w) (hx : x.length ≤ 200000) (hw : ∀ y ∈ word, y ≠ 32) (hwl : word.length ≤ 10) :
    Calls Tryd.prog 48 #[.string (sB x), .string (sB word)] w (NuPost w (numsOf word x)) := by
  obtain ⟨i0, hi0, hz0, hz1, hz2⟩ := info_parts infoInt
  have HL := Lib.hid hL
  have HWD := Lib.hid hw
  clear hL hw
  go_enter Tryd.func48, Tryd.ntmps48
  go_upto_if 15 with fail
  go_cut [6] (fun s6 wx => ∃ y : List UInt8, s6 = .string (sB y) ∧ wx = w ∧ y.length ≤ 200000 ∧ Hid (numsOf word x = undL (splitL 32 y)))
  case first =>
    by_cases hwd : word = []
    · have e1 : (sB word).toList.isEmpty = true := by rw [sB_empty, hwd]; rfl
      have HE : Hid (numsOf word x = undL (splitL 32 x)) := by unfold Hid numsOf; rw [if_pos hwd]
      clear hwd
      rw [e1]
      go_wp2_with fail
      go_meet
      exact ⟨x, rfl, rfl, hx, HE.out⟩
    · have e1 : (sB word).toList.isEmpty = false := by rw [sB_empty]; simp [hwd]
      have HE : Hid (numsOf word x = wordN word x) := by unfold Hid numsOf; rw [if_neg hwd]
      have HCP := Lib.hid (CutPre_ x word w)
      clear hwd
      rw [e1]
      go_wp2_with fail
      refine HCP.out.mono ?_
      rintro e w' ⟨rfl, rfl⟩
      cases hp : Lib.hasPrefix x word with
      | false =>
        have HP : Hid (NuPost w' (numsOf word x) (.returned (.tuple #[.slice none 0 0, .bool false])) w') := ⟨none, 0, [], false, rfl, ints_none _ _, Below.refl _ _, by rw [HE.out, wordN_no hp]⟩
        clear hp
        go_wp2_with fail
        go_ret2
        exact HP.out
      | true =>
        have hpre : word <+: x := List.isPrefixOf_iff_prefix.1 hp
        obtain ⟨rest, rfl⟩ := hpre
        have htp : Lib.trimPrefix (word ++ rest) word = rest := by unfold Lib.trimPrefix; rw [hp, if_pos rfl, List.drop_left]
        rw [htp]
        clear hp htp
        cases rest with
        | nil =>
          have e2 : (sB ([] : List UInt8)).toList.isEmpty = true := by rw [sB_empty]; rfl
          have HP : Hid (NuPost w' (numsOf word (word ++ [])) (.returned (.tuple #[.slice none 0 0, .bool true])) w') := ⟨none, 0, [], true, rfl, ints_none _ _, Below.refl _ _, by rw [HE.out, List.append_nil, wordN_end HWD.out]; exact ⟨rfl, rfl⟩⟩
          clear HE HCP
          go_wp2_with fail
          go_ret2
          exact HP.out
        | cons ch r =>
          have e2 : (sB (ch :: r)).toList.isEmpty = false := by rw [sB_empty]; rfl
          have HX1 : Hid ((sB (ch :: r)).extract 1 (r.length + 1) = sB r) := by
            show _ = _
            rw [sB_ext]
            simp
          have hsz : (sB (ch :: r)).size = r.length + 1 := by rw [sB_size]; rfl
          have b0 : 0 < (sB (ch :: r)).size := by omega
          have g0 : (sB (ch :: r))[0]'b0 = ch := rfl
          have hrl : r.length ≤ 200000 := by simp at hx; omega
          have HN : Hid (ch ≠ 32 → wordN word (word ++ ch :: r) = none) := fun h => wordN_bad HWD.out h
          have HON : Hid (ch = 32 → wordN word (word ++ ch :: r) = undL (splitL 32 r)) := fun h => by subst h; exact wordN_on HWD.out
          generalize sB (ch :: r) = S at *
          by_cases hc : ch = 32
          · have e3 : ((ch.toNat : Int) != 32) = false := by rw [hc]; rfl
            have HE2 : Hid (numsOf word (word ++ ch :: r) = undL (splitL 32 r)) := by show _ = _; rw [HE.out, HON.out hc]
            clear HCP HN HON hc HE
            go_wp2_with fail
            go_meet
            exact ⟨r, congrArg Value.string HX1.out, rfl, hrl, HE2.out⟩
          · have e3 : ((ch.toNat : Int) != 32) = true := by
              simp
              intro h
              exact hc (UInt8.toNat_inj.1 (by simpa using Int.ofNat.inj h))
            have HP : Hid (NuPost w' (numsOf word (word ++ ch :: r)) (.returned (.tuple #[.slice none 0 0, .bool false])) w') := ⟨none, 0, [], false, rfl, ints_none _ _, Below.refl _ _, by rw [HE.out, HN.out hc]⟩
            clear HCP HN HON hc HE
            go_wp2_with fail
            go_ret2
            exact HP.out
  case rest =>
    obtain ⟨y, rfl, rfl, hy, HE⟩ := hcut
    have HSP : Hid (Calls Tryd.prog 59 #[.string (sB y), .string ⟨#[32]⟩] wc _) := SplitS_ y 32 wc HL.out (by omega)
    have hsl := splitL_len 32 y
    have HM : Hid (∀ z ∈ splitL 32 y, z.length ≤ 200000) := fun z hz => by
      have := split_piece_len 32 _ y (Nat.le_refl _) z hz
      omega
    generalize splitL 32 y = l at *
    go_wp2_with fail
    refine HSP.out.mono ?_
    rintro e w1 ⟨rfl, hrd, hb1⟩
    have HRD := Lib.hid hrd
    have HB1 := Lib.hid hb1
    obtain ⟨g, hg⟩ : ∃ g, g = wc.heap.size := ⟨_, rfl⟩
    rw [← hg] at HRD ⊢
    have hcp := hrd.2.1
    clear hrd hb1 HSP hg
    go_wp2_with fail
    go_loopw [8, 10, 11, 12, 40] (fun v _ _ _ i wr => ∃ (k : Nat) (ns : List Int), k ≤ l.length ∧ i = .int .i64 (k : Int) ∧ Hid (undL (l.take k) = some ns) ∧ Hid (wr.ownsRow w1.heap.size 3 1 v ns.length (ns.flatMap fun n : Int => [Value.int .i64 n])) ∧ Hid (Below w1.heap.size w1 wr)) (fun _ _ _ _ i _ => l.length - (intOf i).toNat)
    case atStart => exact ⟨0, [], Nat.zero_le _, rfl, rfl, World.ownsRow_nil _ _ _ _, Below.refl _ _⟩
    case round =>
      obtain ⟨k, ns, hk, rfl, HU, HO, HB⟩ := hrel
      have hnl : ns.length ≤ 200001 := by
        have := undL_len HU.out
        rw [List.length_take] at this
        omega
      have HBW : Hid (Below wc.heap.size wc wr) := Below_on HB1.out HB.out HB1.out.size
      by_cases hkl : k < l.length
      · have q1 : (k : Int) < (l.length : Int) := by omega
        obtain ⟨b, o, hbo, _, y0⟩ := (HRD.out.below HB.out).at_ hkl
        obtain ⟨rfl, rfl⟩ : b = g ∧ o = 0 := by simp at hbo; exact ⟨hbo.1.symm, hbo.2.symm⟩
        rw [Nat.zero_add] at y0
        have hzl := HM.out _ (List.getElem_mem hkl)
        have HS : Hid (∀ n, und l[k] = some n → undL (l.take (k + 1)) = some (ns ++ [n])) := fun n hn => undL_take hkl HU.out hn
        have HN : Hid (und l[k] = none → undL l = none) := fun hn => undL_bad hkl hn
        have HAT := Lib.hid (AtoiA_ l[k] wr (HL.out.below (n := wc.heap.size) HBW.out (Nat.le_refl _)) (by omega))
        have HPS := Lib.hid (fun n => numP_some (x := l[k]) (n := n))
        have HPN := Lib.hid (numP_none (x := l[k]))
        generalize l[k]'hkl = x1 at *
        obtain ⟨vA, vc, rfl, hvl, hvc, _, _⟩ := own_form HO.out
        have hszx : (sB x1).size = x1.length := sB_size x1
        have HBAD : Hid (∀ W, und x1 = none → Below wc.heap.size wc W → NuPost wc (numsOf word x) (.returned (.tuple #[.slice none 0 0, .bool false])) W) := fun W hu hb => ⟨none, 0, [], false, rfl, ints_none _ _, hb, by rw [HE.out, HN.out hu]⟩
        go_wp2_with fail
        refine HAT.out.mono ?_
        rintro e w2 ⟨⟨n, v, rfl, hn0, hn1, hcase⟩, hb2⟩
        have HB2 := Lib.hid (Below_on HBW.out hb2 HBW.out.size)
        have HBR2 := Lib.hid (Below_on HB.out hb2 HB.out.size)
        have HO2 : Hid (w2.ownsRow w1.heap.size 3 1 (.slice vA ns.length vc) ns.length (ns.flatMap fun n : Int => [Value.int .i64 n])) := own_below HO.out hb2
        clear hb2 HAT HO y0
        rcases hcase with ⟨rfl, hok⟩ | ⟨⟨t, p, rfl⟩, hno⟩
        · have hu := HPS.out _ hok
          have HUU := Lib.hid hu
          clear hok hu HPN HPS
          by_cases h6 : x1.length ≤ 6
          · have e1 : ¬ (6 : Int) < (x1.length : Int) := by omega
            have HIT := Lib.hid (ItoaI_ n hn0 hn1 w2 (HL.out.below (n := wc.heap.size) HB2.out (Nat.le_refl _)))
            go_wp2_with fail
            refine HIT.out.mono ?_
            rintro e w3 ⟨rfl, hb3⟩
            have HB3 := Lib.hid (Below_on HB2.out hb3 HB2.out.size)
            have HBR3 := Lib.hid (Below_on HBR2.out hb3 HBR2.out.size)
            have HO3 : Hid (w3.ownsRow w1.heap.size 3 1 (.slice vA ns.length vc) ns.length (ns.flatMap fun n : Int => [Value.int .i64 n])) := own_below HO2.out hb3
            clear hb3 HIT HO2
            by_cases hit : Lib.itoa n = x1
            · have e2 : ((sB (Lib.itoa n)).toList == (sB x1).toList) = true := by rw [hit]; simp
              by_cases hneg : n < 0
              · have HP := Lib.hid (HBAD.out w3 (by rw [HUU.out, if_neg (by omega)]) HB3.out)
                clear hit
                go_wp2_with fail
                go_ret2
                exact HP.out
              · have HS2 := Lib.hid (HS.out n (by rw [HUU.out, if_pos ⟨h6, hit, by omega⟩]))
                have HO4 : Hid ((w3.alloc (Obj.cells #[.int .i64 n] 3)).ownsRow w1.heap.size 3 1 (.slice vA ns.length vc) ns.length (ns.flatMap fun n : Int => [Value.int .i64 n])) := own_below HO3.out ((Below.refl _ _).alloc (Nat.le_refl _) _)
                have HRd := Lib.hid (Rd.new w3 #[.int .i64 n] 3)
                have HB4 : Hid (Below wc.heap.size wc (w3.alloc (Obj.cells #[.int .i64 n] 3))) := HB3.out.alloc HB3.out.size _
                have HBR4 : Hid (Below w1.heap.size w1 (w3.alloc (Obj.cells #[.int .i64 n] 3))) := HBR3.out.alloc HBR3.out.size _
                have hsz4 : w1.heap.size ≤ (w3.alloc (Obj.cells #[.int .i64 n] 3)).heap.size := HBR4.out.size
                clear hit HBAD HS HN
                go_wp2_with (at_builtin; refine wpList_app _ rfl (.tmp 66) (.tmp 68) _ rfl w1.heap.size 3 i0 _ 1 8 Tryd.underlying22 hi0 hz0 hz1 hz2 rfl (by decide) (.slice vA ns.length vc) ns.length _ rfl HO4.out (some ⟨w3.heap.size, 0, none⟩) 1 1 [.int .i64 n] rfl rfl HRd.out (by simp [Value.oneCell']) (by simp only [maxLen]; omega) (by omega) hsz4 ?_; intro v2 w2' hown2 hg2 hat2)
                have HP' : Hid (w2'.ownsRow w1.heap.size 3 1 v2 (ns ++ [n]).length ((ns ++ [n]).flatMap fun n : Int => [Value.int .i64 n])) := by
                  show World.ownsRow _ _ _ _ _ _ _
                  rw [List.length_append, List.flatMap_append]
                  exact hown2
                have HB5 := Lib.hid (grownOwn_ HBR4.out hg2 HO4.out (Nat.le_refl _) hsz4)
                clear hown2 hg2 hat2
                go_wp2_with fail
                go_roundw
                case rel => exact ⟨k + 1, ns ++ [n], by omega, by go_num, HS2.out, HP'.out, HB5.out⟩
                case measure => simp [intOf]; omega
            · have e2 : ((sB (Lib.itoa n)).toList == (sB x1).toList) = false := by rw [sB_toList, sB_toList]; simpa using hit
              have HP := Lib.hid (HBAD.out w3 (by rw [HUU.out, if_neg (fun h => hit h.2.1)]) HB3.out)
              clear hit
              go_wp2_with fail
              go_ret2
              exact HP.out
          · have e1 : (6 : Int) < (x1.length : Int) := by omega
            have HP := Lib.hid (HBAD.out w2 (by rw [HUU.out, if_neg (by omega)]) HB2.out)
            go_wp2_with fail
            go_ret2
            exact HP.out
        · have HP := Lib.hid (HBAD.out w2 (HPN.out hno) HB2.out)
          clear hno HPN HPS
          go_wp2_with fail
          go_ret2
          exact HP.out
      · have q1 : ¬ (k : Int) < (l.length : Int) := by omega
        have hkk : l.take k = l := List.take_of_length_le (by omega)
        rw [hkk] at HU
        obtain ⟨vA, vc, rfl, hints⟩ := SlE.of_own (bt := 8) HO.out (by omega)
        have HP : Hid (NuPost wc (numsOf word x) (.returned (.tuple #[.slice vA ns.length vc, .bool true])) wr) := ⟨vA, vc, ns, true, rfl, hints.low HB1.out.size, HBW.out, by rw [HE.out, HU.out]; exact ⟨rfl, rfl⟩⟩
        clear hints hkk
        go_wp2_with fail
        go_ret2
        exact HP.out
end Go.Proofs.YtoglgeaiiipchabDoor
