/- Walks: auto.line. -/
import Derived.Test.YtoglgeaiiipchabDoorBd
import Derived.Test.YtoglgeaiiipchabDoorBRA
import Derived.Test.YtoglgeaiiipchabDoorFld
import Derived.Deep.CutBlock
import Derived.Deep.DeepCutAuto
namespace Go.Proofs.YtoglgeaiiipchabDoor
open Go Go.RowKit Go.Sort

theorem infoStr : (Tryd.prog.info? 9).map (fun i => (i.zero, i.size, i.bytes)) = some (some (.string ByteArray.empty), 1, 16) := by kernel_rfl
/-- a row of strings that the call made -/
def StrOwn (W : World) (base : Nat) (v : Value) (xs : List (List UInt8)) : Prop := W.ownsRow base 9 1 v xs.length (xs.flatMap fun x => [Value.string (sB x)])
theorem strs_oneCell (xs : List (List UInt8)) : ∀ u ∈ xs.flatMap (fun x => [Value.string (sB x)]), u.oneCell' = true := by
  intro u hu
  simp only [List.mem_flatMap, List.mem_singleton] at hu
  obtain ⟨a, _, rfl⟩ := hu
  rfl
theorem StrOwn.nil (W : World) (base : Nat) : StrOwn W base (.slice none 0 0) [] := World.ownsRow_nil _ _ _ _
theorem StrOwn.one (w : World) (x : List UInt8) : StrOwn (w.alloc (Obj.cells #[.string (sB x)] 9)) w.heap.size (.slice (some ⟨w.heap.size, 0, none⟩) 1 1) [x] := by
  refine ⟨rfl, .inr ⟨w.heap.size, 1, #[.string (sB x)], rfl, Nat.le_refl _, ?_, Nat.le_refl _, by simp [maxLen], rfl, rfl⟩⟩
  show (w.heap.push _)[w.heap.size]? = _
  simp
theorem sB_empty (l : List UInt8) : (sB l).toList.isEmpty = l.isEmpty := by rw [Lib.toList_data, sB_list]
def pcs (word : List UInt8) (ns : List Int) : List (List UInt8) := (if word = [] then [] else [word]) ++ ns.map dn
def lineT (word : List UInt8) (ns : List Int) : List UInt8 := Lib.join (pcs word ns) [32] ++ [10]
theorem flat_get (xs : List (List UInt8)) : (xs.flatMap fun x => [Value.string (sB x)]) = xs.map fun x => Value.string (sB x) := by
  induction xs with
  | nil => rfl
  | cons x r ih => rw [List.flatMap_cons, ih]; rfl
theorem join_len : ∀ (xs : List (List UInt8)), (∀ x ∈ xs, x.length ≤ 10) → (Lib.join xs [32]).length ≤ 11 * xs.length
  | [], _ => by simp [Lib.join_nil]
  | [x], h => by rw [Lib.join_one]; have := h x (by simp); simp; omega
  | x :: y :: r, h => by
    have ih := join_len (y :: r) (fun z hz => h z (List.mem_cons_of_mem _ hz))
    have hx := h x (by simp)
    have : Lib.join (x :: y :: r) [32] = x ++ 32 :: Lib.join (y :: r) [32] := by simp [Lib.join, List.intercalate]
    rw [this, List.length_append, List.length_cons]
    simp only [List.length_cons] at ih ⊢
    omega
theorem str_row {W : World} {base : Nat} {v : Value} {xs : List (List UInt8)} (h : StrOwn W base v xs) (h0 : 0 < xs.length) :
    ∃ g vc, v = .slice (some ⟨g, 0, none⟩) xs.length vc ∧ xs.length ≤ vc ∧ g < W.heap.size ∧ ∀ (j : Nat) x, xs[j]? = some x → W.cell? ⟨g, j, none⟩ = some (.string (sB x)) := by
  obtain ⟨A, c, rfl, h1, h2, h3, h4⟩ := own_form h
  rcases h.2 with ⟨h5, h6⟩ | ⟨g, cap, cur, h5, _⟩
  · omega
  · obtain ⟨rfl, rfl⟩ : A = some ⟨g, 0, none⟩ ∧ c = cap := by simpa using h5
    rw [flat_get] at h3
    obtain ⟨b, off, hA, _, hb, hc⟩ := h3 (by intro e; have := congrArg List.length e; simp at this; rw [this] at h0; simp at h0)
    simp at hA
    obtain ⟨rfl, rfl⟩ := hA
    refine ⟨_, c, rfl, h1, hb, fun j x hx => ?_⟩
    have := hc j (.string (sB x)) (by rw [List.getElem?_map, hx]; rfl)
    rwa [Nat.zero_add] at this
set_option maxRecDepth 100000 in
set_option maxHeartbeats 2000000 in
theorem line_ (word : List UInt8) (A : Option Addr) (c : Nat) (ns : List Int) (w : World) (hL : LaidOK w) (hx : Ints w 0 A c ns) (hn : ∀ n ∈ ns, 0 ≤ n ∧ n ≤ 999999) (hl : ns.length ≤ 1000) (hw : word.length ≤ 10) (hne : word ≠ [] ∨ ns ≠ []) :
    Calls Tryd.prog 19 #[.string (sB word), .slice A ns.length c] w fun e w' => e = .returned (.string (sB (lineT word ns))) ∧ Below w.heap.size w w' := by
  obtain ⟨i0, hi0, hz0, hz1, hz2⟩ := info_parts infoStr
  have HL := Lib.hid hL
  have HX := Lib.hid hx
  have HN := Lib.hid hn
  have hle := hx.le
  have hcp := hx.cap
  have HW := Lib.hid hw
  have HNE := Lib.hid hne
  clear hL hx hn hw hne
  go_enter Tryd.func19, Tryd.ntmps19
  go_upto_if 11 with fail
  go_cut [5] (fun s5 wx => StrOwn wx w.heap.size s5 (pcs word []) ∧ Hid (Below w.heap.size w wx))
  case first =>
    have h1 := StrOwn.one w word
    have h0 := StrOwn.nil (w.alloc (Obj.cells #[.string (sB word)] 9)) w.heap.size
    have hb : Hid (Below w.heap.size w (w.alloc (Obj.cells #[.string (sB word)] 9))) := (Below.refl _ _).alloc (Nat.le_refl _) _
    by_cases hwd : word = []
    · have e1 : (sB word).toList.isEmpty = true := by rw [sB_empty, hwd]; rfl
      have HP : Hid (StrOwn (w.alloc (Obj.cells #[.string (sB word)] 9)) w.heap.size (.slice none 0 0) (pcs word [])) := by unfold Hid pcs; rw [if_pos hwd]; exact h0
      clear h1 h0 hwd
      rw [e1]
      go_wp2_with fail
      go_meet
      exact ⟨HP.out, hb⟩
    · have e1 : (sB word).toList.isEmpty = false := by rw [sB_empty]; simp [hwd]
      have HP : Hid (StrOwn (w.alloc (Obj.cells #[.string (sB word)] 9)) w.heap.size (.slice (some ⟨w.heap.size, 0, none⟩) 1 1) (pcs word [])) := by unfold Hid pcs; rw [if_neg hwd]; exact h1
      clear h1 h0 hwd
      rw [e1]
      go_wp2_with fail
      go_meet
      exact ⟨HP.out, hb⟩
  case rest =>
    obtain ⟨hown, HB⟩ := hcut
    have HO := Lib.hid hown
    clear hown
    go_wp2_with fail
    go_loopw [5, 7, 14] (fun v _ i wr => ∃ k : Nat, k ≤ ns.length ∧ i = .int .i64 (k : Int) ∧ Hid (StrOwn wr w.heap.size v (pcs word (ns.take k))) ∧ Hid (Below w.heap.size w wr)) (fun _ _ i _ => ns.length - (intOf i).toNat)
    case atStart => exact ⟨0, Nat.zero_le _, rfl, HO.out, HB.out⟩
    case round =>
      obtain ⟨k, hk, rfl, HO2, HB2⟩ := hrel
      clear HO
      by_cases hkl : k < ns.length
      · have q1 : (k : Int) < (ns.length : Int) := by omega
        obtain ⟨b, o, rfl, _, _, y1⟩ := Ints.at_ (HX.out.below HB2.out) hkl
        have hr := HN.out _ (List.getElem_mem hkl)
        have HT : Hid (pcs word (ns.take (k + 1)) = pcs word (ns.take k) ++ [dn ns[k]]) := by
          show _ = _
          unfold pcs
          rw [List.take_succ_eq_append_getElem hkl, List.map_append, List.append_assoc]
          rfl
        have hpl : (pcs word (ns.take k)).length ≤ 1001 := by
          unfold pcs
          rw [List.length_append, List.length_map, List.length_take]
          split <;> simp <;> omega
        obtain ⟨n, hnn⟩ : ∃ n, n = ns[k] := ⟨_, rfl⟩
        rw [← hnn] at y1 hr HT
        clear hnn
        generalize pcs word (ns.take k) = ps at *
        have HI := Lib.hid (fun W hW => ItoaN_ n hr.1 hr.2 W (HL.out.below (n := w.heap.size) (Below_on HB2.out hW HB2.out.size) (Nat.le_refl _)))
        obtain ⟨vA, vc, rfl, hvl, hvc, _, _⟩ := own_form HO2.out
        go_wp2_with fail
        refine (HI.out wr (Below.refl _ _)).mono ?_
        rintro e w1 ⟨rfl, hb1⟩
        have HB3 := Lib.hid (Below_on HB2.out hb1 HB2.out.size)
        have HO3 : Hid (StrOwn (w1.alloc (Obj.cells #[.string (sB (dn n))] 9)) w.heap.size (.slice vA ps.length vc) ps) := own_below (own_below HO2.out hb1) ((Below.refl _ _).alloc (Nat.le_refl _) _)
        have HR := Lib.hid (Rd.new w1 #[.string (sB (dn n))] 9)
        have HB4 : Hid (Below w.heap.size w (w1.alloc (Obj.cells #[.string (sB (dn n))] 9))) := HB3.out.alloc HB3.out.size _
        have hsz4 : w.heap.size ≤ (w1.alloc (Obj.cells #[.string (sB (dn n))] 9)).heap.size := HB4.out.size
        clear hb1 HI y1
        go_wp2_with (at_builtin; refine wpList_app _ rfl (.tmp 18) (.tmp 21) _ rfl w.heap.size 9 i0 _ 1 16 Tryd.underlying68 hi0 hz0 hz1 hz2 rfl (by decide) (.slice vA ps.length vc) ps.length _ rfl HO3.out (some ⟨w1.heap.size, 0, none⟩) 1 1 [.string (sB (dn n))] rfl rfl HR.out (by simp [Value.oneCell']) (by simp only [maxLen]; omega) (by omega) hsz4 ?_; intro v2 w2 hown2 hg2 hat2)
        have HP : Hid (StrOwn w2 w.heap.size v2 (pcs word (ns.take (k + 1)))) := by
          show StrOwn _ _ _ _
          rw [HT.out]
          unfold StrOwn
          rw [List.length_append, List.flatMap_append]
          exact hown2
        have HB5 := Lib.hid (grownOwn_ HB4.out hg2 HO3.out (Nat.le_refl _) hsz4)
        clear hown2 hg2 hat2
        go_wp2_with fail
        go_roundw
        case rel => exact ⟨k + 1, by omega, by go_num, HP.out, HB5.out⟩
        case measure => simp [intOf]; omega
      · have q1 : ¬ (k : Int) < (ns.length : Int) := by omega
        have hkk : ns.take k = ns := List.take_of_length_le (by omega)
        rw [hkk] at HO2
        clear hkk
        have hpn : 0 < (pcs word ns).length := by
          unfold pcs
          rw [List.length_append, List.length_map]
          rcases HNE.out with h | h
          · rw [if_neg h]; simp; omega
          · have := List.length_pos_iff.2 h; omega
        have hpl : (pcs word ns).length ≤ 1001 := by
          unfold pcs
          rw [List.length_append, List.length_map]
          split <;> simp <;> omega
        have hjl : (Lib.join (pcs word ns) [32]).length ≤ 20000 := by
          have := join_len (pcs word ns) (fun x hx => by
            unfold pcs at hx
            rcases List.mem_append.1 hx with h | h
            · split at h
              · cases h
              · rw [List.mem_singleton.1 h]; exact HW.out
            · obtain ⟨n, h1, rfl⟩ := List.mem_map.1 h
              have := HN.out n h1
              have := decDigits_len6 (n := n.toNat) (by omega)
              unfold dn
              omega)
          omega
        have HF : Hid (Lib.join (pcs word ns) [32] ++ [10] = lineT word ns) := rfl
        have hzl : ¬ 9223372036854775807 < (sB (Lib.join (pcs word ns) [32])).size + 1 := by rw [sB_size]; omega
        have HBW := Lib.hid (HL.out.below (n := w.heap.size) HB2.out (Nat.le_refl _))
        obtain ⟨g, vc, hv, hvl, hg, hcells⟩ := str_row HO2.out hpn
        subst hv
        have HJ := Lib.hid (Tryd.strings_Join g 0 vc ((pcs word ns).map sB) (sB [32]) wr (fun j x hx => by
          obtain ⟨y, hy, rfl⟩ := List.getElem?_map .. ▸ hx |> fun h => (by rw [List.getElem?_map] at hx; exact Option.map_eq_some_iff.1 hx : ∃ y, (pcs word ns)[j]? = some y ∧ sB y = x)
          rw [Nat.zero_add]; exact hcells j y hy) hg (by rw [List.length_map]; omega) (by rw [List.length_map]; exact hvl) (by rw [List.map_map]; simp only [Function.comp_def, sB_list, List.map_id']; omega))
        rw [List.map_map] at HJ
        simp only [Function.comp_def, sB_list, List.map_id', List.length_map] at HJ
        generalize hjj : Lib.join (pcs word ns) [32] = J at *
        have HJ2 : Hid (Calls Tryd.prog 40 #[.slice (some ⟨g, 0, none⟩) (pcs word ns).length vc, .string ⟨#[32]⟩] wr fun e w' => e = .returned (.string (sB J)) ∧ Below wr.heap.size wr w') := HJ
        clear HJ hjj hcells HO2
        go_wp2_with fail
        refine HJ2.out.mono ?_
        rintro e w3 ⟨rfl, hb3⟩
        have HB3 := Lib.hid (Below_on HB2.out hb3 HB2.out.size)
        clear hb3
        go_wp2_with fail
        go_ret
        exact ⟨by show Ending.returned (.string (sB J ++ sB [10])) = _; rw [sB_app, HF.out], HB3.out⟩
end Go.Proofs.YtoglgeaiiipchabDoor
