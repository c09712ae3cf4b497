/- Walks: the reference's Digits. -/
import Derived.Test.YtoglgeaiiipchabDoorBd
import Derived.Laws.IdiomStrings
namespace Go.Proofs.YtoglgeaiiipchabDoor
open Go Go.RowKit

theorem convD1 (w : World) (n : Int) : (convert 44 9 (.slice (some ⟨w.heap.size, 0, none⟩) 1 1)).run Tryd.prog (w.alloc (Obj.cells #[.int .u8 n] 5)) = .ok (.string (sB [UInt8.ofNat n.toNat])) (w.alloc (Obj.cells #[.int .u8 n] 5)) := by
  rw [run_convert_bytes_string _ 44 9 5 _ 1 1 Tryd.underlying44 Tryd.underlying5 Tryd.underlying9]
  have hl := run_loadCells_list (P := Tryd.prog) (w.alloc (Obj.cells #[.int .u8 n] 5)) ⟨w.heap.size, 0, none⟩ [Value.int .u8 n] (fun j v hj => by
    have hj' : j < 1 := by
      have := (List.getElem?_eq_some_iff.1 hj).1
      simpa using this
    obtain rfl : j = 0 := by omega
    simp at hj
    rw [Addr_add_off, ← hj]
    go_simp)
  rw [run_bytesToString _ _ 1 1 [n] hl]
  rfl
set_option maxRecDepth 100000 in
theorem Digits0_ (n : Nat) (hn : n ≤ 9) (w : World) : Calls Tryd.prog 25 #[.int .i64 n] w fun e w' => e = .returned (.string (sB (Lib.decDigits n))) ∧ Below w.heap.size w w' := by
  have hcv := convD1
  have hd : Lib.decDigits n = [UInt8.ofNat (48 + n)] := Lib.decDigits_one (by omega)
  rw [hd]
  clear hd
  go_enter Tryd.func25, Tryd.ntmps25
  have h : n = 0 ∨ n = 1 ∨ n = 2 ∨ n = 3 ∨ n = 4 ∨ n = 5 ∨ n = 6 ∨ n = 7 ∨ n = 8 ∨ n = 9 := by omega
  rcases h with rfl | rfl | rfl | rfl | rfl | rfl | rfl | rfl | rfl | rfl
  all_goals
    go_wp2_with fail
    go_ret
    exact ⟨by rfl, by go_grown⟩
set_option maxRecDepth 100000 in
theorem DigitsN_ (n : Nat) : n ≤ 999999 → ∀ w : World, Calls Tryd.prog 25 #[.int .i64 n] w fun e w' => e = .returned (.string (sB (Lib.decDigits n))) ∧ Below w.heap.size w w' := by
  induction n using Nat.strongRecOn with
  | _ n ih =>
    intro hn w
    by_cases h9 : n ≤ 9
    · exact Digits0_ n h9 w
    · have HI := Lib.hid (ih (n / 10) (by omega) (by omega))
      have HJ := Lib.hid (Digits0_ (n % 10) (by omega))
      have hd : Lib.decDigits n = Lib.decDigits (n / 10) ++ Lib.decDigits (n % 10) := by
        rw [Lib.decDigits, dif_neg (by omega), Lib.decDigits_one (show n % 10 < 10 by omega)]
      have l1 := decDigits_len6 (n := n / 10) (by omega)
      have l2 := decDigits_len6 (n := n % 10) (by omega)
      have hz : ¬ 9223372036854775807 < (sB (Lib.decDigits (n / 10))).size + (sB (Lib.decDigits (n % 10))).size := by rw [sB_size, sB_size]; omega
      have HP : Hid (sB (Lib.decDigits (n / 10)) ++ sB (Lib.decDigits (n % 10)) = sB (Lib.decDigits n)) := by show _ = _; rw [hd, sB_app]
      have q1 : ¬ (n : Int) < 10 := by omega
      have d1 : (n : Int).tdiv 10 = ((n / 10 : Nat) : Int) := by rw [Int.tdiv_eq_ediv_of_nonneg (by omega)]; omega
      have d2 : (n : Int).tmod 10 = ((n % 10 : Nat) : Int) := by rw [Int.tmod_eq_emod_of_nonneg (by omega)]; omega
      clear ih hd l1 l2 h9
      generalize sB (Lib.decDigits (n / 10)) = S1 at *
      generalize sB (Lib.decDigits (n % 10)) = S2 at *
      generalize sB (Lib.decDigits n) = S3 at *
      go_enter Tryd.func25, Tryd.ntmps25
      go_wp2_with fail
      refine (HI.out w).mono ?_
      rintro e w1 ⟨rfl, hb1⟩
      have HB1 := Lib.hid hb1
      clear hb1
      go_wp2_with fail
      refine (HJ.out w1).mono ?_
      rintro e w2 ⟨rfl, hb2⟩
      have HB2 := Lib.hid (Below_on HB1.out hb2 HB1.out.size)
      clear hb2
      go_wp2_with fail
      go_ret
      exact ⟨by show Ending.returned (.string _) = _; first | rfl | rw [HP.out], HB2.out⟩
theorem Digits_ (n : Int) (h0 : 0 ≤ n) (h1 : n ≤ 999999) (w : World) : Calls Tryd.prog 25 #[.int .i64 n] w fun e w' => e = .returned (.string (sB (dn n))) ∧ Below w.heap.size w w' := by
  have := DigitsN_ n.toNat (by omega) w
  rwa [show ((n.toNat : Nat) : Int) = n by omega] at this
end Go.Proofs.YtoglgeaiiipchabDoor
