/- A variable with a row of its own, among what rounds may turn. -/
import Derived.RangeFuncBox
import Derived.Test.YtoglgeaiiipchabDoorApp
import Derived.Test.YtoglgeaiiipchabDoorKp
namespace Go.Proofs.YtoglgeaiiipchabDoor
open Go Go.RowKit

theorem box_cell0 {W : World} {F : Nat} {t : TypeId} {v u : Value} (h : Boxed W F t v) {o : Nat} (hc : W.cell? ⟨F, o, none⟩ = some u) : u = v := by
  simp only [World.cell?, show W.heap[F]? = _ from h] at hc
  cases o with
  | zero => simpa using hc.symm
  | succ o => simp at hc
theorem bad_box {Ms : List Nat} {W : World} {F k : Nat} {t : TypeId} {v : Value} (h : Boxed W F t v) : Bad Ms [F] W k ↔ k ∈ Ms ∨ k = F ∨ v.ownBlock = some k := by
  unfold Bad
  refine or_congr Iff.rfl (or_congr List.mem_singleton ⟨?_, fun hv => ?_⟩)
  · rintro ⟨F', hF, o, ad, n, c, hc, rfl⟩
    obtain rfl := List.mem_singleton.1 hF
    rw [← box_cell0 h hc]
    rfl
  · cases v <;> simp only [Value.ownBlock] at hv <;> try (cases hv; done)
    rename_i A n c
    cases A with
    | none => cases hv
    | some ad => exact ⟨F, List.mem_singleton.2 rfl, 0, ad, n, c, h.cell, by simpa [Value.ownBlock] using hv⟩
theorem own_cells {W : World} {base : Nat} {e : TypeId} {size n : Nat} {v : Value} {xs : List Value} (h : W.ownsRow base e size v n xs) {r : Nat} (hr : v.ownBlock = some r) : ∃ ob, W.heap[r]? = some ob ∧ ob.isCells = true := by
  rcases h.2 with ⟨rfl, _⟩ | ⟨g, cap, cur, rfl, _, hg, _⟩
  · cases hr
  · obtain rfl : g = r := by simpa [Value.ownBlock] using hr
    exact ⟨_, hg, rfl⟩
theorem sane_box {Ms : List Nat} {lo : Nat} {W : World} {F n size : Nat} {t e : TypeId} {v : Value} {xs : List Value} (h : Boxed W F t v) (hown : W.ownsRow lo e size v n xs) (hF : lo ≤ F) (hM : ∀ k ∈ Ms, lo ≤ k ∧ k < W.heap.size) : Sane lo Ms [F] W := by
  refine ⟨fun k hk => ?_, fun F' hF' o ad m c hc => ?_⟩
  · rcases (bad_box h).1 hk with h1 | rfl | h1
    · exact hM k h1
    · exact ⟨hF, h.lt⟩
    · exact hown.lt k h1
  · obtain rfl := List.mem_singleton.1 hF'
    exact own_cells hown (by rw [← box_cell0 h hc]; rfl)
/-- a variable with an own row, and some blocks, have been turned -/
theorem off_box {Ms : List Nat} {lo : Nat} {W W' : World} {F n' size : Nat} {t e : TypeId} {v v' : Value} {xs' : List Value} (h : Boxed W F t v) (h' : Boxed W' F t v') (hown' : W'.ownsRow lo e size v' n' xs') (hF : lo ≤ F) (hM : ∀ k ∈ Ms, lo ≤ k ∧ k < W.heap.size)
    (hos : W'.os = W.os) (htape : W'.tape = W.tape) (hout : W'.output = W.output) (hsz : W.heap.size ≤ W'.heap.size)
    (hb : ∀ k, k < W.heap.size → k ∉ Ms → k ≠ F → v.ownBlock ≠ some k → W'.heap[k]? = W.heap[k]?) (hat : v'.ownBlock = v.ownBlock ∨ ∀ r, v'.ownBlock = some r → W.heap.size ≤ r) : Off lo Ms [F] W W' := by
  refine ⟨hos, htape, hout, hsz, fun k hk hn => hb k hk (fun h1 => hn (.inl h1)) (fun h1 => hn (.inr (.inl (by rw [h1]; exact List.mem_singleton.2 rfl)))) (fun h1 => hn ((bad_box h).2 (.inr (.inr h1)))), fun k hk => ?_,
    sane_box h' hown' hF fun k hk => ⟨(hM k hk).1, Nat.lt_of_lt_of_le (hM k hk).2 hsz⟩⟩
  rcases (bad_box h').1 hk with h1 | h1 | h1
  · exact .inl (.inl h1)
  · exact .inl (.inr (.inl (by rw [h1]; exact List.mem_singleton.2 rfl)))
  · rcases hat with h2 | h2
    · exact .inl ((bad_box h).2 (.inr (.inr (by rw [← h2]; exact h1))))
    · exact .inr (h2 k h1)
end Go.Proofs.YtoglgeaiiipchabDoor
