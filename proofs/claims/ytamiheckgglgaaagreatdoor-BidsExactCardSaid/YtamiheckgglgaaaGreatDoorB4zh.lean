/-
  A part of a proof: see the last text of this claim for what is proved.
-/
import Derived.Test.YtamiheckgglgaaaGreatDoorB4z
import Derived.Test.YtamiheckgglgaaaGreatDoorPN
/-! BidsExact: the shapes of its arguments -/
namespace Go.AM
open Go Go.Proofs
set_option linter.unusedVariables false
abbrev shBid : Sh := .st [.int .i64, .int .i64, .int .i64, .int .i64, .bool]
abbrev shBids : Sh := .sl shBid
theorem bid_of {cs : List PV} (h : HasSh shBid cs) : ∃ x : Bid, boxSh shBid cs = bidV x := by
  obtain ⟨_, _, rfl, h1, h⟩ := h.cons_inv
  obtain ⟨_, _, rfl, h2, h⟩ := h.cons_inv
  obtain ⟨_, _, rfl, h3, h⟩ := h.cons_inv
  obtain ⟨_, _, rfl, h4, h⟩ := h.cons_inv
  obtain ⟨_, _, rfl, h5, h⟩ := h.cons_inv
  obtain rfl := h.nil_inv
  obtain ⟨n1, rfl, _⟩ := h1.i64_inv
  obtain ⟨n2, rfl, _⟩ := h2.i64_inv
  obtain ⟨n3, rfl, _⟩ := h3.i64_inv
  obtain ⟨n4, rfl, _⟩ := h4.i64_inv
  obtain ⟨b5, rfl⟩ := h5.bool_inv
  exact ⟨⟨n1, n2, n3, n4, b5⟩, rfl⟩
theorem bidl_of : ∀ {es : List PV}, (∀ x, x ∈ es → ∃ ds, x = boxSh shBid ds ∧ HasSh shBid ds) → ∃ l : List Bid, es = l.map bidV
  | [], _ => ⟨[], rfl⟩
  | e :: r, h => by
    obtain ⟨ds, rfl, hd⟩ := h e List.mem_cons_self
    obtain ⟨x, hx⟩ := bid_of hd
    obtain ⟨l, rfl⟩ := bidl_of (es := r) (fun y hy => h y (List.mem_cons_of_mem _ hy))
    exact ⟨x :: l, by rw [hx]; rfl⟩
theorem bids_of {cs : List PV} (h : HasSh shBids cs) : ∃ l : List Bid, boxSh shBids cs = .sl (l.map bidV) := by
  obtain ⟨es, rfl, hl, hall⟩ := h.sl_inv
  obtain ⟨l, rfl⟩ := bidl_of hall
  exact ⟨l, rfl⟩
end Go.AM
