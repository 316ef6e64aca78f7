import Derived.Test.YtlmdpamehhcblaaGreatDoorLib
import Derived.Deep.AppendLies
import Derived.Laws.OwnMore
/- Bricks for lists that a function makes by append (Pt has the same; never import both). -/
namespace Go.Proofs.YtlmdpamehhcblaaGreatDoor
open Go.RowKit

theorem Gr.grown {a w w' : World} {row : Option Nat} (h : Gr a w) (hg : w.grownBy w' row) (hr : ∀ k, row = some k → a.heap.size ≤ k) : Gr a w' :=
  ⟨hg.os.trans h.b.os, hg.tape.trans h.b.tape, hg.output.trans h.b.output, Nat.le_trans h.b.size hg.size, fun k hk => by
    rw [hg.block k (Nat.lt_of_lt_of_le hk h.b.size) (fun e => by have := hr k e.symm; omega)]
    exact h.b.block k hk⟩
theorem owns_gr {w w' : World} {base size n : Nat} {e : TypeId} {v : Value} {xs : List Value} (h : w.ownsRow base e size v n xs) (k : Gr w w') : w'.ownsRow base e size v n xs := by
  refine ⟨h.1, ?_⟩
  rcases h.2 with hn | ⟨g, cap, cur, hv, hb, hg, rest⟩
  · exact .inl hn
  · exact .inr ⟨g, cap, cur, hv, hb, by rw [k.b.block g (Array.getElem?_eq_some_iff.1 hg).1]; exact hg, rest⟩
theorem owns_row_ge {w : World} {base size n : Nat} {e : TypeId} {v : Value} {xs : List Value} (h : w.ownsRow base e size v n xs) : ∀ k, v.ownBlock = some k → base ≤ k := fun k hk => (h.lt k hk).1
theorem owns_base {w : World} {base size n : Nat} {e : TypeId} {v : Value} {xs : List Value} (h : w.ownsRow base e size v n xs) : w.ownsRow 0 e size v n xs := by
  refine ⟨h.1, ?_⟩
  rcases h.2 with hn | ⟨g, cap, cur, hv, _, rest⟩
  · exact .inl hn
  · exact .inr ⟨g, cap, cur, hv, Nat.zero_le _, rest⟩
theorem new1 (w : World) (a : Value) (t : TypeId) : (w.alloc (.cells #[a] t)).cell? ⟨w.heap.size, 0, none⟩ = some a := by
  have h : (w.alloc (.cells #[a] t)).heap[w.heap.size]? = some (.cells #[a] t) := heap_alloc_new w _
  unfold World.cell?; rw [h]; rfl
theorem news1 (w : World) (a : Value) (t : TypeId) : ∀ j u, [a][j]? = some u → (w.alloc (.cells #[a] t)).cell? ((⟨w.heap.size, 0, none⟩ : Addr).add j) = some u := by
  intro j u hj
  have h : (w.alloc (.cells #[a] t)).heap[w.heap.size]? = some (.cells #[a] t) := heap_alloc_new w _
  exact World.news_of_block h j u hj
end Go.Proofs.YtlmdpamehhcblaaGreatDoor
