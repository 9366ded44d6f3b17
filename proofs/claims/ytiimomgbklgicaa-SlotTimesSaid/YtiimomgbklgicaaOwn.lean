import Derived.Test.YtiimomgbklgicaaSl
import Derived.Test.YtiimomgbklgicaaOps
/- Rows of the call's own. -/
set_option linter.unusedVariables false
namespace Go.VB
open Go.RowKit
theorem own_new {w : World} {e : TypeId} {size n : Nat} {l : List Value} (hl : l.length = n * size) (hn : n ≤ maxLen) : (w.alloc (.cells l.toArray e)).ownsRow 0 e size (.slice (some ⟨w.heap.size, 0, none⟩) n n) n l :=
  ⟨hl, .inr ⟨w.heap.size, n, l.toArray, rfl, Nat.zero_le _, heap_alloc_new w _, Nat.le_refl _, hn, by simpa using hl, by rw [List.toList_toArray, ← hl, List.take_length]⟩⟩
theorem own_nil {w : World} {e : TypeId} {size : Nat} : w.ownsRow 0 e size (.slice none 0 0) 0 [] := ⟨by simp, .inl ⟨rfl, rfl⟩⟩
theorem own_fr {S : Nat → Prop} {w w' : World} {e : TypeId} {size n : Nat} {v : Value} {xs : List Value} (h : w.ownsRow 0 e size v n xs) (hf : Fr S w w') (hS : ∀ k, v.ownBlock = some k → ¬ S k) : w'.ownsRow 0 e size v n xs := by
  refine ⟨h.1, ?_⟩
  rcases h.2 with hn | ⟨g, cap, cur, rfl, hb, hgg, rest⟩
  · exact .inl hn
  · exact .inr ⟨g, cap, cur, rfl, hb, by rw [hf.blk g (Array.getElem?_eq_some_iff.1 hgg).1 (hS g rfl)]; exact hgg, rest⟩
theorem own_sl {R : Nat → Prop} {w : World} {e : TypeId} {size n : Nat} {v : Value} {xs : List Value} (h : w.ownsRow 0 e size v n xs) (hR : ∀ k, v.ownBlock = some k → R k) : Sl R w v n xs := by
  rcases h.2 with ⟨rfl, rfl⟩ | ⟨g, cap, cur, rfl, hb, hgg, h1, h2, h3, h4⟩
  · have : xs = [] := List.eq_nil_of_length_eq_zero (by simpa using h.1)
    exact ⟨none, 0, rfl, Nat.le_refl _, fun hne => absurd this hne⟩
  · refine ⟨some ⟨g, 0, none⟩, cap, rfl, h1, fun _ => ⟨g, 0, rfl, hR g rfl, ?_⟩⟩
    have hB : Blk w g cur.toList e := by unfold Blk; simpa using hgg
    have e1 : cur.toList = [] ++ xs ++ cur.toList.drop (n * size) := by
      rw [List.nil_append]
      conv => lhs; rw [← List.take_append_drop (n * size) cur.toList, h4]
    exact hB.range [] xs (cur.toList.drop (n * size)) e1
theorem own_lt {w : World} {e : TypeId} {size n k : Nat} {v : Value} {xs : List Value} (h : w.ownsRow 0 e size v n xs) (hk : v.ownBlock = some k) : k < w.heap.size := by
  rcases h.2 with ⟨rfl, rfl⟩ | ⟨g, cap, cur, rfl, hb, hgg, h1, h2, h3, h4⟩
  · simp [Value.ownBlock] at hk
  · simp [Value.ownBlock] at hk; subst hk
    exact (Array.getElem?_eq_some_iff.1 hgg).1
theorem own_slice {w : World} {e : TypeId} {size n : Nat} {v : Value} {xs : List Value} (h : w.ownsRow 0 e size v n xs) : ∃ a c, v = .slice a n c ∧ n ≤ c := by
  rcases h.2 with ⟨rfl, rfl⟩ | ⟨g, cap, cur, rfl, hb, hgg, h1, h2, h3, h4⟩
  · exact ⟨none, 0, rfl, Nat.le_refl _⟩
  · exact ⟨_, cap, rfl, h1⟩
end Go.VB
