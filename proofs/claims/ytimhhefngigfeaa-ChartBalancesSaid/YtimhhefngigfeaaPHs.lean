/- Chart: entries that come in. Conditions: none here. -/
import Derived.Test.YtimhhefngigfeaaPHx
set_option linter.unusedVariables false
set_option linter.unusedSimpArgs false
namespace Go.Proofs.Ytimhhefngigfeaa.Wide
open Go Go.RowKit Go.Proofs.Ytimhhefngigfeaa.Vm
abbrev LSh : List Sh := [.int .i64, .int .i64, .int .i64, .int .u64, .int .i64]
abbrev entry (dd : List (List D)) (i : Nat) : List (List D) := (nth d0 (nth [] dd i) 0).toL
theorem line_wl {r : List D} (h : ∀ (j : Nat) (sh : Sh), LSh[j]? = some sh → DOk sh (nth d0 r j)) : wl [(nth d0 r 0).toI, (nth d0 r 1).toI, (nth d0 r 2).toI, (nth d0 r 3).toI, (nth d0 r 4).toI] := by
  have h2 := h 2 (.int .i64) rfl
  have h3 := h 3 (.int .u64) rfl
  refine ⟨?_, ?_⟩
  · show I64 (nth d0 r 2).toI
    generalize nth d0 r 2 = d at h2 ⊢
    cases h2 with | int _ x hx => exact wfI64 hx
  · show Word (nth d0 r 3).toI
    generalize nth d0 r 3 = d at h3 ⊢
    cases h3 with | int _ x hx => exact wfU64 hx
theorem entry_wl {dd : List (List D)} (h : DOk (.sl [.sl LSh]) (.l dd)) {i : Nat} (hi : i < dd.length) : WL (asQ (entry dd i)) := by
  cases h with
  | sl _ _ hn hr h =>
    have h1 := h i 0 dd[i] (.sl LSh) (List.getElem?_eq_getElem hi) rfl
    intro x hx
    unfold entry at hx
    rw [nth_lt [] hi] at hx
    generalize nth d0 dd[i] 0 = d at h1 hx
    cases h1 with
    | sl _ xs hn' hr' h' =>
      obtain ⟨r, hr1, rfl⟩ := List.mem_map.1 hx
      obtain ⟨j, hj, rfl⟩ := List.getElem_of_mem hr1
      exact line_wl fun jj sh hjj => h' j jj _ sh (List.getElem?_eq_getElem hj) hjj
theorem entry_fit {dd : List (List D)} (h : DFit reachBytes (.sl [.sl LSh]) (.l dd)) {i : Nat} (hi : i < dd.length) : (entry dd i).length * 40 ≤ 140737488351232 := by
  cases h with
  | sl _ _ hn h =>
    have h1 := h i 0 dd[i] (.sl LSh) (List.getElem?_eq_getElem hi) rfl
    unfold entry
    rw [nth_lt [] hi]
    generalize nth d0 dd[i] 0 = d at h1 ⊢
    cases h1 with
    | sl _ xs hn' h' => exact hn'
theorem asQ_len (L : List (List D)) : (asQ L).length = L.length := List.length_map _
end Go.Proofs.Ytimhhefngigfeaa.Wide
