/- Arguments by their shapes: members, filters. -/
import Derived.Test.YtmjmfollimaleaaPBase
import Derived.Test.YtmjmfollimaleaaFilt5
set_option linter.unusedVariables false
namespace Go.Proofs.Ytmjmfollimaleaa
open Go.RowKit VL

theorem fit_addrs {cs : List AV} (h : FitL [.sl false [.int .u32]] cs) : ∃ l : List Int, l.length ≤ maxLen ∧ mkRow false cs = .sl .none 1 (l.map aI) :=
  fit_slice aI (fun cs h => by obtain ⟨n, _, e⟩ := fit_int h; exact ⟨n, e⟩) h

theorem fit_mem {cs : List AV} (h : FitL [.int .i64, .int .u32, .bool, .sl false [.int .u32]] cs) : ∃ (lk g : Int) (only : Bool) (l : List Int), l.length ≤ maxLen ∧ mkRow true cs = avM ⟨lk, g, only, some l⟩ := by
  simp only [FitL] at h
  obtain ⟨c1, _, rfl, h1, c2, _, rfl, h2, c3, _, rfl, h3, c4, _, rfl, h4, rfl⟩ := h
  obtain ⟨l, hl, e⟩ := fit_addrs (cs := [c4]) (by simp only [FitL]; exact ⟨_, _, rfl, h4, rfl⟩)
  simp only [mkRow, List.headD_cons] at e
  simp only [Fit] at h1 h2 h3
  obtain ⟨n1, rfl, _⟩ := h1
  obtain ⟨n2, rfl, _⟩ := h2
  obtain ⟨b, rfl⟩ := h3
  exact ⟨n1, n2, b, l, hl, by rw [e]; rfl⟩

theorem fit_mems {cs : List AV} (h : FitL [.sl true [.int .i64, .int .u32, .bool, .sl false [.int .u32]]] cs) : ∃ l : List Mem, l.length ≤ maxLen ∧ mkRow false cs = .sl .none 4 (l.map avM) :=
  fit_slice avM (fun cs h => by obtain ⟨lk, g, only, l, _, e⟩ := fit_mem h; exact ⟨_, e⟩) h

theorem fit_flt {cs : List AV} (h : FitL [.bool, .sl false [.int .u32]] cs) : ∃ (any : Bool) (l : List Int), l.length ≤ maxLen ∧ mkRow true cs = flV any (some l) := by
  simp only [FitL] at h
  obtain ⟨c3, _, rfl, h3, c4, _, rfl, h4, rfl⟩ := h
  obtain ⟨l, hl, e⟩ := fit_addrs (cs := [c4]) (by simp only [FitL]; exact ⟨_, _, rfl, h4, rfl⟩)
  simp only [mkRow, List.headD_cons] at e
  simp only [Fit] at h3
  obtain ⟨b, rfl⟩ := h3
  exact ⟨b, l, hl, by rw [e]; rfl⟩

end Go.Proofs.Ytmjmfollimaleaa
