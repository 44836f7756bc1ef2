/- BifIs: the runs. -/
import Derived.Test.YtkmjbiabhpfbpaaGreatDoorBif1
namespace Go.Proofs.YtkmjbiabhpfbpaaGreatDoor.Bif
open Go Go.Ae Go.Proofs Go.RowKit
set_option maxRecDepth 100000

theorem known_run : tellsTrue (@callA noAsk Tryz.prog noSum 100 4 #[] (bare 1000)) = true := by kernel_rfl

theorem long_run : tellsTrue (@callA (askT (T false true false)) Tryz.prog (trueSum 4) 100 3 #[.chan (some 0), .chan (some 1)] (bare 1000)) = true := by kernel_rfl
theorem other_runs : shortRuns true (.chan (some 0)) = true := by kernel_rfl
theorem name_run0 : shortRuns false (.string ⟨#[97, 98, 115]⟩) = true := by kernel_rfl
theorem name_run1 : shortRuns false (.string ⟨#[102, 108, 111, 97, 116]⟩) = true := by kernel_rfl
theorem name_run2 : shortRuns false (.string ⟨#[116, 114, 117, 110, 99]⟩) = true := by kernel_rfl
theorem name_run3 : shortRuns false (.string ⟨#[114, 111, 117, 110, 100]⟩) = true := by kernel_rfl
theorem name_run4 : shortRuns false (.string ⟨#[102, 108, 111, 111, 114]⟩) = true := by kernel_rfl
theorem name_run5 : shortRuns false (.string ⟨#[99, 101, 105, 108]⟩) = true := by kernel_rfl
theorem name_run6 : shortRuns false (.string ⟨#[104, 100]⟩) = true := by kernel_rfl
theorem name_run7 : shortRuns false (.string ⟨#[116, 108]⟩) = true := by kernel_rfl
theorem name_run8 : shortRuns false (.string ⟨#[108, 101, 110, 103, 116, 104]⟩) = true := by kernel_rfl
theorem name_run9 : shortRuns false (.string ⟨#[116, 117, 112, 108, 101, 95, 115, 105, 122, 101]⟩) = true := by kernel_rfl
theorem name_run10 : shortRuns false (.string ⟨#[101, 108, 101, 109, 101, 110, 116]⟩) = true := by kernel_rfl
theorem name_run11 : shortRuns false (.string ⟨#[105, 115, 95, 102, 117, 110, 99, 116, 105, 111, 110]⟩) = true := by kernel_rfl
theorem name_run12 : shortRuns false (.string ⟨#[109, 105, 110]⟩) = true := by kernel_rfl
theorem name_run13 : shortRuns false (.string ⟨#[109, 97, 120]⟩) = true := by kernel_rfl
theorem name_run14 : shortRuns false (.string ⟨#[105, 115, 95, 97, 116, 111, 109]⟩) = true := by kernel_rfl
theorem name_run15 : shortRuns false (.string ⟨#[105, 115, 95, 105, 110, 116, 101, 103, 101, 114]⟩) = true := by kernel_rfl
theorem name_run16 : shortRuns false (.string ⟨#[105, 115, 95, 102, 108, 111, 97, 116]⟩) = true := by kernel_rfl
theorem name_run17 : shortRuns false (.string ⟨#[105, 115, 95, 110, 117, 109, 98, 101, 114]⟩) = true := by kernel_rfl
theorem name_run18 : shortRuns false (.string ⟨#[105, 115, 95, 108, 105, 115, 116]⟩) = true := by kernel_rfl
theorem name_run19 : shortRuns false (.string ⟨#[105, 115, 95, 116, 117, 112, 108, 101]⟩) = true := by kernel_rfl
theorem name_run20 : shortRuns false (.string ⟨#[105, 115, 95, 112, 105, 100]⟩) = true := by kernel_rfl
theorem name_run21 : shortRuns false (.string ⟨#[105, 115, 95, 114, 101, 102, 101, 114, 101, 110, 99, 101]⟩) = true := by kernel_rfl
theorem name_run22 : shortRuns false (.string ⟨#[105, 115, 95, 98, 111, 111, 108, 101, 97, 110]⟩) = true := by kernel_rfl
theorem name_run23 : shortRuns false (.string ⟨#[115, 101, 116, 101, 108, 101, 109, 101, 110, 116]⟩) = true := by kernel_rfl
theorem name_run24 : shortRuns false (.string ⟨#[116, 117, 112, 108, 101, 95, 116, 111, 95, 108, 105, 115, 116]⟩) = true := by kernel_rfl
theorem name_run25 : shortRuns false (.string ⟨#[108, 105, 115, 116, 95, 116, 111, 95, 116, 117, 112, 108, 101]⟩) = true := by kernel_rfl
theorem name_run26 : shortRuns false (.string ⟨#[97, 116, 111, 109, 95, 116, 111, 95, 108, 105, 115, 116]⟩) = true := by kernel_rfl
theorem name_run27 : shortRuns false (.string ⟨#[108, 105, 115, 116, 95, 116, 111, 95, 97, 116, 111, 109]⟩) = true := by kernel_rfl
theorem name_run28 : shortRuns false (.string ⟨#[105, 110, 116, 101, 103, 101, 114, 95, 116, 111, 95, 108, 105, 115, 116]⟩) = true := by kernel_rfl
theorem name_run29 : shortRuns false (.string ⟨#[108, 105, 115, 116, 95, 116, 111, 95, 105, 110, 116, 101, 103, 101, 114]⟩) = true := by kernel_rfl
theorem name_run30 : shortRuns false (.string ⟨#[102, 108, 111, 97, 116, 95, 116, 111, 95, 108, 105, 115, 116]⟩) = true := by kernel_rfl
theorem name_run31 : shortRuns false (.string ⟨#[98, 105, 116, 115]⟩) = true := by kernel_rfl
theorem name_run32 : shortRuns false (.string ⟨#[114, 101, 118, 101, 114, 115, 101]⟩) = true := by kernel_rfl
theorem name_run33 : shortRuns false (.string ⟨#[115, 111, 114, 116]⟩) = true := by kernel_rfl
theorem name_run34 : shortRuns false (.string ⟨#[109, 101, 109, 98, 101, 114]⟩) = true := by kernel_rfl
theorem name_run35 : shortRuns false (.string ⟨#[110, 116, 104]⟩) = true := by kernel_rfl
theorem name_run36 : shortRuns false (.string ⟨#[115, 105, 122, 101]⟩) = true := by kernel_rfl
theorem name_runs : ∀ s ∈ names, shortRuns false (.string s) = true := by
  intro s hs
  simp only [names, List.mem_cons, List.not_mem_nil, or_false] at hs
  rcases hs with rfl | rfl | rfl | rfl | rfl | rfl | rfl | rfl | rfl | rfl | rfl | rfl | rfl | rfl | rfl | rfl | rfl | rfl | rfl | rfl | rfl | rfl | rfl | rfl | rfl | rfl | rfl | rfl | rfl | rfl | rfl | rfl | rfl | rfl | rfl | rfl | rfl
  · exact name_run0
  · exact name_run1
  · exact name_run2
  · exact name_run3
  · exact name_run4
  · exact name_run5
  · exact name_run6
  · exact name_run7
  · exact name_run8
  · exact name_run9
  · exact name_run10
  · exact name_run11
  · exact name_run12
  · exact name_run13
  · exact name_run14
  · exact name_run15
  · exact name_run16
  · exact name_run17
  · exact name_run18
  · exact name_run19
  · exact name_run20
  · exact name_run21
  · exact name_run22
  · exact name_run23
  · exact name_run24
  · exact name_run25
  · exact name_run26
  · exact name_run27
  · exact name_run28
  · exact name_run29
  · exact name_run30
  · exact name_run31
  · exact name_run32
  · exact name_run33
  · exact name_run34
  · exact name_run35
  · exact name_run36

end Go.Proofs.YtkmjbiabhpfbpaaGreatDoor.Bif
