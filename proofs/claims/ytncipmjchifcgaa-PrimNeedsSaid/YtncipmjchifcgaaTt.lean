/- The table of the types, as far as the abstract machine asks: each row is held against the program by the kernel. -/
import Derived.Test.YtncipmjchifcgaaVam26
import Derived.Test.YtncipmjchifcgaaProg
import Derived.KernelRfl
set_option linter.unusedVariables false
set_option linter.unusedSimpArgs false
namespace Go.Proofs.Ytncipmjchifcgaa
open Go.Vam
def ty2 : TyI := { ag := false, n := 1, bytes := 8, zero := [.c (.sc (.int .i64 0))] }
def ty3 : TyI := { ag := false, n := 1, bytes := 8, zero := [.c (.sc (.int .i64 0))] }
def ty4 : TyI := { ag := false, n := 1, bytes := 1, bl := true, zero := [.c (.sc (.bool false))] }
def ty5 : TyI := { ag := false, n := 1, bytes := 1, zero := [.c (.sc (.int .u8 0))] }
def ty9 : TyI := { ag := false, n := 1, bytes := 16, str := true, zero := [.c (.sc (.string ⟨#[]⟩))] }
def ty21 : TyI := { ag := false, n := 1, bytes := 4, zero := [.c (.sc (.int .i32 0))] }
def ty22 : TyI := { ag := false, n := 1, bytes := 24, sl := some 32, zero := [.nil] }
def ty28 : TyI := { ag := false, n := 1, bytes := 24, sl := some 9, zero := [.nil] }
def ty30 : TyI := { ag := true, n := 3, bytes := 56, fs := [(0, 3, 1, false), (1, 28, 1, false), (2, 28, 1, false)], zero := [.c (.sc (.int .i64 0)), .nil, .nil] }
def ty32 : TyI := { ag := true, n := 6, bytes := 96, fs := [(0, 3, 1, false), (1, 9, 1, false), (2, 9, 1, false), (3, 30, 3, true)], zero := [.c (.sc (.int .i64 0)), .c (.sc (.string ⟨#[]⟩)), .c (.sc (.string ⟨#[]⟩)), .c (.sc (.int .i64 0)), .nil, .nil] }
def ty35 : TyI := { ag := false, n := 1, bytes := 24, sl := some 60, zero := [.nil] }
def ty36 : TyI := { ag := false, n := 1, bytes := 24, sl := some 60, zero := [.nil] }
def ty38 : TyI := { ag := false, n := 1, bytes := 8, zero := [.c (.sc (.int .i64 0))] }
def ty50 : TyI := { ag := true, n := 1, bytes := 24, fs := [(0, 22, 1, false)], zero := [.nil] }
def ty60 : TyI := { ag := true, n := 2, bytes := 40, fs := [(0, 9, 1, false), (1, 28, 1, false)], zero := [.c (.sc (.string ⟨#[]⟩)), .nil] }
def ty63 : TyI := { ag := false, n := 1, bytes := 8, zero := [.any] }
def ty64 : TyI := { ag := false, n := 1, bytes := 8, zero := [.any] }
def ty66 : TyI := { ag := true, n := 2, bytes := 16, fs := [(0, 63, 1, false), (1, 64, 1, false)], zero := [.any, .any] }
def ty67 : TyI := { ag := true, n := 10, bytes := 80, ar := some (66, 2, 5, true), zero := [.any, .any, .any, .any, .any, .any, .any, .any, .any, .any] }
def ty69 : TyI := { ag := true, n := 6, bytes := 96, fs := [(0, 3, 1, false), (1, 9, 1, false), (2, 9, 1, false), (3, 30, 3, true)], zero := [.c (.sc (.int .i64 0)), .c (.sc (.string ⟨#[]⟩)), .c (.sc (.string ⟨#[]⟩)), .c (.sc (.int .i64 0)), .nil, .nil] }
def ty100 : TyI := { ag := false, n := 1, bytes := 24, sl := some 9, zero := [.nil] }
def ty102 : TyI := { ag := false, n := 1, bytes := 24, sl := some 28, zero := [.nil] }
def ty113 : TyI := { ag := false, n := 1, bytes := 4, zero := [.c (.sc (.int .u32 0))] }
def tys : List (Nat × TyI) := [(2, ty2), (3, ty3), (4, ty4), (5, ty5), (9, ty9), (21, ty21), (22, ty22), (28, ty28), (30, ty30), (32, ty32), (35, ty35), (36, ty36), (38, ty38), (50, ty50), (60, ty60), (63, ty63), (64, ty64), (66, ty66), (67, ty67), (69, ty69), (100, ty100), (102, ty102), (113, ty113)]
def tt : TT := fun t => (tys.find? fun p => p.1 == t).map (·.2)
theorem tys_ok : (tys.all fun p => tyOk Try.prog p.1 p.2) = true := by kernel_rfl
theorem hT : TOk Try.prog tt := fun t i h => by
  obtain ⟨p, hp, rfl⟩ := Option.map_eq_some_iff.1 h
  have h1 := List.find?_some hp
  have h2 := List.mem_of_find?_eq_some hp
  have h3 := List.all_eq_true.1 tys_ok p h2
  simp only [beq_iff_eq] at h1
  rw [← h1]
  exact h3
theorem tt2 : tt 2 = some ty2 := rfl
theorem tt3 : tt 3 = some ty3 := rfl
theorem tt4 : tt 4 = some ty4 := rfl
theorem tt5 : tt 5 = some ty5 := rfl
theorem tt9 : tt 9 = some ty9 := rfl
theorem tt21 : tt 21 = some ty21 := rfl
theorem tt22 : tt 22 = some ty22 := rfl
theorem tt28 : tt 28 = some ty28 := rfl
theorem tt30 : tt 30 = some ty30 := rfl
theorem tt32 : tt 32 = some ty32 := rfl
theorem tt35 : tt 35 = some ty35 := rfl
theorem tt36 : tt 36 = some ty36 := rfl
theorem tt38 : tt 38 = some ty38 := rfl
theorem tt50 : tt 50 = some ty50 := rfl
theorem tt60 : tt 60 = some ty60 := rfl
theorem tt63 : tt 63 = some ty63 := rfl
theorem tt64 : tt 64 = some ty64 := rfl
theorem tt66 : tt 66 = some ty66 := rfl
theorem tt67 : tt 67 = some ty67 := rfl
theorem tt69 : tt 69 = some ty69 := rfl
theorem tt100 : tt 100 = some ty100 := rfl
theorem tt102 : tt 102 = some ty102 := rfl
theorem tt113 : tt 113 = some ty113 := rfl
theorem tyL : ty2 = { ag := false, n := 1, bytes := 8, zero := [.c (.sc (.int .i64 0))] } ∧ ty3 = { ag := false, n := 1, bytes := 8, zero := [.c (.sc (.int .i64 0))] } ∧ ty4 = { ag := false, n := 1, bytes := 1, bl := true, zero := [.c (.sc (.bool false))] } ∧ ty5 = { ag := false, n := 1, bytes := 1, zero := [.c (.sc (.int .u8 0))] } ∧ ty9 = { ag := false, n := 1, bytes := 16, str := true, zero := [.c (.sc (.string ⟨#[]⟩))] } ∧ ty21 = { ag := false, n := 1, bytes := 4, zero := [.c (.sc (.int .i32 0))] } ∧ ty22 = { ag := false, n := 1, bytes := 24, sl := some 32, zero := [.nil] } ∧ ty28 = { ag := false, n := 1, bytes := 24, sl := some 9, zero := [.nil] } ∧ ty30 = { ag := true, n := 3, bytes := 56, fs := [(0, 3, 1, false), (1, 28, 1, false), (2, 28, 1, false)], zero := [.c (.sc (.int .i64 0)), .nil, .nil] } ∧ ty32 = { ag := true, n := 6, bytes := 96, fs := [(0, 3, 1, false), (1, 9, 1, false), (2, 9, 1, false), (3, 30, 3, true)], zero := [.c (.sc (.int .i64 0)), .c (.sc (.string ⟨#[]⟩)), .c (.sc (.string ⟨#[]⟩)), .c (.sc (.int .i64 0)), .nil, .nil] } ∧ ty35 = { ag := false, n := 1, bytes := 24, sl := some 60, zero := [.nil] } ∧ ty36 = { ag := false, n := 1, bytes := 24, sl := some 60, zero := [.nil] } ∧ ty38 = { ag := false, n := 1, bytes := 8, zero := [.c (.sc (.int .i64 0))] } ∧ ty50 = { ag := true, n := 1, bytes := 24, fs := [(0, 22, 1, false)], zero := [.nil] } ∧ ty60 = { ag := true, n := 2, bytes := 40, fs := [(0, 9, 1, false), (1, 28, 1, false)], zero := [.c (.sc (.string ⟨#[]⟩)), .nil] } ∧ ty63 = { ag := false, n := 1, bytes := 8, zero := [.any] } ∧ ty64 = { ag := false, n := 1, bytes := 8, zero := [.any] } ∧ ty66 = { ag := true, n := 2, bytes := 16, fs := [(0, 63, 1, false), (1, 64, 1, false)], zero := [.any, .any] } ∧ ty67 = { ag := true, n := 10, bytes := 80, ar := some (66, 2, 5, true), zero := [.any, .any, .any, .any, .any, .any, .any, .any, .any, .any] } ∧ ty69 = { ag := true, n := 6, bytes := 96, fs := [(0, 3, 1, false), (1, 9, 1, false), (2, 9, 1, false), (3, 30, 3, true)], zero := [.c (.sc (.int .i64 0)), .c (.sc (.string ⟨#[]⟩)), .c (.sc (.string ⟨#[]⟩)), .c (.sc (.int .i64 0)), .nil, .nil] } ∧ ty100 = { ag := false, n := 1, bytes := 24, sl := some 9, zero := [.nil] } ∧ ty102 = { ag := false, n := 1, bytes := 24, sl := some 28, zero := [.nil] } ∧ ty113 = { ag := false, n := 1, bytes := 4, zero := [.c (.sc (.int .u32 0))] } := ⟨rfl, rfl, rfl, rfl, rfl, rfl, rfl, rfl, rfl, rfl, rfl, rfl, rfl, rfl, rfl, rfl, rfl, rfl, rfl, rfl, rfl, rfl, rfl⟩
theorem ttL : tt 2 = some { ag := false, n := 1, bytes := 8, zero := [.c (.sc (.int .i64 0))] } ∧ tt 3 = some { ag := false, n := 1, bytes := 8, zero := [.c (.sc (.int .i64 0))] } ∧ tt 4 = some { ag := false, n := 1, bytes := 1, bl := true, zero := [.c (.sc (.bool false))] } ∧ tt 5 = some { ag := false, n := 1, bytes := 1, zero := [.c (.sc (.int .u8 0))] } ∧ tt 9 = some { ag := false, n := 1, bytes := 16, str := true, zero := [.c (.sc (.string ⟨#[]⟩))] } ∧ tt 21 = some { ag := false, n := 1, bytes := 4, zero := [.c (.sc (.int .i32 0))] } ∧ tt 22 = some { ag := false, n := 1, bytes := 24, sl := some 32, zero := [.nil] } ∧ tt 28 = some { ag := false, n := 1, bytes := 24, sl := some 9, zero := [.nil] } ∧ tt 30 = some { ag := true, n := 3, bytes := 56, fs := [(0, 3, 1, false), (1, 28, 1, false), (2, 28, 1, false)], zero := [.c (.sc (.int .i64 0)), .nil, .nil] } ∧ tt 32 = some { ag := true, n := 6, bytes := 96, fs := [(0, 3, 1, false), (1, 9, 1, false), (2, 9, 1, false), (3, 30, 3, true)], zero := [.c (.sc (.int .i64 0)), .c (.sc (.string ⟨#[]⟩)), .c (.sc (.string ⟨#[]⟩)), .c (.sc (.int .i64 0)), .nil, .nil] } ∧ tt 35 = some { ag := false, n := 1, bytes := 24, sl := some 60, zero := [.nil] } ∧ tt 36 = some { ag := false, n := 1, bytes := 24, sl := some 60, zero := [.nil] } ∧ tt 38 = some { ag := false, n := 1, bytes := 8, zero := [.c (.sc (.int .i64 0))] } ∧ tt 50 = some { ag := true, n := 1, bytes := 24, fs := [(0, 22, 1, false)], zero := [.nil] } ∧ tt 60 = some { ag := true, n := 2, bytes := 40, fs := [(0, 9, 1, false), (1, 28, 1, false)], zero := [.c (.sc (.string ⟨#[]⟩)), .nil] } ∧ tt 63 = some { ag := false, n := 1, bytes := 8, zero := [.any] } ∧ tt 64 = some { ag := false, n := 1, bytes := 8, zero := [.any] } ∧ tt 66 = some { ag := true, n := 2, bytes := 16, fs := [(0, 63, 1, false), (1, 64, 1, false)], zero := [.any, .any] } ∧ tt 67 = some { ag := true, n := 10, bytes := 80, ar := some (66, 2, 5, true), zero := [.any, .any, .any, .any, .any, .any, .any, .any, .any, .any] } ∧ tt 69 = some { ag := true, n := 6, bytes := 96, fs := [(0, 3, 1, false), (1, 9, 1, false), (2, 9, 1, false), (3, 30, 3, true)], zero := [.c (.sc (.int .i64 0)), .c (.sc (.string ⟨#[]⟩)), .c (.sc (.string ⟨#[]⟩)), .c (.sc (.int .i64 0)), .nil, .nil] } ∧ tt 100 = some { ag := false, n := 1, bytes := 24, sl := some 9, zero := [.nil] } ∧ tt 102 = some { ag := false, n := 1, bytes := 24, sl := some 28, zero := [.nil] } ∧ tt 113 = some { ag := false, n := 1, bytes := 4, zero := [.c (.sc (.int .u32 0))] } := ⟨rfl, rfl, rfl, rfl, rfl, rfl, rfl, rfl, rfl, rfl, rfl, rfl, rfl, rfl, rfl, rfl, rfl, rfl, rfl, rfl, rfl, rfl, rfl⟩
end Go.Proofs.Ytncipmjchifcgaa
