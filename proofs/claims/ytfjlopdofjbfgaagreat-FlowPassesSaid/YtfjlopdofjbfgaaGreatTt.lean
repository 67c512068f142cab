/- The table of the types, as far as the abstract machine asks: each row is held against the program by the kernel. -/
import Derived.Test.YtfjlopdofjbfgaaGreatG10
import Derived.Test.YtfjlopdofjbfgaaGreatProg
import Derived.KernelRfl
set_option linter.unusedVariables false
set_option linter.unusedSimpArgs false
namespace Go.Proofs.YtfjlopdofjbfgaaGreat
open Go.Vam
def ty2 : TyI := { ag := false, n := 1, bytes := 8, zero := [.c (.sc (.int .i64 0))] }
def ty3 : TyI := { ag := false, n := 1, bytes := 8, zero := [.c (.sc (.int .i64 0))] }
def ty4 : TyI := { ag := false, n := 1, bytes := 1, bl := true, zero := [.c (.sc (.bool false))] }
def ty5 : TyI := { ag := false, n := 1, bytes := 1, zero := [.c (.sc (.int .u8 0))] }
def ty9 : TyI := { ag := false, n := 1, bytes := 16, str := true, zero := [.c (.sc (.string ⟨#[]⟩))] }
def ty21 : TyI := { ag := false, n := 1, bytes := 4, zero := [.c (.sc (.int .i32 0))] }
def ty22 : TyI := { ag := false, n := 1, bytes := 24, sl := some 45, zero := [.nil] }
def ty23 : TyI := { ag := false, n := 1, bytes := 24, sl := some 45, zero := [.nil] }
def ty24 : TyI := { ag := false, n := 1, bytes := 24, sl := some 42, zero := [.nil] }
def ty28 : TyI := { ag := false, n := 1, bytes := 8, zero := [.c (.sc (.int .i64 0))] }
def ty38 : TyI := { ag := false, n := 1, bytes := 24, sl := some 9, zero := [.nil] }
def ty40 : TyI := { ag := true, n := 3, bytes := 56, fs := [(0, 3, 1, false), (1, 38, 1, false), (2, 38, 1, false)], zero := [.c (.sc (.int .i64 0)), .nil, .nil] }
def ty42 : TyI := { ag := true, n := 6, bytes := 96, fs := [(0, 3, 1, false), (1, 9, 1, false), (2, 9, 1, false), (3, 40, 3, true)], zero := [.c (.sc (.int .i64 0)), .c (.sc (.string ⟨#[]⟩)), .c (.sc (.string ⟨#[]⟩)), .c (.sc (.int .i64 0)), .nil, .nil] }
def ty45 : TyI := { ag := true, n := 2, bytes := 40, fs := [(0, 9, 1, false), (1, 38, 1, false)], zero := [.c (.sc (.string ⟨#[]⟩)), .nil] }
def ty60 : TyI := { ag := false, n := 1, bytes := 8, zero := [.any] }
def ty61 : TyI := { ag := false, n := 1, bytes := 8, zero := [.any] }
def ty63 : TyI := { ag := true, n := 2, bytes := 16, fs := [(0, 60, 1, false), (1, 61, 1, false)], zero := [.any, .any] }
def ty64 : TyI := { ag := true, n := 10, bytes := 80, ar := some (63, 2, 5, true), zero := [.any, .any, .any, .any, .any, .any, .any, .any, .any, .any] }
def ty66 : TyI := { ag := true, n := 6, bytes := 96, fs := [(0, 3, 1, false), (1, 9, 1, false), (2, 9, 1, false), (3, 40, 3, true)], zero := [.c (.sc (.int .i64 0)), .c (.sc (.string ⟨#[]⟩)), .c (.sc (.string ⟨#[]⟩)), .c (.sc (.int .i64 0)), .nil, .nil] }
def ty91 : TyI := { ag := false, n := 1, bytes := 24, sl := some 93, zero := [.nil] }
def ty93 : TyI := { ag := false, n := 1, bytes := 8, zero := [.any] }
def ty111 : TyI := { ag := false, n := 1, bytes := 24, sl := some 9, zero := [.nil] }
def ty113 : TyI := { ag := false, n := 1, bytes := 24, sl := some 38, zero := [.nil] }
def ty124 : TyI := { ag := false, n := 1, bytes := 4, zero := [.c (.sc (.int .u32 0))] }
def tys : List (Nat × TyI) := [(2, ty2), (3, ty3), (4, ty4), (5, ty5), (9, ty9), (21, ty21), (22, ty22), (23, ty23), (24, ty24), (28, ty28), (38, ty38), (40, ty40), (42, ty42), (45, ty45), (60, ty60), (61, ty61), (63, ty63), (64, ty64), (66, ty66), (91, ty91), (93, ty93), (111, ty111), (113, ty113), (124, ty124)]
def tt : TT := fun t => (tys.find? fun p => p.1 == t).map (·.2)
theorem tys_ok : (tys.all fun p => tyOk Tryz.prog p.1 p.2) = true := by kernel_rfl
theorem hT : TOk Tryz.prog tt := fun t i h => by
  obtain ⟨p, hp, rfl⟩ := Option.map_eq_some_iff.1 h
  have h1 := List.find?_some hp
  have h2 := List.mem_of_find?_eq_some hp
  have h3 := List.all_eq_true.1 tys_ok p h2
  simp only [beq_iff_eq] at h1
  rw [← h1]
  exact h3
theorem tt2 : tt 2 = some ty2 := rfl
theorem tt3 : tt 3 = some ty3 := rfl
theorem tt4 : tt 4 = some ty4 := rfl
theorem tt5 : tt 5 = some ty5 := rfl
theorem tt9 : tt 9 = some ty9 := rfl
theorem tt21 : tt 21 = some ty21 := rfl
theorem tt22 : tt 22 = some ty22 := rfl
theorem tt23 : tt 23 = some ty23 := rfl
theorem tt24 : tt 24 = some ty24 := rfl
theorem tt28 : tt 28 = some ty28 := rfl
theorem tt38 : tt 38 = some ty38 := rfl
theorem tt40 : tt 40 = some ty40 := rfl
theorem tt42 : tt 42 = some ty42 := rfl
theorem tt45 : tt 45 = some ty45 := rfl
theorem tt60 : tt 60 = some ty60 := rfl
theorem tt61 : tt 61 = some ty61 := rfl
theorem tt63 : tt 63 = some ty63 := rfl
theorem tt64 : tt 64 = some ty64 := rfl
theorem tt66 : tt 66 = some ty66 := rfl
theorem tt91 : tt 91 = some ty91 := rfl
theorem tt93 : tt 93 = some ty93 := rfl
theorem tt111 : tt 111 = some ty111 := rfl
theorem tt113 : tt 113 = some ty113 := rfl
theorem tt124 : tt 124 = some ty124 := rfl
theorem tyL : ty2 = { ag := false, n := 1, bytes := 8, zero := [.c (.sc (.int .i64 0))] } ∧ ty3 = { ag := false, n := 1, bytes := 8, zero := [.c (.sc (.int .i64 0))] } ∧ ty4 = { ag := false, n := 1, bytes := 1, bl := true, zero := [.c (.sc (.bool false))] } ∧ ty5 = { ag := false, n := 1, bytes := 1, zero := [.c (.sc (.int .u8 0))] } ∧ ty9 = { ag := false, n := 1, bytes := 16, str := true, zero := [.c (.sc (.string ⟨#[]⟩))] } ∧ ty21 = { ag := false, n := 1, bytes := 4, zero := [.c (.sc (.int .i32 0))] } ∧ ty22 = { ag := false, n := 1, bytes := 24, sl := some 45, zero := [.nil] } ∧ ty23 = { ag := false, n := 1, bytes := 24, sl := some 45, zero := [.nil] } ∧ ty24 = { ag := false, n := 1, bytes := 24, sl := some 42, zero := [.nil] } ∧ ty28 = { ag := false, n := 1, bytes := 8, zero := [.c (.sc (.int .i64 0))] } ∧ ty38 = { ag := false, n := 1, bytes := 24, sl := some 9, zero := [.nil] } ∧ ty40 = { ag := true, n := 3, bytes := 56, fs := [(0, 3, 1, false), (1, 38, 1, false), (2, 38, 1, false)], zero := [.c (.sc (.int .i64 0)), .nil, .nil] } ∧ ty42 = { ag := true, n := 6, bytes := 96, fs := [(0, 3, 1, false), (1, 9, 1, false), (2, 9, 1, false), (3, 40, 3, true)], zero := [.c (.sc (.int .i64 0)), .c (.sc (.string ⟨#[]⟩)), .c (.sc (.string ⟨#[]⟩)), .c (.sc (.int .i64 0)), .nil, .nil] } ∧ ty45 = { ag := true, n := 2, bytes := 40, fs := [(0, 9, 1, false), (1, 38, 1, false)], zero := [.c (.sc (.string ⟨#[]⟩)), .nil] } ∧ ty60 = { ag := false, n := 1, bytes := 8, zero := [.any] } ∧ ty61 = { ag := false, n := 1, bytes := 8, zero := [.any] } ∧ ty63 = { ag := true, n := 2, bytes := 16, fs := [(0, 60, 1, false), (1, 61, 1, false)], zero := [.any, .any] } ∧ ty64 = { ag := true, n := 10, bytes := 80, ar := some (63, 2, 5, true), zero := [.any, .any, .any, .any, .any, .any, .any, .any, .any, .any] } ∧ ty66 = { ag := true, n := 6, bytes := 96, fs := [(0, 3, 1, false), (1, 9, 1, false), (2, 9, 1, false), (3, 40, 3, true)], zero := [.c (.sc (.int .i64 0)), .c (.sc (.string ⟨#[]⟩)), .c (.sc (.string ⟨#[]⟩)), .c (.sc (.int .i64 0)), .nil, .nil] } ∧ ty91 = { ag := false, n := 1, bytes := 24, sl := some 93, zero := [.nil] } ∧ ty93 = { ag := false, n := 1, bytes := 8, zero := [.any] } ∧ ty111 = { ag := false, n := 1, bytes := 24, sl := some 9, zero := [.nil] } ∧ ty113 = { ag := false, n := 1, bytes := 24, sl := some 38, zero := [.nil] } ∧ ty124 = { ag := false, n := 1, bytes := 4, zero := [.c (.sc (.int .u32 0))] } := ⟨rfl, rfl, rfl, rfl, rfl, rfl, rfl, rfl, rfl, rfl, rfl, rfl, rfl, rfl, rfl, rfl, rfl, rfl, rfl, rfl, rfl, rfl, rfl, rfl⟩
theorem ttL : tt 2 = some { ag := false, n := 1, bytes := 8, zero := [.c (.sc (.int .i64 0))] } ∧ tt 3 = some { ag := false, n := 1, bytes := 8, zero := [.c (.sc (.int .i64 0))] } ∧ tt 4 = some { ag := false, n := 1, bytes := 1, bl := true, zero := [.c (.sc (.bool false))] } ∧ tt 5 = some { ag := false, n := 1, bytes := 1, zero := [.c (.sc (.int .u8 0))] } ∧ tt 9 = some { ag := false, n := 1, bytes := 16, str := true, zero := [.c (.sc (.string ⟨#[]⟩))] } ∧ tt 21 = some { ag := false, n := 1, bytes := 4, zero := [.c (.sc (.int .i32 0))] } ∧ tt 22 = some { ag := false, n := 1, bytes := 24, sl := some 45, zero := [.nil] } ∧ tt 23 = some { ag := false, n := 1, bytes := 24, sl := some 45, zero := [.nil] } ∧ tt 24 = some { ag := false, n := 1, bytes := 24, sl := some 42, zero := [.nil] } ∧ tt 28 = some { ag := false, n := 1, bytes := 8, zero := [.c (.sc (.int .i64 0))] } ∧ tt 38 = some { ag := false, n := 1, bytes := 24, sl := some 9, zero := [.nil] } ∧ tt 40 = some { ag := true, n := 3, bytes := 56, fs := [(0, 3, 1, false), (1, 38, 1, false), (2, 38, 1, false)], zero := [.c (.sc (.int .i64 0)), .nil, .nil] } ∧ tt 42 = some { ag := true, n := 6, bytes := 96, fs := [(0, 3, 1, false), (1, 9, 1, false), (2, 9, 1, false), (3, 40, 3, true)], zero := [.c (.sc (.int .i64 0)), .c (.sc (.string ⟨#[]⟩)), .c (.sc (.string ⟨#[]⟩)), .c (.sc (.int .i64 0)), .nil, .nil] } ∧ tt 45 = some { ag := true, n := 2, bytes := 40, fs := [(0, 9, 1, false), (1, 38, 1, false)], zero := [.c (.sc (.string ⟨#[]⟩)), .nil] } ∧ tt 60 = some { ag := false, n := 1, bytes := 8, zero := [.any] } ∧ tt 61 = some { ag := false, n := 1, bytes := 8, zero := [.any] } ∧ tt 63 = some { ag := true, n := 2, bytes := 16, fs := [(0, 60, 1, false), (1, 61, 1, false)], zero := [.any, .any] } ∧ tt 64 = some { ag := true, n := 10, bytes := 80, ar := some (63, 2, 5, true), zero := [.any, .any, .any, .any, .any, .any, .any, .any, .any, .any] } ∧ tt 66 = some { ag := true, n := 6, bytes := 96, fs := [(0, 3, 1, false), (1, 9, 1, false), (2, 9, 1, false), (3, 40, 3, true)], zero := [.c (.sc (.int .i64 0)), .c (.sc (.string ⟨#[]⟩)), .c (.sc (.string ⟨#[]⟩)), .c (.sc (.int .i64 0)), .nil, .nil] } ∧ tt 91 = some { ag := false, n := 1, bytes := 24, sl := some 93, zero := [.nil] } ∧ tt 93 = some { ag := false, n := 1, bytes := 8, zero := [.any] } ∧ tt 111 = some { ag := false, n := 1, bytes := 24, sl := some 9, zero := [.nil] } ∧ tt 113 = some { ag := false, n := 1, bytes := 24, sl := some 38, zero := [.nil] } ∧ tt 124 = some { ag := false, n := 1, bytes := 4, zero := [.c (.sc (.int .u32 0))] } := ⟨rfl, rfl, rfl, rfl, rfl, rfl, rfl, rfl, rfl, rfl, rfl, rfl, rfl, rfl, rfl, rfl, rfl, rfl, rfl, rfl, rfl, rfl, rfl, rfl⟩
end Go.Proofs.YtfjlopdofjbfgaaGreat
