/- The table of the types, as far as the abstract machine asks: each row is held against the program by the kernel. -/
import Derived.Test.YtfjlopdofjbfgaaG10
import Derived.Test.YtfjlopdofjbfgaaProg
import Derived.KernelRfl
set_option linter.unusedVariables false
set_option linter.unusedSimpArgs false
namespace Go.Proofs.Ytfjlopdofjbfgaa
open Go.Vam
def ty2 : TyI := { ag := false, n := 1, bytes := 8, zero := [.c (.sc (.int .i64 0))] }
def ty3 : TyI := { ag := false, n := 1, bytes := 8, zero := [.c (.sc (.int .i64 0))] }
def ty4 : TyI := { ag := false, n := 1, bytes := 1, bl := true, zero := [.c (.sc (.bool false))] }
def ty5 : TyI := { ag := false, n := 1, bytes := 1, zero := [.c (.sc (.int .u8 0))] }
def ty9 : TyI := { ag := false, n := 1, bytes := 16, str := true, zero := [.c (.sc (.string ⟨#[]⟩))] }
def ty21 : TyI := { ag := false, n := 1, bytes := 4, zero := [.c (.sc (.int .i32 0))] }
def ty22 : TyI := { ag := false, n := 1, bytes := 24, sl := some 40, zero := [.nil] }
def ty29 : TyI := { ag := false, n := 1, bytes := 24, sl := some 54, zero := [.nil] }
def ty30 : TyI := { ag := false, n := 1, bytes := 24, sl := some 54, zero := [.nil] }
def ty32 : TyI := { ag := false, n := 1, bytes := 8, zero := [.c (.sc (.int .i64 0))] }
def ty36 : TyI := { ag := false, n := 1, bytes := 24, sl := some 9, zero := [.nil] }
def ty38 : TyI := { ag := true, n := 3, bytes := 56, fs := [(0, 3, 1, false), (1, 36, 1, false), (2, 36, 1, false)], zero := [.c (.sc (.int .i64 0)), .nil, .nil] }
def ty40 : TyI := { ag := true, n := 6, bytes := 96, fs := [(0, 3, 1, false), (1, 9, 1, false), (2, 9, 1, false), (3, 38, 3, true)], zero := [.c (.sc (.int .i64 0)), .c (.sc (.string ⟨#[]⟩)), .c (.sc (.string ⟨#[]⟩)), .c (.sc (.int .i64 0)), .nil, .nil] }
def ty54 : TyI := { ag := true, n := 2, bytes := 40, fs := [(0, 9, 1, false), (1, 36, 1, false)], zero := [.c (.sc (.string ⟨#[]⟩)), .nil] }
def ty55 : TyI := { ag := false, n := 1, bytes := 8, zero := [.any] }
def ty56 : TyI := { ag := false, n := 1, bytes := 8, zero := [.any] }
def ty58 : TyI := { ag := true, n := 2, bytes := 16, fs := [(0, 55, 1, false), (1, 56, 1, false)], zero := [.any, .any] }
def ty59 : TyI := { ag := true, n := 10, bytes := 80, ar := some (58, 2, 5, true), zero := [.any, .any, .any, .any, .any, .any, .any, .any, .any, .any] }
def ty61 : TyI := { ag := true, n := 6, bytes := 96, fs := [(0, 3, 1, false), (1, 9, 1, false), (2, 9, 1, false), (3, 38, 3, true)], zero := [.c (.sc (.int .i64 0)), .c (.sc (.string ⟨#[]⟩)), .c (.sc (.string ⟨#[]⟩)), .c (.sc (.int .i64 0)), .nil, .nil] }
def ty93 : TyI := { ag := false, n := 1, bytes := 24, sl := some 95, zero := [.nil] }
def ty95 : TyI := { ag := false, n := 1, bytes := 8, zero := [.any] }
def ty112 : TyI := { ag := false, n := 1, bytes := 24, sl := some 9, zero := [.nil] }
def ty114 : TyI := { ag := false, n := 1, bytes := 24, sl := some 36, zero := [.nil] }
def ty125 : TyI := { ag := false, n := 1, bytes := 4, zero := [.c (.sc (.int .u32 0))] }
def tys : List (Nat × TyI) := [(2, ty2), (3, ty3), (4, ty4), (5, ty5), (9, ty9), (21, ty21), (22, ty22), (29, ty29), (30, ty30), (32, ty32), (36, ty36), (38, ty38), (40, ty40), (54, ty54), (55, ty55), (56, ty56), (58, ty58), (59, ty59), (61, ty61), (93, ty93), (95, ty95), (112, ty112), (114, ty114), (125, ty125)]
def tt : TT := fun t => (tys.find? fun p => p.1 == t).map (·.2)
theorem tys_ok : (tys.all fun p => tyOk Try.prog p.1 p.2) = true := by kernel_rfl
theorem hT : TOk Try.prog tt := fun t i h => by
  obtain ⟨p, hp, rfl⟩ := Option.map_eq_some_iff.1 h
  have h1 := List.find?_some hp
  have h2 := List.mem_of_find?_eq_some hp
  have h3 := List.all_eq_true.1 tys_ok p h2
  simp only [beq_iff_eq] at h1
  rw [← h1]
  exact h3
theorem tt2 : tt 2 = some ty2 := rfl
theorem tt3 : tt 3 = some ty3 := rfl
theorem tt4 : tt 4 = some ty4 := rfl
theorem tt5 : tt 5 = some ty5 := rfl
theorem tt9 : tt 9 = some ty9 := rfl
theorem tt21 : tt 21 = some ty21 := rfl
theorem tt22 : tt 22 = some ty22 := rfl
theorem tt29 : tt 29 = some ty29 := rfl
theorem tt30 : tt 30 = some ty30 := rfl
theorem tt32 : tt 32 = some ty32 := rfl
theorem tt36 : tt 36 = some ty36 := rfl
theorem tt38 : tt 38 = some ty38 := rfl
theorem tt40 : tt 40 = some ty40 := rfl
theorem tt54 : tt 54 = some ty54 := rfl
theorem tt55 : tt 55 = some ty55 := rfl
theorem tt56 : tt 56 = some ty56 := rfl
theorem tt58 : tt 58 = some ty58 := rfl
theorem tt59 : tt 59 = some ty59 := rfl
theorem tt61 : tt 61 = some ty61 := rfl
theorem tt93 : tt 93 = some ty93 := rfl
theorem tt95 : tt 95 = some ty95 := rfl
theorem tt112 : tt 112 = some ty112 := rfl
theorem tt114 : tt 114 = some ty114 := rfl
theorem tt125 : tt 125 = some ty125 := rfl
theorem tyL : ty2 = { ag := false, n := 1, bytes := 8, zero := [.c (.sc (.int .i64 0))] } ∧ ty3 = { ag := false, n := 1, bytes := 8, zero := [.c (.sc (.int .i64 0))] } ∧ ty4 = { ag := false, n := 1, bytes := 1, bl := true, zero := [.c (.sc (.bool false))] } ∧ ty5 = { ag := false, n := 1, bytes := 1, zero := [.c (.sc (.int .u8 0))] } ∧ ty9 = { ag := false, n := 1, bytes := 16, str := true, zero := [.c (.sc (.string ⟨#[]⟩))] } ∧ ty21 = { ag := false, n := 1, bytes := 4, zero := [.c (.sc (.int .i32 0))] } ∧ ty22 = { ag := false, n := 1, bytes := 24, sl := some 40, zero := [.nil] } ∧ ty29 = { ag := false, n := 1, bytes := 24, sl := some 54, zero := [.nil] } ∧ ty30 = { ag := false, n := 1, bytes := 24, sl := some 54, zero := [.nil] } ∧ ty32 = { ag := false, n := 1, bytes := 8, zero := [.c (.sc (.int .i64 0))] } ∧ ty36 = { ag := false, n := 1, bytes := 24, sl := some 9, zero := [.nil] } ∧ ty38 = { ag := true, n := 3, bytes := 56, fs := [(0, 3, 1, false), (1, 36, 1, false), (2, 36, 1, false)], zero := [.c (.sc (.int .i64 0)), .nil, .nil] } ∧ ty40 = { ag := true, n := 6, bytes := 96, fs := [(0, 3, 1, false), (1, 9, 1, false), (2, 9, 1, false), (3, 38, 3, true)], zero := [.c (.sc (.int .i64 0)), .c (.sc (.string ⟨#[]⟩)), .c (.sc (.string ⟨#[]⟩)), .c (.sc (.int .i64 0)), .nil, .nil] } ∧ ty54 = { ag := true, n := 2, bytes := 40, fs := [(0, 9, 1, false), (1, 36, 1, false)], zero := [.c (.sc (.string ⟨#[]⟩)), .nil] } ∧ ty55 = { ag := false, n := 1, bytes := 8, zero := [.any] } ∧ ty56 = { ag := false, n := 1, bytes := 8, zero := [.any] } ∧ ty58 = { ag := true, n := 2, bytes := 16, fs := [(0, 55, 1, false), (1, 56, 1, false)], zero := [.any, .any] } ∧ ty59 = { ag := true, n := 10, bytes := 80, ar := some (58, 2, 5, true), zero := [.any, .any, .any, .any, .any, .any, .any, .any, .any, .any] } ∧ ty61 = { ag := true, n := 6, bytes := 96, fs := [(0, 3, 1, false), (1, 9, 1, false), (2, 9, 1, false), (3, 38, 3, true)], zero := [.c (.sc (.int .i64 0)), .c (.sc (.string ⟨#[]⟩)), .c (.sc (.string ⟨#[]⟩)), .c (.sc (.int .i64 0)), .nil, .nil] } ∧ ty93 = { ag := false, n := 1, bytes := 24, sl := some 95, zero := [.nil] } ∧ ty95 = { ag := false, n := 1, bytes := 8, zero := [.any] } ∧ ty112 = { ag := false, n := 1, bytes := 24, sl := some 9, zero := [.nil] } ∧ ty114 = { ag := false, n := 1, bytes := 24, sl := some 36, zero := [.nil] } ∧ ty125 = { ag := false, n := 1, bytes := 4, zero := [.c (.sc (.int .u32 0))] } := ⟨rfl, rfl, rfl, rfl, rfl, rfl, rfl, rfl, rfl, rfl, rfl, rfl, rfl, rfl, rfl, rfl, rfl, rfl, rfl, rfl, rfl, rfl, rfl, rfl⟩
theorem ttL : tt 2 = some { ag := false, n := 1, bytes := 8, zero := [.c (.sc (.int .i64 0))] } ∧ tt 3 = some { ag := false, n := 1, bytes := 8, zero := [.c (.sc (.int .i64 0))] } ∧ tt 4 = some { ag := false, n := 1, bytes := 1, bl := true, zero := [.c (.sc (.bool false))] } ∧ tt 5 = some { ag := false, n := 1, bytes := 1, zero := [.c (.sc (.int .u8 0))] } ∧ tt 9 = some { ag := false, n := 1, bytes := 16, str := true, zero := [.c (.sc (.string ⟨#[]⟩))] } ∧ tt 21 = some { ag := false, n := 1, bytes := 4, zero := [.c (.sc (.int .i32 0))] } ∧ tt 22 = some { ag := false, n := 1, bytes := 24, sl := some 40, zero := [.nil] } ∧ tt 29 = some { ag := false, n := 1, bytes := 24, sl := some 54, zero := [.nil] } ∧ tt 30 = some { ag := false, n := 1, bytes := 24, sl := some 54, zero := [.nil] } ∧ tt 32 = some { ag := false, n := 1, bytes := 8, zero := [.c (.sc (.int .i64 0))] } ∧ tt 36 = some { ag := false, n := 1, bytes := 24, sl := some 9, zero := [.nil] } ∧ tt 38 = some { ag := true, n := 3, bytes := 56, fs := [(0, 3, 1, false), (1, 36, 1, false), (2, 36, 1, false)], zero := [.c (.sc (.int .i64 0)), .nil, .nil] } ∧ tt 40 = some { ag := true, n := 6, bytes := 96, fs := [(0, 3, 1, false), (1, 9, 1, false), (2, 9, 1, false), (3, 38, 3, true)], zero := [.c (.sc (.int .i64 0)), .c (.sc (.string ⟨#[]⟩)), .c (.sc (.string ⟨#[]⟩)), .c (.sc (.int .i64 0)), .nil, .nil] } ∧ tt 54 = some { ag := true, n := 2, bytes := 40, fs := [(0, 9, 1, false), (1, 36, 1, false)], zero := [.c (.sc (.string ⟨#[]⟩)), .nil] } ∧ tt 55 = some { ag := false, n := 1, bytes := 8, zero := [.any] } ∧ tt 56 = some { ag := false, n := 1, bytes := 8, zero := [.any] } ∧ tt 58 = some { ag := true, n := 2, bytes := 16, fs := [(0, 55, 1, false), (1, 56, 1, false)], zero := [.any, .any] } ∧ tt 59 = some { ag := true, n := 10, bytes := 80, ar := some (58, 2, 5, true), zero := [.any, .any, .any, .any, .any, .any, .any, .any, .any, .any] } ∧ tt 61 = some { ag := true, n := 6, bytes := 96, fs := [(0, 3, 1, false), (1, 9, 1, false), (2, 9, 1, false), (3, 38, 3, true)], zero := [.c (.sc (.int .i64 0)), .c (.sc (.string ⟨#[]⟩)), .c (.sc (.string ⟨#[]⟩)), .c (.sc (.int .i64 0)), .nil, .nil] } ∧ tt 93 = some { ag := false, n := 1, bytes := 24, sl := some 95, zero := [.nil] } ∧ tt 95 = some { ag := false, n := 1, bytes := 8, zero := [.any] } ∧ tt 112 = some { ag := false, n := 1, bytes := 24, sl := some 9, zero := [.nil] } ∧ tt 114 = some { ag := false, n := 1, bytes := 24, sl := some 36, zero := [.nil] } ∧ tt 125 = some { ag := false, n := 1, bytes := 4, zero := [.c (.sc (.int .u32 0))] } := ⟨rfl, rfl, rfl, rfl, rfl, rfl, rfl, rfl, rfl, rfl, rfl, rfl, rfl, rfl, rfl, rfl, rfl, rfl, rfl, rfl, rfl, rfl, rfl, rfl⟩
end Go.Proofs.Ytfjlopdofjbfgaa
