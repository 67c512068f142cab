/- The table of the types, as far as the abstract machine asks: each row is held against the program by the kernel. -/
import Derived.Test.YtjlbliljpffmjaaG9
import Derived.Test.YtjlbliljpffmjaaProg
import Derived.KernelRfl
set_option linter.unusedVariables false
set_option linter.unusedSimpArgs false
namespace Go.Proofs.Ytjlbliljpffmjaa
open Go.Vam
def ty2 : TyI := { ag := false, n := 1, bytes := 8, zero := [.c (.sc (.int .i64 0))] }
def ty3 : TyI := { ag := false, n := 1, bytes := 8, zero := [.c (.sc (.int .i64 0))] }
def ty4 : TyI := { ag := false, n := 1, bytes := 1, bl := true, zero := [.c (.sc (.bool false))] }
def ty5 : TyI := { ag := false, n := 1, bytes := 1, zero := [.c (.sc (.int .u8 0))] }
def ty9 : TyI := { ag := false, n := 1, bytes := 16, str := true, zero := [.c (.sc (.string ⟨#[]⟩))] }
def ty21 : TyI := { ag := false, n := 1, bytes := 4, zero := [.c (.sc (.int .i32 0))] }
def ty22 : TyI := { ag := false, n := 1, bytes := 24, sl := some 9, zero := [.nil] }
def ty24 : TyI := { ag := true, n := 3, bytes := 56, fs := [(0, 3, 1, false), (1, 22, 1, false), (2, 22, 1, false)], zero := [.c (.sc (.int .i64 0)), .nil, .nil] }
def ty26 : TyI := { ag := true, n := 6, bytes := 96, fs := [(0, 3, 1, false), (1, 9, 1, false), (2, 9, 1, false), (3, 24, 3, true)], zero := [.c (.sc (.int .i64 0)), .c (.sc (.string ⟨#[]⟩)), .c (.sc (.string ⟨#[]⟩)), .c (.sc (.int .i64 0)), .nil, .nil] }
def ty34 : TyI := { ag := false, n := 1, bytes := 24, sl := some 62, zero := [.nil] }
def ty35 : TyI := { ag := false, n := 1, bytes := 24, sl := some 62, zero := [.nil] }
def ty36 : TyI := { ag := false, n := 1, bytes := 24, sl := some 26, zero := [.nil] }
def ty39 : TyI := { ag := false, n := 1, bytes := 8, zero := [.c (.sc (.int .i64 0))] }
def ty51 : TyI := { ag := false, n := 1, bytes := 8, zero := [.any] }
def ty52 : TyI := { ag := false, n := 1, bytes := 8, zero := [.any] }
def ty54 : TyI := { ag := true, n := 2, bytes := 16, fs := [(0, 51, 1, false), (1, 52, 1, false)], zero := [.any, .any] }
def ty55 : TyI := { ag := true, n := 10, bytes := 80, ar := some (54, 2, 5, true), zero := [.any, .any, .any, .any, .any, .any, .any, .any, .any, .any] }
def ty57 : TyI := { ag := true, n := 6, bytes := 96, fs := [(0, 3, 1, false), (1, 9, 1, false), (2, 9, 1, false), (3, 24, 3, true)], zero := [.c (.sc (.int .i64 0)), .c (.sc (.string ⟨#[]⟩)), .c (.sc (.string ⟨#[]⟩)), .c (.sc (.int .i64 0)), .nil, .nil] }
def ty62 : TyI := { ag := true, n := 2, bytes := 40, fs := [(0, 9, 1, false), (1, 22, 1, false)], zero := [.c (.sc (.string ⟨#[]⟩)), .nil] }
def ty66 : TyI := { ag := true, n := 1, bytes := 24, fs := [(0, 36, 1, false)], zero := [.nil] }
def ty77 : TyI := { ag := false, n := 1, bytes := 24, sl := some 79, zero := [.nil] }
def ty79 : TyI := { ag := false, n := 1, bytes := 8, zero := [.any] }
def ty112 : TyI := { ag := false, n := 1, bytes := 24, sl := some 9, zero := [.nil] }
def ty114 : TyI := { ag := false, n := 1, bytes := 24, sl := some 22, zero := [.nil] }
def ty125 : TyI := { ag := false, n := 1, bytes := 4, zero := [.c (.sc (.int .u32 0))] }
def tys : List (Nat × TyI) := [(2, ty2), (3, ty3), (4, ty4), (5, ty5), (9, ty9), (21, ty21), (22, ty22), (24, ty24), (26, ty26), (34, ty34), (35, ty35), (36, ty36), (39, ty39), (51, ty51), (52, ty52), (54, ty54), (55, ty55), (57, ty57), (62, ty62), (66, ty66), (77, ty77), (79, ty79), (112, ty112), (114, ty114), (125, ty125)]
def tt : TT := fun t => (tys.find? fun p => p.1 == t).map (·.2)
theorem tys_ok : (tys.all fun p => tyOk Try.prog p.1 p.2) = true := by kernel_rfl
theorem hT : TOk Try.prog tt := fun t i h => by
  obtain ⟨p, hp, rfl⟩ := Option.map_eq_some_iff.1 h
  have h1 := List.find?_some hp
  have h2 := List.mem_of_find?_eq_some hp
  have h3 := List.all_eq_true.1 tys_ok p h2
  simp only [beq_iff_eq] at h1
  rw [← h1]
  exact h3
theorem tt2 : tt 2 = some ty2 := rfl
theorem tt3 : tt 3 = some ty3 := rfl
theorem tt4 : tt 4 = some ty4 := rfl
theorem tt5 : tt 5 = some ty5 := rfl
theorem tt9 : tt 9 = some ty9 := rfl
theorem tt21 : tt 21 = some ty21 := rfl
theorem tt22 : tt 22 = some ty22 := rfl
theorem tt24 : tt 24 = some ty24 := rfl
theorem tt26 : tt 26 = some ty26 := rfl
theorem tt34 : tt 34 = some ty34 := rfl
theorem tt35 : tt 35 = some ty35 := rfl
theorem tt36 : tt 36 = some ty36 := rfl
theorem tt39 : tt 39 = some ty39 := rfl
theorem tt51 : tt 51 = some ty51 := rfl
theorem tt52 : tt 52 = some ty52 := rfl
theorem tt54 : tt 54 = some ty54 := rfl
theorem tt55 : tt 55 = some ty55 := rfl
theorem tt57 : tt 57 = some ty57 := rfl
theorem tt62 : tt 62 = some ty62 := rfl
theorem tt66 : tt 66 = some ty66 := rfl
theorem tt77 : tt 77 = some ty77 := rfl
theorem tt79 : tt 79 = some ty79 := rfl
theorem tt112 : tt 112 = some ty112 := rfl
theorem tt114 : tt 114 = some ty114 := rfl
theorem tt125 : tt 125 = some ty125 := rfl
theorem tyL : ty2 = { ag := false, n := 1, bytes := 8, zero := [.c (.sc (.int .i64 0))] } ∧ ty3 = { ag := false, n := 1, bytes := 8, zero := [.c (.sc (.int .i64 0))] } ∧ ty4 = { ag := false, n := 1, bytes := 1, bl := true, zero := [.c (.sc (.bool false))] } ∧ ty5 = { ag := false, n := 1, bytes := 1, zero := [.c (.sc (.int .u8 0))] } ∧ ty9 = { ag := false, n := 1, bytes := 16, str := true, zero := [.c (.sc (.string ⟨#[]⟩))] } ∧ ty21 = { ag := false, n := 1, bytes := 4, zero := [.c (.sc (.int .i32 0))] } ∧ ty22 = { ag := false, n := 1, bytes := 24, sl := some 9, zero := [.nil] } ∧ ty24 = { ag := true, n := 3, bytes := 56, fs := [(0, 3, 1, false), (1, 22, 1, false), (2, 22, 1, false)], zero := [.c (.sc (.int .i64 0)), .nil, .nil] } ∧ ty26 = { ag := true, n := 6, bytes := 96, fs := [(0, 3, 1, false), (1, 9, 1, false), (2, 9, 1, false), (3, 24, 3, true)], zero := [.c (.sc (.int .i64 0)), .c (.sc (.string ⟨#[]⟩)), .c (.sc (.string ⟨#[]⟩)), .c (.sc (.int .i64 0)), .nil, .nil] } ∧ ty34 = { ag := false, n := 1, bytes := 24, sl := some 62, zero := [.nil] } ∧ ty35 = { ag := false, n := 1, bytes := 24, sl := some 62, zero := [.nil] } ∧ ty36 = { ag := false, n := 1, bytes := 24, sl := some 26, zero := [.nil] } ∧ ty39 = { ag := false, n := 1, bytes := 8, zero := [.c (.sc (.int .i64 0))] } ∧ ty51 = { ag := false, n := 1, bytes := 8, zero := [.any] } ∧ ty52 = { ag := false, n := 1, bytes := 8, zero := [.any] } ∧ ty54 = { ag := true, n := 2, bytes := 16, fs := [(0, 51, 1, false), (1, 52, 1, false)], zero := [.any, .any] } ∧ ty55 = { ag := true, n := 10, bytes := 80, ar := some (54, 2, 5, true), zero := [.any, .any, .any, .any, .any, .any, .any, .any, .any, .any] } ∧ ty57 = { ag := true, n := 6, bytes := 96, fs := [(0, 3, 1, false), (1, 9, 1, false), (2, 9, 1, false), (3, 24, 3, true)], zero := [.c (.sc (.int .i64 0)), .c (.sc (.string ⟨#[]⟩)), .c (.sc (.string ⟨#[]⟩)), .c (.sc (.int .i64 0)), .nil, .nil] } ∧ ty62 = { ag := true, n := 2, bytes := 40, fs := [(0, 9, 1, false), (1, 22, 1, false)], zero := [.c (.sc (.string ⟨#[]⟩)), .nil] } ∧ ty66 = { ag := true, n := 1, bytes := 24, fs := [(0, 36, 1, false)], zero := [.nil] } ∧ ty77 = { ag := false, n := 1, bytes := 24, sl := some 79, zero := [.nil] } ∧ ty79 = { ag := false, n := 1, bytes := 8, zero := [.any] } ∧ ty112 = { ag := false, n := 1, bytes := 24, sl := some 9, zero := [.nil] } ∧ ty114 = { ag := false, n := 1, bytes := 24, sl := some 22, zero := [.nil] } ∧ ty125 = { ag := false, n := 1, bytes := 4, zero := [.c (.sc (.int .u32 0))] } := ⟨rfl, rfl, rfl, rfl, rfl, rfl, rfl, rfl, rfl, rfl, rfl, rfl, rfl, rfl, rfl, rfl, rfl, rfl, rfl, rfl, rfl, rfl, rfl, rfl, rfl⟩
theorem ttL : tt 2 = some { ag := false, n := 1, bytes := 8, zero := [.c (.sc (.int .i64 0))] } ∧ tt 3 = some { ag := false, n := 1, bytes := 8, zero := [.c (.sc (.int .i64 0))] } ∧ tt 4 = some { ag := false, n := 1, bytes := 1, bl := true, zero := [.c (.sc (.bool false))] } ∧ tt 5 = some { ag := false, n := 1, bytes := 1, zero := [.c (.sc (.int .u8 0))] } ∧ tt 9 = some { ag := false, n := 1, bytes := 16, str := true, zero := [.c (.sc (.string ⟨#[]⟩))] } ∧ tt 21 = some { ag := false, n := 1, bytes := 4, zero := [.c (.sc (.int .i32 0))] } ∧ tt 22 = some { ag := false, n := 1, bytes := 24, sl := some 9, zero := [.nil] } ∧ tt 24 = some { ag := true, n := 3, bytes := 56, fs := [(0, 3, 1, false), (1, 22, 1, false), (2, 22, 1, false)], zero := [.c (.sc (.int .i64 0)), .nil, .nil] } ∧ tt 26 = some { ag := true, n := 6, bytes := 96, fs := [(0, 3, 1, false), (1, 9, 1, false), (2, 9, 1, false), (3, 24, 3, true)], zero := [.c (.sc (.int .i64 0)), .c (.sc (.string ⟨#[]⟩)), .c (.sc (.string ⟨#[]⟩)), .c (.sc (.int .i64 0)), .nil, .nil] } ∧ tt 34 = some { ag := false, n := 1, bytes := 24, sl := some 62, zero := [.nil] } ∧ tt 35 = some { ag := false, n := 1, bytes := 24, sl := some 62, zero := [.nil] } ∧ tt 36 = some { ag := false, n := 1, bytes := 24, sl := some 26, zero := [.nil] } ∧ tt 39 = some { ag := false, n := 1, bytes := 8, zero := [.c (.sc (.int .i64 0))] } ∧ tt 51 = some { ag := false, n := 1, bytes := 8, zero := [.any] } ∧ tt 52 = some { ag := false, n := 1, bytes := 8, zero := [.any] } ∧ tt 54 = some { ag := true, n := 2, bytes := 16, fs := [(0, 51, 1, false), (1, 52, 1, false)], zero := [.any, .any] } ∧ tt 55 = some { ag := true, n := 10, bytes := 80, ar := some (54, 2, 5, true), zero := [.any, .any, .any, .any, .any, .any, .any, .any, .any, .any] } ∧ tt 57 = some { ag := true, n := 6, bytes := 96, fs := [(0, 3, 1, false), (1, 9, 1, false), (2, 9, 1, false), (3, 24, 3, true)], zero := [.c (.sc (.int .i64 0)), .c (.sc (.string ⟨#[]⟩)), .c (.sc (.string ⟨#[]⟩)), .c (.sc (.int .i64 0)), .nil, .nil] } ∧ tt 62 = some { ag := true, n := 2, bytes := 40, fs := [(0, 9, 1, false), (1, 22, 1, false)], zero := [.c (.sc (.string ⟨#[]⟩)), .nil] } ∧ tt 66 = some { ag := true, n := 1, bytes := 24, fs := [(0, 36, 1, false)], zero := [.nil] } ∧ tt 77 = some { ag := false, n := 1, bytes := 24, sl := some 79, zero := [.nil] } ∧ tt 79 = some { ag := false, n := 1, bytes := 8, zero := [.any] } ∧ tt 112 = some { ag := false, n := 1, bytes := 24, sl := some 9, zero := [.nil] } ∧ tt 114 = some { ag := false, n := 1, bytes := 24, sl := some 22, zero := [.nil] } ∧ tt 125 = some { ag := false, n := 1, bytes := 4, zero := [.c (.sc (.int .u32 0))] } := ⟨rfl, rfl, rfl, rfl, rfl, rfl, rfl, rfl, rfl, rfl, rfl, rfl, rfl, rfl, rfl, rfl, rfl, rfl, rfl, rfl, rfl, rfl, rfl, rfl, rfl⟩
end Go.Proofs.Ytjlbliljpffmjaa
