/- The table of the types, as far as the abstract machine asks: each row is held against the program by the kernel. -/
import Derived.Test.YtmijejoddoolpaaG10
import Derived.Test.YtmijejoddoolpaaProg
import Derived.KernelRfl
set_option linter.unusedVariables false
set_option linter.unusedSimpArgs false
namespace Go.Proofs.Ytmijejoddoolpaa
open Go.Vam
def ty2 : TyI := { ag := false, n := 1, bytes := 8, zero := [.c (.sc (.int .i64 0))] }
def ty3 : TyI := { ag := false, n := 1, bytes := 8, zero := [.c (.sc (.int .i64 0))] }
def ty4 : TyI := { ag := false, n := 1, bytes := 1, bl := true, zero := [.c (.sc (.bool false))] }
def ty5 : TyI := { ag := false, n := 1, bytes := 1, zero := [.c (.sc (.int .u8 0))] }
def ty9 : TyI := { ag := false, n := 1, bytes := 16, str := true, zero := [.c (.sc (.string ⟨#[]⟩))] }
def ty21 : TyI := { ag := false, n := 1, bytes := 4, zero := [.c (.sc (.int .i32 0))] }
def ty23 : TyI := { ag := true, n := 2, bytes := 16, fs := [(0, 3, 1, false), (1, 3, 1, false)], zero := [.c (.sc (.int .i64 0)), .c (.sc (.int .i64 0))] }
def ty24 : TyI := { ag := false, n := 1, bytes := 24, sl := some 23, zero := [.nil] }
def ty25 : TyI := { ag := false, n := 1, bytes := 24, sl := some 56, zero := [.nil] }
def ty27 : TyI := { ag := true, n := 5, bytes := 80, fs := [(0, 23, 2, true), (2, 24, 1, false), (3, 9, 1, false), (4, 25, 1, false)], zero := [.c (.sc (.int .i64 0)), .c (.sc (.int .i64 0)), .nil, .c (.sc (.string ⟨#[]⟩)), .nil] }
def ty35 : TyI := { ag := false, n := 1, bytes := 24, sl := some 27, zero := [.nil] }
def ty41 : TyI := { ag := false, n := 1, bytes := 24, sl := some 69, zero := [.nil] }
def ty42 : TyI := { ag := false, n := 1, bytes := 24, sl := some 69, zero := [.nil] }
def ty44 : TyI := { ag := false, n := 1, bytes := 8, zero := [.c (.sc (.int .i64 0))] }
def ty52 : TyI := { ag := false, n := 1, bytes := 24, sl := some 9, zero := [.nil] }
def ty54 : TyI := { ag := true, n := 3, bytes := 56, fs := [(0, 3, 1, false), (1, 52, 1, false), (2, 52, 1, false)], zero := [.c (.sc (.int .i64 0)), .nil, .nil] }
def ty56 : TyI := { ag := true, n := 6, bytes := 96, fs := [(0, 3, 1, false), (1, 9, 1, false), (2, 9, 1, false), (3, 54, 3, true)], zero := [.c (.sc (.int .i64 0)), .c (.sc (.string ⟨#[]⟩)), .c (.sc (.string ⟨#[]⟩)), .c (.sc (.int .i64 0)), .nil, .nil] }
def ty69 : TyI := { ag := true, n := 2, bytes := 40, fs := [(0, 9, 1, false), (1, 52, 1, false)], zero := [.c (.sc (.string ⟨#[]⟩)), .nil] }
def ty82 : TyI := { ag := true, n := 5, bytes := 80, fs := [(0, 23, 2, true), (2, 24, 1, false), (3, 9, 1, false), (4, 25, 1, false)], zero := [.c (.sc (.int .i64 0)), .c (.sc (.int .i64 0)), .nil, .c (.sc (.string ⟨#[]⟩)), .nil] }
def ty90 : TyI := { ag := false, n := 1, bytes := 8, zero := [.any] }
def ty91 : TyI := { ag := false, n := 1, bytes := 8, zero := [.any] }
def ty93 : TyI := { ag := true, n := 2, bytes := 16, fs := [(0, 90, 1, false), (1, 91, 1, false)], zero := [.any, .any] }
def ty94 : TyI := { ag := true, n := 10, bytes := 80, ar := some (93, 2, 5, true), zero := [.any, .any, .any, .any, .any, .any, .any, .any, .any, .any] }
def ty96 : TyI := { ag := true, n := 6, bytes := 96, fs := [(0, 3, 1, false), (1, 9, 1, false), (2, 9, 1, false), (3, 54, 3, true)], zero := [.c (.sc (.int .i64 0)), .c (.sc (.string ⟨#[]⟩)), .c (.sc (.string ⟨#[]⟩)), .c (.sc (.int .i64 0)), .nil, .nil] }
def ty137 : TyI := { ag := false, n := 1, bytes := 24, sl := some 139, zero := [.nil] }
def ty139 : TyI := { ag := false, n := 1, bytes := 8, zero := [.any] }
def ty148 : TyI := { ag := false, n := 1, bytes := 24, sl := some 9, zero := [.nil] }
def ty150 : TyI := { ag := false, n := 1, bytes := 24, sl := some 52, zero := [.nil] }
def ty161 : TyI := { ag := false, n := 1, bytes := 4, zero := [.c (.sc (.int .u32 0))] }
def tys : List (Nat × TyI) := [(2, ty2), (3, ty3), (4, ty4), (5, ty5), (9, ty9), (21, ty21), (23, ty23), (24, ty24), (25, ty25), (27, ty27), (35, ty35), (41, ty41), (42, ty42), (44, ty44), (52, ty52), (54, ty54), (56, ty56), (69, ty69), (82, ty82), (90, ty90), (91, ty91), (93, ty93), (94, ty94), (96, ty96), (137, ty137), (139, ty139), (148, ty148), (150, ty150), (161, ty161)]
def tt : TT := fun t => (tys.find? fun p => p.1 == t).map (·.2)
theorem tys_ok : (tys.all fun p => tyOk Try.prog p.1 p.2) = true := by kernel_rfl
theorem hT : TOk Try.prog tt := fun t i h => by
  obtain ⟨p, hp, rfl⟩ := Option.map_eq_some_iff.1 h
  have h1 := List.find?_some hp
  have h2 := List.mem_of_find?_eq_some hp
  have h3 := List.all_eq_true.1 tys_ok p h2
  simp only [beq_iff_eq] at h1
  rw [← h1]
  exact h3
theorem tt2 : tt 2 = some ty2 := rfl
theorem tt3 : tt 3 = some ty3 := rfl
theorem tt4 : tt 4 = some ty4 := rfl
theorem tt5 : tt 5 = some ty5 := rfl
theorem tt9 : tt 9 = some ty9 := rfl
theorem tt21 : tt 21 = some ty21 := rfl
theorem tt23 : tt 23 = some ty23 := rfl
theorem tt24 : tt 24 = some ty24 := rfl
theorem tt25 : tt 25 = some ty25 := rfl
theorem tt27 : tt 27 = some ty27 := rfl
theorem tt35 : tt 35 = some ty35 := rfl
theorem tt41 : tt 41 = some ty41 := rfl
theorem tt42 : tt 42 = some ty42 := rfl
theorem tt44 : tt 44 = some ty44 := rfl
theorem tt52 : tt 52 = some ty52 := rfl
theorem tt54 : tt 54 = some ty54 := rfl
theorem tt56 : tt 56 = some ty56 := rfl
theorem tt69 : tt 69 = some ty69 := rfl
theorem tt82 : tt 82 = some ty82 := rfl
theorem tt90 : tt 90 = some ty90 := rfl
theorem tt91 : tt 91 = some ty91 := rfl
theorem tt93 : tt 93 = some ty93 := rfl
theorem tt94 : tt 94 = some ty94 := rfl
theorem tt96 : tt 96 = some ty96 := rfl
theorem tt137 : tt 137 = some ty137 := rfl
theorem tt139 : tt 139 = some ty139 := rfl
theorem tt148 : tt 148 = some ty148 := rfl
theorem tt150 : tt 150 = some ty150 := rfl
theorem tt161 : tt 161 = some ty161 := rfl
theorem tyL : ty2 = { ag := false, n := 1, bytes := 8, zero := [.c (.sc (.int .i64 0))] } ∧ ty3 = { ag := false, n := 1, bytes := 8, zero := [.c (.sc (.int .i64 0))] } ∧ ty4 = { ag := false, n := 1, bytes := 1, bl := true, zero := [.c (.sc (.bool false))] } ∧ ty5 = { ag := false, n := 1, bytes := 1, zero := [.c (.sc (.int .u8 0))] } ∧ ty9 = { ag := false, n := 1, bytes := 16, str := true, zero := [.c (.sc (.string ⟨#[]⟩))] } ∧ ty21 = { ag := false, n := 1, bytes := 4, zero := [.c (.sc (.int .i32 0))] } ∧ ty23 = { ag := true, n := 2, bytes := 16, fs := [(0, 3, 1, false), (1, 3, 1, false)], zero := [.c (.sc (.int .i64 0)), .c (.sc (.int .i64 0))] } ∧ ty24 = { ag := false, n := 1, bytes := 24, sl := some 23, zero := [.nil] } ∧ ty25 = { ag := false, n := 1, bytes := 24, sl := some 56, zero := [.nil] } ∧ ty27 = { ag := true, n := 5, bytes := 80, fs := [(0, 23, 2, true), (2, 24, 1, false), (3, 9, 1, false), (4, 25, 1, false)], zero := [.c (.sc (.int .i64 0)), .c (.sc (.int .i64 0)), .nil, .c (.sc (.string ⟨#[]⟩)), .nil] } ∧ ty35 = { ag := false, n := 1, bytes := 24, sl := some 27, zero := [.nil] } ∧ ty41 = { ag := false, n := 1, bytes := 24, sl := some 69, zero := [.nil] } ∧ ty42 = { ag := false, n := 1, bytes := 24, sl := some 69, zero := [.nil] } ∧ ty44 = { ag := false, n := 1, bytes := 8, zero := [.c (.sc (.int .i64 0))] } ∧ ty52 = { ag := false, n := 1, bytes := 24, sl := some 9, zero := [.nil] } ∧ ty54 = { ag := true, n := 3, bytes := 56, fs := [(0, 3, 1, false), (1, 52, 1, false), (2, 52, 1, false)], zero := [.c (.sc (.int .i64 0)), .nil, .nil] } ∧ ty56 = { ag := true, n := 6, bytes := 96, fs := [(0, 3, 1, false), (1, 9, 1, false), (2, 9, 1, false), (3, 54, 3, true)], zero := [.c (.sc (.int .i64 0)), .c (.sc (.string ⟨#[]⟩)), .c (.sc (.string ⟨#[]⟩)), .c (.sc (.int .i64 0)), .nil, .nil] } ∧ ty69 = { ag := true, n := 2, bytes := 40, fs := [(0, 9, 1, false), (1, 52, 1, false)], zero := [.c (.sc (.string ⟨#[]⟩)), .nil] } ∧ ty82 = { ag := true, n := 5, bytes := 80, fs := [(0, 23, 2, true), (2, 24, 1, false), (3, 9, 1, false), (4, 25, 1, false)], zero := [.c (.sc (.int .i64 0)), .c (.sc (.int .i64 0)), .nil, .c (.sc (.string ⟨#[]⟩)), .nil] } ∧ ty90 = { ag := false, n := 1, bytes := 8, zero := [.any] } ∧ ty91 = { ag := false, n := 1, bytes := 8, zero := [.any] } ∧ ty93 = { ag := true, n := 2, bytes := 16, fs := [(0, 90, 1, false), (1, 91, 1, false)], zero := [.any, .any] } ∧ ty94 = { ag := true, n := 10, bytes := 80, ar := some (93, 2, 5, true), zero := [.any, .any, .any, .any, .any, .any, .any, .any, .any, .any] } ∧ ty96 = { ag := true, n := 6, bytes := 96, fs := [(0, 3, 1, false), (1, 9, 1, false), (2, 9, 1, false), (3, 54, 3, true)], zero := [.c (.sc (.int .i64 0)), .c (.sc (.string ⟨#[]⟩)), .c (.sc (.string ⟨#[]⟩)), .c (.sc (.int .i64 0)), .nil, .nil] } ∧ ty137 = { ag := false, n := 1, bytes := 24, sl := some 139, zero := [.nil] } ∧ ty139 = { ag := false, n := 1, bytes := 8, zero := [.any] } ∧ ty148 = { ag := false, n := 1, bytes := 24, sl := some 9, zero := [.nil] } ∧ ty150 = { ag := false, n := 1, bytes := 24, sl := some 52, zero := [.nil] } ∧ ty161 = { ag := false, n := 1, bytes := 4, zero := [.c (.sc (.int .u32 0))] } := ⟨rfl, rfl, rfl, rfl, rfl, rfl, rfl, rfl, rfl, rfl, rfl, rfl, rfl, rfl, rfl, rfl, rfl, rfl, rfl, rfl, rfl, rfl, rfl, rfl, rfl, rfl, rfl, rfl, rfl⟩
theorem ttL : tt 2 = some { ag := false, n := 1, bytes := 8, zero := [.c (.sc (.int .i64 0))] } ∧ tt 3 = some { ag := false, n := 1, bytes := 8, zero := [.c (.sc (.int .i64 0))] } ∧ tt 4 = some { ag := false, n := 1, bytes := 1, bl := true, zero := [.c (.sc (.bool false))] } ∧ tt 5 = some { ag := false, n := 1, bytes := 1, zero := [.c (.sc (.int .u8 0))] } ∧ tt 9 = some { ag := false, n := 1, bytes := 16, str := true, zero := [.c (.sc (.string ⟨#[]⟩))] } ∧ tt 21 = some { ag := false, n := 1, bytes := 4, zero := [.c (.sc (.int .i32 0))] } ∧ tt 23 = some { ag := true, n := 2, bytes := 16, fs := [(0, 3, 1, false), (1, 3, 1, false)], zero := [.c (.sc (.int .i64 0)), .c (.sc (.int .i64 0))] } ∧ tt 24 = some { ag := false, n := 1, bytes := 24, sl := some 23, zero := [.nil] } ∧ tt 25 = some { ag := false, n := 1, bytes := 24, sl := some 56, zero := [.nil] } ∧ tt 27 = some { ag := true, n := 5, bytes := 80, fs := [(0, 23, 2, true), (2, 24, 1, false), (3, 9, 1, false), (4, 25, 1, false)], zero := [.c (.sc (.int .i64 0)), .c (.sc (.int .i64 0)), .nil, .c (.sc (.string ⟨#[]⟩)), .nil] } ∧ tt 35 = some { ag := false, n := 1, bytes := 24, sl := some 27, zero := [.nil] } ∧ tt 41 = some { ag := false, n := 1, bytes := 24, sl := some 69, zero := [.nil] } ∧ tt 42 = some { ag := false, n := 1, bytes := 24, sl := some 69, zero := [.nil] } ∧ tt 44 = some { ag := false, n := 1, bytes := 8, zero := [.c (.sc (.int .i64 0))] } ∧ tt 52 = some { ag := false, n := 1, bytes := 24, sl := some 9, zero := [.nil] } ∧ tt 54 = some { ag := true, n := 3, bytes := 56, fs := [(0, 3, 1, false), (1, 52, 1, false), (2, 52, 1, false)], zero := [.c (.sc (.int .i64 0)), .nil, .nil] } ∧ tt 56 = some { ag := true, n := 6, bytes := 96, fs := [(0, 3, 1, false), (1, 9, 1, false), (2, 9, 1, false), (3, 54, 3, true)], zero := [.c (.sc (.int .i64 0)), .c (.sc (.string ⟨#[]⟩)), .c (.sc (.string ⟨#[]⟩)), .c (.sc (.int .i64 0)), .nil, .nil] } ∧ tt 69 = some { ag := true, n := 2, bytes := 40, fs := [(0, 9, 1, false), (1, 52, 1, false)], zero := [.c (.sc (.string ⟨#[]⟩)), .nil] } ∧ tt 82 = some { ag := true, n := 5, bytes := 80, fs := [(0, 23, 2, true), (2, 24, 1, false), (3, 9, 1, false), (4, 25, 1, false)], zero := [.c (.sc (.int .i64 0)), .c (.sc (.int .i64 0)), .nil, .c (.sc (.string ⟨#[]⟩)), .nil] } ∧ tt 90 = some { ag := false, n := 1, bytes := 8, zero := [.any] } ∧ tt 91 = some { ag := false, n := 1, bytes := 8, zero := [.any] } ∧ tt 93 = some { ag := true, n := 2, bytes := 16, fs := [(0, 90, 1, false), (1, 91, 1, false)], zero := [.any, .any] } ∧ tt 94 = some { ag := true, n := 10, bytes := 80, ar := some (93, 2, 5, true), zero := [.any, .any, .any, .any, .any, .any, .any, .any, .any, .any] } ∧ tt 96 = some { ag := true, n := 6, bytes := 96, fs := [(0, 3, 1, false), (1, 9, 1, false), (2, 9, 1, false), (3, 54, 3, true)], zero := [.c (.sc (.int .i64 0)), .c (.sc (.string ⟨#[]⟩)), .c (.sc (.string ⟨#[]⟩)), .c (.sc (.int .i64 0)), .nil, .nil] } ∧ tt 137 = some { ag := false, n := 1, bytes := 24, sl := some 139, zero := [.nil] } ∧ tt 139 = some { ag := false, n := 1, bytes := 8, zero := [.any] } ∧ tt 148 = some { ag := false, n := 1, bytes := 24, sl := some 9, zero := [.nil] } ∧ tt 150 = some { ag := false, n := 1, bytes := 24, sl := some 52, zero := [.nil] } ∧ tt 161 = some { ag := false, n := 1, bytes := 4, zero := [.c (.sc (.int .u32 0))] } := ⟨rfl, rfl, rfl, rfl, rfl, rfl, rfl, rfl, rfl, rfl, rfl, rfl, rfl, rfl, rfl, rfl, rfl, rfl, rfl, rfl, rfl, rfl, rfl, rfl, rfl, rfl, rfl, rfl, rfl⟩
end Go.Proofs.Ytmijejoddoolpaa
