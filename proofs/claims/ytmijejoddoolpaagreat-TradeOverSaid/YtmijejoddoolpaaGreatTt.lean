/- The table of the types, as far as the abstract machine asks: each row is held against the program by the kernel. -/
import Derived.Test.YtmijejoddoolpaaGreatG10
import Derived.Test.YtmijejoddoolpaaGreatProg
import Derived.KernelRfl
set_option linter.unusedVariables false
set_option linter.unusedSimpArgs false
namespace Go.Proofs.YtmijejoddoolpaaGreat
open Go.Vam
def ty2 : TyI := { ag := false, n := 1, bytes := 8, zero := [.c (.sc (.int .i64 0))] }
def ty3 : TyI := { ag := false, n := 1, bytes := 8, zero := [.c (.sc (.int .i64 0))] }
def ty4 : TyI := { ag := false, n := 1, bytes := 1, bl := true, zero := [.c (.sc (.bool false))] }
def ty5 : TyI := { ag := false, n := 1, bytes := 1, zero := [.c (.sc (.int .u8 0))] }
def ty9 : TyI := { ag := false, n := 1, bytes := 16, str := true, zero := [.c (.sc (.string ⟨#[]⟩))] }
def ty21 : TyI := { ag := false, n := 1, bytes := 4, zero := [.c (.sc (.int .i32 0))] }
def ty22 : TyI := { ag := false, n := 1, bytes := 24, sl := some 60, zero := [.nil] }
def ty23 : TyI := { ag := false, n := 1, bytes := 24, sl := some 60, zero := [.nil] }
def ty24 : TyI := { ag := false, n := 1, bytes := 24, sl := some 41, zero := [.nil] }
def ty26 : TyI := { ag := true, n := 2, bytes := 16, fs := [(0, 3, 1, false), (1, 3, 1, false)], zero := [.c (.sc (.int .i64 0)), .c (.sc (.int .i64 0))] }
def ty30 : TyI := { ag := false, n := 1, bytes := 8, zero := [.c (.sc (.int .i64 0))] }
def ty35 : TyI := { ag := false, n := 1, bytes := 24, sl := some 55, zero := [.nil] }
def ty39 : TyI := { ag := false, n := 1, bytes := 24, sl := some 26, zero := [.nil] }
def ty41 : TyI := { ag := true, n := 5, bytes := 80, fs := [(0, 26, 2, true), (2, 39, 1, false), (3, 9, 1, false), (4, 35, 1, false)], zero := [.c (.sc (.int .i64 0)), .c (.sc (.int .i64 0)), .nil, .c (.sc (.string ⟨#[]⟩)), .nil] }
def ty51 : TyI := { ag := false, n := 1, bytes := 24, sl := some 9, zero := [.nil] }
def ty53 : TyI := { ag := true, n := 3, bytes := 56, fs := [(0, 3, 1, false), (1, 51, 1, false), (2, 51, 1, false)], zero := [.c (.sc (.int .i64 0)), .nil, .nil] }
def ty55 : TyI := { ag := true, n := 6, bytes := 96, fs := [(0, 3, 1, false), (1, 9, 1, false), (2, 9, 1, false), (3, 53, 3, true)], zero := [.c (.sc (.int .i64 0)), .c (.sc (.string ⟨#[]⟩)), .c (.sc (.string ⟨#[]⟩)), .c (.sc (.int .i64 0)), .nil, .nil] }
def ty60 : TyI := { ag := true, n := 2, bytes := 40, fs := [(0, 9, 1, false), (1, 51, 1, false)], zero := [.c (.sc (.string ⟨#[]⟩)), .nil] }
def ty71 : TyI := { ag := true, n := 5, bytes := 80, fs := [(0, 26, 2, true), (2, 39, 1, false), (3, 9, 1, false), (4, 35, 1, false)], zero := [.c (.sc (.int .i64 0)), .c (.sc (.int .i64 0)), .nil, .c (.sc (.string ⟨#[]⟩)), .nil] }
def ty106 : TyI := { ag := false, n := 1, bytes := 8, zero := [.any] }
def ty107 : TyI := { ag := false, n := 1, bytes := 8, zero := [.any] }
def ty109 : TyI := { ag := true, n := 2, bytes := 16, fs := [(0, 106, 1, false), (1, 107, 1, false)], zero := [.any, .any] }
def ty110 : TyI := { ag := true, n := 10, bytes := 80, ar := some (109, 2, 5, true), zero := [.any, .any, .any, .any, .any, .any, .any, .any, .any, .any] }
def ty112 : TyI := { ag := true, n := 6, bytes := 96, fs := [(0, 3, 1, false), (1, 9, 1, false), (2, 9, 1, false), (3, 53, 3, true)], zero := [.c (.sc (.int .i64 0)), .c (.sc (.string ⟨#[]⟩)), .c (.sc (.string ⟨#[]⟩)), .c (.sc (.int .i64 0)), .nil, .nil] }
def ty135 : TyI := { ag := false, n := 1, bytes := 24, sl := some 137, zero := [.nil] }
def ty137 : TyI := { ag := false, n := 1, bytes := 8, zero := [.any] }
def ty152 : TyI := { ag := false, n := 1, bytes := 24, sl := some 9, zero := [.nil] }
def ty154 : TyI := { ag := false, n := 1, bytes := 24, sl := some 51, zero := [.nil] }
def ty165 : TyI := { ag := false, n := 1, bytes := 4, zero := [.c (.sc (.int .u32 0))] }
def tys : List (Nat × TyI) := [(2, ty2), (3, ty3), (4, ty4), (5, ty5), (9, ty9), (21, ty21), (22, ty22), (23, ty23), (24, ty24), (26, ty26), (30, ty30), (35, ty35), (39, ty39), (41, ty41), (51, ty51), (53, ty53), (55, ty55), (60, ty60), (71, ty71), (106, ty106), (107, ty107), (109, ty109), (110, ty110), (112, ty112), (135, ty135), (137, ty137), (152, ty152), (154, ty154), (165, ty165)]
def tt : TT := fun t => (tys.find? fun p => p.1 == t).map (·.2)
theorem tys_ok : (tys.all fun p => tyOk Tryz.prog p.1 p.2) = true := by kernel_rfl
theorem hT : TOk Tryz.prog tt := fun t i h => by
  obtain ⟨p, hp, rfl⟩ := Option.map_eq_some_iff.1 h
  have h1 := List.find?_some hp
  have h2 := List.mem_of_find?_eq_some hp
  have h3 := List.all_eq_true.1 tys_ok p h2
  simp only [beq_iff_eq] at h1
  rw [← h1]
  exact h3
theorem tt2 : tt 2 = some ty2 := rfl
theorem tt3 : tt 3 = some ty3 := rfl
theorem tt4 : tt 4 = some ty4 := rfl
theorem tt5 : tt 5 = some ty5 := rfl
theorem tt9 : tt 9 = some ty9 := rfl
theorem tt21 : tt 21 = some ty21 := rfl
theorem tt22 : tt 22 = some ty22 := rfl
theorem tt23 : tt 23 = some ty23 := rfl
theorem tt24 : tt 24 = some ty24 := rfl
theorem tt26 : tt 26 = some ty26 := rfl
theorem tt30 : tt 30 = some ty30 := rfl
theorem tt35 : tt 35 = some ty35 := rfl
theorem tt39 : tt 39 = some ty39 := rfl
theorem tt41 : tt 41 = some ty41 := rfl
theorem tt51 : tt 51 = some ty51 := rfl
theorem tt53 : tt 53 = some ty53 := rfl
theorem tt55 : tt 55 = some ty55 := rfl
theorem tt60 : tt 60 = some ty60 := rfl
theorem tt71 : tt 71 = some ty71 := rfl
theorem tt106 : tt 106 = some ty106 := rfl
theorem tt107 : tt 107 = some ty107 := rfl
theorem tt109 : tt 109 = some ty109 := rfl
theorem tt110 : tt 110 = some ty110 := rfl
theorem tt112 : tt 112 = some ty112 := rfl
theorem tt135 : tt 135 = some ty135 := rfl
theorem tt137 : tt 137 = some ty137 := rfl
theorem tt152 : tt 152 = some ty152 := rfl
theorem tt154 : tt 154 = some ty154 := rfl
theorem tt165 : tt 165 = some ty165 := rfl
theorem tyL : ty2 = { ag := false, n := 1, bytes := 8, zero := [.c (.sc (.int .i64 0))] } ∧ ty3 = { ag := false, n := 1, bytes := 8, zero := [.c (.sc (.int .i64 0))] } ∧ ty4 = { ag := false, n := 1, bytes := 1, bl := true, zero := [.c (.sc (.bool false))] } ∧ ty5 = { ag := false, n := 1, bytes := 1, zero := [.c (.sc (.int .u8 0))] } ∧ ty9 = { ag := false, n := 1, bytes := 16, str := true, zero := [.c (.sc (.string ⟨#[]⟩))] } ∧ ty21 = { ag := false, n := 1, bytes := 4, zero := [.c (.sc (.int .i32 0))] } ∧ ty22 = { ag := false, n := 1, bytes := 24, sl := some 60, zero := [.nil] } ∧ ty23 = { ag := false, n := 1, bytes := 24, sl := some 60, zero := [.nil] } ∧ ty24 = { ag := false, n := 1, bytes := 24, sl := some 41, zero := [.nil] } ∧ ty26 = { ag := true, n := 2, bytes := 16, fs := [(0, 3, 1, false), (1, 3, 1, false)], zero := [.c (.sc (.int .i64 0)), .c (.sc (.int .i64 0))] } ∧ ty30 = { ag := false, n := 1, bytes := 8, zero := [.c (.sc (.int .i64 0))] } ∧ ty35 = { ag := false, n := 1, bytes := 24, sl := some 55, zero := [.nil] } ∧ ty39 = { ag := false, n := 1, bytes := 24, sl := some 26, zero := [.nil] } ∧ ty41 = { ag := true, n := 5, bytes := 80, fs := [(0, 26, 2, true), (2, 39, 1, false), (3, 9, 1, false), (4, 35, 1, false)], zero := [.c (.sc (.int .i64 0)), .c (.sc (.int .i64 0)), .nil, .c (.sc (.string ⟨#[]⟩)), .nil] } ∧ ty51 = { ag := false, n := 1, bytes := 24, sl := some 9, zero := [.nil] } ∧ ty53 = { ag := true, n := 3, bytes := 56, fs := [(0, 3, 1, false), (1, 51, 1, false), (2, 51, 1, false)], zero := [.c (.sc (.int .i64 0)), .nil, .nil] } ∧ ty55 = { ag := true, n := 6, bytes := 96, fs := [(0, 3, 1, false), (1, 9, 1, false), (2, 9, 1, false), (3, 53, 3, true)], zero := [.c (.sc (.int .i64 0)), .c (.sc (.string ⟨#[]⟩)), .c (.sc (.string ⟨#[]⟩)), .c (.sc (.int .i64 0)), .nil, .nil] } ∧ ty60 = { ag := true, n := 2, bytes := 40, fs := [(0, 9, 1, false), (1, 51, 1, false)], zero := [.c (.sc (.string ⟨#[]⟩)), .nil] } ∧ ty71 = { ag := true, n := 5, bytes := 80, fs := [(0, 26, 2, true), (2, 39, 1, false), (3, 9, 1, false), (4, 35, 1, false)], zero := [.c (.sc (.int .i64 0)), .c (.sc (.int .i64 0)), .nil, .c (.sc (.string ⟨#[]⟩)), .nil] } ∧ ty106 = { ag := false, n := 1, bytes := 8, zero := [.any] } ∧ ty107 = { ag := false, n := 1, bytes := 8, zero := [.any] } ∧ ty109 = { ag := true, n := 2, bytes := 16, fs := [(0, 106, 1, false), (1, 107, 1, false)], zero := [.any, .any] } ∧ ty110 = { ag := true, n := 10, bytes := 80, ar := some (109, 2, 5, true), zero := [.any, .any, .any, .any, .any, .any, .any, .any, .any, .any] } ∧ ty112 = { ag := true, n := 6, bytes := 96, fs := [(0, 3, 1, false), (1, 9, 1, false), (2, 9, 1, false), (3, 53, 3, true)], zero := [.c (.sc (.int .i64 0)), .c (.sc (.string ⟨#[]⟩)), .c (.sc (.string ⟨#[]⟩)), .c (.sc (.int .i64 0)), .nil, .nil] } ∧ ty135 = { ag := false, n := 1, bytes := 24, sl := some 137, zero := [.nil] } ∧ ty137 = { ag := false, n := 1, bytes := 8, zero := [.any] } ∧ ty152 = { ag := false, n := 1, bytes := 24, sl := some 9, zero := [.nil] } ∧ ty154 = { ag := false, n := 1, bytes := 24, sl := some 51, zero := [.nil] } ∧ ty165 = { ag := false, n := 1, bytes := 4, zero := [.c (.sc (.int .u32 0))] } := ⟨rfl, rfl, rfl, rfl, rfl, rfl, rfl, rfl, rfl, rfl, rfl, rfl, rfl, rfl, rfl, rfl, rfl, rfl, rfl, rfl, rfl, rfl, rfl, rfl, rfl, rfl, rfl, rfl, rfl⟩
theorem ttL : tt 2 = some { ag := false, n := 1, bytes := 8, zero := [.c (.sc (.int .i64 0))] } ∧ tt 3 = some { ag := false, n := 1, bytes := 8, zero := [.c (.sc (.int .i64 0))] } ∧ tt 4 = some { ag := false, n := 1, bytes := 1, bl := true, zero := [.c (.sc (.bool false))] } ∧ tt 5 = some { ag := false, n := 1, bytes := 1, zero := [.c (.sc (.int .u8 0))] } ∧ tt 9 = some { ag := false, n := 1, bytes := 16, str := true, zero := [.c (.sc (.string ⟨#[]⟩))] } ∧ tt 21 = some { ag := false, n := 1, bytes := 4, zero := [.c (.sc (.int .i32 0))] } ∧ tt 22 = some { ag := false, n := 1, bytes := 24, sl := some 60, zero := [.nil] } ∧ tt 23 = some { ag := false, n := 1, bytes := 24, sl := some 60, zero := [.nil] } ∧ tt 24 = some { ag := false, n := 1, bytes := 24, sl := some 41, zero := [.nil] } ∧ tt 26 = some { ag := true, n := 2, bytes := 16, fs := [(0, 3, 1, false), (1, 3, 1, false)], zero := [.c (.sc (.int .i64 0)), .c (.sc (.int .i64 0))] } ∧ tt 30 = some { ag := false, n := 1, bytes := 8, zero := [.c (.sc (.int .i64 0))] } ∧ tt 35 = some { ag := false, n := 1, bytes := 24, sl := some 55, zero := [.nil] } ∧ tt 39 = some { ag := false, n := 1, bytes := 24, sl := some 26, zero := [.nil] } ∧ tt 41 = some { ag := true, n := 5, bytes := 80, fs := [(0, 26, 2, true), (2, 39, 1, false), (3, 9, 1, false), (4, 35, 1, false)], zero := [.c (.sc (.int .i64 0)), .c (.sc (.int .i64 0)), .nil, .c (.sc (.string ⟨#[]⟩)), .nil] } ∧ tt 51 = some { ag := false, n := 1, bytes := 24, sl := some 9, zero := [.nil] } ∧ tt 53 = some { ag := true, n := 3, bytes := 56, fs := [(0, 3, 1, false), (1, 51, 1, false), (2, 51, 1, false)], zero := [.c (.sc (.int .i64 0)), .nil, .nil] } ∧ tt 55 = some { ag := true, n := 6, bytes := 96, fs := [(0, 3, 1, false), (1, 9, 1, false), (2, 9, 1, false), (3, 53, 3, true)], zero := [.c (.sc (.int .i64 0)), .c (.sc (.string ⟨#[]⟩)), .c (.sc (.string ⟨#[]⟩)), .c (.sc (.int .i64 0)), .nil, .nil] } ∧ tt 60 = some { ag := true, n := 2, bytes := 40, fs := [(0, 9, 1, false), (1, 51, 1, false)], zero := [.c (.sc (.string ⟨#[]⟩)), .nil] } ∧ tt 71 = some { ag := true, n := 5, bytes := 80, fs := [(0, 26, 2, true), (2, 39, 1, false), (3, 9, 1, false), (4, 35, 1, false)], zero := [.c (.sc (.int .i64 0)), .c (.sc (.int .i64 0)), .nil, .c (.sc (.string ⟨#[]⟩)), .nil] } ∧ tt 106 = some { ag := false, n := 1, bytes := 8, zero := [.any] } ∧ tt 107 = some { ag := false, n := 1, bytes := 8, zero := [.any] } ∧ tt 109 = some { ag := true, n := 2, bytes := 16, fs := [(0, 106, 1, false), (1, 107, 1, false)], zero := [.any, .any] } ∧ tt 110 = some { ag := true, n := 10, bytes := 80, ar := some (109, 2, 5, true), zero := [.any, .any, .any, .any, .any, .any, .any, .any, .any, .any] } ∧ tt 112 = some { ag := true, n := 6, bytes := 96, fs := [(0, 3, 1, false), (1, 9, 1, false), (2, 9, 1, false), (3, 53, 3, true)], zero := [.c (.sc (.int .i64 0)), .c (.sc (.string ⟨#[]⟩)), .c (.sc (.string ⟨#[]⟩)), .c (.sc (.int .i64 0)), .nil, .nil] } ∧ tt 135 = some { ag := false, n := 1, bytes := 24, sl := some 137, zero := [.nil] } ∧ tt 137 = some { ag := false, n := 1, bytes := 8, zero := [.any] } ∧ tt 152 = some { ag := false, n := 1, bytes := 24, sl := some 9, zero := [.nil] } ∧ tt 154 = some { ag := false, n := 1, bytes := 24, sl := some 51, zero := [.nil] } ∧ tt 165 = some { ag := false, n := 1, bytes := 4, zero := [.c (.sc (.int .u32 0))] } := ⟨rfl, rfl, rfl, rfl, rfl, rfl, rfl, rfl, rfl, rfl, rfl, rfl, rfl, rfl, rfl, rfl, rfl, rfl, rfl, rfl, rfl, rfl, rfl, rfl, rfl, rfl, rfl, rfl, rfl⟩
end Go.Proofs.YtmijejoddoolpaaGreat
