/- The table of the types, as far as the abstract machine asks: each row is held against the program by the kernel. -/
import Derived.Test.YthfogkmhgepgaaaGreatG10
import Derived.Test.YthfogkmhgepgaaaGreatProg
import Derived.KernelRfl
set_option linter.unusedVariables false
set_option linter.unusedSimpArgs false
namespace Go.Proofs.YthfogkmhgepgaaaGreat.Px
open Go.Vam
def ty2 : TyI := { ag := false, n := 1, bytes := 8, zero := [.c (.sc (.int .i64 0))] }
def ty3 : TyI := { ag := false, n := 1, bytes := 8, zero := [.c (.sc (.int .i64 0))] }
def ty4 : TyI := { ag := false, n := 1, bytes := 1, bl := true, zero := [.c (.sc (.bool false))] }
def ty5 : TyI := { ag := false, n := 1, bytes := 1, zero := [.c (.sc (.int .u8 0))] }
def ty9 : TyI := { ag := false, n := 1, bytes := 16, str := true, zero := [.c (.sc (.string ⟨#[]⟩))] }
def ty21 : TyI := { ag := false, n := 1, bytes := 4, zero := [.c (.sc (.int .i32 0))] }
def ty22 : TyI := { ag := false, n := 1, bytes := 24, sl := some 37, zero := [.nil] }
def ty23 : TyI := { ag := false, n := 1, bytes := 24, sl := some 34, zero := [.nil] }
def ty34 : TyI := { ag := true, n := 2, bytes := 16, fs := [(0, 3, 1, false), (1, 3, 1, false)], zero := [.c (.sc (.int .i64 0)), .c (.sc (.int .i64 0))] }
def ty35 : TyI := { ag := false, n := 1, bytes := 24, sl := some 50, zero := [.nil] }
def ty37 : TyI := { ag := true, n := 5, bytes := 80, fs := [(0, 34, 2, true), (2, 23, 1, false), (3, 9, 1, false), (4, 35, 1, false)], zero := [.c (.sc (.int .i64 0)), .c (.sc (.int .i64 0)), .nil, .c (.sc (.string ⟨#[]⟩)), .nil] }
def ty38 : TyI := { ag := false, n := 1, bytes := 24, sl := some 70, zero := [.nil] }
def ty39 : TyI := { ag := false, n := 1, bytes := 24, sl := some 70, zero := [.nil] }
def ty41 : TyI := { ag := false, n := 1, bytes := 8, zero := [.c (.sc (.int .i64 0))] }
def ty46 : TyI := { ag := false, n := 1, bytes := 24, sl := some 9, zero := [.nil] }
def ty48 : TyI := { ag := true, n := 3, bytes := 56, fs := [(0, 3, 1, false), (1, 46, 1, false), (2, 46, 1, false)], zero := [.c (.sc (.int .i64 0)), .nil, .nil] }
def ty50 : TyI := { ag := true, n := 6, bytes := 96, fs := [(0, 3, 1, false), (1, 9, 1, false), (2, 9, 1, false), (3, 48, 3, true)], zero := [.c (.sc (.int .i64 0)), .c (.sc (.string ⟨#[]⟩)), .c (.sc (.string ⟨#[]⟩)), .c (.sc (.int .i64 0)), .nil, .nil] }
def ty54 : TyI := { ag := true, n := 2, bytes := 48, fs := [(0, 22, 1, false), (1, 22, 1, false)], zero := [.c (.sc (.slice none 0 0)), .c (.sc (.slice none 0 0))] }
def ty55 : TyI := { ag := false, n := 1, bytes := 8, zero := [.any] }
def ty70 : TyI := { ag := true, n := 2, bytes := 40, fs := [(0, 9, 1, false), (1, 46, 1, false)], zero := [.c (.sc (.string ⟨#[]⟩)), .nil] }
def ty91 : TyI := { ag := true, n := 5, bytes := 80, fs := [(0, 34, 2, true), (2, 23, 1, false), (3, 9, 1, false), (4, 35, 1, false)], zero := [.c (.sc (.int .i64 0)), .c (.sc (.int .i64 0)), .nil, .c (.sc (.string ⟨#[]⟩)), .nil] }
def ty100 : TyI := { ag := false, n := 1, bytes := 8, zero := [.any] }
def ty101 : TyI := { ag := false, n := 1, bytes := 8, zero := [.any] }
def ty103 : TyI := { ag := true, n := 2, bytes := 16, fs := [(0, 100, 1, false), (1, 101, 1, false)], zero := [.any, .any] }
def ty104 : TyI := { ag := true, n := 10, bytes := 80, ar := some (103, 2, 5, true), zero := [.any, .any, .any, .any, .any, .any, .any, .any, .any, .any] }
def ty106 : TyI := { ag := true, n := 6, bytes := 96, fs := [(0, 3, 1, false), (1, 9, 1, false), (2, 9, 1, false), (3, 48, 3, true)], zero := [.c (.sc (.int .i64 0)), .c (.sc (.string ⟨#[]⟩)), .c (.sc (.string ⟨#[]⟩)), .c (.sc (.int .i64 0)), .nil, .nil] }
def ty142 : TyI := { ag := false, n := 1, bytes := 24, sl := some 144, zero := [.nil] }
def ty144 : TyI := { ag := false, n := 1, bytes := 8, zero := [.any] }
def ty153 : TyI := { ag := false, n := 1, bytes := 24, sl := some 9, zero := [.nil] }
def ty155 : TyI := { ag := false, n := 1, bytes := 24, sl := some 46, zero := [.nil] }
def ty166 : TyI := { ag := false, n := 1, bytes := 4, zero := [.c (.sc (.int .u32 0))] }
def tys : List (Nat × TyI) := [(2, ty2), (3, ty3), (4, ty4), (5, ty5), (9, ty9), (21, ty21), (22, ty22), (23, ty23), (34, ty34), (35, ty35), (37, ty37), (38, ty38), (39, ty39), (41, ty41), (46, ty46), (48, ty48), (50, ty50), (54, ty54), (55, ty55), (70, ty70), (91, ty91), (100, ty100), (101, ty101), (103, ty103), (104, ty104), (106, ty106), (142, ty142), (144, ty144), (153, ty153), (155, ty155), (166, ty166)]
def tt : TT := fun t => (tys.find? fun p => p.1 == t).map (·.2)
theorem tys_ok : (tys.all fun p => tyOk Tryz.prog p.1 p.2) = true := by kernel_rfl
theorem hT : TOk Tryz.prog tt := fun t i h => by
  obtain ⟨p, hp, rfl⟩ := Option.map_eq_some_iff.1 h
  have h1 := List.find?_some hp
  have h2 := List.mem_of_find?_eq_some hp
  have h3 := List.all_eq_true.1 tys_ok p h2
  simp only [beq_iff_eq] at h1
  rw [← h1]
  exact h3
theorem tt2 : tt 2 = some ty2 := rfl
theorem tt3 : tt 3 = some ty3 := rfl
theorem tt4 : tt 4 = some ty4 := rfl
theorem tt5 : tt 5 = some ty5 := rfl
theorem tt9 : tt 9 = some ty9 := rfl
theorem tt21 : tt 21 = some ty21 := rfl
theorem tt22 : tt 22 = some ty22 := rfl
theorem tt23 : tt 23 = some ty23 := rfl
theorem tt34 : tt 34 = some ty34 := rfl
theorem tt35 : tt 35 = some ty35 := rfl
theorem tt37 : tt 37 = some ty37 := rfl
theorem tt38 : tt 38 = some ty38 := rfl
theorem tt39 : tt 39 = some ty39 := rfl
theorem tt41 : tt 41 = some ty41 := rfl
theorem tt46 : tt 46 = some ty46 := rfl
theorem tt48 : tt 48 = some ty48 := rfl
theorem tt50 : tt 50 = some ty50 := rfl
theorem tt54 : tt 54 = some ty54 := rfl
theorem tt55 : tt 55 = some ty55 := rfl
theorem tt70 : tt 70 = some ty70 := rfl
theorem tt91 : tt 91 = some ty91 := rfl
theorem tt100 : tt 100 = some ty100 := rfl
theorem tt101 : tt 101 = some ty101 := rfl
theorem tt103 : tt 103 = some ty103 := rfl
theorem tt104 : tt 104 = some ty104 := rfl
theorem tt106 : tt 106 = some ty106 := rfl
theorem tt142 : tt 142 = some ty142 := rfl
theorem tt144 : tt 144 = some ty144 := rfl
theorem tt153 : tt 153 = some ty153 := rfl
theorem tt155 : tt 155 = some ty155 := rfl
theorem tt166 : tt 166 = some ty166 := rfl
theorem tyL : ty2 = { ag := false, n := 1, bytes := 8, zero := [.c (.sc (.int .i64 0))] } ∧ ty3 = { ag := false, n := 1, bytes := 8, zero := [.c (.sc (.int .i64 0))] } ∧ ty4 = { ag := false, n := 1, bytes := 1, bl := true, zero := [.c (.sc (.bool false))] } ∧ ty5 = { ag := false, n := 1, bytes := 1, zero := [.c (.sc (.int .u8 0))] } ∧ ty9 = { ag := false, n := 1, bytes := 16, str := true, zero := [.c (.sc (.string ⟨#[]⟩))] } ∧ ty21 = { ag := false, n := 1, bytes := 4, zero := [.c (.sc (.int .i32 0))] } ∧ ty22 = { ag := false, n := 1, bytes := 24, sl := some 37, zero := [.nil] } ∧ ty23 = { ag := false, n := 1, bytes := 24, sl := some 34, zero := [.nil] } ∧ ty34 = { ag := true, n := 2, bytes := 16, fs := [(0, 3, 1, false), (1, 3, 1, false)], zero := [.c (.sc (.int .i64 0)), .c (.sc (.int .i64 0))] } ∧ ty35 = { ag := false, n := 1, bytes := 24, sl := some 50, zero := [.nil] } ∧ ty37 = { ag := true, n := 5, bytes := 80, fs := [(0, 34, 2, true), (2, 23, 1, false), (3, 9, 1, false), (4, 35, 1, false)], zero := [.c (.sc (.int .i64 0)), .c (.sc (.int .i64 0)), .nil, .c (.sc (.string ⟨#[]⟩)), .nil] } ∧ ty38 = { ag := false, n := 1, bytes := 24, sl := some 70, zero := [.nil] } ∧ ty39 = { ag := false, n := 1, bytes := 24, sl := some 70, zero := [.nil] } ∧ ty41 = { ag := false, n := 1, bytes := 8, zero := [.c (.sc (.int .i64 0))] } ∧ ty46 = { ag := false, n := 1, bytes := 24, sl := some 9, zero := [.nil] } ∧ ty48 = { ag := true, n := 3, bytes := 56, fs := [(0, 3, 1, false), (1, 46, 1, false), (2, 46, 1, false)], zero := [.c (.sc (.int .i64 0)), .nil, .nil] } ∧ ty50 = { ag := true, n := 6, bytes := 96, fs := [(0, 3, 1, false), (1, 9, 1, false), (2, 9, 1, false), (3, 48, 3, true)], zero := [.c (.sc (.int .i64 0)), .c (.sc (.string ⟨#[]⟩)), .c (.sc (.string ⟨#[]⟩)), .c (.sc (.int .i64 0)), .nil, .nil] } ∧ ty54 = { ag := true, n := 2, bytes := 48, fs := [(0, 22, 1, false), (1, 22, 1, false)], zero := [.c (.sc (.slice none 0 0)), .c (.sc (.slice none 0 0))] } ∧ ty55 = { ag := false, n := 1, bytes := 8, zero := [.any] } ∧ ty70 = { ag := true, n := 2, bytes := 40, fs := [(0, 9, 1, false), (1, 46, 1, false)], zero := [.c (.sc (.string ⟨#[]⟩)), .nil] } ∧ ty91 = { ag := true, n := 5, bytes := 80, fs := [(0, 34, 2, true), (2, 23, 1, false), (3, 9, 1, false), (4, 35, 1, false)], zero := [.c (.sc (.int .i64 0)), .c (.sc (.int .i64 0)), .nil, .c (.sc (.string ⟨#[]⟩)), .nil] } ∧ ty100 = { ag := false, n := 1, bytes := 8, zero := [.any] } ∧ ty101 = { ag := false, n := 1, bytes := 8, zero := [.any] } ∧ ty103 = { ag := true, n := 2, bytes := 16, fs := [(0, 100, 1, false), (1, 101, 1, false)], zero := [.any, .any] } ∧ ty104 = { ag := true, n := 10, bytes := 80, ar := some (103, 2, 5, true), zero := [.any, .any, .any, .any, .any, .any, .any, .any, .any, .any] } ∧ ty106 = { ag := true, n := 6, bytes := 96, fs := [(0, 3, 1, false), (1, 9, 1, false), (2, 9, 1, false), (3, 48, 3, true)], zero := [.c (.sc (.int .i64 0)), .c (.sc (.string ⟨#[]⟩)), .c (.sc (.string ⟨#[]⟩)), .c (.sc (.int .i64 0)), .nil, .nil] } ∧ ty142 = { ag := false, n := 1, bytes := 24, sl := some 144, zero := [.nil] } ∧ ty144 = { ag := false, n := 1, bytes := 8, zero := [.any] } ∧ ty153 = { ag := false, n := 1, bytes := 24, sl := some 9, zero := [.nil] } ∧ ty155 = { ag := false, n := 1, bytes := 24, sl := some 46, zero := [.nil] } ∧ ty166 = { ag := false, n := 1, bytes := 4, zero := [.c (.sc (.int .u32 0))] } := ⟨rfl, rfl, rfl, rfl, rfl, rfl, rfl, rfl, rfl, rfl, rfl, rfl, rfl, rfl, rfl, rfl, rfl, rfl, rfl, rfl, rfl, rfl, rfl, rfl, rfl, rfl, rfl, rfl, rfl, rfl, rfl⟩
theorem ttL : tt 2 = some { ag := false, n := 1, bytes := 8, zero := [.c (.sc (.int .i64 0))] } ∧ tt 3 = some { ag := false, n := 1, bytes := 8, zero := [.c (.sc (.int .i64 0))] } ∧ tt 4 = some { ag := false, n := 1, bytes := 1, bl := true, zero := [.c (.sc (.bool false))] } ∧ tt 5 = some { ag := false, n := 1, bytes := 1, zero := [.c (.sc (.int .u8 0))] } ∧ tt 9 = some { ag := false, n := 1, bytes := 16, str := true, zero := [.c (.sc (.string ⟨#[]⟩))] } ∧ tt 21 = some { ag := false, n := 1, bytes := 4, zero := [.c (.sc (.int .i32 0))] } ∧ tt 22 = some { ag := false, n := 1, bytes := 24, sl := some 37, zero := [.nil] } ∧ tt 23 = some { ag := false, n := 1, bytes := 24, sl := some 34, zero := [.nil] } ∧ tt 34 = some { ag := true, n := 2, bytes := 16, fs := [(0, 3, 1, false), (1, 3, 1, false)], zero := [.c (.sc (.int .i64 0)), .c (.sc (.int .i64 0))] } ∧ tt 35 = some { ag := false, n := 1, bytes := 24, sl := some 50, zero := [.nil] } ∧ tt 37 = some { ag := true, n := 5, bytes := 80, fs := [(0, 34, 2, true), (2, 23, 1, false), (3, 9, 1, false), (4, 35, 1, false)], zero := [.c (.sc (.int .i64 0)), .c (.sc (.int .i64 0)), .nil, .c (.sc (.string ⟨#[]⟩)), .nil] } ∧ tt 38 = some { ag := false, n := 1, bytes := 24, sl := some 70, zero := [.nil] } ∧ tt 39 = some { ag := false, n := 1, bytes := 24, sl := some 70, zero := [.nil] } ∧ tt 41 = some { ag := false, n := 1, bytes := 8, zero := [.c (.sc (.int .i64 0))] } ∧ tt 46 = some { ag := false, n := 1, bytes := 24, sl := some 9, zero := [.nil] } ∧ tt 48 = some { ag := true, n := 3, bytes := 56, fs := [(0, 3, 1, false), (1, 46, 1, false), (2, 46, 1, false)], zero := [.c (.sc (.int .i64 0)), .nil, .nil] } ∧ tt 50 = some { ag := true, n := 6, bytes := 96, fs := [(0, 3, 1, false), (1, 9, 1, false), (2, 9, 1, false), (3, 48, 3, true)], zero := [.c (.sc (.int .i64 0)), .c (.sc (.string ⟨#[]⟩)), .c (.sc (.string ⟨#[]⟩)), .c (.sc (.int .i64 0)), .nil, .nil] } ∧ tt 54 = some { ag := true, n := 2, bytes := 48, fs := [(0, 22, 1, false), (1, 22, 1, false)], zero := [.c (.sc (.slice none 0 0)), .c (.sc (.slice none 0 0))] } ∧ tt 55 = some { ag := false, n := 1, bytes := 8, zero := [.any] } ∧ tt 70 = some { ag := true, n := 2, bytes := 40, fs := [(0, 9, 1, false), (1, 46, 1, false)], zero := [.c (.sc (.string ⟨#[]⟩)), .nil] } ∧ tt 91 = some { ag := true, n := 5, bytes := 80, fs := [(0, 34, 2, true), (2, 23, 1, false), (3, 9, 1, false), (4, 35, 1, false)], zero := [.c (.sc (.int .i64 0)), .c (.sc (.int .i64 0)), .nil, .c (.sc (.string ⟨#[]⟩)), .nil] } ∧ tt 100 = some { ag := false, n := 1, bytes := 8, zero := [.any] } ∧ tt 101 = some { ag := false, n := 1, bytes := 8, zero := [.any] } ∧ tt 103 = some { ag := true, n := 2, bytes := 16, fs := [(0, 100, 1, false), (1, 101, 1, false)], zero := [.any, .any] } ∧ tt 104 = some { ag := true, n := 10, bytes := 80, ar := some (103, 2, 5, true), zero := [.any, .any, .any, .any, .any, .any, .any, .any, .any, .any] } ∧ tt 106 = some { ag := true, n := 6, bytes := 96, fs := [(0, 3, 1, false), (1, 9, 1, false), (2, 9, 1, false), (3, 48, 3, true)], zero := [.c (.sc (.int .i64 0)), .c (.sc (.string ⟨#[]⟩)), .c (.sc (.string ⟨#[]⟩)), .c (.sc (.int .i64 0)), .nil, .nil] } ∧ tt 142 = some { ag := false, n := 1, bytes := 24, sl := some 144, zero := [.nil] } ∧ tt 144 = some { ag := false, n := 1, bytes := 8, zero := [.any] } ∧ tt 153 = some { ag := false, n := 1, bytes := 24, sl := some 9, zero := [.nil] } ∧ tt 155 = some { ag := false, n := 1, bytes := 24, sl := some 46, zero := [.nil] } ∧ tt 166 = some { ag := false, n := 1, bytes := 4, zero := [.c (.sc (.int .u32 0))] } := ⟨rfl, rfl, rfl, rfl, rfl, rfl, rfl, rfl, rfl, rfl, rfl, rfl, rfl, rfl, rfl, rfl, rfl, rfl, rfl, rfl, rfl, rfl, rfl, rfl, rfl, rfl, rfl, rfl, rfl, rfl, rfl⟩
end Go.Proofs.YthfogkmhgepgaaaGreat.Px
