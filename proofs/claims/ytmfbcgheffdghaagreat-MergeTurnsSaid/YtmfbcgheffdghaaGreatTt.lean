/- The table of the types, as far as the abstract machine asks: each row is held against the program by the kernel. -/
import Derived.Test.YtmfbcgheffdghaaGreatG10
import Derived.Test.YtmfbcgheffdghaaGreatProg
import Derived.KernelRfl
set_option linter.unusedVariables false
set_option linter.unusedSimpArgs false
namespace Go.Proofs.YtmfbcgheffdghaaGreat
open Go.Vam
def ty2 : TyI := { ag := false, n := 1, bytes := 8, zero := [.c (.sc (.int .i64 0))] }
def ty3 : TyI := { ag := false, n := 1, bytes := 8, zero := [.c (.sc (.int .i64 0))] }
def ty4 : TyI := { ag := false, n := 1, bytes := 1, bl := true, zero := [.c (.sc (.bool false))] }
def ty5 : TyI := { ag := false, n := 1, bytes := 1, zero := [.c (.sc (.int .u8 0))] }
def ty9 : TyI := { ag := false, n := 1, bytes := 16, str := true, zero := [.c (.sc (.string ⟨#[]⟩))] }
def ty21 : TyI := { ag := false, n := 1, bytes := 4, zero := [.c (.sc (.int .i32 0))] }
def ty22 : TyI := { ag := false, n := 1, bytes := 24, sl := some 36, zero := [.nil] }
def ty25 : TyI := { ag := false, n := 1, bytes := 8, zero := [.c (.sc (.int .i64 0))] }
def ty28 : TyI := { ag := false, n := 1, bytes := 24, sl := some 33, zero := [.nil] }
def ty33 : TyI := { ag := true, n := 2, bytes := 16, fs := [(0, 3, 1, false), (1, 3, 1, false)], zero := [.c (.sc (.int .i64 0)), .c (.sc (.int .i64 0))] }
def ty34 : TyI := { ag := false, n := 1, bytes := 24, sl := some 50, zero := [.nil] }
def ty36 : TyI := { ag := true, n := 5, bytes := 80, fs := [(0, 33, 2, true), (2, 28, 1, false), (3, 9, 1, false), (4, 34, 1, false)], zero := [.c (.sc (.int .i64 0)), .c (.sc (.int .i64 0)), .nil, .c (.sc (.string ⟨#[]⟩)), .nil] }
def ty39 : TyI := { ag := false, n := 1, bytes := 24, sl := some 53, zero := [.nil] }
def ty40 : TyI := { ag := false, n := 1, bytes := 24, sl := some 53, zero := [.nil] }
def ty46 : TyI := { ag := false, n := 1, bytes := 24, sl := some 9, zero := [.nil] }
def ty48 : TyI := { ag := true, n := 3, bytes := 56, fs := [(0, 3, 1, false), (1, 46, 1, false), (2, 46, 1, false)], zero := [.c (.sc (.int .i64 0)), .nil, .nil] }
def ty50 : TyI := { ag := true, n := 6, bytes := 96, fs := [(0, 3, 1, false), (1, 9, 1, false), (2, 9, 1, false), (3, 48, 3, true)], zero := [.c (.sc (.int .i64 0)), .c (.sc (.string ⟨#[]⟩)), .c (.sc (.string ⟨#[]⟩)), .c (.sc (.int .i64 0)), .nil, .nil] }
def ty53 : TyI := { ag := true, n := 2, bytes := 40, fs := [(0, 9, 1, false), (1, 46, 1, false)], zero := [.c (.sc (.string ⟨#[]⟩)), .nil] }
def ty69 : TyI := { ag := true, n := 2, bytes := 48, fs := [(0, 22, 1, false), (1, 22, 1, false)], zero := [.c (.sc (.slice none 0 0)), .c (.sc (.slice none 0 0))] }
def ty100 : TyI := { ag := true, n := 5, bytes := 80, fs := [(0, 33, 2, true), (2, 28, 1, false), (3, 9, 1, false), (4, 34, 1, false)], zero := [.c (.sc (.int .i64 0)), .c (.sc (.int .i64 0)), .nil, .c (.sc (.string ⟨#[]⟩)), .nil] }
def ty107 : TyI := { ag := false, n := 1, bytes := 8, zero := [.any] }
def ty108 : TyI := { ag := false, n := 1, bytes := 8, zero := [.any] }
def ty110 : TyI := { ag := true, n := 2, bytes := 16, fs := [(0, 107, 1, false), (1, 108, 1, false)], zero := [.any, .any] }
def ty111 : TyI := { ag := true, n := 10, bytes := 80, ar := some (110, 2, 5, true), zero := [.any, .any, .any, .any, .any, .any, .any, .any, .any, .any] }
def ty113 : TyI := { ag := true, n := 6, bytes := 96, fs := [(0, 3, 1, false), (1, 9, 1, false), (2, 9, 1, false), (3, 48, 3, true)], zero := [.c (.sc (.int .i64 0)), .c (.sc (.string ⟨#[]⟩)), .c (.sc (.string ⟨#[]⟩)), .c (.sc (.int .i64 0)), .nil, .nil] }
def ty127 : TyI := { ag := false, n := 1, bytes := 24, sl := some 129, zero := [.nil] }
def ty129 : TyI := { ag := false, n := 1, bytes := 8, zero := [.any] }
def ty157 : TyI := { ag := false, n := 1, bytes := 24, sl := some 9, zero := [.nil] }
def ty159 : TyI := { ag := false, n := 1, bytes := 24, sl := some 46, zero := [.nil] }
def ty170 : TyI := { ag := false, n := 1, bytes := 4, zero := [.c (.sc (.int .u32 0))] }
def tys : List (Nat × TyI) := [(2, ty2), (3, ty3), (4, ty4), (5, ty5), (9, ty9), (21, ty21), (22, ty22), (25, ty25), (28, ty28), (33, ty33), (34, ty34), (36, ty36), (39, ty39), (40, ty40), (46, ty46), (48, ty48), (50, ty50), (53, ty53), (69, ty69), (100, ty100), (107, ty107), (108, ty108), (110, ty110), (111, ty111), (113, ty113), (127, ty127), (129, ty129), (157, ty157), (159, ty159), (170, ty170)]
def tt : TT := fun t => (tys.find? fun p => p.1 == t).map (·.2)
theorem tys_ok : (tys.all fun p => tyOk Tryz.prog p.1 p.2) = true := by kernel_rfl
theorem hT : TOk Tryz.prog tt := fun t i h => by
  obtain ⟨p, hp, rfl⟩ := Option.map_eq_some_iff.1 h
  have h1 := List.find?_some hp
  have h2 := List.mem_of_find?_eq_some hp
  have h3 := List.all_eq_true.1 tys_ok p h2
  simp only [beq_iff_eq] at h1
  rw [← h1]
  exact h3
theorem tt2 : tt 2 = some ty2 := rfl
theorem tt3 : tt 3 = some ty3 := rfl
theorem tt4 : tt 4 = some ty4 := rfl
theorem tt5 : tt 5 = some ty5 := rfl
theorem tt9 : tt 9 = some ty9 := rfl
theorem tt21 : tt 21 = some ty21 := rfl
theorem tt22 : tt 22 = some ty22 := rfl
theorem tt25 : tt 25 = some ty25 := rfl
theorem tt28 : tt 28 = some ty28 := rfl
theorem tt33 : tt 33 = some ty33 := rfl
theorem tt34 : tt 34 = some ty34 := rfl
theorem tt36 : tt 36 = some ty36 := rfl
theorem tt39 : tt 39 = some ty39 := rfl
theorem tt40 : tt 40 = some ty40 := rfl
theorem tt46 : tt 46 = some ty46 := rfl
theorem tt48 : tt 48 = some ty48 := rfl
theorem tt50 : tt 50 = some ty50 := rfl
theorem tt53 : tt 53 = some ty53 := rfl
theorem tt69 : tt 69 = some ty69 := rfl
theorem tt100 : tt 100 = some ty100 := rfl
theorem tt107 : tt 107 = some ty107 := rfl
theorem tt108 : tt 108 = some ty108 := rfl
theorem tt110 : tt 110 = some ty110 := rfl
theorem tt111 : tt 111 = some ty111 := rfl
theorem tt113 : tt 113 = some ty113 := rfl
theorem tt127 : tt 127 = some ty127 := rfl
theorem tt129 : tt 129 = some ty129 := rfl
theorem tt157 : tt 157 = some ty157 := rfl
theorem tt159 : tt 159 = some ty159 := rfl
theorem tt170 : tt 170 = some ty170 := rfl
theorem tyL : ty2 = { ag := false, n := 1, bytes := 8, zero := [.c (.sc (.int .i64 0))] } ∧ ty3 = { ag := false, n := 1, bytes := 8, zero := [.c (.sc (.int .i64 0))] } ∧ ty4 = { ag := false, n := 1, bytes := 1, bl := true, zero := [.c (.sc (.bool false))] } ∧ ty5 = { ag := false, n := 1, bytes := 1, zero := [.c (.sc (.int .u8 0))] } ∧ ty9 = { ag := false, n := 1, bytes := 16, str := true, zero := [.c (.sc (.string ⟨#[]⟩))] } ∧ ty21 = { ag := false, n := 1, bytes := 4, zero := [.c (.sc (.int .i32 0))] } ∧ ty22 = { ag := false, n := 1, bytes := 24, sl := some 36, zero := [.nil] } ∧ ty25 = { ag := false, n := 1, bytes := 8, zero := [.c (.sc (.int .i64 0))] } ∧ ty28 = { ag := false, n := 1, bytes := 24, sl := some 33, zero := [.nil] } ∧ ty33 = { ag := true, n := 2, bytes := 16, fs := [(0, 3, 1, false), (1, 3, 1, false)], zero := [.c (.sc (.int .i64 0)), .c (.sc (.int .i64 0))] } ∧ ty34 = { ag := false, n := 1, bytes := 24, sl := some 50, zero := [.nil] } ∧ ty36 = { ag := true, n := 5, bytes := 80, fs := [(0, 33, 2, true), (2, 28, 1, false), (3, 9, 1, false), (4, 34, 1, false)], zero := [.c (.sc (.int .i64 0)), .c (.sc (.int .i64 0)), .nil, .c (.sc (.string ⟨#[]⟩)), .nil] } ∧ ty39 = { ag := false, n := 1, bytes := 24, sl := some 53, zero := [.nil] } ∧ ty40 = { ag := false, n := 1, bytes := 24, sl := some 53, zero := [.nil] } ∧ ty46 = { ag := false, n := 1, bytes := 24, sl := some 9, zero := [.nil] } ∧ ty48 = { ag := true, n := 3, bytes := 56, fs := [(0, 3, 1, false), (1, 46, 1, false), (2, 46, 1, false)], zero := [.c (.sc (.int .i64 0)), .nil, .nil] } ∧ ty50 = { ag := true, n := 6, bytes := 96, fs := [(0, 3, 1, false), (1, 9, 1, false), (2, 9, 1, false), (3, 48, 3, true)], zero := [.c (.sc (.int .i64 0)), .c (.sc (.string ⟨#[]⟩)), .c (.sc (.string ⟨#[]⟩)), .c (.sc (.int .i64 0)), .nil, .nil] } ∧ ty53 = { ag := true, n := 2, bytes := 40, fs := [(0, 9, 1, false), (1, 46, 1, false)], zero := [.c (.sc (.string ⟨#[]⟩)), .nil] } ∧ ty69 = { ag := true, n := 2, bytes := 48, fs := [(0, 22, 1, false), (1, 22, 1, false)], zero := [.c (.sc (.slice none 0 0)), .c (.sc (.slice none 0 0))] } ∧ ty100 = { ag := true, n := 5, bytes := 80, fs := [(0, 33, 2, true), (2, 28, 1, false), (3, 9, 1, false), (4, 34, 1, false)], zero := [.c (.sc (.int .i64 0)), .c (.sc (.int .i64 0)), .nil, .c (.sc (.string ⟨#[]⟩)), .nil] } ∧ ty107 = { ag := false, n := 1, bytes := 8, zero := [.any] } ∧ ty108 = { ag := false, n := 1, bytes := 8, zero := [.any] } ∧ ty110 = { ag := true, n := 2, bytes := 16, fs := [(0, 107, 1, false), (1, 108, 1, false)], zero := [.any, .any] } ∧ ty111 = { ag := true, n := 10, bytes := 80, ar := some (110, 2, 5, true), zero := [.any, .any, .any, .any, .any, .any, .any, .any, .any, .any] } ∧ ty113 = { ag := true, n := 6, bytes := 96, fs := [(0, 3, 1, false), (1, 9, 1, false), (2, 9, 1, false), (3, 48, 3, true)], zero := [.c (.sc (.int .i64 0)), .c (.sc (.string ⟨#[]⟩)), .c (.sc (.string ⟨#[]⟩)), .c (.sc (.int .i64 0)), .nil, .nil] } ∧ ty127 = { ag := false, n := 1, bytes := 24, sl := some 129, zero := [.nil] } ∧ ty129 = { ag := false, n := 1, bytes := 8, zero := [.any] } ∧ ty157 = { ag := false, n := 1, bytes := 24, sl := some 9, zero := [.nil] } ∧ ty159 = { ag := false, n := 1, bytes := 24, sl := some 46, zero := [.nil] } ∧ ty170 = { ag := false, n := 1, bytes := 4, zero := [.c (.sc (.int .u32 0))] } := ⟨rfl, rfl, rfl, rfl, rfl, rfl, rfl, rfl, rfl, rfl, rfl, rfl, rfl, rfl, rfl, rfl, rfl, rfl, rfl, rfl, rfl, rfl, rfl, rfl, rfl, rfl, rfl, rfl, rfl, rfl⟩
theorem ttL : tt 2 = some { ag := false, n := 1, bytes := 8, zero := [.c (.sc (.int .i64 0))] } ∧ tt 3 = some { ag := false, n := 1, bytes := 8, zero := [.c (.sc (.int .i64 0))] } ∧ tt 4 = some { ag := false, n := 1, bytes := 1, bl := true, zero := [.c (.sc (.bool false))] } ∧ tt 5 = some { ag := false, n := 1, bytes := 1, zero := [.c (.sc (.int .u8 0))] } ∧ tt 9 = some { ag := false, n := 1, bytes := 16, str := true, zero := [.c (.sc (.string ⟨#[]⟩))] } ∧ tt 21 = some { ag := false, n := 1, bytes := 4, zero := [.c (.sc (.int .i32 0))] } ∧ tt 22 = some { ag := false, n := 1, bytes := 24, sl := some 36, zero := [.nil] } ∧ tt 25 = some { ag := false, n := 1, bytes := 8, zero := [.c (.sc (.int .i64 0))] } ∧ tt 28 = some { ag := false, n := 1, bytes := 24, sl := some 33, zero := [.nil] } ∧ tt 33 = some { ag := true, n := 2, bytes := 16, fs := [(0, 3, 1, false), (1, 3, 1, false)], zero := [.c (.sc (.int .i64 0)), .c (.sc (.int .i64 0))] } ∧ tt 34 = some { ag := false, n := 1, bytes := 24, sl := some 50, zero := [.nil] } ∧ tt 36 = some { ag := true, n := 5, bytes := 80, fs := [(0, 33, 2, true), (2, 28, 1, false), (3, 9, 1, false), (4, 34, 1, false)], zero := [.c (.sc (.int .i64 0)), .c (.sc (.int .i64 0)), .nil, .c (.sc (.string ⟨#[]⟩)), .nil] } ∧ tt 39 = some { ag := false, n := 1, bytes := 24, sl := some 53, zero := [.nil] } ∧ tt 40 = some { ag := false, n := 1, bytes := 24, sl := some 53, zero := [.nil] } ∧ tt 46 = some { ag := false, n := 1, bytes := 24, sl := some 9, zero := [.nil] } ∧ tt 48 = some { ag := true, n := 3, bytes := 56, fs := [(0, 3, 1, false), (1, 46, 1, false), (2, 46, 1, false)], zero := [.c (.sc (.int .i64 0)), .nil, .nil] } ∧ tt 50 = some { ag := true, n := 6, bytes := 96, fs := [(0, 3, 1, false), (1, 9, 1, false), (2, 9, 1, false), (3, 48, 3, true)], zero := [.c (.sc (.int .i64 0)), .c (.sc (.string ⟨#[]⟩)), .c (.sc (.string ⟨#[]⟩)), .c (.sc (.int .i64 0)), .nil, .nil] } ∧ tt 53 = some { ag := true, n := 2, bytes := 40, fs := [(0, 9, 1, false), (1, 46, 1, false)], zero := [.c (.sc (.string ⟨#[]⟩)), .nil] } ∧ tt 69 = some { ag := true, n := 2, bytes := 48, fs := [(0, 22, 1, false), (1, 22, 1, false)], zero := [.c (.sc (.slice none 0 0)), .c (.sc (.slice none 0 0))] } ∧ tt 100 = some { ag := true, n := 5, bytes := 80, fs := [(0, 33, 2, true), (2, 28, 1, false), (3, 9, 1, false), (4, 34, 1, false)], zero := [.c (.sc (.int .i64 0)), .c (.sc (.int .i64 0)), .nil, .c (.sc (.string ⟨#[]⟩)), .nil] } ∧ tt 107 = some { ag := false, n := 1, bytes := 8, zero := [.any] } ∧ tt 108 = some { ag := false, n := 1, bytes := 8, zero := [.any] } ∧ tt 110 = some { ag := true, n := 2, bytes := 16, fs := [(0, 107, 1, false), (1, 108, 1, false)], zero := [.any, .any] } ∧ tt 111 = some { ag := true, n := 10, bytes := 80, ar := some (110, 2, 5, true), zero := [.any, .any, .any, .any, .any, .any, .any, .any, .any, .any] } ∧ tt 113 = some { ag := true, n := 6, bytes := 96, fs := [(0, 3, 1, false), (1, 9, 1, false), (2, 9, 1, false), (3, 48, 3, true)], zero := [.c (.sc (.int .i64 0)), .c (.sc (.string ⟨#[]⟩)), .c (.sc (.string ⟨#[]⟩)), .c (.sc (.int .i64 0)), .nil, .nil] } ∧ tt 127 = some { ag := false, n := 1, bytes := 24, sl := some 129, zero := [.nil] } ∧ tt 129 = some { ag := false, n := 1, bytes := 8, zero := [.any] } ∧ tt 157 = some { ag := false, n := 1, bytes := 24, sl := some 9, zero := [.nil] } ∧ tt 159 = some { ag := false, n := 1, bytes := 24, sl := some 46, zero := [.nil] } ∧ tt 170 = some { ag := false, n := 1, bytes := 4, zero := [.c (.sc (.int .u32 0))] } := ⟨rfl, rfl, rfl, rfl, rfl, rfl, rfl, rfl, rfl, rfl, rfl, rfl, rfl, rfl, rfl, rfl, rfl, rfl, rfl, rfl, rfl, rfl, rfl, rfl, rfl, rfl, rfl, rfl, rfl, rfl⟩
end Go.Proofs.YtmfbcgheffdghaaGreat
