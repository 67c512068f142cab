/- The table of the types, as far as the abstract machine asks: each row is held against the program by the kernel. -/
import Derived.Test.YthfogkmhgepgaaaG10
import Derived.Test.YthfogkmhgepgaaaProg
import Derived.KernelRfl
set_option linter.unusedVariables false
set_option linter.unusedSimpArgs false
namespace Go.Proofs.Ythfogkmhgepgaaa.Px
open Go.Vam
def ty2 : TyI := { ag := false, n := 1, bytes := 8, zero := [.c (.sc (.int .i64 0))] }
def ty3 : TyI := { ag := false, n := 1, bytes := 8, zero := [.c (.sc (.int .i64 0))] }
def ty4 : TyI := { ag := false, n := 1, bytes := 1, bl := true, zero := [.c (.sc (.bool false))] }
def ty5 : TyI := { ag := false, n := 1, bytes := 1, zero := [.c (.sc (.int .u8 0))] }
def ty9 : TyI := { ag := false, n := 1, bytes := 16, str := true, zero := [.c (.sc (.string ⟨#[]⟩))] }
def ty21 : TyI := { ag := false, n := 1, bytes := 4, zero := [.c (.sc (.int .i32 0))] }
def ty22 : TyI := { ag := false, n := 1, bytes := 24, sl := some 32, zero := [.nil] }
def ty23 : TyI := { ag := false, n := 1, bytes := 24, sl := some 29, zero := [.nil] }
def ty29 : TyI := { ag := true, n := 2, bytes := 16, fs := [(0, 3, 1, false), (1, 3, 1, false)], zero := [.c (.sc (.int .i64 0)), .c (.sc (.int .i64 0))] }
def ty30 : TyI := { ag := false, n := 1, bytes := 24, sl := some 42, zero := [.nil] }
def ty32 : TyI := { ag := true, n := 5, bytes := 80, fs := [(0, 29, 2, true), (2, 23, 1, false), (3, 9, 1, false), (4, 30, 1, false)], zero := [.c (.sc (.int .i64 0)), .c (.sc (.int .i64 0)), .nil, .c (.sc (.string ⟨#[]⟩)), .nil] }
def ty38 : TyI := { ag := false, n := 1, bytes := 24, sl := some 9, zero := [.nil] }
def ty40 : TyI := { ag := true, n := 3, bytes := 56, fs := [(0, 3, 1, false), (1, 38, 1, false), (2, 38, 1, false)], zero := [.c (.sc (.int .i64 0)), .nil, .nil] }
def ty42 : TyI := { ag := true, n := 6, bytes := 96, fs := [(0, 3, 1, false), (1, 9, 1, false), (2, 9, 1, false), (3, 40, 3, true)], zero := [.c (.sc (.int .i64 0)), .c (.sc (.string ⟨#[]⟩)), .c (.sc (.string ⟨#[]⟩)), .c (.sc (.int .i64 0)), .nil, .nil] }
def ty47 : TyI := { ag := true, n := 2, bytes := 48, fs := [(0, 22, 1, false), (1, 22, 1, false)], zero := [.c (.sc (.slice none 0 0)), .c (.sc (.slice none 0 0))] }
def ty48 : TyI := { ag := false, n := 1, bytes := 8, zero := [.any] }
def ty53 : TyI := { ag := true, n := 5, bytes := 80, fs := [(0, 29, 2, true), (2, 23, 1, false), (3, 9, 1, false), (4, 30, 1, false)], zero := [.c (.sc (.int .i64 0)), .c (.sc (.int .i64 0)), .nil, .c (.sc (.string ⟨#[]⟩)), .nil] }
def ty84 : TyI := { ag := false, n := 1, bytes := 8, zero := [.any] }
def ty85 : TyI := { ag := false, n := 1, bytes := 8, zero := [.any] }
def ty87 : TyI := { ag := true, n := 2, bytes := 16, fs := [(0, 84, 1, false), (1, 85, 1, false)], zero := [.any, .any] }
def ty88 : TyI := { ag := true, n := 10, bytes := 80, ar := some (87, 2, 5, true), zero := [.any, .any, .any, .any, .any, .any, .any, .any, .any, .any] }
def ty90 : TyI := { ag := true, n := 6, bytes := 96, fs := [(0, 3, 1, false), (1, 9, 1, false), (2, 9, 1, false), (3, 40, 3, true)], zero := [.c (.sc (.int .i64 0)), .c (.sc (.string ⟨#[]⟩)), .c (.sc (.string ⟨#[]⟩)), .c (.sc (.int .i64 0)), .nil, .nil] }
def ty95 : TyI := { ag := false, n := 1, bytes := 24, sl := some 97, zero := [.nil] }
def ty97 : TyI := { ag := false, n := 1, bytes := 8, zero := [.any] }
def ty105 : TyI := { ag := false, n := 1, bytes := 24, sl := some 117, zero := [.nil] }
def ty106 : TyI := { ag := false, n := 1, bytes := 24, sl := some 117, zero := [.nil] }
def ty107 : TyI := { ag := false, n := 1, bytes := 8, zero := [.c (.sc (.int .i64 0))] }
def ty117 : TyI := { ag := true, n := 2, bytes := 40, fs := [(0, 9, 1, false), (1, 38, 1, false)], zero := [.c (.sc (.string ⟨#[]⟩)), .nil] }
def ty131 : TyI := { ag := false, n := 1, bytes := 24, sl := some 9, zero := [.nil] }
def ty133 : TyI := { ag := false, n := 1, bytes := 24, sl := some 38, zero := [.nil] }
def ty144 : TyI := { ag := false, n := 1, bytes := 4, zero := [.c (.sc (.int .u32 0))] }
def tys : List (Nat × TyI) := [(2, ty2), (3, ty3), (4, ty4), (5, ty5), (9, ty9), (21, ty21), (22, ty22), (23, ty23), (29, ty29), (30, ty30), (32, ty32), (38, ty38), (40, ty40), (42, ty42), (47, ty47), (48, ty48), (53, ty53), (84, ty84), (85, ty85), (87, ty87), (88, ty88), (90, ty90), (95, ty95), (97, ty97), (105, ty105), (106, ty106), (107, ty107), (117, ty117), (131, ty131), (133, ty133), (144, ty144)]
def tt : TT := fun t => (tys.find? fun p => p.1 == t).map (·.2)
theorem tys_ok : (tys.all fun p => tyOk Try.prog p.1 p.2) = true := by kernel_rfl
theorem hT : TOk Try.prog tt := fun t i h => by
  obtain ⟨p, hp, rfl⟩ := Option.map_eq_some_iff.1 h
  have h1 := List.find?_some hp
  have h2 := List.mem_of_find?_eq_some hp
  have h3 := List.all_eq_true.1 tys_ok p h2
  simp only [beq_iff_eq] at h1
  rw [← h1]
  exact h3
theorem tt2 : tt 2 = some ty2 := rfl
theorem tt3 : tt 3 = some ty3 := rfl
theorem tt4 : tt 4 = some ty4 := rfl
theorem tt5 : tt 5 = some ty5 := rfl
theorem tt9 : tt 9 = some ty9 := rfl
theorem tt21 : tt 21 = some ty21 := rfl
theorem tt22 : tt 22 = some ty22 := rfl
theorem tt23 : tt 23 = some ty23 := rfl
theorem tt29 : tt 29 = some ty29 := rfl
theorem tt30 : tt 30 = some ty30 := rfl
theorem tt32 : tt 32 = some ty32 := rfl
theorem tt38 : tt 38 = some ty38 := rfl
theorem tt40 : tt 40 = some ty40 := rfl
theorem tt42 : tt 42 = some ty42 := rfl
theorem tt47 : tt 47 = some ty47 := rfl
theorem tt48 : tt 48 = some ty48 := rfl
theorem tt53 : tt 53 = some ty53 := rfl
theorem tt84 : tt 84 = some ty84 := rfl
theorem tt85 : tt 85 = some ty85 := rfl
theorem tt87 : tt 87 = some ty87 := rfl
theorem tt88 : tt 88 = some ty88 := rfl
theorem tt90 : tt 90 = some ty90 := rfl
theorem tt95 : tt 95 = some ty95 := rfl
theorem tt97 : tt 97 = some ty97 := rfl
theorem tt105 : tt 105 = some ty105 := rfl
theorem tt106 : tt 106 = some ty106 := rfl
theorem tt107 : tt 107 = some ty107 := rfl
theorem tt117 : tt 117 = some ty117 := rfl
theorem tt131 : tt 131 = some ty131 := rfl
theorem tt133 : tt 133 = some ty133 := rfl
theorem tt144 : tt 144 = some ty144 := rfl
theorem tyL : ty2 = { ag := false, n := 1, bytes := 8, zero := [.c (.sc (.int .i64 0))] } ∧ ty3 = { ag := false, n := 1, bytes := 8, zero := [.c (.sc (.int .i64 0))] } ∧ ty4 = { ag := false, n := 1, bytes := 1, bl := true, zero := [.c (.sc (.bool false))] } ∧ ty5 = { ag := false, n := 1, bytes := 1, zero := [.c (.sc (.int .u8 0))] } ∧ ty9 = { ag := false, n := 1, bytes := 16, str := true, zero := [.c (.sc (.string ⟨#[]⟩))] } ∧ ty21 = { ag := false, n := 1, bytes := 4, zero := [.c (.sc (.int .i32 0))] } ∧ ty22 = { ag := false, n := 1, bytes := 24, sl := some 32, zero := [.nil] } ∧ ty23 = { ag := false, n := 1, bytes := 24, sl := some 29, zero := [.nil] } ∧ ty29 = { ag := true, n := 2, bytes := 16, fs := [(0, 3, 1, false), (1, 3, 1, false)], zero := [.c (.sc (.int .i64 0)), .c (.sc (.int .i64 0))] } ∧ ty30 = { ag := false, n := 1, bytes := 24, sl := some 42, zero := [.nil] } ∧ ty32 = { ag := true, n := 5, bytes := 80, fs := [(0, 29, 2, true), (2, 23, 1, false), (3, 9, 1, false), (4, 30, 1, false)], zero := [.c (.sc (.int .i64 0)), .c (.sc (.int .i64 0)), .nil, .c (.sc (.string ⟨#[]⟩)), .nil] } ∧ ty38 = { ag := false, n := 1, bytes := 24, sl := some 9, zero := [.nil] } ∧ ty40 = { ag := true, n := 3, bytes := 56, fs := [(0, 3, 1, false), (1, 38, 1, false), (2, 38, 1, false)], zero := [.c (.sc (.int .i64 0)), .nil, .nil] } ∧ ty42 = { ag := true, n := 6, bytes := 96, fs := [(0, 3, 1, false), (1, 9, 1, false), (2, 9, 1, false), (3, 40, 3, true)], zero := [.c (.sc (.int .i64 0)), .c (.sc (.string ⟨#[]⟩)), .c (.sc (.string ⟨#[]⟩)), .c (.sc (.int .i64 0)), .nil, .nil] } ∧ ty47 = { ag := true, n := 2, bytes := 48, fs := [(0, 22, 1, false), (1, 22, 1, false)], zero := [.c (.sc (.slice none 0 0)), .c (.sc (.slice none 0 0))] } ∧ ty48 = { ag := false, n := 1, bytes := 8, zero := [.any] } ∧ ty53 = { ag := true, n := 5, bytes := 80, fs := [(0, 29, 2, true), (2, 23, 1, false), (3, 9, 1, false), (4, 30, 1, false)], zero := [.c (.sc (.int .i64 0)), .c (.sc (.int .i64 0)), .nil, .c (.sc (.string ⟨#[]⟩)), .nil] } ∧ ty84 = { ag := false, n := 1, bytes := 8, zero := [.any] } ∧ ty85 = { ag := false, n := 1, bytes := 8, zero := [.any] } ∧ ty87 = { ag := true, n := 2, bytes := 16, fs := [(0, 84, 1, false), (1, 85, 1, false)], zero := [.any, .any] } ∧ ty88 = { ag := true, n := 10, bytes := 80, ar := some (87, 2, 5, true), zero := [.any, .any, .any, .any, .any, .any, .any, .any, .any, .any] } ∧ ty90 = { ag := true, n := 6, bytes := 96, fs := [(0, 3, 1, false), (1, 9, 1, false), (2, 9, 1, false), (3, 40, 3, true)], zero := [.c (.sc (.int .i64 0)), .c (.sc (.string ⟨#[]⟩)), .c (.sc (.string ⟨#[]⟩)), .c (.sc (.int .i64 0)), .nil, .nil] } ∧ ty95 = { ag := false, n := 1, bytes := 24, sl := some 97, zero := [.nil] } ∧ ty97 = { ag := false, n := 1, bytes := 8, zero := [.any] } ∧ ty105 = { ag := false, n := 1, bytes := 24, sl := some 117, zero := [.nil] } ∧ ty106 = { ag := false, n := 1, bytes := 24, sl := some 117, zero := [.nil] } ∧ ty107 = { ag := false, n := 1, bytes := 8, zero := [.c (.sc (.int .i64 0))] } ∧ ty117 = { ag := true, n := 2, bytes := 40, fs := [(0, 9, 1, false), (1, 38, 1, false)], zero := [.c (.sc (.string ⟨#[]⟩)), .nil] } ∧ ty131 = { ag := false, n := 1, bytes := 24, sl := some 9, zero := [.nil] } ∧ ty133 = { ag := false, n := 1, bytes := 24, sl := some 38, zero := [.nil] } ∧ ty144 = { ag := false, n := 1, bytes := 4, zero := [.c (.sc (.int .u32 0))] } := ⟨rfl, rfl, rfl, rfl, rfl, rfl, rfl, rfl, rfl, rfl, rfl, rfl, rfl, rfl, rfl, rfl, rfl, rfl, rfl, rfl, rfl, rfl, rfl, rfl, rfl, rfl, rfl, rfl, rfl, rfl, rfl⟩
theorem ttL : tt 2 = some { ag := false, n := 1, bytes := 8, zero := [.c (.sc (.int .i64 0))] } ∧ tt 3 = some { ag := false, n := 1, bytes := 8, zero := [.c (.sc (.int .i64 0))] } ∧ tt 4 = some { ag := false, n := 1, bytes := 1, bl := true, zero := [.c (.sc (.bool false))] } ∧ tt 5 = some { ag := false, n := 1, bytes := 1, zero := [.c (.sc (.int .u8 0))] } ∧ tt 9 = some { ag := false, n := 1, bytes := 16, str := true, zero := [.c (.sc (.string ⟨#[]⟩))] } ∧ tt 21 = some { ag := false, n := 1, bytes := 4, zero := [.c (.sc (.int .i32 0))] } ∧ tt 22 = some { ag := false, n := 1, bytes := 24, sl := some 32, zero := [.nil] } ∧ tt 23 = some { ag := false, n := 1, bytes := 24, sl := some 29, zero := [.nil] } ∧ tt 29 = some { ag := true, n := 2, bytes := 16, fs := [(0, 3, 1, false), (1, 3, 1, false)], zero := [.c (.sc (.int .i64 0)), .c (.sc (.int .i64 0))] } ∧ tt 30 = some { ag := false, n := 1, bytes := 24, sl := some 42, zero := [.nil] } ∧ tt 32 = some { ag := true, n := 5, bytes := 80, fs := [(0, 29, 2, true), (2, 23, 1, false), (3, 9, 1, false), (4, 30, 1, false)], zero := [.c (.sc (.int .i64 0)), .c (.sc (.int .i64 0)), .nil, .c (.sc (.string ⟨#[]⟩)), .nil] } ∧ tt 38 = some { ag := false, n := 1, bytes := 24, sl := some 9, zero := [.nil] } ∧ tt 40 = some { ag := true, n := 3, bytes := 56, fs := [(0, 3, 1, false), (1, 38, 1, false), (2, 38, 1, false)], zero := [.c (.sc (.int .i64 0)), .nil, .nil] } ∧ tt 42 = some { ag := true, n := 6, bytes := 96, fs := [(0, 3, 1, false), (1, 9, 1, false), (2, 9, 1, false), (3, 40, 3, true)], zero := [.c (.sc (.int .i64 0)), .c (.sc (.string ⟨#[]⟩)), .c (.sc (.string ⟨#[]⟩)), .c (.sc (.int .i64 0)), .nil, .nil] } ∧ tt 47 = some { ag := true, n := 2, bytes := 48, fs := [(0, 22, 1, false), (1, 22, 1, false)], zero := [.c (.sc (.slice none 0 0)), .c (.sc (.slice none 0 0))] } ∧ tt 48 = some { ag := false, n := 1, bytes := 8, zero := [.any] } ∧ tt 53 = some { ag := true, n := 5, bytes := 80, fs := [(0, 29, 2, true), (2, 23, 1, false), (3, 9, 1, false), (4, 30, 1, false)], zero := [.c (.sc (.int .i64 0)), .c (.sc (.int .i64 0)), .nil, .c (.sc (.string ⟨#[]⟩)), .nil] } ∧ tt 84 = some { ag := false, n := 1, bytes := 8, zero := [.any] } ∧ tt 85 = some { ag := false, n := 1, bytes := 8, zero := [.any] } ∧ tt 87 = some { ag := true, n := 2, bytes := 16, fs := [(0, 84, 1, false), (1, 85, 1, false)], zero := [.any, .any] } ∧ tt 88 = some { ag := true, n := 10, bytes := 80, ar := some (87, 2, 5, true), zero := [.any, .any, .any, .any, .any, .any, .any, .any, .any, .any] } ∧ tt 90 = some { ag := true, n := 6, bytes := 96, fs := [(0, 3, 1, false), (1, 9, 1, false), (2, 9, 1, false), (3, 40, 3, true)], zero := [.c (.sc (.int .i64 0)), .c (.sc (.string ⟨#[]⟩)), .c (.sc (.string ⟨#[]⟩)), .c (.sc (.int .i64 0)), .nil, .nil] } ∧ tt 95 = some { ag := false, n := 1, bytes := 24, sl := some 97, zero := [.nil] } ∧ tt 97 = some { ag := false, n := 1, bytes := 8, zero := [.any] } ∧ tt 105 = some { ag := false, n := 1, bytes := 24, sl := some 117, zero := [.nil] } ∧ tt 106 = some { ag := false, n := 1, bytes := 24, sl := some 117, zero := [.nil] } ∧ tt 107 = some { ag := false, n := 1, bytes := 8, zero := [.c (.sc (.int .i64 0))] } ∧ tt 117 = some { ag := true, n := 2, bytes := 40, fs := [(0, 9, 1, false), (1, 38, 1, false)], zero := [.c (.sc (.string ⟨#[]⟩)), .nil] } ∧ tt 131 = some { ag := false, n := 1, bytes := 24, sl := some 9, zero := [.nil] } ∧ tt 133 = some { ag := false, n := 1, bytes := 24, sl := some 38, zero := [.nil] } ∧ tt 144 = some { ag := false, n := 1, bytes := 4, zero := [.c (.sc (.int .u32 0))] } := ⟨rfl, rfl, rfl, rfl, rfl, rfl, rfl, rfl, rfl, rfl, rfl, rfl, rfl, rfl, rfl, rfl, rfl, rfl, rfl, rfl, rfl, rfl, rfl, rfl, rfl, rfl, rfl, rfl, rfl, rfl, rfl⟩
end Go.Proofs.Ythfogkmhgepgaaa.Px
