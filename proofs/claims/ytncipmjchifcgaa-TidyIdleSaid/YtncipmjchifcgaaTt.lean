/- The table of the types, as far as the abstract machine asks: each row is held against the program by the kernel. -/
import Derived.Test.YtncipmjchifcgaaVam20
import Derived.Test.YtncipmjchifcgaaProg
import Derived.KernelRfl
set_option linter.unusedVariables false
set_option linter.unusedSimpArgs false
namespace Go.Proofs.Ytncipmjchifcgaa
open Go.Vam
def ty3 : TyI := { ag := false, n := 1, bytes := 8, zero := [.c (.sc (.int .i64 0))] }
def ty4 : TyI := { ag := false, n := 1, bytes := 1, bl := true, zero := [.c (.sc (.bool false))] }
def ty5 : TyI := { ag := false, n := 1, bytes := 1, zero := [.c (.sc (.int .u8 0))] }
def ty9 : TyI := { ag := false, n := 1, bytes := 16, str := true, zero := [.c (.sc (.string ⟨#[]⟩))] }
def ty22 : TyI := { ag := false, n := 1, bytes := 24, sl := some 32, zero := [.nil] }
def ty24 : TyI := { ag := false, n := 1, bytes := 8, zero := [.any] }
def ty25 : TyI := { ag := false, n := 1, bytes := 8, zero := [.any] }
def ty26 : TyI := { ag := false, n := 1, bytes := 8, zero := [.any] }
def ty27 : TyI := { ag := false, n := 1, bytes := 8, zero := [.any] }
def ty28 : TyI := { ag := false, n := 1, bytes := 24, sl := some 9, zero := [.nil] }
def ty30 : TyI := { ag := true, n := 3, bytes := 56, fs := [(0, 3, 1, false), (1, 28, 1, false), (2, 28, 1, false)], zero := [.c (.sc (.int .i64 0)), .nil, .nil] }
def ty31 : TyI := { ag := true, n := 6, bytes := 96, fs := [(0, 3, 1, false), (1, 9, 1, false), (2, 9, 1, false), (3, 30, 3, true)], zero := [.c (.sc (.int .i64 0)), .c (.sc (.string ⟨#[]⟩)), .c (.sc (.string ⟨#[]⟩)), .c (.sc (.int .i64 0)), .nil, .nil] }
def ty32 : TyI := { ag := true, n := 6, bytes := 96, fs := [(0, 3, 1, false), (1, 9, 1, false), (2, 9, 1, false), (3, 30, 3, true)], zero := [.c (.sc (.int .i64 0)), .c (.sc (.string ⟨#[]⟩)), .c (.sc (.string ⟨#[]⟩)), .c (.sc (.int .i64 0)), .nil, .nil] }
def ty33 : TyI := { ag := false, n := 1, bytes := 8, zero := [.any] }
def ty34 : TyI := { ag := false, n := 1, bytes := 8, zero := [.any] }
def ty35 : TyI := { ag := false, n := 1, bytes := 24, sl := some 60, zero := [.nil] }
def ty36 : TyI := { ag := false, n := 1, bytes := 24, sl := some 60, zero := [.nil] }
def ty37 : TyI := { ag := false, n := 1, bytes := 8, zero := [.any] }
def ty38 : TyI := { ag := false, n := 1, bytes := 8, zero := [.c (.sc (.int .i64 0))] }
def ty40 : TyI := { ag := false, n := 1, bytes := 8, zero := [.any] }
def ty42 : TyI := { ag := false, n := 1, bytes := 8, zero := [.any] }
def ty43 : TyI := { ag := false, n := 1, bytes := 8, zero := [.any] }
def ty44 : TyI := { ag := false, n := 1, bytes := 8, zero := [.any] }
def ty45 : TyI := { ag := false, n := 1, bytes := 8, zero := [.any] }
def ty46 : TyI := { ag := false, n := 1, bytes := 8, zero := [.any] }
def ty47 : TyI := { ag := false, n := 1, bytes := 8, zero := [.any] }
def ty48 : TyI := { ag := false, n := 1, bytes := 8, zero := [.any] }
def ty49 : TyI := { ag := true, n := 1, bytes := 24, fs := [(0, 22, 1, false)], zero := [.nil] }
def ty50 : TyI := { ag := true, n := 1, bytes := 24, fs := [(0, 22, 1, false)], zero := [.nil] }
def ty52 : TyI := { ag := false, n := 1, bytes := 8, zero := [.any] }
def ty53 : TyI := { ag := false, n := 1, bytes := 8, zero := [.any] }
def ty54 : TyI := { ag := false, n := 1, bytes := 8, zero := [.any] }
def ty55 : TyI := { ag := false, n := 1, bytes := 8, zero := [.any] }
def ty56 : TyI := { ag := false, n := 1, bytes := 8, zero := [.any] }
def ty57 : TyI := { ag := false, n := 1, bytes := 8, zero := [.any] }
def ty60 : TyI := { ag := true, n := 2, bytes := 40, fs := [(0, 9, 1, false), (1, 28, 1, false)], zero := [.c (.sc (.string ⟨#[]⟩)), .nil] }
def ty62 : TyI := { ag := false, n := 1, bytes := 8, zero := [.any] }
def ty64 : TyI := { ag := false, n := 1, bytes := 8, zero := [.any] }
def ty65 : TyI := { ag := true, n := 2, bytes := 16, fs := [(0, 63, 1, false), (1, 64, 1, false)], zero := [.any, .any] }
def ty66 : TyI := { ag := true, n := 2, bytes := 16, fs := [(0, 63, 1, false), (1, 64, 1, false)], zero := [.any, .any] }
def ty69 : TyI := { ag := true, n := 6, bytes := 96, fs := [(0, 3, 1, false), (1, 9, 1, false), (2, 9, 1, false), (3, 30, 3, true)], zero := [.c (.sc (.int .i64 0)), .c (.sc (.string ⟨#[]⟩)), .c (.sc (.string ⟨#[]⟩)), .c (.sc (.int .i64 0)), .nil, .nil] }
def ty72 : TyI := { ag := false, n := 1, bytes := 8, zero := [.any] }
def ty74 : TyI := { ag := false, n := 1, bytes := 8, zero := [.any] }
def ty75 : TyI := { ag := false, n := 1, bytes := 8, zero := [.any] }
def ty77 : TyI := { ag := false, n := 1, bytes := 8, zero := [.any] }
def ty78 : TyI := { ag := false, n := 1, bytes := 8, zero := [.any] }
def ty79 : TyI := { ag := false, n := 1, bytes := 8, zero := [.any] }
def ty80 : TyI := { ag := false, n := 1, bytes := 8, zero := [.any] }
def ty81 : TyI := { ag := false, n := 1, bytes := 8, zero := [.any] }
def ty82 : TyI := { ag := false, n := 1, bytes := 8, zero := [.any] }
def ty83 : TyI := { ag := false, n := 1, bytes := 8, zero := [.any] }
def ty84 : TyI := { ag := false, n := 1, bytes := 8, zero := [.any] }
def ty87 : TyI := { ag := false, n := 1, bytes := 8, zero := [.any] }
def ty88 : TyI := { ag := false, n := 1, bytes := 8, zero := [.any] }
def ty93 : TyI := { ag := false, n := 1, bytes := 8, zero := [.any] }
def ty94 : TyI := { ag := false, n := 1, bytes := 8, zero := [.any] }
def ty95 : TyI := { ag := false, n := 1, bytes := 8, zero := [.any] }
def ty96 : TyI := { ag := false, n := 1, bytes := 8, zero := [.any] }
def ty97 : TyI := { ag := false, n := 1, bytes := 8, zero := [.any] }
def ty98 : TyI := { ag := false, n := 1, bytes := 8, zero := [.any] }
def ty100 : TyI := { ag := false, n := 1, bytes := 24, sl := some 9, zero := [.nil] }
def ty102 : TyI := { ag := false, n := 1, bytes := 24, sl := some 28, zero := [.nil] }
def ty104 : TyI := { ag := false, n := 1, bytes := 8, zero := [.any] }
def tys : List (Nat × TyI) := [(3, ty3), (4, ty4), (5, ty5), (9, ty9), (22, ty22), (24, ty24), (25, ty25), (26, ty26), (27, ty27), (28, ty28), (30, ty30), (31, ty31), (32, ty32), (33, ty33), (34, ty34), (35, ty35), (36, ty36), (37, ty37), (38, ty38), (40, ty40), (42, ty42), (43, ty43), (44, ty44), (45, ty45), (46, ty46), (47, ty47), (48, ty48), (49, ty49), (50, ty50), (52, ty52), (53, ty53), (54, ty54), (55, ty55), (56, ty56), (57, ty57), (60, ty60), (62, ty62), (64, ty64), (65, ty65), (66, ty66), (69, ty69), (72, ty72), (74, ty74), (75, ty75), (77, ty77), (78, ty78), (79, ty79), (80, ty80), (81, ty81), (82, ty82), (83, ty83), (84, ty84), (87, ty87), (88, ty88), (93, ty93), (94, ty94), (95, ty95), (96, ty96), (97, ty97), (98, ty98), (100, ty100), (102, ty102), (104, ty104)]
def tt : TT := fun t => (tys.find? fun p => p.1 == t).map (·.2)
theorem tys_ok : (tys.all fun p => tyOk Try.prog p.1 p.2) = true := by kernel_rfl
theorem hT : TOk Try.prog tt := fun t i h => by
  obtain ⟨p, hp, rfl⟩ := Option.map_eq_some_iff.1 h
  have h1 := List.find?_some hp
  have h2 := List.mem_of_find?_eq_some hp
  have h3 := List.all_eq_true.1 tys_ok p h2
  simp only [beq_iff_eq] at h1
  rw [← h1]
  exact h3
theorem tt3 : tt 3 = some ty3 := rfl
theorem tt4 : tt 4 = some ty4 := rfl
theorem tt5 : tt 5 = some ty5 := rfl
theorem tt9 : tt 9 = some ty9 := rfl
theorem tt22 : tt 22 = some ty22 := rfl
theorem tt24 : tt 24 = some ty24 := rfl
theorem tt25 : tt 25 = some ty25 := rfl
theorem tt26 : tt 26 = some ty26 := rfl
theorem tt27 : tt 27 = some ty27 := rfl
theorem tt28 : tt 28 = some ty28 := rfl
theorem tt30 : tt 30 = some ty30 := rfl
theorem tt31 : tt 31 = some ty31 := rfl
theorem tt32 : tt 32 = some ty32 := rfl
theorem tt33 : tt 33 = some ty33 := rfl
theorem tt34 : tt 34 = some ty34 := rfl
theorem tt35 : tt 35 = some ty35 := rfl
theorem tt36 : tt 36 = some ty36 := rfl
theorem tt37 : tt 37 = some ty37 := rfl
theorem tt38 : tt 38 = some ty38 := rfl
theorem tt40 : tt 40 = some ty40 := rfl
theorem tt42 : tt 42 = some ty42 := rfl
theorem tt43 : tt 43 = some ty43 := rfl
theorem tt44 : tt 44 = some ty44 := rfl
theorem tt45 : tt 45 = some ty45 := rfl
theorem tt46 : tt 46 = some ty46 := rfl
theorem tt47 : tt 47 = some ty47 := rfl
theorem tt48 : tt 48 = some ty48 := rfl
theorem tt49 : tt 49 = some ty49 := rfl
theorem tt50 : tt 50 = some ty50 := rfl
theorem tt52 : tt 52 = some ty52 := rfl
theorem tt53 : tt 53 = some ty53 := rfl
theorem tt54 : tt 54 = some ty54 := rfl
theorem tt55 : tt 55 = some ty55 := rfl
theorem tt56 : tt 56 = some ty56 := rfl
theorem tt57 : tt 57 = some ty57 := rfl
theorem tt60 : tt 60 = some ty60 := rfl
theorem tt62 : tt 62 = some ty62 := rfl
theorem tt64 : tt 64 = some ty64 := rfl
theorem tt65 : tt 65 = some ty65 := rfl
theorem tt66 : tt 66 = some ty66 := rfl
theorem tt69 : tt 69 = some ty69 := rfl
theorem tt72 : tt 72 = some ty72 := rfl
theorem tt74 : tt 74 = some ty74 := rfl
theorem tt75 : tt 75 = some ty75 := rfl
theorem tt77 : tt 77 = some ty77 := rfl
theorem tt78 : tt 78 = some ty78 := rfl
theorem tt79 : tt 79 = some ty79 := rfl
theorem tt80 : tt 80 = some ty80 := rfl
theorem tt81 : tt 81 = some ty81 := rfl
theorem tt82 : tt 82 = some ty82 := rfl
theorem tt83 : tt 83 = some ty83 := rfl
theorem tt84 : tt 84 = some ty84 := rfl
theorem tt87 : tt 87 = some ty87 := rfl
theorem tt88 : tt 88 = some ty88 := rfl
theorem tt93 : tt 93 = some ty93 := rfl
theorem tt94 : tt 94 = some ty94 := rfl
theorem tt95 : tt 95 = some ty95 := rfl
theorem tt96 : tt 96 = some ty96 := rfl
theorem tt97 : tt 97 = some ty97 := rfl
theorem tt98 : tt 98 = some ty98 := rfl
theorem tt100 : tt 100 = some ty100 := rfl
theorem tt102 : tt 102 = some ty102 := rfl
theorem tt104 : tt 104 = some ty104 := rfl
theorem tyL : ty3 = { ag := false, n := 1, bytes := 8, zero := [.c (.sc (.int .i64 0))] } ∧ ty4 = { ag := false, n := 1, bytes := 1, bl := true, zero := [.c (.sc (.bool false))] } ∧ ty5 = { ag := false, n := 1, bytes := 1, zero := [.c (.sc (.int .u8 0))] } ∧ ty9 = { ag := false, n := 1, bytes := 16, str := true, zero := [.c (.sc (.string ⟨#[]⟩))] } ∧ ty22 = { ag := false, n := 1, bytes := 24, sl := some 32, zero := [.nil] } ∧ ty24 = { ag := false, n := 1, bytes := 8, zero := [.any] } ∧ ty25 = { ag := false, n := 1, bytes := 8, zero := [.any] } ∧ ty26 = { ag := false, n := 1, bytes := 8, zero := [.any] } ∧ ty27 = { ag := false, n := 1, bytes := 8, zero := [.any] } ∧ ty28 = { ag := false, n := 1, bytes := 24, sl := some 9, zero := [.nil] } ∧ ty30 = { ag := true, n := 3, bytes := 56, fs := [(0, 3, 1, false), (1, 28, 1, false), (2, 28, 1, false)], zero := [.c (.sc (.int .i64 0)), .nil, .nil] } ∧ ty31 = { ag := true, n := 6, bytes := 96, fs := [(0, 3, 1, false), (1, 9, 1, false), (2, 9, 1, false), (3, 30, 3, true)], zero := [.c (.sc (.int .i64 0)), .c (.sc (.string ⟨#[]⟩)), .c (.sc (.string ⟨#[]⟩)), .c (.sc (.int .i64 0)), .nil, .nil] } ∧ ty32 = { ag := true, n := 6, bytes := 96, fs := [(0, 3, 1, false), (1, 9, 1, false), (2, 9, 1, false), (3, 30, 3, true)], zero := [.c (.sc (.int .i64 0)), .c (.sc (.string ⟨#[]⟩)), .c (.sc (.string ⟨#[]⟩)), .c (.sc (.int .i64 0)), .nil, .nil] } ∧ ty33 = { ag := false, n := 1, bytes := 8, zero := [.any] } ∧ ty34 = { ag := false, n := 1, bytes := 8, zero := [.any] } ∧ ty35 = { ag := false, n := 1, bytes := 24, sl := some 60, zero := [.nil] } ∧ ty36 = { ag := false, n := 1, bytes := 24, sl := some 60, zero := [.nil] } ∧ ty37 = { ag := false, n := 1, bytes := 8, zero := [.any] } ∧ ty38 = { ag := false, n := 1, bytes := 8, zero := [.c (.sc (.int .i64 0))] } ∧ ty40 = { ag := false, n := 1, bytes := 8, zero := [.any] } ∧ ty42 = { ag := false, n := 1, bytes := 8, zero := [.any] } ∧ ty43 = { ag := false, n := 1, bytes := 8, zero := [.any] } ∧ ty44 = { ag := false, n := 1, bytes := 8, zero := [.any] } ∧ ty45 = { ag := false, n := 1, bytes := 8, zero := [.any] } ∧ ty46 = { ag := false, n := 1, bytes := 8, zero := [.any] } ∧ ty47 = { ag := false, n := 1, bytes := 8, zero := [.any] } ∧ ty48 = { ag := false, n := 1, bytes := 8, zero := [.any] } ∧ ty49 = { ag := true, n := 1, bytes := 24, fs := [(0, 22, 1, false)], zero := [.nil] } ∧ ty50 = { ag := true, n := 1, bytes := 24, fs := [(0, 22, 1, false)], zero := [.nil] } ∧ ty52 = { ag := false, n := 1, bytes := 8, zero := [.any] } ∧ ty53 = { ag := false, n := 1, bytes := 8, zero := [.any] } ∧ ty54 = { ag := false, n := 1, bytes := 8, zero := [.any] } ∧ ty55 = { ag := false, n := 1, bytes := 8, zero := [.any] } ∧ ty56 = { ag := false, n := 1, bytes := 8, zero := [.any] } ∧ ty57 = { ag := false, n := 1, bytes := 8, zero := [.any] } ∧ ty60 = { ag := true, n := 2, bytes := 40, fs := [(0, 9, 1, false), (1, 28, 1, false)], zero := [.c (.sc (.string ⟨#[]⟩)), .nil] } ∧ ty62 = { ag := false, n := 1, bytes := 8, zero := [.any] } ∧ ty64 = { ag := false, n := 1, bytes := 8, zero := [.any] } ∧ ty65 = { ag := true, n := 2, bytes := 16, fs := [(0, 63, 1, false), (1, 64, 1, false)], zero := [.any, .any] } ∧ ty66 = { ag := true, n := 2, bytes := 16, fs := [(0, 63, 1, false), (1, 64, 1, false)], zero := [.any, .any] } ∧ ty69 = { ag := true, n := 6, bytes := 96, fs := [(0, 3, 1, false), (1, 9, 1, false), (2, 9, 1, false), (3, 30, 3, true)], zero := [.c (.sc (.int .i64 0)), .c (.sc (.string ⟨#[]⟩)), .c (.sc (.string ⟨#[]⟩)), .c (.sc (.int .i64 0)), .nil, .nil] } ∧ ty72 = { ag := false, n := 1, bytes := 8, zero := [.any] } ∧ ty74 = { ag := false, n := 1, bytes := 8, zero := [.any] } ∧ ty75 = { ag := false, n := 1, bytes := 8, zero := [.any] } ∧ ty77 = { ag := false, n := 1, bytes := 8, zero := [.any] } ∧ ty78 = { ag := false, n := 1, bytes := 8, zero := [.any] } ∧ ty79 = { ag := false, n := 1, bytes := 8, zero := [.any] } ∧ ty80 = { ag := false, n := 1, bytes := 8, zero := [.any] } ∧ ty81 = { ag := false, n := 1, bytes := 8, zero := [.any] } ∧ ty82 = { ag := false, n := 1, bytes := 8, zero := [.any] } ∧ ty83 = { ag := false, n := 1, bytes := 8, zero := [.any] } ∧ ty84 = { ag := false, n := 1, bytes := 8, zero := [.any] } ∧ ty87 = { ag := false, n := 1, bytes := 8, zero := [.any] } ∧ ty88 = { ag := false, n := 1, bytes := 8, zero := [.any] } ∧ ty93 = { ag := false, n := 1, bytes := 8, zero := [.any] } ∧ ty94 = { ag := false, n := 1, bytes := 8, zero := [.any] } ∧ ty95 = { ag := false, n := 1, bytes := 8, zero := [.any] } ∧ ty96 = { ag := false, n := 1, bytes := 8, zero := [.any] } ∧ ty97 = { ag := false, n := 1, bytes := 8, zero := [.any] } ∧ ty98 = { ag := false, n := 1, bytes := 8, zero := [.any] } ∧ ty100 = { ag := false, n := 1, bytes := 24, sl := some 9, zero := [.nil] } ∧ ty102 = { ag := false, n := 1, bytes := 24, sl := some 28, zero := [.nil] } ∧ ty104 = { ag := false, n := 1, bytes := 8, zero := [.any] } := ⟨rfl, rfl, rfl, rfl, rfl, rfl, rfl, rfl, rfl, rfl, rfl, rfl, rfl, rfl, rfl, rfl, rfl, rfl, rfl, rfl, rfl, rfl, rfl, rfl, rfl, rfl, rfl, rfl, rfl, rfl, rfl, rfl, rfl, rfl, rfl, rfl, rfl, rfl, rfl, rfl, rfl, rfl, rfl, rfl, rfl, rfl, rfl, rfl, rfl, rfl, rfl, rfl, rfl, rfl, rfl, rfl, rfl, rfl, rfl, rfl, rfl, rfl, rfl⟩
theorem ttL : tt 3 = some { ag := false, n := 1, bytes := 8, zero := [.c (.sc (.int .i64 0))] } ∧ tt 4 = some { ag := false, n := 1, bytes := 1, bl := true, zero := [.c (.sc (.bool false))] } ∧ tt 5 = some { ag := false, n := 1, bytes := 1, zero := [.c (.sc (.int .u8 0))] } ∧ tt 9 = some { ag := false, n := 1, bytes := 16, str := true, zero := [.c (.sc (.string ⟨#[]⟩))] } ∧ tt 22 = some { ag := false, n := 1, bytes := 24, sl := some 32, zero := [.nil] } ∧ tt 24 = some { ag := false, n := 1, bytes := 8, zero := [.any] } ∧ tt 25 = some { ag := false, n := 1, bytes := 8, zero := [.any] } ∧ tt 26 = some { ag := false, n := 1, bytes := 8, zero := [.any] } ∧ tt 27 = some { ag := false, n := 1, bytes := 8, zero := [.any] } ∧ tt 28 = some { ag := false, n := 1, bytes := 24, sl := some 9, zero := [.nil] } ∧ tt 30 = some { ag := true, n := 3, bytes := 56, fs := [(0, 3, 1, false), (1, 28, 1, false), (2, 28, 1, false)], zero := [.c (.sc (.int .i64 0)), .nil, .nil] } ∧ tt 31 = some { ag := true, n := 6, bytes := 96, fs := [(0, 3, 1, false), (1, 9, 1, false), (2, 9, 1, false), (3, 30, 3, true)], zero := [.c (.sc (.int .i64 0)), .c (.sc (.string ⟨#[]⟩)), .c (.sc (.string ⟨#[]⟩)), .c (.sc (.int .i64 0)), .nil, .nil] } ∧ tt 32 = some { ag := true, n := 6, bytes := 96, fs := [(0, 3, 1, false), (1, 9, 1, false), (2, 9, 1, false), (3, 30, 3, true)], zero := [.c (.sc (.int .i64 0)), .c (.sc (.string ⟨#[]⟩)), .c (.sc (.string ⟨#[]⟩)), .c (.sc (.int .i64 0)), .nil, .nil] } ∧ tt 33 = some { ag := false, n := 1, bytes := 8, zero := [.any] } ∧ tt 34 = some { ag := false, n := 1, bytes := 8, zero := [.any] } ∧ tt 35 = some { ag := false, n := 1, bytes := 24, sl := some 60, zero := [.nil] } ∧ tt 36 = some { ag := false, n := 1, bytes := 24, sl := some 60, zero := [.nil] } ∧ tt 37 = some { ag := false, n := 1, bytes := 8, zero := [.any] } ∧ tt 38 = some { ag := false, n := 1, bytes := 8, zero := [.c (.sc (.int .i64 0))] } ∧ tt 40 = some { ag := false, n := 1, bytes := 8, zero := [.any] } ∧ tt 42 = some { ag := false, n := 1, bytes := 8, zero := [.any] } ∧ tt 43 = some { ag := false, n := 1, bytes := 8, zero := [.any] } ∧ tt 44 = some { ag := false, n := 1, bytes := 8, zero := [.any] } ∧ tt 45 = some { ag := false, n := 1, bytes := 8, zero := [.any] } ∧ tt 46 = some { ag := false, n := 1, bytes := 8, zero := [.any] } ∧ tt 47 = some { ag := false, n := 1, bytes := 8, zero := [.any] } ∧ tt 48 = some { ag := false, n := 1, bytes := 8, zero := [.any] } ∧ tt 49 = some { ag := true, n := 1, bytes := 24, fs := [(0, 22, 1, false)], zero := [.nil] } ∧ tt 50 = some { ag := true, n := 1, bytes := 24, fs := [(0, 22, 1, false)], zero := [.nil] } ∧ tt 52 = some { ag := false, n := 1, bytes := 8, zero := [.any] } ∧ tt 53 = some { ag := false, n := 1, bytes := 8, zero := [.any] } ∧ tt 54 = some { ag := false, n := 1, bytes := 8, zero := [.any] } ∧ tt 55 = some { ag := false, n := 1, bytes := 8, zero := [.any] } ∧ tt 56 = some { ag := false, n := 1, bytes := 8, zero := [.any] } ∧ tt 57 = some { ag := false, n := 1, bytes := 8, zero := [.any] } ∧ tt 60 = some { ag := true, n := 2, bytes := 40, fs := [(0, 9, 1, false), (1, 28, 1, false)], zero := [.c (.sc (.string ⟨#[]⟩)), .nil] } ∧ tt 62 = some { ag := false, n := 1, bytes := 8, zero := [.any] } ∧ tt 64 = some { ag := false, n := 1, bytes := 8, zero := [.any] } ∧ tt 65 = some { ag := true, n := 2, bytes := 16, fs := [(0, 63, 1, false), (1, 64, 1, false)], zero := [.any, .any] } ∧ tt 66 = some { ag := true, n := 2, bytes := 16, fs := [(0, 63, 1, false), (1, 64, 1, false)], zero := [.any, .any] } ∧ tt 69 = some { ag := true, n := 6, bytes := 96, fs := [(0, 3, 1, false), (1, 9, 1, false), (2, 9, 1, false), (3, 30, 3, true)], zero := [.c (.sc (.int .i64 0)), .c (.sc (.string ⟨#[]⟩)), .c (.sc (.string ⟨#[]⟩)), .c (.sc (.int .i64 0)), .nil, .nil] } ∧ tt 72 = some { ag := false, n := 1, bytes := 8, zero := [.any] } ∧ tt 74 = some { ag := false, n := 1, bytes := 8, zero := [.any] } ∧ tt 75 = some { ag := false, n := 1, bytes := 8, zero := [.any] } ∧ tt 77 = some { ag := false, n := 1, bytes := 8, zero := [.any] } ∧ tt 78 = some { ag := false, n := 1, bytes := 8, zero := [.any] } ∧ tt 79 = some { ag := false, n := 1, bytes := 8, zero := [.any] } ∧ tt 80 = some { ag := false, n := 1, bytes := 8, zero := [.any] } ∧ tt 81 = some { ag := false, n := 1, bytes := 8, zero := [.any] } ∧ tt 82 = some { ag := false, n := 1, bytes := 8, zero := [.any] } ∧ tt 83 = some { ag := false, n := 1, bytes := 8, zero := [.any] } ∧ tt 84 = some { ag := false, n := 1, bytes := 8, zero := [.any] } ∧ tt 87 = some { ag := false, n := 1, bytes := 8, zero := [.any] } ∧ tt 88 = some { ag := false, n := 1, bytes := 8, zero := [.any] } ∧ tt 93 = some { ag := false, n := 1, bytes := 8, zero := [.any] } ∧ tt 94 = some { ag := false, n := 1, bytes := 8, zero := [.any] } ∧ tt 95 = some { ag := false, n := 1, bytes := 8, zero := [.any] } ∧ tt 96 = some { ag := false, n := 1, bytes := 8, zero := [.any] } ∧ tt 97 = some { ag := false, n := 1, bytes := 8, zero := [.any] } ∧ tt 98 = some { ag := false, n := 1, bytes := 8, zero := [.any] } ∧ tt 100 = some { ag := false, n := 1, bytes := 24, sl := some 9, zero := [.nil] } ∧ tt 102 = some { ag := false, n := 1, bytes := 24, sl := some 28, zero := [.nil] } ∧ tt 104 = some { ag := false, n := 1, bytes := 8, zero := [.any] } := ⟨rfl, rfl, rfl, rfl, rfl, rfl, rfl, rfl, rfl, rfl, rfl, rfl, rfl, rfl, rfl, rfl, rfl, rfl, rfl, rfl, rfl, rfl, rfl, rfl, rfl, rfl, rfl, rfl, rfl, rfl, rfl, rfl, rfl, rfl, rfl, rfl, rfl, rfl, rfl, rfl, rfl, rfl, rfl, rfl, rfl, rfl, rfl, rfl, rfl, rfl, rfl, rfl, rfl, rfl, rfl, rfl, rfl, rfl, rfl, rfl, rfl, rfl, rfl⟩
end Go.Proofs.Ytncipmjchifcgaa
