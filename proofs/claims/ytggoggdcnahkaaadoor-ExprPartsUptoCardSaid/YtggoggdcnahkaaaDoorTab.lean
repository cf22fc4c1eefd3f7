/- Part of a proof over an evaluator of the loaded code: texts printed by a program of ours. -/
import Derived.Test.YtggoggdcnahkaaaDoorOrc
set_option linter.unusedVariables false
namespace Go.Proofs.YtggoggdcnahkaaaDoor
open Go Go.RowKit Go.Proofs
noncomputable def OL (f : FuncId) : Option (List AV → Option AV) := if f = 39 then some fieldsO else if f = 61 then some containsO else none
noncomputable def T (m : Int) : Tab := ⟨C, OL, OHL, GL m, XL m⟩
theorem o3 (m : Int) : (T m).O 3 = none := by kernel_rfl
theorem oh3 (m : Int) : (T m).OH 3 = none := by kernel_rfl
theorem x3 (m : Int) : (T m).X 3 = none := by kernel_rfl
theorem c3 (m : Int) : (T m).C 3 = some F3 := by kernel_rfl
theorem o4 (m : Int) : (T m).O 4 = none := by kernel_rfl
theorem oh4 (m : Int) : (T m).OH 4 = none := by kernel_rfl
theorem x4 (m : Int) : (T m).X 4 = none := by kernel_rfl
theorem c4 (m : Int) : (T m).C 4 = some F4 := by kernel_rfl
theorem o5 (m : Int) : (T m).O 5 = none := by kernel_rfl
theorem oh5 (m : Int) : (T m).OH 5 = none := by kernel_rfl
theorem x5 (m : Int) : (T m).X 5 = none := by kernel_rfl
theorem c5 (m : Int) : (T m).C 5 = some F5 := by kernel_rfl
theorem o6 (m : Int) : (T m).O 6 = none := by kernel_rfl
theorem oh6 (m : Int) : (T m).OH 6 = none := by kernel_rfl
theorem x6 (m : Int) : (T m).X 6 = none := by kernel_rfl
theorem c6 (m : Int) : (T m).C 6 = some F6 := by kernel_rfl
theorem o7 (m : Int) : (T m).O 7 = none := by kernel_rfl
theorem oh7 (m : Int) : (T m).OH 7 = none := by kernel_rfl
theorem x7 (m : Int) : (T m).X 7 = none := by kernel_rfl
theorem c7 (m : Int) : (T m).C 7 = some F7 := by kernel_rfl
theorem o8 (m : Int) : (T m).O 8 = none := by kernel_rfl
theorem oh8 (m : Int) : (T m).OH 8 = none := by kernel_rfl
theorem x8 (m : Int) : (T m).X 8 = none := by kernel_rfl
theorem c8 (m : Int) : (T m).C 8 = some F8 := by kernel_rfl
theorem o9 (m : Int) : (T m).O 9 = none := by kernel_rfl
theorem oh9 (m : Int) : (T m).OH 9 = none := by kernel_rfl
theorem x9 (m : Int) : (T m).X 9 = none := by kernel_rfl
theorem c9 (m : Int) : (T m).C 9 = some F9 := by kernel_rfl
theorem o10 (m : Int) : (T m).O 10 = none := by kernel_rfl
theorem oh10 (m : Int) : (T m).OH 10 = none := by kernel_rfl
theorem x10 (m : Int) : (T m).X 10 = none := by kernel_rfl
theorem c10 (m : Int) : (T m).C 10 = some F10 := by kernel_rfl
theorem o11 (m : Int) : (T m).O 11 = none := by kernel_rfl
theorem oh11 (m : Int) : (T m).OH 11 = none := by kernel_rfl
theorem x11 (m : Int) : (T m).X 11 = none := by kernel_rfl
theorem c11 (m : Int) : (T m).C 11 = some F11 := by kernel_rfl
theorem o12 (m : Int) : (T m).O 12 = none := by kernel_rfl
theorem oh12 (m : Int) : (T m).OH 12 = none := by kernel_rfl
theorem x12 (m : Int) : (T m).X 12 = none := by kernel_rfl
theorem c12 (m : Int) : (T m).C 12 = some F12 := by kernel_rfl
theorem o13 (m : Int) : (T m).O 13 = none := by kernel_rfl
theorem x13 (m : Int) : (T m).X 13 = none := by kernel_rfl
theorem c13 (m : Int) : (T m).C 13 = some F13 := by kernel_rfl
theorem o14 (m : Int) : (T m).O 14 = none := by kernel_rfl
theorem x14 (m : Int) : (T m).X 14 = none := by kernel_rfl
theorem c14 (m : Int) : (T m).C 14 = some F14 := by kernel_rfl
theorem o15 (m : Int) : (T m).O 15 = none := by kernel_rfl
theorem oh15 (m : Int) : (T m).OH 15 = none := by kernel_rfl
theorem x15 (m : Int) : (T m).X 15 = none := by kernel_rfl
theorem c15 (m : Int) : (T m).C 15 = some F15 := by kernel_rfl
theorem o16 (m : Int) : (T m).O 16 = none := by kernel_rfl
theorem oh16 (m : Int) : (T m).OH 16 = none := by kernel_rfl
theorem x16 (m : Int) : (T m).X 16 = none := by kernel_rfl
theorem c16 (m : Int) : (T m).C 16 = some F16 := by kernel_rfl
theorem o17 (m : Int) : (T m).O 17 = none := by kernel_rfl
theorem oh17 (m : Int) : (T m).OH 17 = none := by kernel_rfl
theorem x17 (m : Int) : (T m).X 17 = none := by kernel_rfl
theorem c17 (m : Int) : (T m).C 17 = some F17 := by kernel_rfl
theorem o18 (m : Int) : (T m).O 18 = none := by kernel_rfl
theorem oh18 (m : Int) : (T m).OH 18 = none := by kernel_rfl
theorem x18 (m : Int) : (T m).X 18 = none := by kernel_rfl
theorem c18 (m : Int) : (T m).C 18 = some F18 := by kernel_rfl
theorem o19 (m : Int) : (T m).O 19 = none := by kernel_rfl
theorem oh19 (m : Int) : (T m).OH 19 = none := by kernel_rfl
theorem x19 (m : Int) : (T m).X 19 = none := by kernel_rfl
theorem c19 (m : Int) : (T m).C 19 = some F19 := by kernel_rfl
theorem o20 (m : Int) : (T m).O 20 = none := by kernel_rfl
theorem oh20 (m : Int) : (T m).OH 20 = none := by kernel_rfl
theorem x20 (m : Int) : (T m).X 20 = none := by kernel_rfl
theorem c20 (m : Int) : (T m).C 20 = some F20 := by kernel_rfl
theorem o21 (m : Int) : (T m).O 21 = none := by kernel_rfl
theorem oh21 (m : Int) : (T m).OH 21 = none := by kernel_rfl
theorem x21 (m : Int) : (T m).X 21 = none := by kernel_rfl
theorem c21 (m : Int) : (T m).C 21 = some F21 := by kernel_rfl
theorem o25 (m : Int) : (T m).O 25 = none := by kernel_rfl
theorem oh25 (m : Int) : (T m).OH 25 = none := by kernel_rfl
theorem x25 (m : Int) : (T m).X 25 = none := by kernel_rfl
theorem c25 (m : Int) : (T m).C 25 = some F25 := by kernel_rfl
theorem o27 (m : Int) : (T m).O 27 = none := by kernel_rfl
theorem oh27 (m : Int) : (T m).OH 27 = none := by kernel_rfl
theorem x27 (m : Int) : (T m).X 27 = none := by kernel_rfl
theorem c27 (m : Int) : (T m).C 27 = some F27 := by kernel_rfl
theorem o28 (m : Int) : (T m).O 28 = none := by kernel_rfl
theorem oh28 (m : Int) : (T m).OH 28 = none := by kernel_rfl
theorem x28 (m : Int) : (T m).X 28 = none := by kernel_rfl
theorem c28 (m : Int) : (T m).C 28 = some F28 := by kernel_rfl
theorem o29 (m : Int) : (T m).O 29 = none := by kernel_rfl
theorem oh29 (m : Int) : (T m).OH 29 = none := by kernel_rfl
theorem x29 (m : Int) : (T m).X 29 = none := by kernel_rfl
theorem c29 (m : Int) : (T m).C 29 = some F29 := by kernel_rfl
theorem o30 (m : Int) : (T m).O 30 = none := by kernel_rfl
theorem oh30 (m : Int) : (T m).OH 30 = none := by kernel_rfl
theorem x30 (m : Int) : (T m).X 30 = none := by kernel_rfl
theorem c30 (m : Int) : (T m).C 30 = some F30 := by kernel_rfl
theorem o31 (m : Int) : (T m).O 31 = none := by kernel_rfl
theorem oh31 (m : Int) : (T m).OH 31 = none := by kernel_rfl
theorem x31 (m : Int) : (T m).X 31 = none := by kernel_rfl
theorem c31 (m : Int) : (T m).C 31 = some F31 := by kernel_rfl
theorem o32 (m : Int) : (T m).O 32 = none := by kernel_rfl
theorem oh32 (m : Int) : (T m).OH 32 = none := by kernel_rfl
theorem x32 (m : Int) : (T m).X 32 = none := by kernel_rfl
theorem c32 (m : Int) : (T m).C 32 = some F32 := by kernel_rfl
theorem o33 (m : Int) : (T m).O 33 = none := by kernel_rfl
theorem oh33 (m : Int) : (T m).OH 33 = none := by kernel_rfl
theorem x33 (m : Int) : (T m).X 33 = none := by kernel_rfl
theorem c33 (m : Int) : (T m).C 33 = some F33 := by kernel_rfl
theorem o34 (m : Int) : (T m).O 34 = none := by kernel_rfl
theorem oh34 (m : Int) : (T m).OH 34 = none := by kernel_rfl
theorem x34 (m : Int) : (T m).X 34 = none := by kernel_rfl
theorem c34 (m : Int) : (T m).C 34 = some F34 := by kernel_rfl
theorem o35 (m : Int) : (T m).O 35 = none := by kernel_rfl
theorem oh35 (m : Int) : (T m).OH 35 = none := by kernel_rfl
theorem x35 (m : Int) : (T m).X 35 = none := by kernel_rfl
theorem c35 (m : Int) : (T m).C 35 = some F35 := by kernel_rfl
theorem o36 (m : Int) : (T m).O 36 = none := by kernel_rfl
theorem oh36 (m : Int) : (T m).OH 36 = none := by kernel_rfl
theorem x36 (m : Int) : (T m).X 36 = none := by kernel_rfl
theorem c36 (m : Int) : (T m).C 36 = some F36 := by kernel_rfl
theorem o37 (m : Int) : (T m).O 37 = none := by kernel_rfl
theorem oh37 (m : Int) : (T m).OH 37 = none := by kernel_rfl
theorem x37 (m : Int) : (T m).X 37 = none := by kernel_rfl
theorem c37 (m : Int) : (T m).C 37 = some F37 := by kernel_rfl
theorem o38 (m : Int) : (T m).O 38 = none := by kernel_rfl
theorem oh38 (m : Int) : (T m).OH 38 = none := by kernel_rfl
theorem x38 (m : Int) : (T m).X 38 = none := by kernel_rfl
theorem c38 (m : Int) : (T m).C 38 = some F38 := by kernel_rfl
theorem oh39 (m : Int) : (T m).OH 39 = none := by kernel_rfl
theorem x39 (m : Int) : (T m).X 39 = none := by kernel_rfl
theorem c39 (m : Int) : (T m).C 39 = some F39 := by kernel_rfl
theorem o40 (m : Int) : (T m).O 40 = none := by kernel_rfl
theorem oh40 (m : Int) : (T m).OH 40 = none := by kernel_rfl
theorem x40 (m : Int) : (T m).X 40 = none := by kernel_rfl
theorem c40 (m : Int) : (T m).C 40 = some F40 := by kernel_rfl
theorem o41 (m : Int) : (T m).O 41 = none := by kernel_rfl
theorem oh41 (m : Int) : (T m).OH 41 = none := by kernel_rfl
theorem x41 (m : Int) : (T m).X 41 = none := by kernel_rfl
theorem c41 (m : Int) : (T m).C 41 = some F41 := by kernel_rfl
theorem o42 (m : Int) : (T m).O 42 = none := by kernel_rfl
theorem oh42 (m : Int) : (T m).OH 42 = none := by kernel_rfl
theorem x42 (m : Int) : (T m).X 42 = none := by kernel_rfl
theorem c42 (m : Int) : (T m).C 42 = some F42 := by kernel_rfl
theorem o43 (m : Int) : (T m).O 43 = none := by kernel_rfl
theorem oh43 (m : Int) : (T m).OH 43 = none := by kernel_rfl
theorem x43 (m : Int) : (T m).X 43 = none := by kernel_rfl
theorem c43 (m : Int) : (T m).C 43 = some F43 := by kernel_rfl
theorem o44 (m : Int) : (T m).O 44 = none := by kernel_rfl
theorem oh44 (m : Int) : (T m).OH 44 = none := by kernel_rfl
theorem x44 (m : Int) : (T m).X 44 = none := by kernel_rfl
theorem c44 (m : Int) : (T m).C 44 = some F44 := by kernel_rfl
theorem o45 (m : Int) : (T m).O 45 = none := by kernel_rfl
theorem oh45 (m : Int) : (T m).OH 45 = none := by kernel_rfl
theorem x45 (m : Int) : (T m).X 45 = none := by kernel_rfl
theorem c45 (m : Int) : (T m).C 45 = some F45 := by kernel_rfl
theorem o48 (m : Int) : (T m).O 48 = none := by kernel_rfl
theorem oh48 (m : Int) : (T m).OH 48 = none := by kernel_rfl
theorem x48 (m : Int) : (T m).X 48 = none := by kernel_rfl
theorem c48 (m : Int) : (T m).C 48 = some F48 := by kernel_rfl
theorem o49 (m : Int) : (T m).O 49 = none := by kernel_rfl
theorem oh49 (m : Int) : (T m).OH 49 = none := by kernel_rfl
theorem x49 (m : Int) : (T m).X 49 = none := by kernel_rfl
theorem c49 (m : Int) : (T m).C 49 = some F49 := by kernel_rfl
theorem o50 (m : Int) : (T m).O 50 = none := by kernel_rfl
theorem oh50 (m : Int) : (T m).OH 50 = none := by kernel_rfl
theorem x50 (m : Int) : (T m).X 50 = none := by kernel_rfl
theorem c50 (m : Int) : (T m).C 50 = some F50 := by kernel_rfl
theorem o51 (m : Int) : (T m).O 51 = none := by kernel_rfl
theorem oh51 (m : Int) : (T m).OH 51 = none := by kernel_rfl
theorem x51 (m : Int) : (T m).X 51 = none := by kernel_rfl
theorem c51 (m : Int) : (T m).C 51 = some F51 := by kernel_rfl
theorem o52 (m : Int) : (T m).O 52 = none := by kernel_rfl
theorem oh52 (m : Int) : (T m).OH 52 = none := by kernel_rfl
theorem x52 (m : Int) : (T m).X 52 = none := by kernel_rfl
theorem c52 (m : Int) : (T m).C 52 = some F52 := by kernel_rfl
theorem o53 (m : Int) : (T m).O 53 = none := by kernel_rfl
theorem oh53 (m : Int) : (T m).OH 53 = none := by kernel_rfl
theorem x53 (m : Int) : (T m).X 53 = none := by kernel_rfl
theorem c53 (m : Int) : (T m).C 53 = some F53 := by kernel_rfl
theorem o54 (m : Int) : (T m).O 54 = none := by kernel_rfl
theorem oh54 (m : Int) : (T m).OH 54 = none := by kernel_rfl
theorem x54 (m : Int) : (T m).X 54 = none := by kernel_rfl
theorem c54 (m : Int) : (T m).C 54 = some F54 := by kernel_rfl
theorem o55 (m : Int) : (T m).O 55 = none := by kernel_rfl
theorem oh55 (m : Int) : (T m).OH 55 = none := by kernel_rfl
theorem x55 (m : Int) : (T m).X 55 = none := by kernel_rfl
theorem c55 (m : Int) : (T m).C 55 = some F55 := by kernel_rfl
theorem o56 (m : Int) : (T m).O 56 = none := by kernel_rfl
theorem oh56 (m : Int) : (T m).OH 56 = none := by kernel_rfl
theorem x56 (m : Int) : (T m).X 56 = none := by kernel_rfl
theorem c56 (m : Int) : (T m).C 56 = some F56 := by kernel_rfl
theorem o57 (m : Int) : (T m).O 57 = none := by kernel_rfl
theorem oh57 (m : Int) : (T m).OH 57 = none := by kernel_rfl
theorem x57 (m : Int) : (T m).X 57 = none := by kernel_rfl
theorem c57 (m : Int) : (T m).C 57 = some F57 := by kernel_rfl
theorem o58 (m : Int) : (T m).O 58 = none := by kernel_rfl
theorem oh58 (m : Int) : (T m).OH 58 = none := by kernel_rfl
theorem x58 (m : Int) : (T m).X 58 = none := by kernel_rfl
theorem c58 (m : Int) : (T m).C 58 = some F58 := by kernel_rfl
theorem o59 (m : Int) : (T m).O 59 = none := by kernel_rfl
theorem oh59 (m : Int) : (T m).OH 59 = none := by kernel_rfl
theorem x59 (m : Int) : (T m).X 59 = none := by kernel_rfl
theorem c59 (m : Int) : (T m).C 59 = some F59 := by kernel_rfl
theorem o60 (m : Int) : (T m).O 60 = none := by kernel_rfl
theorem oh60 (m : Int) : (T m).OH 60 = none := by kernel_rfl
theorem x60 (m : Int) : (T m).X 60 = none := by kernel_rfl
theorem c60 (m : Int) : (T m).C 60 = some F60 := by kernel_rfl
theorem oh61 (m : Int) : (T m).OH 61 = none := by kernel_rfl
theorem x61 (m : Int) : (T m).X 61 = none := by kernel_rfl
theorem c61 (m : Int) : (T m).C 61 = some F61 := by kernel_rfl
theorem o62 (m : Int) : (T m).O 62 = none := by kernel_rfl
theorem oh62 (m : Int) : (T m).OH 62 = none := by kernel_rfl
theorem x62 (m : Int) : (T m).X 62 = none := by kernel_rfl
theorem c62 (m : Int) : (T m).C 62 = some F62 := by kernel_rfl
theorem o63 (m : Int) : (T m).O 63 = none := by kernel_rfl
theorem oh63 (m : Int) : (T m).OH 63 = none := by kernel_rfl
theorem x63 (m : Int) : (T m).X 63 = none := by kernel_rfl
theorem c63 (m : Int) : (T m).C 63 = some F63 := by kernel_rfl
theorem o64 (m : Int) : (T m).O 64 = none := by kernel_rfl
theorem oh64 (m : Int) : (T m).OH 64 = none := by kernel_rfl
theorem x64 (m : Int) : (T m).X 64 = none := by kernel_rfl
theorem c64 (m : Int) : (T m).C 64 = some F64 := by kernel_rfl
theorem o65 (m : Int) : (T m).O 65 = none := by kernel_rfl
theorem oh65 (m : Int) : (T m).OH 65 = none := by kernel_rfl
theorem x65 (m : Int) : (T m).X 65 = none := by kernel_rfl
theorem c65 (m : Int) : (T m).C 65 = some F65 := by kernel_rfl
theorem o66 (m : Int) : (T m).O 66 = none := by kernel_rfl
theorem oh66 (m : Int) : (T m).OH 66 = none := by kernel_rfl
theorem x66 (m : Int) : (T m).X 66 = none := by kernel_rfl
theorem c66 (m : Int) : (T m).C 66 = some F66 := by kernel_rfl
theorem o67 (m : Int) : (T m).O 67 = none := by kernel_rfl
theorem oh67 (m : Int) : (T m).OH 67 = none := by kernel_rfl
theorem x67 (m : Int) : (T m).X 67 = none := by kernel_rfl
theorem c67 (m : Int) : (T m).C 67 = some F67 := by kernel_rfl
theorem o68 (m : Int) : (T m).O 68 = none := by kernel_rfl
theorem oh68 (m : Int) : (T m).OH 68 = none := by kernel_rfl
theorem x68 (m : Int) : (T m).X 68 = none := by kernel_rfl
theorem c68 (m : Int) : (T m).C 68 = some F68 := by kernel_rfl
theorem o69 (m : Int) : (T m).O 69 = none := by kernel_rfl
theorem oh69 (m : Int) : (T m).OH 69 = none := by kernel_rfl
theorem x69 (m : Int) : (T m).X 69 = none := by kernel_rfl
theorem c69 (m : Int) : (T m).C 69 = some F69 := by kernel_rfl
theorem o70 (m : Int) : (T m).O 70 = none := by kernel_rfl
theorem oh70 (m : Int) : (T m).OH 70 = none := by kernel_rfl
theorem x70 (m : Int) : (T m).X 70 = none := by kernel_rfl
theorem c70 (m : Int) : (T m).C 70 = some F70 := by kernel_rfl
theorem o71 (m : Int) : (T m).O 71 = none := by kernel_rfl
theorem oh71 (m : Int) : (T m).OH 71 = none := by kernel_rfl
theorem x71 (m : Int) : (T m).X 71 = none := by kernel_rfl
theorem c71 (m : Int) : (T m).C 71 = some F71 := by kernel_rfl
theorem o72 (m : Int) : (T m).O 72 = none := by kernel_rfl
theorem oh72 (m : Int) : (T m).OH 72 = none := by kernel_rfl
theorem x72 (m : Int) : (T m).X 72 = none := by kernel_rfl
theorem c72 (m : Int) : (T m).C 72 = some F72 := by kernel_rfl
theorem o73 (m : Int) : (T m).O 73 = none := by kernel_rfl
theorem oh73 (m : Int) : (T m).OH 73 = none := by kernel_rfl
theorem x73 (m : Int) : (T m).X 73 = none := by kernel_rfl
theorem c73 (m : Int) : (T m).C 73 = some F73 := by kernel_rfl
theorem o74 (m : Int) : (T m).O 74 = none := by kernel_rfl
theorem oh74 (m : Int) : (T m).OH 74 = none := by kernel_rfl
theorem x74 (m : Int) : (T m).X 74 = none := by kernel_rfl
theorem c74 (m : Int) : (T m).C 74 = some F74 := by kernel_rfl
theorem o75 (m : Int) : (T m).O 75 = none := by kernel_rfl
theorem oh75 (m : Int) : (T m).OH 75 = none := by kernel_rfl
theorem x75 (m : Int) : (T m).X 75 = none := by kernel_rfl
theorem c75 (m : Int) : (T m).C 75 = some F75 := by kernel_rfl
theorem o76 (m : Int) : (T m).O 76 = none := by kernel_rfl
theorem oh76 (m : Int) : (T m).OH 76 = none := by kernel_rfl
theorem x76 (m : Int) : (T m).X 76 = none := by kernel_rfl
theorem c76 (m : Int) : (T m).C 76 = some F76 := by kernel_rfl
theorem o78 (m : Int) : (T m).O 78 = none := by kernel_rfl
theorem oh78 (m : Int) : (T m).OH 78 = none := by kernel_rfl
theorem x78 (m : Int) : (T m).X 78 = none := by kernel_rfl
theorem c78 (m : Int) : (T m).C 78 = some F78 := by kernel_rfl
theorem o79 (m : Int) : (T m).O 79 = none := by kernel_rfl
theorem oh79 (m : Int) : (T m).OH 79 = none := by kernel_rfl
theorem x79 (m : Int) : (T m).X 79 = none := by kernel_rfl
theorem c79 (m : Int) : (T m).C 79 = some F79 := by kernel_rfl
theorem o81 (m : Int) : (T m).O 81 = none := by kernel_rfl
theorem oh81 (m : Int) : (T m).OH 81 = none := by kernel_rfl
theorem x81 (m : Int) : (T m).X 81 = none := by kernel_rfl
theorem c81 (m : Int) : (T m).C 81 = some F81 := by kernel_rfl
end Go.Proofs.YtggoggdcnahkaaaDoor
