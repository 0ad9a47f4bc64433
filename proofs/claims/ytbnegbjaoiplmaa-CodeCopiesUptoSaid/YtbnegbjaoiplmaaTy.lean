/- What the operations give at this program's types. Printed by a small program. -/
import Derived.Test.YtbnegbjaoiplmaaProg
import Derived.Test.YtbnegbjaoiplmaaAmY
set_option linter.unusedVariables false
namespace Go.Proofs.Ytbnegbjaoiplmaa
open Go Go.Am

theorem mixed : Try.prog.follows .mixedOrders = true := by kernel_rfl

theorem S0 : sizeT Try.prog 0 = some 1 := by kernel_rfl
theorem C0 : scalarT Try.prog 0 = true := by kernel_rfl
theorem S1 : sizeT Try.prog 1 = some 1 := by kernel_rfl
theorem C1 : scalarT Try.prog 1 = true := by kernel_rfl
theorem S2 : sizeT Try.prog 2 = some 1 := by kernel_rfl
theorem U2 : Try.prog.underlying 2 = some (.int .i64) := by kernel_rfl
theorem C2 : scalarT Try.prog 2 = true := by kernel_rfl
theorem S3 : sizeT Try.prog 3 = some 1 := by kernel_rfl
theorem U3 : Try.prog.underlying 3 = some (.int .i64) := by kernel_rfl
theorem C3 : scalarT Try.prog 3 = true := by kernel_rfl
theorem S4 : sizeT Try.prog 4 = some 1 := by kernel_rfl
theorem U4 : Try.prog.underlying 4 = some .bool := by kernel_rfl
theorem C4 : scalarT Try.prog 4 = true := by kernel_rfl
theorem S5 : sizeT Try.prog 5 = some 1 := by kernel_rfl
theorem U5 : Try.prog.underlying 5 = some (.int .u8) := by kernel_rfl
theorem C5 : scalarT Try.prog 5 = true := by kernel_rfl
theorem S6 : sizeT Try.prog 6 = some 1 := by kernel_rfl
theorem U6 : Try.prog.underlying 6 = some (.int .u8) := by kernel_rfl
theorem C6 : scalarT Try.prog 6 = true := by kernel_rfl
theorem S7 : sizeT Try.prog 7 = some 4 := by kernel_rfl
theorem G7 : aggT Try.prog 7 = true := by kernel_rfl
theorem S8 : sizeT Try.prog 8 = some 4 := by kernel_rfl
theorem G8 : aggT Try.prog 8 = true := by kernel_rfl
theorem S9 : sizeT Try.prog 9 = some 1 := by kernel_rfl
theorem U9 : Try.prog.underlying 9 = some .string := by kernel_rfl
theorem C9 : scalarT Try.prog 9 = true := by kernel_rfl
theorem S10 : sizeT Try.prog 10 = some 1 := by kernel_rfl
theorem U10 : Try.prog.underlying 10 = some .string := by kernel_rfl
theorem C10 : scalarT Try.prog 10 = true := by kernel_rfl
theorem S11 : sizeT Try.prog 11 = some 1 := by kernel_rfl
theorem U11 : Try.prog.underlying 11 = some .string := by kernel_rfl
theorem C11 : scalarT Try.prog 11 = true := by kernel_rfl
theorem S12 : sizeT Try.prog 12 = some 1 := by kernel_rfl
theorem U12 : Try.prog.underlying 12 = some (.int .u64) := by kernel_rfl
theorem C12 : scalarT Try.prog 12 = true := by kernel_rfl
theorem S13 : sizeT Try.prog 13 = some 2 := by kernel_rfl
theorem G13 : aggT Try.prog 13 = true := by kernel_rfl
theorem S14 : sizeT Try.prog 14 = some 2 := by kernel_rfl
theorem G14 : aggT Try.prog 14 = true := by kernel_rfl
theorem S15 : sizeT Try.prog 15 = some 1 := by kernel_rfl
theorem U15 : Try.prog.underlying 15 = some (.pointer 168) := by kernel_rfl
theorem C15 : scalarT Try.prog 15 = true := by kernel_rfl
theorem S16 : sizeT Try.prog 16 = some 1 := by kernel_rfl
theorem U16 : Try.prog.underlying 16 = some (.pointer 171) := by kernel_rfl
theorem C16 : scalarT Try.prog 16 = true := by kernel_rfl
theorem S17 : sizeT Try.prog 17 = some 1 := by kernel_rfl
theorem U17 : Try.prog.underlying 17 = some (.pointer 181) := by kernel_rfl
theorem C17 : scalarT Try.prog 17 = true := by kernel_rfl
theorem S18 : sizeT Try.prog 18 = some 1 := by kernel_rfl
theorem G18 : aggT Try.prog 18 = true := by kernel_rfl
theorem S19 : sizeT Try.prog 19 = some 1 := by kernel_rfl
theorem G19 : aggT Try.prog 19 = true := by kernel_rfl
theorem S20 : sizeT Try.prog 20 = some 1 := by kernel_rfl
theorem C20 : scalarT Try.prog 20 = true := by kernel_rfl
theorem S21 : sizeT Try.prog 21 = some 1 := by kernel_rfl
theorem U21 : Try.prog.underlying 21 = some (.int .i32) := by kernel_rfl
theorem C21 : scalarT Try.prog 21 = true := by kernel_rfl
theorem S22 : sizeT Try.prog 22 = some 1 := by kernel_rfl
theorem U22 : Try.prog.underlying 22 = some (.slice 33) := by kernel_rfl
theorem C22 : scalarT Try.prog 22 = true := by kernel_rfl
theorem S23 : sizeT Try.prog 23 = some 1 := by kernel_rfl
theorem U23 : Try.prog.underlying 23 = some (.slice 50) := by kernel_rfl
theorem C23 : scalarT Try.prog 23 = true := by kernel_rfl
theorem S24 : sizeT Try.prog 24 = some 3 := by kernel_rfl
theorem G24 : aggT Try.prog 24 = true := by kernel_rfl
theorem S25 : sizeT Try.prog 25 = some 3 := by kernel_rfl
theorem G25 : aggT Try.prog 25 = true := by kernel_rfl
theorem S26 : sizeT Try.prog 26 = some 1 := by kernel_rfl
theorem U26 : Try.prog.underlying 26 = some (.int .u16) := by kernel_rfl
theorem C26 : scalarT Try.prog 26 = true := by kernel_rfl
theorem S27 : sizeT Try.prog 27 = some 1 := by kernel_rfl
theorem C27 : scalarT Try.prog 27 = true := by kernel_rfl
theorem S28 : sizeT Try.prog 28 = some 1 := by kernel_rfl
theorem C28 : scalarT Try.prog 28 = true := by kernel_rfl
theorem S29 : sizeT Try.prog 29 = some 1 := by kernel_rfl
theorem C29 : scalarT Try.prog 29 = true := by kernel_rfl
theorem S30 : sizeT Try.prog 30 = some 1 := by kernel_rfl
theorem C30 : scalarT Try.prog 30 = true := by kernel_rfl
theorem S31 : sizeT Try.prog 31 = some 1 := by kernel_rfl
theorem U31 : Try.prog.underlying 31 = some (.slice 37) := by kernel_rfl
theorem C31 : scalarT Try.prog 31 = true := by kernel_rfl
theorem S32 : sizeT Try.prog 32 = some 4 := by kernel_rfl
theorem G32 : aggT Try.prog 32 = true := by kernel_rfl
theorem S33 : sizeT Try.prog 33 = some 4 := by kernel_rfl
theorem G33 : aggT Try.prog 33 = true := by kernel_rfl
theorem S34 : sizeT Try.prog 34 = some 1 := by kernel_rfl
theorem U34 : Try.prog.underlying 34 = some (.pointer 37) := by kernel_rfl
theorem C34 : scalarT Try.prog 34 = true := by kernel_rfl
theorem S35 : sizeT Try.prog 35 = some 1 := by kernel_rfl
theorem U35 : Try.prog.underlying 35 = some (.slice 41) := by kernel_rfl
theorem C35 : scalarT Try.prog 35 = true := by kernel_rfl
theorem S36 : sizeT Try.prog 36 = some 6 := by kernel_rfl
theorem G36 : aggT Try.prog 36 = true := by kernel_rfl
theorem S37 : sizeT Try.prog 37 = some 6 := by kernel_rfl
theorem G37 : aggT Try.prog 37 = true := by kernel_rfl
theorem S38 : sizeT Try.prog 38 = some 1 := by kernel_rfl
theorem U38 : Try.prog.underlying 38 = some (.slice 3) := by kernel_rfl
theorem C38 : scalarT Try.prog 38 = true := by kernel_rfl
theorem S39 : sizeT Try.prog 39 = some 1 := by kernel_rfl
theorem U39 : Try.prog.underlying 39 = some (.slice 55) := by kernel_rfl
theorem C39 : scalarT Try.prog 39 = true := by kernel_rfl
theorem S40 : sizeT Try.prog 40 = some 6 := by kernel_rfl
theorem G40 : aggT Try.prog 40 = true := by kernel_rfl
theorem S41 : sizeT Try.prog 41 = some 6 := by kernel_rfl
theorem G41 : aggT Try.prog 41 = true := by kernel_rfl
theorem S42 : sizeT Try.prog 42 = some 1 := by kernel_rfl
theorem U42 : Try.prog.underlying 42 = some (.int .i64) := by kernel_rfl
theorem C42 : scalarT Try.prog 42 = true := by kernel_rfl
theorem S43 : sizeT Try.prog 43 = some 1 := by kernel_rfl
theorem C43 : scalarT Try.prog 43 = true := by kernel_rfl
theorem S44 : sizeT Try.prog 44 = some 1 := by kernel_rfl
theorem C44 : scalarT Try.prog 44 = true := by kernel_rfl
theorem S45 : sizeT Try.prog 45 = some 1 := by kernel_rfl
theorem C45 : scalarT Try.prog 45 = true := by kernel_rfl
theorem S46 : sizeT Try.prog 46 = some 1 := by kernel_rfl
theorem C46 : scalarT Try.prog 46 = true := by kernel_rfl
theorem S47 : sizeT Try.prog 47 = some 1 := by kernel_rfl
theorem U47 : Try.prog.underlying 47 = some (.slice 38) := by kernel_rfl
theorem C47 : scalarT Try.prog 47 = true := by kernel_rfl
theorem S48 : sizeT Try.prog 48 = some 1 := by kernel_rfl
theorem C48 : scalarT Try.prog 48 = true := by kernel_rfl
theorem S49 : sizeT Try.prog 49 = some 1 := by kernel_rfl
theorem C49 : scalarT Try.prog 49 = true := by kernel_rfl
theorem S50 : sizeT Try.prog 50 = some 1 := by kernel_rfl
theorem U50 : Try.prog.underlying 50 = some (.slice 52) := by kernel_rfl
theorem C50 : scalarT Try.prog 50 = true := by kernel_rfl
theorem S51 : sizeT Try.prog 51 = some 2 := by kernel_rfl
theorem G51 : aggT Try.prog 51 = true := by kernel_rfl
theorem S52 : sizeT Try.prog 52 = some 2 := by kernel_rfl
theorem G52 : aggT Try.prog 52 = true := by kernel_rfl
theorem S53 : sizeT Try.prog 53 = some 1 := by kernel_rfl
theorem U53 : Try.prog.underlying 53 = some (.slice 35) := by kernel_rfl
theorem C53 : scalarT Try.prog 53 = true := by kernel_rfl
theorem S54 : sizeT Try.prog 54 = some 6 := by kernel_rfl
theorem G54 : aggT Try.prog 54 = true := by kernel_rfl
theorem S55 : sizeT Try.prog 55 = some 6 := by kernel_rfl
theorem G55 : aggT Try.prog 55 = true := by kernel_rfl
theorem S56 : sizeT Try.prog 56 = some 1 := by kernel_rfl
theorem U56 : Try.prog.underlying 56 = some (.slice 2) := by kernel_rfl
theorem C56 : scalarT Try.prog 56 = true := by kernel_rfl
theorem S57 : sizeT Try.prog 57 = some 1 := by kernel_rfl
theorem C57 : scalarT Try.prog 57 = true := by kernel_rfl
theorem S58 : sizeT Try.prog 58 = some 1 := by kernel_rfl
theorem C58 : scalarT Try.prog 58 = true := by kernel_rfl
theorem S59 : sizeT Try.prog 59 = some 1 := by kernel_rfl
theorem C59 : scalarT Try.prog 59 = true := by kernel_rfl
theorem S60 : sizeT Try.prog 60 = some 1 := by kernel_rfl
theorem C60 : scalarT Try.prog 60 = true := by kernel_rfl
theorem S61 : sizeT Try.prog 61 = some 1 := by kernel_rfl
theorem C61 : scalarT Try.prog 61 = true := by kernel_rfl
theorem S62 : sizeT Try.prog 62 = some 1 := by kernel_rfl
theorem C62 : scalarT Try.prog 62 = true := by kernel_rfl
theorem S63 : sizeT Try.prog 63 = some 1 := by kernel_rfl
theorem C63 : scalarT Try.prog 63 = true := by kernel_rfl
theorem S64 : sizeT Try.prog 64 = some 1 := by kernel_rfl
theorem C64 : scalarT Try.prog 64 = true := by kernel_rfl
theorem S65 : sizeT Try.prog 65 = some 1 := by kernel_rfl
theorem C65 : scalarT Try.prog 65 = true := by kernel_rfl
theorem S66 : sizeT Try.prog 66 = some 1 := by kernel_rfl
theorem C66 : scalarT Try.prog 66 = true := by kernel_rfl
theorem S67 : sizeT Try.prog 67 = some 1 := by kernel_rfl
theorem C67 : scalarT Try.prog 67 = true := by kernel_rfl
theorem S68 : sizeT Try.prog 68 = some 1 := by kernel_rfl
theorem C68 : scalarT Try.prog 68 = true := by kernel_rfl
theorem S69 : sizeT Try.prog 69 = some 1 := by kernel_rfl
theorem C69 : scalarT Try.prog 69 = true := by kernel_rfl
theorem S70 : sizeT Try.prog 70 = some 1 := by kernel_rfl
theorem C70 : scalarT Try.prog 70 = true := by kernel_rfl
theorem S71 : sizeT Try.prog 71 = some 1 := by kernel_rfl
theorem C71 : scalarT Try.prog 71 = true := by kernel_rfl
theorem S72 : sizeT Try.prog 72 = some 1 := by kernel_rfl
theorem C72 : scalarT Try.prog 72 = true := by kernel_rfl
theorem S73 : sizeT Try.prog 73 = some 1 := by kernel_rfl
theorem C73 : scalarT Try.prog 73 = true := by kernel_rfl
theorem S74 : sizeT Try.prog 74 = some 1 := by kernel_rfl
theorem C74 : scalarT Try.prog 74 = true := by kernel_rfl
theorem S75 : sizeT Try.prog 75 = some 1 := by kernel_rfl
theorem U75 : Try.prog.underlying 75 = some (.slice 116) := by kernel_rfl
theorem C75 : scalarT Try.prog 75 = true := by kernel_rfl
theorem S76 : sizeT Try.prog 76 = some 7 := by kernel_rfl
theorem G76 : aggT Try.prog 76 = true := by kernel_rfl
theorem S77 : sizeT Try.prog 77 = some 7 := by kernel_rfl
theorem G77 : aggT Try.prog 77 = true := by kernel_rfl
theorem S78 : sizeT Try.prog 78 = some 16 := by kernel_rfl
theorem G78 : aggT Try.prog 78 = true := by kernel_rfl
theorem S79 : sizeT Try.prog 79 = some 16 := by kernel_rfl
theorem G79 : aggT Try.prog 79 = true := by kernel_rfl
theorem S80 : sizeT Try.prog 80 = some 1 := by kernel_rfl
theorem U80 : Try.prog.underlying 80 = some (.pointer 79) := by kernel_rfl
theorem C80 : scalarT Try.prog 80 = true := by kernel_rfl
theorem S81 : sizeT Try.prog 81 = some 1 := by kernel_rfl
theorem C81 : scalarT Try.prog 81 = true := by kernel_rfl
theorem S82 : sizeT Try.prog 82 = some 1 := by kernel_rfl
theorem C82 : scalarT Try.prog 82 = true := by kernel_rfl
theorem S83 : sizeT Try.prog 83 = some 1 := by kernel_rfl
theorem U83 : Try.prog.underlying 83 = some (.slice 119) := by kernel_rfl
theorem C83 : scalarT Try.prog 83 = true := by kernel_rfl
theorem S84 : sizeT Try.prog 84 = some 1 := by kernel_rfl
theorem C84 : scalarT Try.prog 84 = true := by kernel_rfl
theorem S85 : sizeT Try.prog 85 = some 1 := by kernel_rfl
theorem C85 : scalarT Try.prog 85 = true := by kernel_rfl
theorem S86 : sizeT Try.prog 86 = some 1 := by kernel_rfl
theorem C86 : scalarT Try.prog 86 = true := by kernel_rfl
theorem S87 : sizeT Try.prog 87 = some 1 := by kernel_rfl
theorem C87 : scalarT Try.prog 87 = true := by kernel_rfl
theorem S88 : sizeT Try.prog 88 = some 1 := by kernel_rfl
theorem C88 : scalarT Try.prog 88 = true := by kernel_rfl
theorem S89 : sizeT Try.prog 89 = some 1 := by kernel_rfl
theorem U89 : Try.prog.underlying 89 = some (.slice 4) := by kernel_rfl
theorem C89 : scalarT Try.prog 89 = true := by kernel_rfl
theorem S90 : sizeT Try.prog 90 = some 1 := by kernel_rfl
theorem C90 : scalarT Try.prog 90 = true := by kernel_rfl
theorem S91 : sizeT Try.prog 91 = some 1 := by kernel_rfl
theorem C91 : scalarT Try.prog 91 = true := by kernel_rfl
theorem S92 : sizeT Try.prog 92 = some 1 := by kernel_rfl
theorem U92 : Try.prog.underlying 92 = some (.slice 89) := by kernel_rfl
theorem C92 : scalarT Try.prog 92 = true := by kernel_rfl
theorem S93 : sizeT Try.prog 93 = some 1 := by kernel_rfl
theorem C93 : scalarT Try.prog 93 = true := by kernel_rfl
theorem S94 : sizeT Try.prog 94 = some 2 := by kernel_rfl
theorem G94 : aggT Try.prog 94 = true := by kernel_rfl
theorem S95 : sizeT Try.prog 95 = some 2 := by kernel_rfl
theorem G95 : aggT Try.prog 95 = true := by kernel_rfl
theorem S96 : sizeT Try.prog 96 = some 1 := by kernel_rfl
theorem C96 : scalarT Try.prog 96 = true := by kernel_rfl
theorem S97 : sizeT Try.prog 97 = some 1 := by kernel_rfl
theorem C97 : scalarT Try.prog 97 = true := by kernel_rfl
theorem S98 : sizeT Try.prog 98 = some 1 := by kernel_rfl
theorem C98 : scalarT Try.prog 98 = true := by kernel_rfl
theorem S99 : sizeT Try.prog 99 = some 1 := by kernel_rfl
theorem C99 : scalarT Try.prog 99 = true := by kernel_rfl
theorem S100 : sizeT Try.prog 100 = some 1 := by kernel_rfl
theorem U100 : Try.prog.underlying 100 = some (.pointer 103) := by kernel_rfl
theorem C100 : scalarT Try.prog 100 = true := by kernel_rfl
theorem S101 : sizeT Try.prog 101 = some 1 := by kernel_rfl
theorem U101 : Try.prog.underlying 101 = some (.slice 105) := by kernel_rfl
theorem C101 : scalarT Try.prog 101 = true := by kernel_rfl
theorem S102 : sizeT Try.prog 102 = some 10 := by kernel_rfl
theorem G102 : aggT Try.prog 102 = true := by kernel_rfl
theorem S103 : sizeT Try.prog 103 = some 10 := by kernel_rfl
theorem G103 : aggT Try.prog 103 = true := by kernel_rfl
theorem S104 : sizeT Try.prog 104 = some 2 := by kernel_rfl
theorem G104 : aggT Try.prog 104 = true := by kernel_rfl
theorem S105 : sizeT Try.prog 105 = some 2 := by kernel_rfl
theorem G105 : aggT Try.prog 105 = true := by kernel_rfl
theorem S106 : sizeT Try.prog 106 = some 1 := by kernel_rfl
theorem C106 : scalarT Try.prog 106 = true := by kernel_rfl
theorem S107 : sizeT Try.prog 107 = some 1 := by kernel_rfl
theorem C107 : scalarT Try.prog 107 = true := by kernel_rfl
theorem S108 : sizeT Try.prog 108 = some 1 := by kernel_rfl
theorem C108 : scalarT Try.prog 108 = true := by kernel_rfl
theorem S109 : sizeT Try.prog 109 = some 1 := by kernel_rfl
theorem C109 : scalarT Try.prog 109 = true := by kernel_rfl
theorem S110 : sizeT Try.prog 110 = some 1 := by kernel_rfl
theorem C110 : scalarT Try.prog 110 = true := by kernel_rfl
theorem S111 : sizeT Try.prog 111 = some 1 := by kernel_rfl
theorem C111 : scalarT Try.prog 111 = true := by kernel_rfl
theorem S112 : sizeT Try.prog 112 = some 1 := by kernel_rfl
theorem C112 : scalarT Try.prog 112 = true := by kernel_rfl
theorem S113 : sizeT Try.prog 113 = some 1 := by kernel_rfl
theorem C113 : scalarT Try.prog 113 = true := by kernel_rfl
theorem S114 : sizeT Try.prog 114 = some 1 := by kernel_rfl
theorem C114 : scalarT Try.prog 114 = true := by kernel_rfl
theorem S115 : sizeT Try.prog 115 = some 6 := by kernel_rfl
theorem G115 : aggT Try.prog 115 = true := by kernel_rfl
theorem S116 : sizeT Try.prog 116 = some 6 := by kernel_rfl
theorem G116 : aggT Try.prog 116 = true := by kernel_rfl
theorem S117 : sizeT Try.prog 117 = some 1 := by kernel_rfl
theorem U117 : Try.prog.underlying 117 = some (.slice 121) := by kernel_rfl
theorem C117 : scalarT Try.prog 117 = true := by kernel_rfl
theorem S118 : sizeT Try.prog 118 = some 3 := by kernel_rfl
theorem G118 : aggT Try.prog 118 = true := by kernel_rfl
theorem S119 : sizeT Try.prog 119 = some 3 := by kernel_rfl
theorem G119 : aggT Try.prog 119 = true := by kernel_rfl
theorem S120 : sizeT Try.prog 120 = some 4 := by kernel_rfl
theorem G120 : aggT Try.prog 120 = true := by kernel_rfl
theorem S121 : sizeT Try.prog 121 = some 4 := by kernel_rfl
theorem G121 : aggT Try.prog 121 = true := by kernel_rfl
theorem S122 : sizeT Try.prog 122 = some 1 := by kernel_rfl
theorem C122 : scalarT Try.prog 122 = true := by kernel_rfl
theorem S123 : sizeT Try.prog 123 = some 1 := by kernel_rfl
theorem C123 : scalarT Try.prog 123 = true := by kernel_rfl
theorem S124 : sizeT Try.prog 124 = some 1 := by kernel_rfl
theorem C124 : scalarT Try.prog 124 = true := by kernel_rfl
theorem S125 : sizeT Try.prog 125 = some 1 := by kernel_rfl
theorem C125 : scalarT Try.prog 125 = true := by kernel_rfl
theorem S126 : sizeT Try.prog 126 = some 1 := by kernel_rfl
theorem C126 : scalarT Try.prog 126 = true := by kernel_rfl
theorem S127 : sizeT Try.prog 127 = some 1 := by kernel_rfl
theorem C127 : scalarT Try.prog 127 = true := by kernel_rfl
theorem S128 : sizeT Try.prog 128 = some 1 := by kernel_rfl
theorem C128 : scalarT Try.prog 128 = true := by kernel_rfl
theorem S129 : sizeT Try.prog 129 = some 1 := by kernel_rfl
theorem C129 : scalarT Try.prog 129 = true := by kernel_rfl
theorem S130 : sizeT Try.prog 130 = some 1 := by kernel_rfl
theorem C130 : scalarT Try.prog 130 = true := by kernel_rfl
theorem S131 : sizeT Try.prog 131 = some 1 := by kernel_rfl
theorem C131 : scalarT Try.prog 131 = true := by kernel_rfl
theorem S132 : sizeT Try.prog 132 = some 3 := by kernel_rfl
theorem G132 : aggT Try.prog 132 = true := by kernel_rfl
theorem S133 : sizeT Try.prog 133 = some 3 := by kernel_rfl
theorem G133 : aggT Try.prog 133 = true := by kernel_rfl
theorem S134 : sizeT Try.prog 134 = some 1 := by kernel_rfl
theorem C134 : scalarT Try.prog 134 = true := by kernel_rfl
theorem S135 : sizeT Try.prog 135 = some 1 := by kernel_rfl
theorem C135 : scalarT Try.prog 135 = true := by kernel_rfl
theorem S136 : sizeT Try.prog 136 = some 1 := by kernel_rfl
theorem C136 : scalarT Try.prog 136 = true := by kernel_rfl
theorem S137 : sizeT Try.prog 137 = some 1 := by kernel_rfl
theorem C137 : scalarT Try.prog 137 = true := by kernel_rfl
theorem S138 : sizeT Try.prog 138 = some 1 := by kernel_rfl
theorem U138 : Try.prog.underlying 138 = some (.pointer 116) := by kernel_rfl
theorem C138 : scalarT Try.prog 138 = true := by kernel_rfl
theorem S139 : sizeT Try.prog 139 = some 1 := by kernel_rfl
theorem C139 : scalarT Try.prog 139 = true := by kernel_rfl
theorem S140 : sizeT Try.prog 140 = some 1 := by kernel_rfl
theorem C140 : scalarT Try.prog 140 = true := by kernel_rfl
theorem S141 : sizeT Try.prog 141 = some 1 := by kernel_rfl
theorem C141 : scalarT Try.prog 141 = true := by kernel_rfl
theorem S142 : sizeT Try.prog 142 = some 1 := by kernel_rfl
theorem C142 : scalarT Try.prog 142 = true := by kernel_rfl
theorem S143 : sizeT Try.prog 143 = some 1 := by kernel_rfl
theorem C143 : scalarT Try.prog 143 = true := by kernel_rfl
theorem S144 : sizeT Try.prog 144 = some 1 := by kernel_rfl
theorem C144 : scalarT Try.prog 144 = true := by kernel_rfl
theorem S145 : sizeT Try.prog 145 = some 0 := by kernel_rfl
theorem G145 : aggT Try.prog 145 = true := by kernel_rfl
theorem S146 : sizeT Try.prog 146 = some 2 := by kernel_rfl
theorem G146 : aggT Try.prog 146 = true := by kernel_rfl
theorem S147 : sizeT Try.prog 147 = some 2 := by kernel_rfl
theorem G147 : aggT Try.prog 147 = true := by kernel_rfl
theorem S148 : sizeT Try.prog 148 = some 1 := by kernel_rfl
theorem C148 : scalarT Try.prog 148 = true := by kernel_rfl
theorem S149 : sizeT Try.prog 149 = some 1 := by kernel_rfl
theorem C149 : scalarT Try.prog 149 = true := by kernel_rfl
theorem S150 : sizeT Try.prog 150 = some 1 := by kernel_rfl
theorem C150 : scalarT Try.prog 150 = true := by kernel_rfl
theorem S151 : sizeT Try.prog 151 = some 1 := by kernel_rfl
theorem C151 : scalarT Try.prog 151 = true := by kernel_rfl
theorem S152 : sizeT Try.prog 152 = some 1 := by kernel_rfl
theorem C152 : scalarT Try.prog 152 = true := by kernel_rfl
theorem S153 : sizeT Try.prog 153 = some 1 := by kernel_rfl
theorem C153 : scalarT Try.prog 153 = true := by kernel_rfl
theorem S154 : sizeT Try.prog 154 = some 1 := by kernel_rfl
theorem C154 : scalarT Try.prog 154 = true := by kernel_rfl
theorem S155 : sizeT Try.prog 155 = some 1 := by kernel_rfl
theorem C155 : scalarT Try.prog 155 = true := by kernel_rfl
theorem S156 : sizeT Try.prog 156 = some 1 := by kernel_rfl
theorem C156 : scalarT Try.prog 156 = true := by kernel_rfl
theorem S157 : sizeT Try.prog 157 = some 1 := by kernel_rfl
theorem C157 : scalarT Try.prog 157 = true := by kernel_rfl
theorem S158 : sizeT Try.prog 158 = some 2 := by kernel_rfl
theorem G158 : aggT Try.prog 158 = true := by kernel_rfl
theorem S159 : sizeT Try.prog 159 = some 2 := by kernel_rfl
theorem G159 : aggT Try.prog 159 = true := by kernel_rfl
theorem S160 : sizeT Try.prog 160 = some 1 := by kernel_rfl
theorem U160 : Try.prog.underlying 160 = some (.slice 159) := by kernel_rfl
theorem C160 : scalarT Try.prog 160 = true := by kernel_rfl
theorem S161 : sizeT Try.prog 161 = some 1 := by kernel_rfl
theorem U161 : Try.prog.underlying 161 = some (.pointer 159) := by kernel_rfl
theorem C161 : scalarT Try.prog 161 = true := by kernel_rfl
theorem S162 : sizeT Try.prog 162 = some 1 := by kernel_rfl
theorem C162 : scalarT Try.prog 162 = true := by kernel_rfl
theorem S163 : sizeT Try.prog 163 = some 1 := by kernel_rfl
theorem C163 : scalarT Try.prog 163 = true := by kernel_rfl
theorem S164 : sizeT Try.prog 164 = some 1 := by kernel_rfl
theorem U164 : Try.prog.underlying 164 = some (.int .u64) := by kernel_rfl
theorem C164 : scalarT Try.prog 164 = true := by kernel_rfl
theorem S165 : sizeT Try.prog 165 = some 1 := by kernel_rfl
theorem U165 : Try.prog.underlying 165 = some (.int .u64) := by kernel_rfl
theorem C165 : scalarT Try.prog 165 = true := by kernel_rfl
theorem S166 : sizeT Try.prog 166 = some 1 := by kernel_rfl
theorem C166 : scalarT Try.prog 166 = true := by kernel_rfl
theorem S167 : sizeT Try.prog 167 = some 4 := by kernel_rfl
theorem G167 : aggT Try.prog 167 = true := by kernel_rfl
theorem S168 : sizeT Try.prog 168 = some 4 := by kernel_rfl
theorem G168 : aggT Try.prog 168 = true := by kernel_rfl
theorem S169 : sizeT Try.prog 169 = some 0 := by kernel_rfl
theorem G169 : aggT Try.prog 169 = true := by kernel_rfl
theorem S170 : sizeT Try.prog 170 = some 0 := by kernel_rfl
theorem G170 : aggT Try.prog 170 = true := by kernel_rfl
theorem S171 : sizeT Try.prog 171 = some 0 := by kernel_rfl
theorem G171 : aggT Try.prog 171 = true := by kernel_rfl
theorem S172 : sizeT Try.prog 172 = some 1 := by kernel_rfl
theorem C172 : scalarT Try.prog 172 = true := by kernel_rfl
theorem S173 : sizeT Try.prog 173 = some 1 := by kernel_rfl
theorem U173 : Try.prog.underlying 173 = some (.int .u32) := by kernel_rfl
theorem C173 : scalarT Try.prog 173 = true := by kernel_rfl
theorem S174 : sizeT Try.prog 174 = some 1 := by kernel_rfl
theorem U174 : Try.prog.underlying 174 = some (.int .u8) := by kernel_rfl
theorem C174 : scalarT Try.prog 174 = true := by kernel_rfl
theorem S175 : sizeT Try.prog 175 = some 1 := by kernel_rfl
theorem U175 : Try.prog.underlying 175 = some (.int .u8) := by kernel_rfl
theorem C175 : scalarT Try.prog 175 = true := by kernel_rfl
theorem S176 : sizeT Try.prog 176 = some 1 := by kernel_rfl
theorem C176 : scalarT Try.prog 176 = true := by kernel_rfl
theorem S177 : sizeT Try.prog 177 = some 1 := by kernel_rfl
theorem U177 : Try.prog.underlying 177 = some (.pointer 5) := by kernel_rfl
theorem C177 : scalarT Try.prog 177 = true := by kernel_rfl
theorem S178 : sizeT Try.prog 178 = some 1 := by kernel_rfl
theorem U178 : Try.prog.underlying 178 = some (.int .i32) := by kernel_rfl
theorem C178 : scalarT Try.prog 178 = true := by kernel_rfl
theorem S179 : sizeT Try.prog 179 = some 1 := by kernel_rfl
theorem U179 : Try.prog.underlying 179 = some (.int .i32) := by kernel_rfl
theorem C179 : scalarT Try.prog 179 = true := by kernel_rfl
theorem S180 : sizeT Try.prog 180 = some 11 := by kernel_rfl
theorem G180 : aggT Try.prog 180 = true := by kernel_rfl
theorem S181 : sizeT Try.prog 181 = some 11 := by kernel_rfl
theorem G181 : aggT Try.prog 181 = true := by kernel_rfl
theorem S182 : sizeT Try.prog 182 = some 1 := by kernel_rfl
theorem C182 : scalarT Try.prog 182 = true := by kernel_rfl
theorem Lps22 {σ : H} {s : Nat} {xs : List V} : aLen Try.prog 22 σ (.ps s xs) = some (.int .i64 xs.length) := Len_ps U22
theorem Lsl22 {σ : H} {b o l s : Nat} : aLen Try.prog 22 σ (.sl b o l s) = some (.int .i64 l) := Len_sl U22
theorem Lsn22 {σ : H} : aLen Try.prog 22 σ .snil = some (.int .i64 0) := Len_snil U22
theorem Ips22 {xs : List V} {k : IntKind} {i : Int} : aIndexAddr Try.prog 22 (.ps 4 xs) (.int k i) = if 0 ≤ i then (xs[i.toNat]?).bind fun y => y.cells.map fun cs => .pp cs 0 else none := Ix_ps U22 S33
theorem Isl22 {b o l : Nat} {k : IntKind} {i : Int} : aIndexAddr Try.prog 22 (.sl b o l 4) (.int k i) = if 0 ≤ i ∧ i < l then some (.ptr b (o + i.toNat * 4)) else none := Ix_sl U22 S33
theorem Lps23 {σ : H} {s : Nat} {xs : List V} : aLen Try.prog 23 σ (.ps s xs) = some (.int .i64 xs.length) := Len_ps U23
theorem Lsl23 {σ : H} {b o l s : Nat} : aLen Try.prog 23 σ (.sl b o l s) = some (.int .i64 l) := Len_sl U23
theorem Lsn23 {σ : H} : aLen Try.prog 23 σ .snil = some (.int .i64 0) := Len_snil U23
theorem Ips23 {xs : List V} {k : IntKind} {i : Int} : aIndexAddr Try.prog 23 (.ps 1 xs) (.int k i) = if 0 ≤ i then (xs[i.toNat]?).bind fun y => y.cells.map fun cs => .pp cs 0 else none := Ix_ps U23 S50
theorem Isl23 {b o l : Nat} {k : IntKind} {i : Int} : aIndexAddr Try.prog 23 (.sl b o l 1) (.int k i) = if 0 ≤ i ∧ i < l then some (.ptr b (o + i.toNat * 1)) else none := Ix_sl U23 S50
theorem Lps31 {σ : H} {s : Nat} {xs : List V} : aLen Try.prog 31 σ (.ps s xs) = some (.int .i64 xs.length) := Len_ps U31
theorem Lsl31 {σ : H} {b o l s : Nat} : aLen Try.prog 31 σ (.sl b o l s) = some (.int .i64 l) := Len_sl U31
theorem Lsn31 {σ : H} : aLen Try.prog 31 σ .snil = some (.int .i64 0) := Len_snil U31
theorem Ips31 {xs : List V} {k : IntKind} {i : Int} : aIndexAddr Try.prog 31 (.ps 6 xs) (.int k i) = if 0 ≤ i then (xs[i.toNat]?).bind fun y => y.cells.map fun cs => .pp cs 0 else none := Ix_ps U31 S37
theorem Isl31 {b o l : Nat} {k : IntKind} {i : Int} : aIndexAddr Try.prog 31 (.sl b o l 6) (.int k i) = if 0 ≤ i ∧ i < l then some (.ptr b (o + i.toNat * 6)) else none := Ix_sl U31 S37
theorem Lps35 {σ : H} {s : Nat} {xs : List V} : aLen Try.prog 35 σ (.ps s xs) = some (.int .i64 xs.length) := Len_ps U35
theorem Lsl35 {σ : H} {b o l s : Nat} : aLen Try.prog 35 σ (.sl b o l s) = some (.int .i64 l) := Len_sl U35
theorem Lsn35 {σ : H} : aLen Try.prog 35 σ .snil = some (.int .i64 0) := Len_snil U35
theorem Ips35 {xs : List V} {k : IntKind} {i : Int} : aIndexAddr Try.prog 35 (.ps 6 xs) (.int k i) = if 0 ≤ i then (xs[i.toNat]?).bind fun y => y.cells.map fun cs => .pp cs 0 else none := Ix_ps U35 S41
theorem Isl35 {b o l : Nat} {k : IntKind} {i : Int} : aIndexAddr Try.prog 35 (.sl b o l 6) (.int k i) = if 0 ≤ i ∧ i < l then some (.ptr b (o + i.toNat * 6)) else none := Ix_sl U35 S41
theorem Lps38 {σ : H} {s : Nat} {xs : List V} : aLen Try.prog 38 σ (.ps s xs) = some (.int .i64 xs.length) := Len_ps U38
theorem Lsl38 {σ : H} {b o l s : Nat} : aLen Try.prog 38 σ (.sl b o l s) = some (.int .i64 l) := Len_sl U38
theorem Lsn38 {σ : H} : aLen Try.prog 38 σ .snil = some (.int .i64 0) := Len_snil U38
theorem Ips38 {xs : List V} {k : IntKind} {i : Int} : aIndexAddr Try.prog 38 (.ps 1 xs) (.int k i) = if 0 ≤ i then (xs[i.toNat]?).bind fun y => y.cells.map fun cs => .pp cs 0 else none := Ix_ps U38 S3
theorem Isl38 {b o l : Nat} {k : IntKind} {i : Int} : aIndexAddr Try.prog 38 (.sl b o l 1) (.int k i) = if 0 ≤ i ∧ i < l then some (.ptr b (o + i.toNat * 1)) else none := Ix_sl U38 S3
theorem Lps39 {σ : H} {s : Nat} {xs : List V} : aLen Try.prog 39 σ (.ps s xs) = some (.int .i64 xs.length) := Len_ps U39
theorem Lsl39 {σ : H} {b o l s : Nat} : aLen Try.prog 39 σ (.sl b o l s) = some (.int .i64 l) := Len_sl U39
theorem Lsn39 {σ : H} : aLen Try.prog 39 σ .snil = some (.int .i64 0) := Len_snil U39
theorem Ips39 {xs : List V} {k : IntKind} {i : Int} : aIndexAddr Try.prog 39 (.ps 6 xs) (.int k i) = if 0 ≤ i then (xs[i.toNat]?).bind fun y => y.cells.map fun cs => .pp cs 0 else none := Ix_ps U39 S55
theorem Isl39 {b o l : Nat} {k : IntKind} {i : Int} : aIndexAddr Try.prog 39 (.sl b o l 6) (.int k i) = if 0 ≤ i ∧ i < l then some (.ptr b (o + i.toNat * 6)) else none := Ix_sl U39 S55
theorem Lps47 {σ : H} {s : Nat} {xs : List V} : aLen Try.prog 47 σ (.ps s xs) = some (.int .i64 xs.length) := Len_ps U47
theorem Lsl47 {σ : H} {b o l s : Nat} : aLen Try.prog 47 σ (.sl b o l s) = some (.int .i64 l) := Len_sl U47
theorem Lsn47 {σ : H} : aLen Try.prog 47 σ .snil = some (.int .i64 0) := Len_snil U47
theorem Ips47 {xs : List V} {k : IntKind} {i : Int} : aIndexAddr Try.prog 47 (.ps 1 xs) (.int k i) = if 0 ≤ i then (xs[i.toNat]?).bind fun y => y.cells.map fun cs => .pp cs 0 else none := Ix_ps U47 S38
theorem Isl47 {b o l : Nat} {k : IntKind} {i : Int} : aIndexAddr Try.prog 47 (.sl b o l 1) (.int k i) = if 0 ≤ i ∧ i < l then some (.ptr b (o + i.toNat * 1)) else none := Ix_sl U47 S38
theorem Lps50 {σ : H} {s : Nat} {xs : List V} : aLen Try.prog 50 σ (.ps s xs) = some (.int .i64 xs.length) := Len_ps U50
theorem Lsl50 {σ : H} {b o l s : Nat} : aLen Try.prog 50 σ (.sl b o l s) = some (.int .i64 l) := Len_sl U50
theorem Lsn50 {σ : H} : aLen Try.prog 50 σ .snil = some (.int .i64 0) := Len_snil U50
theorem Ips50 {xs : List V} {k : IntKind} {i : Int} : aIndexAddr Try.prog 50 (.ps 2 xs) (.int k i) = if 0 ≤ i then (xs[i.toNat]?).bind fun y => y.cells.map fun cs => .pp cs 0 else none := Ix_ps U50 S52
theorem Isl50 {b o l : Nat} {k : IntKind} {i : Int} : aIndexAddr Try.prog 50 (.sl b o l 2) (.int k i) = if 0 ≤ i ∧ i < l then some (.ptr b (o + i.toNat * 2)) else none := Ix_sl U50 S52
theorem Lps53 {σ : H} {s : Nat} {xs : List V} : aLen Try.prog 53 σ (.ps s xs) = some (.int .i64 xs.length) := Len_ps U53
theorem Lsl53 {σ : H} {b o l s : Nat} : aLen Try.prog 53 σ (.sl b o l s) = some (.int .i64 l) := Len_sl U53
theorem Lsn53 {σ : H} : aLen Try.prog 53 σ .snil = some (.int .i64 0) := Len_snil U53
theorem Ips53 {xs : List V} {k : IntKind} {i : Int} : aIndexAddr Try.prog 53 (.ps 1 xs) (.int k i) = if 0 ≤ i then (xs[i.toNat]?).bind fun y => y.cells.map fun cs => .pp cs 0 else none := Ix_ps U53 S35
theorem Isl53 {b o l : Nat} {k : IntKind} {i : Int} : aIndexAddr Try.prog 53 (.sl b o l 1) (.int k i) = if 0 ≤ i ∧ i < l then some (.ptr b (o + i.toNat * 1)) else none := Ix_sl U53 S35
theorem Lps56 {σ : H} {s : Nat} {xs : List V} : aLen Try.prog 56 σ (.ps s xs) = some (.int .i64 xs.length) := Len_ps U56
theorem Lsl56 {σ : H} {b o l s : Nat} : aLen Try.prog 56 σ (.sl b o l s) = some (.int .i64 l) := Len_sl U56
theorem Lsn56 {σ : H} : aLen Try.prog 56 σ .snil = some (.int .i64 0) := Len_snil U56
theorem Ips56 {xs : List V} {k : IntKind} {i : Int} : aIndexAddr Try.prog 56 (.ps 1 xs) (.int k i) = if 0 ≤ i then (xs[i.toNat]?).bind fun y => y.cells.map fun cs => .pp cs 0 else none := Ix_ps U56 S2
theorem Isl56 {b o l : Nat} {k : IntKind} {i : Int} : aIndexAddr Try.prog 56 (.sl b o l 1) (.int k i) = if 0 ≤ i ∧ i < l then some (.ptr b (o + i.toNat * 1)) else none := Ix_sl U56 S2
theorem Lps75 {σ : H} {s : Nat} {xs : List V} : aLen Try.prog 75 σ (.ps s xs) = some (.int .i64 xs.length) := Len_ps U75
theorem Lsl75 {σ : H} {b o l s : Nat} : aLen Try.prog 75 σ (.sl b o l s) = some (.int .i64 l) := Len_sl U75
theorem Lsn75 {σ : H} : aLen Try.prog 75 σ .snil = some (.int .i64 0) := Len_snil U75
theorem Ips75 {xs : List V} {k : IntKind} {i : Int} : aIndexAddr Try.prog 75 (.ps 6 xs) (.int k i) = if 0 ≤ i then (xs[i.toNat]?).bind fun y => y.cells.map fun cs => .pp cs 0 else none := Ix_ps U75 S116
theorem Isl75 {b o l : Nat} {k : IntKind} {i : Int} : aIndexAddr Try.prog 75 (.sl b o l 6) (.int k i) = if 0 ≤ i ∧ i < l then some (.ptr b (o + i.toNat * 6)) else none := Ix_sl U75 S116
theorem Lps83 {σ : H} {s : Nat} {xs : List V} : aLen Try.prog 83 σ (.ps s xs) = some (.int .i64 xs.length) := Len_ps U83
theorem Lsl83 {σ : H} {b o l s : Nat} : aLen Try.prog 83 σ (.sl b o l s) = some (.int .i64 l) := Len_sl U83
theorem Lsn83 {σ : H} : aLen Try.prog 83 σ .snil = some (.int .i64 0) := Len_snil U83
theorem Ips83 {xs : List V} {k : IntKind} {i : Int} : aIndexAddr Try.prog 83 (.ps 3 xs) (.int k i) = if 0 ≤ i then (xs[i.toNat]?).bind fun y => y.cells.map fun cs => .pp cs 0 else none := Ix_ps U83 S119
theorem Isl83 {b o l : Nat} {k : IntKind} {i : Int} : aIndexAddr Try.prog 83 (.sl b o l 3) (.int k i) = if 0 ≤ i ∧ i < l then some (.ptr b (o + i.toNat * 3)) else none := Ix_sl U83 S119
theorem Lps89 {σ : H} {s : Nat} {xs : List V} : aLen Try.prog 89 σ (.ps s xs) = some (.int .i64 xs.length) := Len_ps U89
theorem Lsl89 {σ : H} {b o l s : Nat} : aLen Try.prog 89 σ (.sl b o l s) = some (.int .i64 l) := Len_sl U89
theorem Lsn89 {σ : H} : aLen Try.prog 89 σ .snil = some (.int .i64 0) := Len_snil U89
theorem Ips89 {xs : List V} {k : IntKind} {i : Int} : aIndexAddr Try.prog 89 (.ps 1 xs) (.int k i) = if 0 ≤ i then (xs[i.toNat]?).bind fun y => y.cells.map fun cs => .pp cs 0 else none := Ix_ps U89 S4
theorem Isl89 {b o l : Nat} {k : IntKind} {i : Int} : aIndexAddr Try.prog 89 (.sl b o l 1) (.int k i) = if 0 ≤ i ∧ i < l then some (.ptr b (o + i.toNat * 1)) else none := Ix_sl U89 S4
theorem Lps92 {σ : H} {s : Nat} {xs : List V} : aLen Try.prog 92 σ (.ps s xs) = some (.int .i64 xs.length) := Len_ps U92
theorem Lsl92 {σ : H} {b o l s : Nat} : aLen Try.prog 92 σ (.sl b o l s) = some (.int .i64 l) := Len_sl U92
theorem Lsn92 {σ : H} : aLen Try.prog 92 σ .snil = some (.int .i64 0) := Len_snil U92
theorem Ips92 {xs : List V} {k : IntKind} {i : Int} : aIndexAddr Try.prog 92 (.ps 1 xs) (.int k i) = if 0 ≤ i then (xs[i.toNat]?).bind fun y => y.cells.map fun cs => .pp cs 0 else none := Ix_ps U92 S89
theorem Isl92 {b o l : Nat} {k : IntKind} {i : Int} : aIndexAddr Try.prog 92 (.sl b o l 1) (.int k i) = if 0 ≤ i ∧ i < l then some (.ptr b (o + i.toNat * 1)) else none := Ix_sl U92 S89
theorem Lps101 {σ : H} {s : Nat} {xs : List V} : aLen Try.prog 101 σ (.ps s xs) = some (.int .i64 xs.length) := Len_ps U101
theorem Lsl101 {σ : H} {b o l s : Nat} : aLen Try.prog 101 σ (.sl b o l s) = some (.int .i64 l) := Len_sl U101
theorem Lsn101 {σ : H} : aLen Try.prog 101 σ .snil = some (.int .i64 0) := Len_snil U101
theorem Ips101 {xs : List V} {k : IntKind} {i : Int} : aIndexAddr Try.prog 101 (.ps 2 xs) (.int k i) = if 0 ≤ i then (xs[i.toNat]?).bind fun y => y.cells.map fun cs => .pp cs 0 else none := Ix_ps U101 S105
theorem Isl101 {b o l : Nat} {k : IntKind} {i : Int} : aIndexAddr Try.prog 101 (.sl b o l 2) (.int k i) = if 0 ≤ i ∧ i < l then some (.ptr b (o + i.toNat * 2)) else none := Ix_sl U101 S105
theorem Lps117 {σ : H} {s : Nat} {xs : List V} : aLen Try.prog 117 σ (.ps s xs) = some (.int .i64 xs.length) := Len_ps U117
theorem Lsl117 {σ : H} {b o l s : Nat} : aLen Try.prog 117 σ (.sl b o l s) = some (.int .i64 l) := Len_sl U117
theorem Lsn117 {σ : H} : aLen Try.prog 117 σ .snil = some (.int .i64 0) := Len_snil U117
theorem Ips117 {xs : List V} {k : IntKind} {i : Int} : aIndexAddr Try.prog 117 (.ps 4 xs) (.int k i) = if 0 ≤ i then (xs[i.toNat]?).bind fun y => y.cells.map fun cs => .pp cs 0 else none := Ix_ps U117 S121
theorem Isl117 {b o l : Nat} {k : IntKind} {i : Int} : aIndexAddr Try.prog 117 (.sl b o l 4) (.int k i) = if 0 ≤ i ∧ i < l then some (.ptr b (o + i.toNat * 4)) else none := Ix_sl U117 S121
theorem Lps160 {σ : H} {s : Nat} {xs : List V} : aLen Try.prog 160 σ (.ps s xs) = some (.int .i64 xs.length) := Len_ps U160
theorem Lsl160 {σ : H} {b o l s : Nat} : aLen Try.prog 160 σ (.sl b o l s) = some (.int .i64 l) := Len_sl U160
theorem Lsn160 {σ : H} : aLen Try.prog 160 σ .snil = some (.int .i64 0) := Len_snil U160
theorem Ips160 {xs : List V} {k : IntKind} {i : Int} : aIndexAddr Try.prog 160 (.ps 2 xs) (.int k i) = if 0 ≤ i then (xs[i.toNat]?).bind fun y => y.cells.map fun cs => .pp cs 0 else none := Ix_ps U160 S159
theorem Isl160 {b o l : Nat} {k : IntKind} {i : Int} : aIndexAddr Try.prog 160 (.sl b o l 2) (.int k i) = if 0 ≤ i ∧ i < l then some (.ptr b (o + i.toNat * 2)) else none := Ix_sl U160 S159
theorem R0 {cells : List V} {o : Nat} : loadRow Try.prog 0 cells o = cells[o]? := Row_one C0
theorem R1 {cells : List V} {o : Nat} : loadRow Try.prog 1 cells o = cells[o]? := Row_one C1
theorem R2 {cells : List V} {o : Nat} : loadRow Try.prog 2 cells o = cells[o]? := Row_one C2
theorem R3 {cells : List V} {o : Nat} : loadRow Try.prog 3 cells o = cells[o]? := Row_one C3
theorem R4 {cells : List V} {o : Nat} : loadRow Try.prog 4 cells o = cells[o]? := Row_one C4
theorem R5 {cells : List V} {o : Nat} : loadRow Try.prog 5 cells o = cells[o]? := Row_one C5
theorem R6 {cells : List V} {o : Nat} : loadRow Try.prog 6 cells o = cells[o]? := Row_one C6
theorem R7 {cells : List V} {o : Nat} : loadRow Try.prog 7 cells o = if o + 4 ≤ cells.length then some (.agg ((cells.drop o).take 4)) else none := Row_agg G7 S7
theorem R8 {cells : List V} {o : Nat} : loadRow Try.prog 8 cells o = if o + 4 ≤ cells.length then some (.agg ((cells.drop o).take 4)) else none := Row_agg G8 S8
theorem R9 {cells : List V} {o : Nat} : loadRow Try.prog 9 cells o = cells[o]? := Row_one C9
theorem R10 {cells : List V} {o : Nat} : loadRow Try.prog 10 cells o = cells[o]? := Row_one C10
theorem R11 {cells : List V} {o : Nat} : loadRow Try.prog 11 cells o = cells[o]? := Row_one C11
theorem R12 {cells : List V} {o : Nat} : loadRow Try.prog 12 cells o = cells[o]? := Row_one C12
theorem R13 {cells : List V} {o : Nat} : loadRow Try.prog 13 cells o = if o + 2 ≤ cells.length then some (.agg ((cells.drop o).take 2)) else none := Row_agg G13 S13
theorem R14 {cells : List V} {o : Nat} : loadRow Try.prog 14 cells o = if o + 2 ≤ cells.length then some (.agg ((cells.drop o).take 2)) else none := Row_agg G14 S14
theorem R15 {cells : List V} {o : Nat} : loadRow Try.prog 15 cells o = cells[o]? := Row_one C15
theorem R16 {cells : List V} {o : Nat} : loadRow Try.prog 16 cells o = cells[o]? := Row_one C16
theorem R17 {cells : List V} {o : Nat} : loadRow Try.prog 17 cells o = cells[o]? := Row_one C17
theorem R18 {cells : List V} {o : Nat} : loadRow Try.prog 18 cells o = if o + 1 ≤ cells.length then some (.agg ((cells.drop o).take 1)) else none := Row_agg G18 S18
theorem R19 {cells : List V} {o : Nat} : loadRow Try.prog 19 cells o = if o + 1 ≤ cells.length then some (.agg ((cells.drop o).take 1)) else none := Row_agg G19 S19
theorem R20 {cells : List V} {o : Nat} : loadRow Try.prog 20 cells o = cells[o]? := Row_one C20
theorem R21 {cells : List V} {o : Nat} : loadRow Try.prog 21 cells o = cells[o]? := Row_one C21
theorem R22 {cells : List V} {o : Nat} : loadRow Try.prog 22 cells o = cells[o]? := Row_one C22
theorem R23 {cells : List V} {o : Nat} : loadRow Try.prog 23 cells o = cells[o]? := Row_one C23
theorem R24 {cells : List V} {o : Nat} : loadRow Try.prog 24 cells o = if o + 3 ≤ cells.length then some (.agg ((cells.drop o).take 3)) else none := Row_agg G24 S24
theorem R25 {cells : List V} {o : Nat} : loadRow Try.prog 25 cells o = if o + 3 ≤ cells.length then some (.agg ((cells.drop o).take 3)) else none := Row_agg G25 S25
theorem R26 {cells : List V} {o : Nat} : loadRow Try.prog 26 cells o = cells[o]? := Row_one C26
theorem R27 {cells : List V} {o : Nat} : loadRow Try.prog 27 cells o = cells[o]? := Row_one C27
theorem R28 {cells : List V} {o : Nat} : loadRow Try.prog 28 cells o = cells[o]? := Row_one C28
theorem R29 {cells : List V} {o : Nat} : loadRow Try.prog 29 cells o = cells[o]? := Row_one C29
theorem R30 {cells : List V} {o : Nat} : loadRow Try.prog 30 cells o = cells[o]? := Row_one C30
theorem R31 {cells : List V} {o : Nat} : loadRow Try.prog 31 cells o = cells[o]? := Row_one C31
theorem R32 {cells : List V} {o : Nat} : loadRow Try.prog 32 cells o = if o + 4 ≤ cells.length then some (.agg ((cells.drop o).take 4)) else none := Row_agg G32 S32
theorem R33 {cells : List V} {o : Nat} : loadRow Try.prog 33 cells o = if o + 4 ≤ cells.length then some (.agg ((cells.drop o).take 4)) else none := Row_agg G33 S33
theorem R34 {cells : List V} {o : Nat} : loadRow Try.prog 34 cells o = cells[o]? := Row_one C34
theorem R35 {cells : List V} {o : Nat} : loadRow Try.prog 35 cells o = cells[o]? := Row_one C35
theorem R36 {cells : List V} {o : Nat} : loadRow Try.prog 36 cells o = if o + 6 ≤ cells.length then some (.agg ((cells.drop o).take 6)) else none := Row_agg G36 S36
theorem R37 {cells : List V} {o : Nat} : loadRow Try.prog 37 cells o = if o + 6 ≤ cells.length then some (.agg ((cells.drop o).take 6)) else none := Row_agg G37 S37
theorem R38 {cells : List V} {o : Nat} : loadRow Try.prog 38 cells o = cells[o]? := Row_one C38
theorem R39 {cells : List V} {o : Nat} : loadRow Try.prog 39 cells o = cells[o]? := Row_one C39
theorem R40 {cells : List V} {o : Nat} : loadRow Try.prog 40 cells o = if o + 6 ≤ cells.length then some (.agg ((cells.drop o).take 6)) else none := Row_agg G40 S40
theorem R41 {cells : List V} {o : Nat} : loadRow Try.prog 41 cells o = if o + 6 ≤ cells.length then some (.agg ((cells.drop o).take 6)) else none := Row_agg G41 S41
theorem R42 {cells : List V} {o : Nat} : loadRow Try.prog 42 cells o = cells[o]? := Row_one C42
theorem R43 {cells : List V} {o : Nat} : loadRow Try.prog 43 cells o = cells[o]? := Row_one C43
theorem R44 {cells : List V} {o : Nat} : loadRow Try.prog 44 cells o = cells[o]? := Row_one C44
theorem R45 {cells : List V} {o : Nat} : loadRow Try.prog 45 cells o = cells[o]? := Row_one C45
theorem R46 {cells : List V} {o : Nat} : loadRow Try.prog 46 cells o = cells[o]? := Row_one C46
theorem R47 {cells : List V} {o : Nat} : loadRow Try.prog 47 cells o = cells[o]? := Row_one C47
theorem R48 {cells : List V} {o : Nat} : loadRow Try.prog 48 cells o = cells[o]? := Row_one C48
theorem R49 {cells : List V} {o : Nat} : loadRow Try.prog 49 cells o = cells[o]? := Row_one C49
theorem R50 {cells : List V} {o : Nat} : loadRow Try.prog 50 cells o = cells[o]? := Row_one C50
theorem R51 {cells : List V} {o : Nat} : loadRow Try.prog 51 cells o = if o + 2 ≤ cells.length then some (.agg ((cells.drop o).take 2)) else none := Row_agg G51 S51
theorem R52 {cells : List V} {o : Nat} : loadRow Try.prog 52 cells o = if o + 2 ≤ cells.length then some (.agg ((cells.drop o).take 2)) else none := Row_agg G52 S52
theorem R53 {cells : List V} {o : Nat} : loadRow Try.prog 53 cells o = cells[o]? := Row_one C53
theorem R54 {cells : List V} {o : Nat} : loadRow Try.prog 54 cells o = if o + 6 ≤ cells.length then some (.agg ((cells.drop o).take 6)) else none := Row_agg G54 S54
theorem R55 {cells : List V} {o : Nat} : loadRow Try.prog 55 cells o = if o + 6 ≤ cells.length then some (.agg ((cells.drop o).take 6)) else none := Row_agg G55 S55
theorem R56 {cells : List V} {o : Nat} : loadRow Try.prog 56 cells o = cells[o]? := Row_one C56
theorem R57 {cells : List V} {o : Nat} : loadRow Try.prog 57 cells o = cells[o]? := Row_one C57
theorem R58 {cells : List V} {o : Nat} : loadRow Try.prog 58 cells o = cells[o]? := Row_one C58
theorem R59 {cells : List V} {o : Nat} : loadRow Try.prog 59 cells o = cells[o]? := Row_one C59
theorem R60 {cells : List V} {o : Nat} : loadRow Try.prog 60 cells o = cells[o]? := Row_one C60
theorem R61 {cells : List V} {o : Nat} : loadRow Try.prog 61 cells o = cells[o]? := Row_one C61
theorem R62 {cells : List V} {o : Nat} : loadRow Try.prog 62 cells o = cells[o]? := Row_one C62
theorem R63 {cells : List V} {o : Nat} : loadRow Try.prog 63 cells o = cells[o]? := Row_one C63
theorem R64 {cells : List V} {o : Nat} : loadRow Try.prog 64 cells o = cells[o]? := Row_one C64
theorem R65 {cells : List V} {o : Nat} : loadRow Try.prog 65 cells o = cells[o]? := Row_one C65
theorem R66 {cells : List V} {o : Nat} : loadRow Try.prog 66 cells o = cells[o]? := Row_one C66
theorem R67 {cells : List V} {o : Nat} : loadRow Try.prog 67 cells o = cells[o]? := Row_one C67
theorem R68 {cells : List V} {o : Nat} : loadRow Try.prog 68 cells o = cells[o]? := Row_one C68
theorem R69 {cells : List V} {o : Nat} : loadRow Try.prog 69 cells o = cells[o]? := Row_one C69
theorem R70 {cells : List V} {o : Nat} : loadRow Try.prog 70 cells o = cells[o]? := Row_one C70
theorem R71 {cells : List V} {o : Nat} : loadRow Try.prog 71 cells o = cells[o]? := Row_one C71
theorem R72 {cells : List V} {o : Nat} : loadRow Try.prog 72 cells o = cells[o]? := Row_one C72
theorem R73 {cells : List V} {o : Nat} : loadRow Try.prog 73 cells o = cells[o]? := Row_one C73
theorem R74 {cells : List V} {o : Nat} : loadRow Try.prog 74 cells o = cells[o]? := Row_one C74
theorem R75 {cells : List V} {o : Nat} : loadRow Try.prog 75 cells o = cells[o]? := Row_one C75
theorem R76 {cells : List V} {o : Nat} : loadRow Try.prog 76 cells o = if o + 7 ≤ cells.length then some (.agg ((cells.drop o).take 7)) else none := Row_agg G76 S76
theorem R77 {cells : List V} {o : Nat} : loadRow Try.prog 77 cells o = if o + 7 ≤ cells.length then some (.agg ((cells.drop o).take 7)) else none := Row_agg G77 S77
theorem R78 {cells : List V} {o : Nat} : loadRow Try.prog 78 cells o = if o + 16 ≤ cells.length then some (.agg ((cells.drop o).take 16)) else none := Row_agg G78 S78
theorem R79 {cells : List V} {o : Nat} : loadRow Try.prog 79 cells o = if o + 16 ≤ cells.length then some (.agg ((cells.drop o).take 16)) else none := Row_agg G79 S79
theorem R80 {cells : List V} {o : Nat} : loadRow Try.prog 80 cells o = cells[o]? := Row_one C80
theorem R81 {cells : List V} {o : Nat} : loadRow Try.prog 81 cells o = cells[o]? := Row_one C81
theorem R82 {cells : List V} {o : Nat} : loadRow Try.prog 82 cells o = cells[o]? := Row_one C82
theorem R83 {cells : List V} {o : Nat} : loadRow Try.prog 83 cells o = cells[o]? := Row_one C83
theorem R84 {cells : List V} {o : Nat} : loadRow Try.prog 84 cells o = cells[o]? := Row_one C84
theorem R85 {cells : List V} {o : Nat} : loadRow Try.prog 85 cells o = cells[o]? := Row_one C85
theorem R86 {cells : List V} {o : Nat} : loadRow Try.prog 86 cells o = cells[o]? := Row_one C86
theorem R87 {cells : List V} {o : Nat} : loadRow Try.prog 87 cells o = cells[o]? := Row_one C87
theorem R88 {cells : List V} {o : Nat} : loadRow Try.prog 88 cells o = cells[o]? := Row_one C88
theorem R89 {cells : List V} {o : Nat} : loadRow Try.prog 89 cells o = cells[o]? := Row_one C89
theorem R90 {cells : List V} {o : Nat} : loadRow Try.prog 90 cells o = cells[o]? := Row_one C90
theorem R91 {cells : List V} {o : Nat} : loadRow Try.prog 91 cells o = cells[o]? := Row_one C91
theorem R92 {cells : List V} {o : Nat} : loadRow Try.prog 92 cells o = cells[o]? := Row_one C92
theorem R93 {cells : List V} {o : Nat} : loadRow Try.prog 93 cells o = cells[o]? := Row_one C93
theorem R94 {cells : List V} {o : Nat} : loadRow Try.prog 94 cells o = if o + 2 ≤ cells.length then some (.agg ((cells.drop o).take 2)) else none := Row_agg G94 S94
theorem R95 {cells : List V} {o : Nat} : loadRow Try.prog 95 cells o = if o + 2 ≤ cells.length then some (.agg ((cells.drop o).take 2)) else none := Row_agg G95 S95
theorem R96 {cells : List V} {o : Nat} : loadRow Try.prog 96 cells o = cells[o]? := Row_one C96
theorem R97 {cells : List V} {o : Nat} : loadRow Try.prog 97 cells o = cells[o]? := Row_one C97
theorem R98 {cells : List V} {o : Nat} : loadRow Try.prog 98 cells o = cells[o]? := Row_one C98
theorem R99 {cells : List V} {o : Nat} : loadRow Try.prog 99 cells o = cells[o]? := Row_one C99
theorem R100 {cells : List V} {o : Nat} : loadRow Try.prog 100 cells o = cells[o]? := Row_one C100
theorem R101 {cells : List V} {o : Nat} : loadRow Try.prog 101 cells o = cells[o]? := Row_one C101
theorem R102 {cells : List V} {o : Nat} : loadRow Try.prog 102 cells o = if o + 10 ≤ cells.length then some (.agg ((cells.drop o).take 10)) else none := Row_agg G102 S102
theorem R103 {cells : List V} {o : Nat} : loadRow Try.prog 103 cells o = if o + 10 ≤ cells.length then some (.agg ((cells.drop o).take 10)) else none := Row_agg G103 S103
theorem R104 {cells : List V} {o : Nat} : loadRow Try.prog 104 cells o = if o + 2 ≤ cells.length then some (.agg ((cells.drop o).take 2)) else none := Row_agg G104 S104
theorem R105 {cells : List V} {o : Nat} : loadRow Try.prog 105 cells o = if o + 2 ≤ cells.length then some (.agg ((cells.drop o).take 2)) else none := Row_agg G105 S105
theorem R106 {cells : List V} {o : Nat} : loadRow Try.prog 106 cells o = cells[o]? := Row_one C106
theorem R107 {cells : List V} {o : Nat} : loadRow Try.prog 107 cells o = cells[o]? := Row_one C107
theorem R108 {cells : List V} {o : Nat} : loadRow Try.prog 108 cells o = cells[o]? := Row_one C108
theorem R109 {cells : List V} {o : Nat} : loadRow Try.prog 109 cells o = cells[o]? := Row_one C109
theorem R110 {cells : List V} {o : Nat} : loadRow Try.prog 110 cells o = cells[o]? := Row_one C110
theorem R111 {cells : List V} {o : Nat} : loadRow Try.prog 111 cells o = cells[o]? := Row_one C111
theorem R112 {cells : List V} {o : Nat} : loadRow Try.prog 112 cells o = cells[o]? := Row_one C112
theorem R113 {cells : List V} {o : Nat} : loadRow Try.prog 113 cells o = cells[o]? := Row_one C113
theorem R114 {cells : List V} {o : Nat} : loadRow Try.prog 114 cells o = cells[o]? := Row_one C114
theorem R115 {cells : List V} {o : Nat} : loadRow Try.prog 115 cells o = if o + 6 ≤ cells.length then some (.agg ((cells.drop o).take 6)) else none := Row_agg G115 S115
theorem R116 {cells : List V} {o : Nat} : loadRow Try.prog 116 cells o = if o + 6 ≤ cells.length then some (.agg ((cells.drop o).take 6)) else none := Row_agg G116 S116
theorem R117 {cells : List V} {o : Nat} : loadRow Try.prog 117 cells o = cells[o]? := Row_one C117
theorem R118 {cells : List V} {o : Nat} : loadRow Try.prog 118 cells o = if o + 3 ≤ cells.length then some (.agg ((cells.drop o).take 3)) else none := Row_agg G118 S118
theorem R119 {cells : List V} {o : Nat} : loadRow Try.prog 119 cells o = if o + 3 ≤ cells.length then some (.agg ((cells.drop o).take 3)) else none := Row_agg G119 S119
theorem R120 {cells : List V} {o : Nat} : loadRow Try.prog 120 cells o = if o + 4 ≤ cells.length then some (.agg ((cells.drop o).take 4)) else none := Row_agg G120 S120
theorem R121 {cells : List V} {o : Nat} : loadRow Try.prog 121 cells o = if o + 4 ≤ cells.length then some (.agg ((cells.drop o).take 4)) else none := Row_agg G121 S121
theorem R122 {cells : List V} {o : Nat} : loadRow Try.prog 122 cells o = cells[o]? := Row_one C122
theorem R123 {cells : List V} {o : Nat} : loadRow Try.prog 123 cells o = cells[o]? := Row_one C123
theorem R124 {cells : List V} {o : Nat} : loadRow Try.prog 124 cells o = cells[o]? := Row_one C124
theorem R125 {cells : List V} {o : Nat} : loadRow Try.prog 125 cells o = cells[o]? := Row_one C125
theorem R126 {cells : List V} {o : Nat} : loadRow Try.prog 126 cells o = cells[o]? := Row_one C126
theorem R127 {cells : List V} {o : Nat} : loadRow Try.prog 127 cells o = cells[o]? := Row_one C127
theorem R128 {cells : List V} {o : Nat} : loadRow Try.prog 128 cells o = cells[o]? := Row_one C128
theorem R129 {cells : List V} {o : Nat} : loadRow Try.prog 129 cells o = cells[o]? := Row_one C129
theorem R130 {cells : List V} {o : Nat} : loadRow Try.prog 130 cells o = cells[o]? := Row_one C130
theorem R131 {cells : List V} {o : Nat} : loadRow Try.prog 131 cells o = cells[o]? := Row_one C131
theorem R132 {cells : List V} {o : Nat} : loadRow Try.prog 132 cells o = if o + 3 ≤ cells.length then some (.agg ((cells.drop o).take 3)) else none := Row_agg G132 S132
theorem R133 {cells : List V} {o : Nat} : loadRow Try.prog 133 cells o = if o + 3 ≤ cells.length then some (.agg ((cells.drop o).take 3)) else none := Row_agg G133 S133
theorem R134 {cells : List V} {o : Nat} : loadRow Try.prog 134 cells o = cells[o]? := Row_one C134
theorem R135 {cells : List V} {o : Nat} : loadRow Try.prog 135 cells o = cells[o]? := Row_one C135
theorem R136 {cells : List V} {o : Nat} : loadRow Try.prog 136 cells o = cells[o]? := Row_one C136
theorem R137 {cells : List V} {o : Nat} : loadRow Try.prog 137 cells o = cells[o]? := Row_one C137
theorem R138 {cells : List V} {o : Nat} : loadRow Try.prog 138 cells o = cells[o]? := Row_one C138
theorem R139 {cells : List V} {o : Nat} : loadRow Try.prog 139 cells o = cells[o]? := Row_one C139
theorem R140 {cells : List V} {o : Nat} : loadRow Try.prog 140 cells o = cells[o]? := Row_one C140
theorem R141 {cells : List V} {o : Nat} : loadRow Try.prog 141 cells o = cells[o]? := Row_one C141
theorem R142 {cells : List V} {o : Nat} : loadRow Try.prog 142 cells o = cells[o]? := Row_one C142
theorem R143 {cells : List V} {o : Nat} : loadRow Try.prog 143 cells o = cells[o]? := Row_one C143
theorem R144 {cells : List V} {o : Nat} : loadRow Try.prog 144 cells o = cells[o]? := Row_one C144
theorem R145 {cells : List V} {o : Nat} : loadRow Try.prog 145 cells o = if o + 0 ≤ cells.length then some (.agg ((cells.drop o).take 0)) else none := Row_agg G145 S145
theorem R146 {cells : List V} {o : Nat} : loadRow Try.prog 146 cells o = if o + 2 ≤ cells.length then some (.agg ((cells.drop o).take 2)) else none := Row_agg G146 S146
theorem R147 {cells : List V} {o : Nat} : loadRow Try.prog 147 cells o = if o + 2 ≤ cells.length then some (.agg ((cells.drop o).take 2)) else none := Row_agg G147 S147
theorem R148 {cells : List V} {o : Nat} : loadRow Try.prog 148 cells o = cells[o]? := Row_one C148
theorem R149 {cells : List V} {o : Nat} : loadRow Try.prog 149 cells o = cells[o]? := Row_one C149
theorem R150 {cells : List V} {o : Nat} : loadRow Try.prog 150 cells o = cells[o]? := Row_one C150
theorem R151 {cells : List V} {o : Nat} : loadRow Try.prog 151 cells o = cells[o]? := Row_one C151
theorem R152 {cells : List V} {o : Nat} : loadRow Try.prog 152 cells o = cells[o]? := Row_one C152
theorem R153 {cells : List V} {o : Nat} : loadRow Try.prog 153 cells o = cells[o]? := Row_one C153
theorem R154 {cells : List V} {o : Nat} : loadRow Try.prog 154 cells o = cells[o]? := Row_one C154
theorem R155 {cells : List V} {o : Nat} : loadRow Try.prog 155 cells o = cells[o]? := Row_one C155
theorem R156 {cells : List V} {o : Nat} : loadRow Try.prog 156 cells o = cells[o]? := Row_one C156
theorem R157 {cells : List V} {o : Nat} : loadRow Try.prog 157 cells o = cells[o]? := Row_one C157
theorem R158 {cells : List V} {o : Nat} : loadRow Try.prog 158 cells o = if o + 2 ≤ cells.length then some (.agg ((cells.drop o).take 2)) else none := Row_agg G158 S158
theorem R159 {cells : List V} {o : Nat} : loadRow Try.prog 159 cells o = if o + 2 ≤ cells.length then some (.agg ((cells.drop o).take 2)) else none := Row_agg G159 S159
theorem R160 {cells : List V} {o : Nat} : loadRow Try.prog 160 cells o = cells[o]? := Row_one C160
theorem R161 {cells : List V} {o : Nat} : loadRow Try.prog 161 cells o = cells[o]? := Row_one C161
theorem R162 {cells : List V} {o : Nat} : loadRow Try.prog 162 cells o = cells[o]? := Row_one C162
theorem R163 {cells : List V} {o : Nat} : loadRow Try.prog 163 cells o = cells[o]? := Row_one C163
theorem R164 {cells : List V} {o : Nat} : loadRow Try.prog 164 cells o = cells[o]? := Row_one C164
theorem R165 {cells : List V} {o : Nat} : loadRow Try.prog 165 cells o = cells[o]? := Row_one C165
theorem R166 {cells : List V} {o : Nat} : loadRow Try.prog 166 cells o = cells[o]? := Row_one C166
theorem R167 {cells : List V} {o : Nat} : loadRow Try.prog 167 cells o = if o + 4 ≤ cells.length then some (.agg ((cells.drop o).take 4)) else none := Row_agg G167 S167
theorem R168 {cells : List V} {o : Nat} : loadRow Try.prog 168 cells o = if o + 4 ≤ cells.length then some (.agg ((cells.drop o).take 4)) else none := Row_agg G168 S168
theorem R169 {cells : List V} {o : Nat} : loadRow Try.prog 169 cells o = if o + 0 ≤ cells.length then some (.agg ((cells.drop o).take 0)) else none := Row_agg G169 S169
theorem R170 {cells : List V} {o : Nat} : loadRow Try.prog 170 cells o = if o + 0 ≤ cells.length then some (.agg ((cells.drop o).take 0)) else none := Row_agg G170 S170
theorem R171 {cells : List V} {o : Nat} : loadRow Try.prog 171 cells o = if o + 0 ≤ cells.length then some (.agg ((cells.drop o).take 0)) else none := Row_agg G171 S171
theorem R172 {cells : List V} {o : Nat} : loadRow Try.prog 172 cells o = cells[o]? := Row_one C172
theorem R173 {cells : List V} {o : Nat} : loadRow Try.prog 173 cells o = cells[o]? := Row_one C173
theorem R174 {cells : List V} {o : Nat} : loadRow Try.prog 174 cells o = cells[o]? := Row_one C174
theorem R175 {cells : List V} {o : Nat} : loadRow Try.prog 175 cells o = cells[o]? := Row_one C175
theorem R176 {cells : List V} {o : Nat} : loadRow Try.prog 176 cells o = cells[o]? := Row_one C176
theorem R177 {cells : List V} {o : Nat} : loadRow Try.prog 177 cells o = cells[o]? := Row_one C177
theorem R178 {cells : List V} {o : Nat} : loadRow Try.prog 178 cells o = cells[o]? := Row_one C178
theorem R179 {cells : List V} {o : Nat} : loadRow Try.prog 179 cells o = cells[o]? := Row_one C179
theorem R180 {cells : List V} {o : Nat} : loadRow Try.prog 180 cells o = if o + 11 ≤ cells.length then some (.agg ((cells.drop o).take 11)) else none := Row_agg G180 S180
theorem R181 {cells : List V} {o : Nat} : loadRow Try.prog 181 cells o = if o + 11 ≤ cells.length then some (.agg ((cells.drop o).take 11)) else none := Row_agg G181 S181
theorem R182 {cells : List V} {o : Nat} : loadRow Try.prog 182 cells o = cells[o]? := Row_one C182
theorem Fap25_0 {b o : Nat} : aFieldAddr Try.prog 25 0 (.ptr b o) = some (.ptr b (o + 0)) := Fa_ptr (by kernel_rfl)
theorem Faq25_0 {r : List V} {o : Nat} : aFieldAddr Try.prog 25 0 (.pp r o) = some (.pp r (o + 0)) := Fa_pp (by kernel_rfl)
theorem Fap25_1 {b o : Nat} : aFieldAddr Try.prog 25 1 (.ptr b o) = some (.ptr b (o + 1)) := Fa_ptr (by kernel_rfl)
theorem Faq25_1 {r : List V} {o : Nat} : aFieldAddr Try.prog 25 1 (.pp r o) = some (.pp r (o + 1)) := Fa_pp (by kernel_rfl)
theorem Fap25_2 {b o : Nat} : aFieldAddr Try.prog 25 2 (.ptr b o) = some (.ptr b (o + 2)) := Fa_ptr (by kernel_rfl)
theorem Faq25_2 {r : List V} {o : Nat} : aFieldAddr Try.prog 25 2 (.pp r o) = some (.pp r (o + 2)) := Fa_pp (by kernel_rfl)
theorem Fap33_0 {b o : Nat} : aFieldAddr Try.prog 33 0 (.ptr b o) = some (.ptr b (o + 0)) := Fa_ptr (by kernel_rfl)
theorem Faq33_0 {r : List V} {o : Nat} : aFieldAddr Try.prog 33 0 (.pp r o) = some (.pp r (o + 0)) := Fa_pp (by kernel_rfl)
theorem Fap33_1 {b o : Nat} : aFieldAddr Try.prog 33 1 (.ptr b o) = some (.ptr b (o + 1)) := Fa_ptr (by kernel_rfl)
theorem Faq33_1 {r : List V} {o : Nat} : aFieldAddr Try.prog 33 1 (.pp r o) = some (.pp r (o + 1)) := Fa_pp (by kernel_rfl)
theorem Fap33_2 {b o : Nat} : aFieldAddr Try.prog 33 2 (.ptr b o) = some (.ptr b (o + 2)) := Fa_ptr (by kernel_rfl)
theorem Faq33_2 {r : List V} {o : Nat} : aFieldAddr Try.prog 33 2 (.pp r o) = some (.pp r (o + 2)) := Fa_pp (by kernel_rfl)
theorem Fap33_3 {b o : Nat} : aFieldAddr Try.prog 33 3 (.ptr b o) = some (.ptr b (o + 3)) := Fa_ptr (by kernel_rfl)
theorem Faq33_3 {r : List V} {o : Nat} : aFieldAddr Try.prog 33 3 (.pp r o) = some (.pp r (o + 3)) := Fa_pp (by kernel_rfl)
theorem Fap37_0 {b o : Nat} : aFieldAddr Try.prog 37 0 (.ptr b o) = some (.ptr b (o + 0)) := Fa_ptr (by kernel_rfl)
theorem Faq37_0 {r : List V} {o : Nat} : aFieldAddr Try.prog 37 0 (.pp r o) = some (.pp r (o + 0)) := Fa_pp (by kernel_rfl)
theorem Fap37_1 {b o : Nat} : aFieldAddr Try.prog 37 1 (.ptr b o) = some (.ptr b (o + 1)) := Fa_ptr (by kernel_rfl)
theorem Faq37_1 {r : List V} {o : Nat} : aFieldAddr Try.prog 37 1 (.pp r o) = some (.pp r (o + 1)) := Fa_pp (by kernel_rfl)
theorem Fap37_2 {b o : Nat} : aFieldAddr Try.prog 37 2 (.ptr b o) = some (.ptr b (o + 2)) := Fa_ptr (by kernel_rfl)
theorem Faq37_2 {r : List V} {o : Nat} : aFieldAddr Try.prog 37 2 (.pp r o) = some (.pp r (o + 2)) := Fa_pp (by kernel_rfl)
theorem Fap37_3 {b o : Nat} : aFieldAddr Try.prog 37 3 (.ptr b o) = some (.ptr b (o + 3)) := Fa_ptr (by kernel_rfl)
theorem Faq37_3 {r : List V} {o : Nat} : aFieldAddr Try.prog 37 3 (.pp r o) = some (.pp r (o + 3)) := Fa_pp (by kernel_rfl)
theorem Fap37_4 {b o : Nat} : aFieldAddr Try.prog 37 4 (.ptr b o) = some (.ptr b (o + 4)) := Fa_ptr (by kernel_rfl)
theorem Faq37_4 {r : List V} {o : Nat} : aFieldAddr Try.prog 37 4 (.pp r o) = some (.pp r (o + 4)) := Fa_pp (by kernel_rfl)
theorem Fap37_5 {b o : Nat} : aFieldAddr Try.prog 37 5 (.ptr b o) = some (.ptr b (o + 5)) := Fa_ptr (by kernel_rfl)
theorem Faq37_5 {r : List V} {o : Nat} : aFieldAddr Try.prog 37 5 (.pp r o) = some (.pp r (o + 5)) := Fa_pp (by kernel_rfl)
theorem Fap41_0 {b o : Nat} : aFieldAddr Try.prog 41 0 (.ptr b o) = some (.ptr b (o + 0)) := Fa_ptr (by kernel_rfl)
theorem Faq41_0 {r : List V} {o : Nat} : aFieldAddr Try.prog 41 0 (.pp r o) = some (.pp r (o + 0)) := Fa_pp (by kernel_rfl)
theorem Fap41_1 {b o : Nat} : aFieldAddr Try.prog 41 1 (.ptr b o) = some (.ptr b (o + 1)) := Fa_ptr (by kernel_rfl)
theorem Faq41_1 {r : List V} {o : Nat} : aFieldAddr Try.prog 41 1 (.pp r o) = some (.pp r (o + 1)) := Fa_pp (by kernel_rfl)
theorem Fap41_2 {b o : Nat} : aFieldAddr Try.prog 41 2 (.ptr b o) = some (.ptr b (o + 2)) := Fa_ptr (by kernel_rfl)
theorem Faq41_2 {r : List V} {o : Nat} : aFieldAddr Try.prog 41 2 (.pp r o) = some (.pp r (o + 2)) := Fa_pp (by kernel_rfl)
theorem Fap41_3 {b o : Nat} : aFieldAddr Try.prog 41 3 (.ptr b o) = some (.ptr b (o + 3)) := Fa_ptr (by kernel_rfl)
theorem Faq41_3 {r : List V} {o : Nat} : aFieldAddr Try.prog 41 3 (.pp r o) = some (.pp r (o + 3)) := Fa_pp (by kernel_rfl)
theorem Fap41_4 {b o : Nat} : aFieldAddr Try.prog 41 4 (.ptr b o) = some (.ptr b (o + 4)) := Fa_ptr (by kernel_rfl)
theorem Faq41_4 {r : List V} {o : Nat} : aFieldAddr Try.prog 41 4 (.pp r o) = some (.pp r (o + 4)) := Fa_pp (by kernel_rfl)
theorem Fap41_5 {b o : Nat} : aFieldAddr Try.prog 41 5 (.ptr b o) = some (.ptr b (o + 5)) := Fa_ptr (by kernel_rfl)
theorem Faq41_5 {r : List V} {o : Nat} : aFieldAddr Try.prog 41 5 (.pp r o) = some (.pp r (o + 5)) := Fa_pp (by kernel_rfl)
theorem Fap52_0 {b o : Nat} : aFieldAddr Try.prog 52 0 (.ptr b o) = some (.ptr b (o + 0)) := Fa_ptr (by kernel_rfl)
theorem Faq52_0 {r : List V} {o : Nat} : aFieldAddr Try.prog 52 0 (.pp r o) = some (.pp r (o + 0)) := Fa_pp (by kernel_rfl)
theorem Fap52_1 {b o : Nat} : aFieldAddr Try.prog 52 1 (.ptr b o) = some (.ptr b (o + 1)) := Fa_ptr (by kernel_rfl)
theorem Faq52_1 {r : List V} {o : Nat} : aFieldAddr Try.prog 52 1 (.pp r o) = some (.pp r (o + 1)) := Fa_pp (by kernel_rfl)
theorem Fap55_0 {b o : Nat} : aFieldAddr Try.prog 55 0 (.ptr b o) = some (.ptr b (o + 0)) := Fa_ptr (by kernel_rfl)
theorem Faq55_0 {r : List V} {o : Nat} : aFieldAddr Try.prog 55 0 (.pp r o) = some (.pp r (o + 0)) := Fa_pp (by kernel_rfl)
theorem Fap55_1 {b o : Nat} : aFieldAddr Try.prog 55 1 (.ptr b o) = some (.ptr b (o + 1)) := Fa_ptr (by kernel_rfl)
theorem Faq55_1 {r : List V} {o : Nat} : aFieldAddr Try.prog 55 1 (.pp r o) = some (.pp r (o + 1)) := Fa_pp (by kernel_rfl)
theorem Fap55_2 {b o : Nat} : aFieldAddr Try.prog 55 2 (.ptr b o) = some (.ptr b (o + 2)) := Fa_ptr (by kernel_rfl)
theorem Faq55_2 {r : List V} {o : Nat} : aFieldAddr Try.prog 55 2 (.pp r o) = some (.pp r (o + 2)) := Fa_pp (by kernel_rfl)
theorem Fap55_3 {b o : Nat} : aFieldAddr Try.prog 55 3 (.ptr b o) = some (.ptr b (o + 3)) := Fa_ptr (by kernel_rfl)
theorem Faq55_3 {r : List V} {o : Nat} : aFieldAddr Try.prog 55 3 (.pp r o) = some (.pp r (o + 3)) := Fa_pp (by kernel_rfl)
theorem Fap55_4 {b o : Nat} : aFieldAddr Try.prog 55 4 (.ptr b o) = some (.ptr b (o + 4)) := Fa_ptr (by kernel_rfl)
theorem Faq55_4 {r : List V} {o : Nat} : aFieldAddr Try.prog 55 4 (.pp r o) = some (.pp r (o + 4)) := Fa_pp (by kernel_rfl)
theorem Fap55_5 {b o : Nat} : aFieldAddr Try.prog 55 5 (.ptr b o) = some (.ptr b (o + 5)) := Fa_ptr (by kernel_rfl)
theorem Faq55_5 {r : List V} {o : Nat} : aFieldAddr Try.prog 55 5 (.pp r o) = some (.pp r (o + 5)) := Fa_pp (by kernel_rfl)
theorem Fap77_0 {b o : Nat} : aFieldAddr Try.prog 77 0 (.ptr b o) = some (.ptr b (o + 0)) := Fa_ptr (by kernel_rfl)
theorem Faq77_0 {r : List V} {o : Nat} : aFieldAddr Try.prog 77 0 (.pp r o) = some (.pp r (o + 0)) := Fa_pp (by kernel_rfl)
theorem Fap77_1 {b o : Nat} : aFieldAddr Try.prog 77 1 (.ptr b o) = some (.ptr b (o + 1)) := Fa_ptr (by kernel_rfl)
theorem Faq77_1 {r : List V} {o : Nat} : aFieldAddr Try.prog 77 1 (.pp r o) = some (.pp r (o + 1)) := Fa_pp (by kernel_rfl)
theorem Fap77_2 {b o : Nat} : aFieldAddr Try.prog 77 2 (.ptr b o) = some (.ptr b (o + 2)) := Fa_ptr (by kernel_rfl)
theorem Faq77_2 {r : List V} {o : Nat} : aFieldAddr Try.prog 77 2 (.pp r o) = some (.pp r (o + 2)) := Fa_pp (by kernel_rfl)
theorem Fap77_3 {b o : Nat} : aFieldAddr Try.prog 77 3 (.ptr b o) = some (.ptr b (o + 3)) := Fa_ptr (by kernel_rfl)
theorem Faq77_3 {r : List V} {o : Nat} : aFieldAddr Try.prog 77 3 (.pp r o) = some (.pp r (o + 3)) := Fa_pp (by kernel_rfl)
theorem Fap77_4 {b o : Nat} : aFieldAddr Try.prog 77 4 (.ptr b o) = some (.ptr b (o + 4)) := Fa_ptr (by kernel_rfl)
theorem Faq77_4 {r : List V} {o : Nat} : aFieldAddr Try.prog 77 4 (.pp r o) = some (.pp r (o + 4)) := Fa_pp (by kernel_rfl)
theorem Fap77_5 {b o : Nat} : aFieldAddr Try.prog 77 5 (.ptr b o) = some (.ptr b (o + 5)) := Fa_ptr (by kernel_rfl)
theorem Faq77_5 {r : List V} {o : Nat} : aFieldAddr Try.prog 77 5 (.pp r o) = some (.pp r (o + 5)) := Fa_pp (by kernel_rfl)
theorem Fap77_6 {b o : Nat} : aFieldAddr Try.prog 77 6 (.ptr b o) = some (.ptr b (o + 6)) := Fa_ptr (by kernel_rfl)
theorem Faq77_6 {r : List V} {o : Nat} : aFieldAddr Try.prog 77 6 (.pp r o) = some (.pp r (o + 6)) := Fa_pp (by kernel_rfl)
theorem Fap79_0 {b o : Nat} : aFieldAddr Try.prog 79 0 (.ptr b o) = some (.ptr b (o + 0)) := Fa_ptr (by kernel_rfl)
theorem Faq79_0 {r : List V} {o : Nat} : aFieldAddr Try.prog 79 0 (.pp r o) = some (.pp r (o + 0)) := Fa_pp (by kernel_rfl)
theorem Fap79_1 {b o : Nat} : aFieldAddr Try.prog 79 1 (.ptr b o) = some (.ptr b (o + 3)) := Fa_ptr (by kernel_rfl)
theorem Faq79_1 {r : List V} {o : Nat} : aFieldAddr Try.prog 79 1 (.pp r o) = some (.pp r (o + 3)) := Fa_pp (by kernel_rfl)
theorem Fap79_2 {b o : Nat} : aFieldAddr Try.prog 79 2 (.ptr b o) = some (.ptr b (o + 4)) := Fa_ptr (by kernel_rfl)
theorem Faq79_2 {r : List V} {o : Nat} : aFieldAddr Try.prog 79 2 (.pp r o) = some (.pp r (o + 4)) := Fa_pp (by kernel_rfl)
theorem Fap79_3 {b o : Nat} : aFieldAddr Try.prog 79 3 (.ptr b o) = some (.ptr b (o + 5)) := Fa_ptr (by kernel_rfl)
theorem Faq79_3 {r : List V} {o : Nat} : aFieldAddr Try.prog 79 3 (.pp r o) = some (.pp r (o + 5)) := Fa_pp (by kernel_rfl)
theorem Fap79_4 {b o : Nat} : aFieldAddr Try.prog 79 4 (.ptr b o) = some (.ptr b (o + 6)) := Fa_ptr (by kernel_rfl)
theorem Faq79_4 {r : List V} {o : Nat} : aFieldAddr Try.prog 79 4 (.pp r o) = some (.pp r (o + 6)) := Fa_pp (by kernel_rfl)
theorem Fap79_5 {b o : Nat} : aFieldAddr Try.prog 79 5 (.ptr b o) = some (.ptr b (o + 7)) := Fa_ptr (by kernel_rfl)
theorem Faq79_5 {r : List V} {o : Nat} : aFieldAddr Try.prog 79 5 (.pp r o) = some (.pp r (o + 7)) := Fa_pp (by kernel_rfl)
theorem Fap79_6 {b o : Nat} : aFieldAddr Try.prog 79 6 (.ptr b o) = some (.ptr b (o + 8)) := Fa_ptr (by kernel_rfl)
theorem Faq79_6 {r : List V} {o : Nat} : aFieldAddr Try.prog 79 6 (.pp r o) = some (.pp r (o + 8)) := Fa_pp (by kernel_rfl)
theorem Fap79_7 {b o : Nat} : aFieldAddr Try.prog 79 7 (.ptr b o) = some (.ptr b (o + 9)) := Fa_ptr (by kernel_rfl)
theorem Faq79_7 {r : List V} {o : Nat} : aFieldAddr Try.prog 79 7 (.pp r o) = some (.pp r (o + 9)) := Fa_pp (by kernel_rfl)
theorem Fap95_0 {b o : Nat} : aFieldAddr Try.prog 95 0 (.ptr b o) = some (.ptr b (o + 0)) := Fa_ptr (by kernel_rfl)
theorem Faq95_0 {r : List V} {o : Nat} : aFieldAddr Try.prog 95 0 (.pp r o) = some (.pp r (o + 0)) := Fa_pp (by kernel_rfl)
theorem Fap95_1 {b o : Nat} : aFieldAddr Try.prog 95 1 (.ptr b o) = some (.ptr b (o + 1)) := Fa_ptr (by kernel_rfl)
theorem Faq95_1 {r : List V} {o : Nat} : aFieldAddr Try.prog 95 1 (.pp r o) = some (.pp r (o + 1)) := Fa_pp (by kernel_rfl)
theorem Fap103_0 {b o : Nat} : aFieldAddr Try.prog 103 0 (.ptr b o) = some (.ptr b (o + 0)) := Fa_ptr (by kernel_rfl)
theorem Faq103_0 {r : List V} {o : Nat} : aFieldAddr Try.prog 103 0 (.pp r o) = some (.pp r (o + 0)) := Fa_pp (by kernel_rfl)
theorem Fap103_1 {b o : Nat} : aFieldAddr Try.prog 103 1 (.ptr b o) = some (.ptr b (o + 3)) := Fa_ptr (by kernel_rfl)
theorem Faq103_1 {r : List V} {o : Nat} : aFieldAddr Try.prog 103 1 (.pp r o) = some (.pp r (o + 3)) := Fa_pp (by kernel_rfl)
theorem Fap103_2 {b o : Nat} : aFieldAddr Try.prog 103 2 (.ptr b o) = some (.ptr b (o + 7)) := Fa_ptr (by kernel_rfl)
theorem Faq103_2 {r : List V} {o : Nat} : aFieldAddr Try.prog 103 2 (.pp r o) = some (.pp r (o + 7)) := Fa_pp (by kernel_rfl)
theorem Fap103_3 {b o : Nat} : aFieldAddr Try.prog 103 3 (.ptr b o) = some (.ptr b (o + 8)) := Fa_ptr (by kernel_rfl)
theorem Faq103_3 {r : List V} {o : Nat} : aFieldAddr Try.prog 103 3 (.pp r o) = some (.pp r (o + 8)) := Fa_pp (by kernel_rfl)
theorem Fap103_4 {b o : Nat} : aFieldAddr Try.prog 103 4 (.ptr b o) = some (.ptr b (o + 9)) := Fa_ptr (by kernel_rfl)
theorem Faq103_4 {r : List V} {o : Nat} : aFieldAddr Try.prog 103 4 (.pp r o) = some (.pp r (o + 9)) := Fa_pp (by kernel_rfl)
theorem Fap105_0 {b o : Nat} : aFieldAddr Try.prog 105 0 (.ptr b o) = some (.ptr b (o + 0)) := Fa_ptr (by kernel_rfl)
theorem Faq105_0 {r : List V} {o : Nat} : aFieldAddr Try.prog 105 0 (.pp r o) = some (.pp r (o + 0)) := Fa_pp (by kernel_rfl)
theorem Fap105_1 {b o : Nat} : aFieldAddr Try.prog 105 1 (.ptr b o) = some (.ptr b (o + 1)) := Fa_ptr (by kernel_rfl)
theorem Faq105_1 {r : List V} {o : Nat} : aFieldAddr Try.prog 105 1 (.pp r o) = some (.pp r (o + 1)) := Fa_pp (by kernel_rfl)
theorem Fap116_0 {b o : Nat} : aFieldAddr Try.prog 116 0 (.ptr b o) = some (.ptr b (o + 0)) := Fa_ptr (by kernel_rfl)
theorem Faq116_0 {r : List V} {o : Nat} : aFieldAddr Try.prog 116 0 (.pp r o) = some (.pp r (o + 0)) := Fa_pp (by kernel_rfl)
theorem Fap116_1 {b o : Nat} : aFieldAddr Try.prog 116 1 (.ptr b o) = some (.ptr b (o + 1)) := Fa_ptr (by kernel_rfl)
theorem Faq116_1 {r : List V} {o : Nat} : aFieldAddr Try.prog 116 1 (.pp r o) = some (.pp r (o + 1)) := Fa_pp (by kernel_rfl)
theorem Fap116_2 {b o : Nat} : aFieldAddr Try.prog 116 2 (.ptr b o) = some (.ptr b (o + 2)) := Fa_ptr (by kernel_rfl)
theorem Faq116_2 {r : List V} {o : Nat} : aFieldAddr Try.prog 116 2 (.pp r o) = some (.pp r (o + 2)) := Fa_pp (by kernel_rfl)
theorem Fap116_3 {b o : Nat} : aFieldAddr Try.prog 116 3 (.ptr b o) = some (.ptr b (o + 3)) := Fa_ptr (by kernel_rfl)
theorem Faq116_3 {r : List V} {o : Nat} : aFieldAddr Try.prog 116 3 (.pp r o) = some (.pp r (o + 3)) := Fa_pp (by kernel_rfl)
theorem Fap116_4 {b o : Nat} : aFieldAddr Try.prog 116 4 (.ptr b o) = some (.ptr b (o + 4)) := Fa_ptr (by kernel_rfl)
theorem Faq116_4 {r : List V} {o : Nat} : aFieldAddr Try.prog 116 4 (.pp r o) = some (.pp r (o + 4)) := Fa_pp (by kernel_rfl)
theorem Fap116_5 {b o : Nat} : aFieldAddr Try.prog 116 5 (.ptr b o) = some (.ptr b (o + 5)) := Fa_ptr (by kernel_rfl)
theorem Faq116_5 {r : List V} {o : Nat} : aFieldAddr Try.prog 116 5 (.pp r o) = some (.pp r (o + 5)) := Fa_pp (by kernel_rfl)
theorem Fap119_0 {b o : Nat} : aFieldAddr Try.prog 119 0 (.ptr b o) = some (.ptr b (o + 0)) := Fa_ptr (by kernel_rfl)
theorem Faq119_0 {r : List V} {o : Nat} : aFieldAddr Try.prog 119 0 (.pp r o) = some (.pp r (o + 0)) := Fa_pp (by kernel_rfl)
theorem Fap119_1 {b o : Nat} : aFieldAddr Try.prog 119 1 (.ptr b o) = some (.ptr b (o + 1)) := Fa_ptr (by kernel_rfl)
theorem Faq119_1 {r : List V} {o : Nat} : aFieldAddr Try.prog 119 1 (.pp r o) = some (.pp r (o + 1)) := Fa_pp (by kernel_rfl)
theorem Fap119_2 {b o : Nat} : aFieldAddr Try.prog 119 2 (.ptr b o) = some (.ptr b (o + 2)) := Fa_ptr (by kernel_rfl)
theorem Faq119_2 {r : List V} {o : Nat} : aFieldAddr Try.prog 119 2 (.pp r o) = some (.pp r (o + 2)) := Fa_pp (by kernel_rfl)
theorem Fap121_0 {b o : Nat} : aFieldAddr Try.prog 121 0 (.ptr b o) = some (.ptr b (o + 0)) := Fa_ptr (by kernel_rfl)
theorem Faq121_0 {r : List V} {o : Nat} : aFieldAddr Try.prog 121 0 (.pp r o) = some (.pp r (o + 0)) := Fa_pp (by kernel_rfl)
theorem Fap121_1 {b o : Nat} : aFieldAddr Try.prog 121 1 (.ptr b o) = some (.ptr b (o + 1)) := Fa_ptr (by kernel_rfl)
theorem Faq121_1 {r : List V} {o : Nat} : aFieldAddr Try.prog 121 1 (.pp r o) = some (.pp r (o + 1)) := Fa_pp (by kernel_rfl)
theorem Fap121_2 {b o : Nat} : aFieldAddr Try.prog 121 2 (.ptr b o) = some (.ptr b (o + 2)) := Fa_ptr (by kernel_rfl)
theorem Faq121_2 {r : List V} {o : Nat} : aFieldAddr Try.prog 121 2 (.pp r o) = some (.pp r (o + 2)) := Fa_pp (by kernel_rfl)
theorem Fap121_3 {b o : Nat} : aFieldAddr Try.prog 121 3 (.ptr b o) = some (.ptr b (o + 3)) := Fa_ptr (by kernel_rfl)
theorem Faq121_3 {r : List V} {o : Nat} : aFieldAddr Try.prog 121 3 (.pp r o) = some (.pp r (o + 3)) := Fa_pp (by kernel_rfl)
theorem Fap133_0 {b o : Nat} : aFieldAddr Try.prog 133 0 (.ptr b o) = some (.ptr b (o + 0)) := Fa_ptr (by kernel_rfl)
theorem Faq133_0 {r : List V} {o : Nat} : aFieldAddr Try.prog 133 0 (.pp r o) = some (.pp r (o + 0)) := Fa_pp (by kernel_rfl)
theorem Fap133_1 {b o : Nat} : aFieldAddr Try.prog 133 1 (.ptr b o) = some (.ptr b (o + 1)) := Fa_ptr (by kernel_rfl)
theorem Faq133_1 {r : List V} {o : Nat} : aFieldAddr Try.prog 133 1 (.pp r o) = some (.pp r (o + 1)) := Fa_pp (by kernel_rfl)
theorem Fap133_2 {b o : Nat} : aFieldAddr Try.prog 133 2 (.ptr b o) = some (.ptr b (o + 2)) := Fa_ptr (by kernel_rfl)
theorem Faq133_2 {r : List V} {o : Nat} : aFieldAddr Try.prog 133 2 (.pp r o) = some (.pp r (o + 2)) := Fa_pp (by kernel_rfl)
theorem Fap159_0 {b o : Nat} : aFieldAddr Try.prog 159 0 (.ptr b o) = some (.ptr b (o + 0)) := Fa_ptr (by kernel_rfl)
theorem Faq159_0 {r : List V} {o : Nat} : aFieldAddr Try.prog 159 0 (.pp r o) = some (.pp r (o + 0)) := Fa_pp (by kernel_rfl)
theorem Fap159_1 {b o : Nat} : aFieldAddr Try.prog 159 1 (.ptr b o) = some (.ptr b (o + 1)) := Fa_ptr (by kernel_rfl)
theorem Faq159_1 {r : List V} {o : Nat} : aFieldAddr Try.prog 159 1 (.pp r o) = some (.pp r (o + 1)) := Fa_pp (by kernel_rfl)
theorem Z2 : zeroT Try.prog 2 = some [.int .i64 (0)] := by kernel_rfl
theorem Z3 : zeroT Try.prog 3 = some [.int .i64 (0)] := by kernel_rfl
theorem Z4 : zeroT Try.prog 4 = some [.bool false] := by kernel_rfl
theorem Z25 : zeroT Try.prog 25 = some [.snil, .snil, .int .i64 (0)] := by kernel_rfl
theorem Z33 : zeroT Try.prog 33 = some [.int .i64 (0), .int .i64 (0), .int .i64 (0), .snil] := by kernel_rfl
theorem Z35 : zeroT Try.prog 35 = some [.snil] := by kernel_rfl
theorem Z37 : zeroT Try.prog 37 = some [.snil, .snil, .int .u8 (0), .int .i64 (0), .int .i64 (0), .int .i64 (0)] := by kernel_rfl
theorem Z38 : zeroT Try.prog 38 = some [.snil] := by kernel_rfl
theorem Z41 : zeroT Try.prog 41 = some [.int .u8 (0), .int .i64 (0), .snil, .int .i64 (0), .int .i64 (0), .snil] := by kernel_rfl
theorem Z52 : zeroT Try.prog 52 = some [.int .i64 (0), .int .i64 (0)] := by kernel_rfl
theorem Z55 : zeroT Try.prog 55 = some [.int .i64 (0), .int .i64 (0), .int .u8 (0), .int .i64 (0), .int .i64 (0), .int .i64 (0)] := by kernel_rfl
theorem Z77 : zeroT Try.prog 77 = some [.int .u8 (0), .int .i64 (0), .snil, .int .i64 (0), .int .i64 (0), .int .i64 (0), .int .i64 (0)] := by kernel_rfl
theorem Z89 : zeroT Try.prog 89 = some [.snil] := by kernel_rfl
theorem Z95 : zeroT Try.prog 95 = some [.int .i64 (0), .int .i64 (0)] := by kernel_rfl
theorem Z105 : zeroT Try.prog 105 = some [.int .i64 (0), .int .i64 (0)] := by kernel_rfl
theorem Z110 : zeroT Try.prog 110 = some [.fnil] := by kernel_rfl
theorem Z116 : zeroT Try.prog 116 = some [.int .i64 (0), .int .i64 (0), .int .i64 (0), .snil, .snil, .snil] := by kernel_rfl
theorem Z119 : zeroT Try.prog 119 = some [.int .i64 (0), .int .i64 (0), .snil] := by kernel_rfl
theorem Z121 : zeroT Try.prog 121 = some [.int .i64 (0), .bool false, .int .i64 (0), .snil] := by kernel_rfl
theorem Z133 : zeroT Try.prog 133 = some [.int .i64 (0), .int .i64 (0), .int .i64 (0)] := by kernel_rfl
theorem Al25 {σ : H} {n : Nat} (hn : σ.length = n) {rows : List (Option Ent)} {k : Nat} (hk : rows.length = k) : aAlloc Try.prog 25 (Stk σ rows) (n + k) = some (.ptr (n + k) 0, Stk σ (rows ++ [some (.row [.snil, .snil, .int .i64 (0)])])) := Alloc_at hn Z25 hk
theorem Am25 {σ : H} {n : Nat} (hn : σ.length = n) : aAlloc Try.prog 25 (Stk σ []) n = some (.ptr n 0, Stk σ [some (.row [.snil, .snil, .int .i64 (0)])]) := Alloc_at0 hn Z25
theorem Al33 {σ : H} {n : Nat} (hn : σ.length = n) {rows : List (Option Ent)} {k : Nat} (hk : rows.length = k) : aAlloc Try.prog 33 (Stk σ rows) (n + k) = some (.ptr (n + k) 0, Stk σ (rows ++ [some (.row [.int .i64 (0), .int .i64 (0), .int .i64 (0), .snil])])) := Alloc_at hn Z33 hk
theorem Am33 {σ : H} {n : Nat} (hn : σ.length = n) : aAlloc Try.prog 33 (Stk σ []) n = some (.ptr n 0, Stk σ [some (.row [.int .i64 (0), .int .i64 (0), .int .i64 (0), .snil])]) := Alloc_at0 hn Z33
theorem Al35 {σ : H} {n : Nat} (hn : σ.length = n) {rows : List (Option Ent)} {k : Nat} (hk : rows.length = k) : aAlloc Try.prog 35 (Stk σ rows) (n + k) = some (.ptr (n + k) 0, Stk σ (rows ++ [some (.row [.snil])])) := Alloc_at hn Z35 hk
theorem Am35 {σ : H} {n : Nat} (hn : σ.length = n) : aAlloc Try.prog 35 (Stk σ []) n = some (.ptr n 0, Stk σ [some (.row [.snil])]) := Alloc_at0 hn Z35
theorem Al37 {σ : H} {n : Nat} (hn : σ.length = n) {rows : List (Option Ent)} {k : Nat} (hk : rows.length = k) : aAlloc Try.prog 37 (Stk σ rows) (n + k) = some (.ptr (n + k) 0, Stk σ (rows ++ [some (.row [.snil, .snil, .int .u8 (0), .int .i64 (0), .int .i64 (0), .int .i64 (0)])])) := Alloc_at hn Z37 hk
theorem Am37 {σ : H} {n : Nat} (hn : σ.length = n) : aAlloc Try.prog 37 (Stk σ []) n = some (.ptr n 0, Stk σ [some (.row [.snil, .snil, .int .u8 (0), .int .i64 (0), .int .i64 (0), .int .i64 (0)])]) := Alloc_at0 hn Z37
theorem Al38 {σ : H} {n : Nat} (hn : σ.length = n) {rows : List (Option Ent)} {k : Nat} (hk : rows.length = k) : aAlloc Try.prog 38 (Stk σ rows) (n + k) = some (.ptr (n + k) 0, Stk σ (rows ++ [some (.row [.snil])])) := Alloc_at hn Z38 hk
theorem Am38 {σ : H} {n : Nat} (hn : σ.length = n) : aAlloc Try.prog 38 (Stk σ []) n = some (.ptr n 0, Stk σ [some (.row [.snil])]) := Alloc_at0 hn Z38
theorem Al41 {σ : H} {n : Nat} (hn : σ.length = n) {rows : List (Option Ent)} {k : Nat} (hk : rows.length = k) : aAlloc Try.prog 41 (Stk σ rows) (n + k) = some (.ptr (n + k) 0, Stk σ (rows ++ [some (.row [.int .u8 (0), .int .i64 (0), .snil, .int .i64 (0), .int .i64 (0), .snil])])) := Alloc_at hn Z41 hk
theorem Am41 {σ : H} {n : Nat} (hn : σ.length = n) : aAlloc Try.prog 41 (Stk σ []) n = some (.ptr n 0, Stk σ [some (.row [.int .u8 (0), .int .i64 (0), .snil, .int .i64 (0), .int .i64 (0), .snil])]) := Alloc_at0 hn Z41
theorem Al52 {σ : H} {n : Nat} (hn : σ.length = n) {rows : List (Option Ent)} {k : Nat} (hk : rows.length = k) : aAlloc Try.prog 52 (Stk σ rows) (n + k) = some (.ptr (n + k) 0, Stk σ (rows ++ [some (.row [.int .i64 (0), .int .i64 (0)])])) := Alloc_at hn Z52 hk
theorem Am52 {σ : H} {n : Nat} (hn : σ.length = n) : aAlloc Try.prog 52 (Stk σ []) n = some (.ptr n 0, Stk σ [some (.row [.int .i64 (0), .int .i64 (0)])]) := Alloc_at0 hn Z52
theorem Al55 {σ : H} {n : Nat} (hn : σ.length = n) {rows : List (Option Ent)} {k : Nat} (hk : rows.length = k) : aAlloc Try.prog 55 (Stk σ rows) (n + k) = some (.ptr (n + k) 0, Stk σ (rows ++ [some (.row [.int .i64 (0), .int .i64 (0), .int .u8 (0), .int .i64 (0), .int .i64 (0), .int .i64 (0)])])) := Alloc_at hn Z55 hk
theorem Am55 {σ : H} {n : Nat} (hn : σ.length = n) : aAlloc Try.prog 55 (Stk σ []) n = some (.ptr n 0, Stk σ [some (.row [.int .i64 (0), .int .i64 (0), .int .u8 (0), .int .i64 (0), .int .i64 (0), .int .i64 (0)])]) := Alloc_at0 hn Z55
theorem Al77 {σ : H} {n : Nat} (hn : σ.length = n) {rows : List (Option Ent)} {k : Nat} (hk : rows.length = k) : aAlloc Try.prog 77 (Stk σ rows) (n + k) = some (.ptr (n + k) 0, Stk σ (rows ++ [some (.row [.int .u8 (0), .int .i64 (0), .snil, .int .i64 (0), .int .i64 (0), .int .i64 (0), .int .i64 (0)])])) := Alloc_at hn Z77 hk
theorem Am77 {σ : H} {n : Nat} (hn : σ.length = n) : aAlloc Try.prog 77 (Stk σ []) n = some (.ptr n 0, Stk σ [some (.row [.int .u8 (0), .int .i64 (0), .snil, .int .i64 (0), .int .i64 (0), .int .i64 (0), .int .i64 (0)])]) := Alloc_at0 hn Z77
theorem Al89 {σ : H} {n : Nat} (hn : σ.length = n) {rows : List (Option Ent)} {k : Nat} (hk : rows.length = k) : aAlloc Try.prog 89 (Stk σ rows) (n + k) = some (.ptr (n + k) 0, Stk σ (rows ++ [some (.row [.snil])])) := Alloc_at hn Z89 hk
theorem Am89 {σ : H} {n : Nat} (hn : σ.length = n) : aAlloc Try.prog 89 (Stk σ []) n = some (.ptr n 0, Stk σ [some (.row [.snil])]) := Alloc_at0 hn Z89
theorem Al95 {σ : H} {n : Nat} (hn : σ.length = n) {rows : List (Option Ent)} {k : Nat} (hk : rows.length = k) : aAlloc Try.prog 95 (Stk σ rows) (n + k) = some (.ptr (n + k) 0, Stk σ (rows ++ [some (.row [.int .i64 (0), .int .i64 (0)])])) := Alloc_at hn Z95 hk
theorem Am95 {σ : H} {n : Nat} (hn : σ.length = n) : aAlloc Try.prog 95 (Stk σ []) n = some (.ptr n 0, Stk σ [some (.row [.int .i64 (0), .int .i64 (0)])]) := Alloc_at0 hn Z95
theorem Al105 {σ : H} {n : Nat} (hn : σ.length = n) {rows : List (Option Ent)} {k : Nat} (hk : rows.length = k) : aAlloc Try.prog 105 (Stk σ rows) (n + k) = some (.ptr (n + k) 0, Stk σ (rows ++ [some (.row [.int .i64 (0), .int .i64 (0)])])) := Alloc_at hn Z105 hk
theorem Am105 {σ : H} {n : Nat} (hn : σ.length = n) : aAlloc Try.prog 105 (Stk σ []) n = some (.ptr n 0, Stk σ [some (.row [.int .i64 (0), .int .i64 (0)])]) := Alloc_at0 hn Z105
theorem Al110 {σ : H} {n : Nat} (hn : σ.length = n) {rows : List (Option Ent)} {k : Nat} (hk : rows.length = k) : aAlloc Try.prog 110 (Stk σ rows) (n + k) = some (.ptr (n + k) 0, Stk σ (rows ++ [some (.row [.fnil])])) := Alloc_at hn Z110 hk
theorem Am110 {σ : H} {n : Nat} (hn : σ.length = n) : aAlloc Try.prog 110 (Stk σ []) n = some (.ptr n 0, Stk σ [some (.row [.fnil])]) := Alloc_at0 hn Z110
theorem Al116 {σ : H} {n : Nat} (hn : σ.length = n) {rows : List (Option Ent)} {k : Nat} (hk : rows.length = k) : aAlloc Try.prog 116 (Stk σ rows) (n + k) = some (.ptr (n + k) 0, Stk σ (rows ++ [some (.row [.int .i64 (0), .int .i64 (0), .int .i64 (0), .snil, .snil, .snil])])) := Alloc_at hn Z116 hk
theorem Am116 {σ : H} {n : Nat} (hn : σ.length = n) : aAlloc Try.prog 116 (Stk σ []) n = some (.ptr n 0, Stk σ [some (.row [.int .i64 (0), .int .i64 (0), .int .i64 (0), .snil, .snil, .snil])]) := Alloc_at0 hn Z116
theorem Al119 {σ : H} {n : Nat} (hn : σ.length = n) {rows : List (Option Ent)} {k : Nat} (hk : rows.length = k) : aAlloc Try.prog 119 (Stk σ rows) (n + k) = some (.ptr (n + k) 0, Stk σ (rows ++ [some (.row [.int .i64 (0), .int .i64 (0), .snil])])) := Alloc_at hn Z119 hk
theorem Am119 {σ : H} {n : Nat} (hn : σ.length = n) : aAlloc Try.prog 119 (Stk σ []) n = some (.ptr n 0, Stk σ [some (.row [.int .i64 (0), .int .i64 (0), .snil])]) := Alloc_at0 hn Z119
theorem Al121 {σ : H} {n : Nat} (hn : σ.length = n) {rows : List (Option Ent)} {k : Nat} (hk : rows.length = k) : aAlloc Try.prog 121 (Stk σ rows) (n + k) = some (.ptr (n + k) 0, Stk σ (rows ++ [some (.row [.int .i64 (0), .bool false, .int .i64 (0), .snil])])) := Alloc_at hn Z121 hk
theorem Am121 {σ : H} {n : Nat} (hn : σ.length = n) : aAlloc Try.prog 121 (Stk σ []) n = some (.ptr n 0, Stk σ [some (.row [.int .i64 (0), .bool false, .int .i64 (0), .snil])]) := Alloc_at0 hn Z121
theorem Al133 {σ : H} {n : Nat} (hn : σ.length = n) {rows : List (Option Ent)} {k : Nat} (hk : rows.length = k) : aAlloc Try.prog 133 (Stk σ rows) (n + k) = some (.ptr (n + k) 0, Stk σ (rows ++ [some (.row [.int .i64 (0), .int .i64 (0), .int .i64 (0)])])) := Alloc_at hn Z133 hk
theorem Am133 {σ : H} {n : Nat} (hn : σ.length = n) : aAlloc Try.prog 133 (Stk σ []) n = some (.ptr n 0, Stk σ [some (.row [.int .i64 (0), .int .i64 (0), .int .i64 (0)])]) := Alloc_at0 hn Z133
theorem St2 {s : H} {b o : Nat} {v : V} {K : H → Prop} (h1 : v.cells = some [v]) : GetH (aStore Try.prog 2 s (.ptr b o) v) K ↔ GetL (Am.rowAt s b) fun cells => o < cells.length ∧ v.one = true ∧ K (upd s b (cells.set o v)) := Store_one S2 h1
theorem St3 {s : H} {b o : Nat} {v : V} {K : H → Prop} (h1 : v.cells = some [v]) : GetH (aStore Try.prog 3 s (.ptr b o) v) K ↔ GetL (Am.rowAt s b) fun cells => o < cells.length ∧ v.one = true ∧ K (upd s b (cells.set o v)) := Store_one S3 h1
theorem St4 {s : H} {b o : Nat} {v : V} {K : H → Prop} (h1 : v.cells = some [v]) : GetH (aStore Try.prog 4 s (.ptr b o) v) K ↔ GetL (Am.rowAt s b) fun cells => o < cells.length ∧ v.one = true ∧ K (upd s b (cells.set o v)) := Store_one S4 h1
theorem St5 {s : H} {b o : Nat} {v : V} {K : H → Prop} (h1 : v.cells = some [v]) : GetH (aStore Try.prog 5 s (.ptr b o) v) K ↔ GetL (Am.rowAt s b) fun cells => o < cells.length ∧ v.one = true ∧ K (upd s b (cells.set o v)) := Store_one S5 h1
theorem St22 {s : H} {b o : Nat} {v : V} {K : H → Prop} (h1 : v.cells = some [v]) : GetH (aStore Try.prog 22 s (.ptr b o) v) K ↔ GetL (Am.rowAt s b) fun cells => o < cells.length ∧ v.one = true ∧ K (upd s b (cells.set o v)) := Store_one S22 h1
theorem St23 {s : H} {b o : Nat} {v : V} {K : H → Prop} (h1 : v.cells = some [v]) : GetH (aStore Try.prog 23 s (.ptr b o) v) K ↔ GetL (Am.rowAt s b) fun cells => o < cells.length ∧ v.one = true ∧ K (upd s b (cells.set o v)) := Store_one S23 h1
theorem St25 {s : H} {b o : Nat} {cs : List V} {K : H → Prop} : GetH (aStore Try.prog 25 s (.ptr b o) (.agg cs)) K ↔ GetL (Am.rowAt s b) fun cells => 3 = cs.length ∧ o + cs.length ≤ cells.length ∧ cs.all V.one = true ∧ K (upd s b (splice cells o cs)) := Store_more S25
theorem St31 {s : H} {b o : Nat} {v : V} {K : H → Prop} (h1 : v.cells = some [v]) : GetH (aStore Try.prog 31 s (.ptr b o) v) K ↔ GetL (Am.rowAt s b) fun cells => o < cells.length ∧ v.one = true ∧ K (upd s b (cells.set o v)) := Store_one S31 h1
theorem St33 {s : H} {b o : Nat} {cs : List V} {K : H → Prop} : GetH (aStore Try.prog 33 s (.ptr b o) (.agg cs)) K ↔ GetL (Am.rowAt s b) fun cells => 4 = cs.length ∧ o + cs.length ≤ cells.length ∧ cs.all V.one = true ∧ K (upd s b (splice cells o cs)) := Store_more S33
theorem St35 {s : H} {b o : Nat} {v : V} {K : H → Prop} (h1 : v.cells = some [v]) : GetH (aStore Try.prog 35 s (.ptr b o) v) K ↔ GetL (Am.rowAt s b) fun cells => o < cells.length ∧ v.one = true ∧ K (upd s b (cells.set o v)) := Store_one S35 h1
theorem St37 {s : H} {b o : Nat} {cs : List V} {K : H → Prop} : GetH (aStore Try.prog 37 s (.ptr b o) (.agg cs)) K ↔ GetL (Am.rowAt s b) fun cells => 6 = cs.length ∧ o + cs.length ≤ cells.length ∧ cs.all V.one = true ∧ K (upd s b (splice cells o cs)) := Store_more S37
theorem St38 {s : H} {b o : Nat} {v : V} {K : H → Prop} (h1 : v.cells = some [v]) : GetH (aStore Try.prog 38 s (.ptr b o) v) K ↔ GetL (Am.rowAt s b) fun cells => o < cells.length ∧ v.one = true ∧ K (upd s b (cells.set o v)) := Store_one S38 h1
theorem St39 {s : H} {b o : Nat} {v : V} {K : H → Prop} (h1 : v.cells = some [v]) : GetH (aStore Try.prog 39 s (.ptr b o) v) K ↔ GetL (Am.rowAt s b) fun cells => o < cells.length ∧ v.one = true ∧ K (upd s b (cells.set o v)) := Store_one S39 h1
theorem St41 {s : H} {b o : Nat} {cs : List V} {K : H → Prop} : GetH (aStore Try.prog 41 s (.ptr b o) (.agg cs)) K ↔ GetL (Am.rowAt s b) fun cells => 6 = cs.length ∧ o + cs.length ≤ cells.length ∧ cs.all V.one = true ∧ K (upd s b (splice cells o cs)) := Store_more S41
theorem St47 {s : H} {b o : Nat} {v : V} {K : H → Prop} (h1 : v.cells = some [v]) : GetH (aStore Try.prog 47 s (.ptr b o) v) K ↔ GetL (Am.rowAt s b) fun cells => o < cells.length ∧ v.one = true ∧ K (upd s b (cells.set o v)) := Store_one S47 h1
theorem St50 {s : H} {b o : Nat} {v : V} {K : H → Prop} (h1 : v.cells = some [v]) : GetH (aStore Try.prog 50 s (.ptr b o) v) K ↔ GetL (Am.rowAt s b) fun cells => o < cells.length ∧ v.one = true ∧ K (upd s b (cells.set o v)) := Store_one S50 h1
theorem St52 {s : H} {b o : Nat} {cs : List V} {K : H → Prop} : GetH (aStore Try.prog 52 s (.ptr b o) (.agg cs)) K ↔ GetL (Am.rowAt s b) fun cells => 2 = cs.length ∧ o + cs.length ≤ cells.length ∧ cs.all V.one = true ∧ K (upd s b (splice cells o cs)) := Store_more S52
theorem St55 {s : H} {b o : Nat} {cs : List V} {K : H → Prop} : GetH (aStore Try.prog 55 s (.ptr b o) (.agg cs)) K ↔ GetL (Am.rowAt s b) fun cells => 6 = cs.length ∧ o + cs.length ≤ cells.length ∧ cs.all V.one = true ∧ K (upd s b (splice cells o cs)) := Store_more S55
theorem St56 {s : H} {b o : Nat} {v : V} {K : H → Prop} (h1 : v.cells = some [v]) : GetH (aStore Try.prog 56 s (.ptr b o) v) K ↔ GetL (Am.rowAt s b) fun cells => o < cells.length ∧ v.one = true ∧ K (upd s b (cells.set o v)) := Store_one S56 h1
theorem St75 {s : H} {b o : Nat} {v : V} {K : H → Prop} (h1 : v.cells = some [v]) : GetH (aStore Try.prog 75 s (.ptr b o) v) K ↔ GetL (Am.rowAt s b) fun cells => o < cells.length ∧ v.one = true ∧ K (upd s b (cells.set o v)) := Store_one S75 h1
theorem St77 {s : H} {b o : Nat} {cs : List V} {K : H → Prop} : GetH (aStore Try.prog 77 s (.ptr b o) (.agg cs)) K ↔ GetL (Am.rowAt s b) fun cells => 7 = cs.length ∧ o + cs.length ≤ cells.length ∧ cs.all V.one = true ∧ K (upd s b (splice cells o cs)) := Store_more S77
theorem St89 {s : H} {b o : Nat} {v : V} {K : H → Prop} (h1 : v.cells = some [v]) : GetH (aStore Try.prog 89 s (.ptr b o) v) K ↔ GetL (Am.rowAt s b) fun cells => o < cells.length ∧ v.one = true ∧ K (upd s b (cells.set o v)) := Store_one S89 h1
theorem St95 {s : H} {b o : Nat} {cs : List V} {K : H → Prop} : GetH (aStore Try.prog 95 s (.ptr b o) (.agg cs)) K ↔ GetL (Am.rowAt s b) fun cells => 2 = cs.length ∧ o + cs.length ≤ cells.length ∧ cs.all V.one = true ∧ K (upd s b (splice cells o cs)) := Store_more S95
theorem St101 {s : H} {b o : Nat} {v : V} {K : H → Prop} (h1 : v.cells = some [v]) : GetH (aStore Try.prog 101 s (.ptr b o) v) K ↔ GetL (Am.rowAt s b) fun cells => o < cells.length ∧ v.one = true ∧ K (upd s b (cells.set o v)) := Store_one S101 h1
theorem St105 {s : H} {b o : Nat} {cs : List V} {K : H → Prop} : GetH (aStore Try.prog 105 s (.ptr b o) (.agg cs)) K ↔ GetL (Am.rowAt s b) fun cells => 2 = cs.length ∧ o + cs.length ≤ cells.length ∧ cs.all V.one = true ∧ K (upd s b (splice cells o cs)) := Store_more S105
theorem St110 {s : H} {b o : Nat} {v : V} {K : H → Prop} (h1 : v.cells = some [v]) : GetH (aStore Try.prog 110 s (.ptr b o) v) K ↔ GetL (Am.rowAt s b) fun cells => o < cells.length ∧ v.one = true ∧ K (upd s b (cells.set o v)) := Store_one S110 h1
theorem St116 {s : H} {b o : Nat} {cs : List V} {K : H → Prop} : GetH (aStore Try.prog 116 s (.ptr b o) (.agg cs)) K ↔ GetL (Am.rowAt s b) fun cells => 6 = cs.length ∧ o + cs.length ≤ cells.length ∧ cs.all V.one = true ∧ K (upd s b (splice cells o cs)) := Store_more S116
theorem St117 {s : H} {b o : Nat} {v : V} {K : H → Prop} (h1 : v.cells = some [v]) : GetH (aStore Try.prog 117 s (.ptr b o) v) K ↔ GetL (Am.rowAt s b) fun cells => o < cells.length ∧ v.one = true ∧ K (upd s b (cells.set o v)) := Store_one S117 h1
theorem St119 {s : H} {b o : Nat} {cs : List V} {K : H → Prop} : GetH (aStore Try.prog 119 s (.ptr b o) (.agg cs)) K ↔ GetL (Am.rowAt s b) fun cells => 3 = cs.length ∧ o + cs.length ≤ cells.length ∧ cs.all V.one = true ∧ K (upd s b (splice cells o cs)) := Store_more S119
theorem St121 {s : H} {b o : Nat} {cs : List V} {K : H → Prop} : GetH (aStore Try.prog 121 s (.ptr b o) (.agg cs)) K ↔ GetL (Am.rowAt s b) fun cells => 4 = cs.length ∧ o + cs.length ≤ cells.length ∧ cs.all V.one = true ∧ K (upd s b (splice cells o cs)) := Store_more S121
theorem St133 {s : H} {b o : Nat} {cs : List V} {K : H → Prop} : GetH (aStore Try.prog 133 s (.ptr b o) (.agg cs)) K ↔ GetL (Am.rowAt s b) fun cells => 3 = cs.length ∧ o + cs.length ≤ cells.length ∧ cs.all V.one = true ∧ K (upd s b (splice cells o cs)) := Store_more S133
theorem E22 : ElemOk Try.prog 22 33 4 48 := .of (by kernel_rfl)
theorem E23 : ElemOk Try.prog 23 50 1 24 := .of (by kernel_rfl)
theorem E31 : ElemOk Try.prog 31 37 6 80 := .of (by kernel_rfl)
theorem E35 : ElemOk Try.prog 35 41 6 80 := .of (by kernel_rfl)
theorem E38 : ElemOk Try.prog 38 3 1 8 := .of (by kernel_rfl)
theorem E39 : ElemOk Try.prog 39 55 6 48 := .of (by kernel_rfl)
theorem E47 : ElemOk Try.prog 47 38 1 24 := .of (by kernel_rfl)
theorem E50 : ElemOk Try.prog 50 52 2 16 := .of (by kernel_rfl)
theorem E53 : ElemOk Try.prog 53 35 1 24 := .of (by kernel_rfl)
theorem E56 : ElemOk Try.prog 56 2 1 8 := .of (by kernel_rfl)
theorem E75 : ElemOk Try.prog 75 116 6 96 := .of (by kernel_rfl)
theorem E83 : ElemOk Try.prog 83 119 3 40 := .of (by kernel_rfl)
theorem E89 : ElemOk Try.prog 89 4 1 1 := .of (by kernel_rfl)
theorem E92 : ElemOk Try.prog 92 89 1 24 := .of (by kernel_rfl)
theorem E101 : ElemOk Try.prog 101 105 2 16 := .of (by kernel_rfl)
theorem E117 : ElemOk Try.prog 117 121 4 48 := .of (by kernel_rfl)
theorem E160 : ElemOk Try.prog 160 159 2 16 := .of (by kernel_rfl)
theorem Ap22_22 {σ : H} {nm : Nat} {K : V → H → Prop} {s x : V} : Get2 (aAppend Try.prog #[22, 22] s x σ nm) K ↔ ApK 48 4 s (srcCells σ 4 x) σ nm K := Ap_iff E22 (by kernel_rfl)
theorem Ap23_23 {σ : H} {nm : Nat} {K : V → H → Prop} {s x : V} : Get2 (aAppend Try.prog #[23, 23] s x σ nm) K ↔ ApK 24 1 s (srcCells σ 1 x) σ nm K := Ap_iff E23 (by kernel_rfl)
theorem Ap31_31 {σ : H} {nm : Nat} {K : V → H → Prop} {s x : V} : Get2 (aAppend Try.prog #[31, 31] s x σ nm) K ↔ ApK 80 6 s (srcCells σ 6 x) σ nm K := Ap_iff E31 (by kernel_rfl)
theorem Ap35_35 {σ : H} {nm : Nat} {K : V → H → Prop} {s x : V} : Get2 (aAppend Try.prog #[35, 35] s x σ nm) K ↔ ApK 80 6 s (srcCells σ 6 x) σ nm K := Ap_iff E35 (by kernel_rfl)
theorem Ap38_38 {σ : H} {nm : Nat} {K : V → H → Prop} {s x : V} : Get2 (aAppend Try.prog #[38, 38] s x σ nm) K ↔ ApK 8 1 s (srcCells σ 1 x) σ nm K := Ap_iff E38 (by kernel_rfl)
theorem Ap39_39 {σ : H} {nm : Nat} {K : V → H → Prop} {s x : V} : Get2 (aAppend Try.prog #[39, 39] s x σ nm) K ↔ ApK 48 6 s (srcCells σ 6 x) σ nm K := Ap_iff E39 (by kernel_rfl)
theorem Ap47_47 {σ : H} {nm : Nat} {K : V → H → Prop} {s x : V} : Get2 (aAppend Try.prog #[47, 47] s x σ nm) K ↔ ApK 24 1 s (srcCells σ 1 x) σ nm K := Ap_iff E47 (by kernel_rfl)
theorem Ap50_50 {σ : H} {nm : Nat} {K : V → H → Prop} {s x : V} : Get2 (aAppend Try.prog #[50, 50] s x σ nm) K ↔ ApK 16 2 s (srcCells σ 2 x) σ nm K := Ap_iff E50 (by kernel_rfl)
theorem Ap56_56 {σ : H} {nm : Nat} {K : V → H → Prop} {s x : V} : Get2 (aAppend Try.prog #[56, 56] s x σ nm) K ↔ ApK 8 1 s (srcCells σ 1 x) σ nm K := Ap_iff E56 (by kernel_rfl)
theorem Ap75_75 {σ : H} {nm : Nat} {K : V → H → Prop} {s x : V} : Get2 (aAppend Try.prog #[75, 75] s x σ nm) K ↔ ApK 96 6 s (srcCells σ 6 x) σ nm K := Ap_iff E75 (by kernel_rfl)
theorem Ap83_83 {σ : H} {nm : Nat} {K : V → H → Prop} {s x : V} : Get2 (aAppend Try.prog #[83, 83] s x σ nm) K ↔ ApK 40 3 s (srcCells σ 3 x) σ nm K := Ap_iff E83 (by kernel_rfl)
theorem Ap117_117 {σ : H} {nm : Nat} {K : V → H → Prop} {s x : V} : Get2 (aAppend Try.prog #[117, 117] s x σ nm) K ↔ ApK 48 4 s (srcCells σ 4 x) σ nm K := Ap_iff E117 (by kernel_rfl)
theorem Ap160_160 {σ : H} {nm : Nat} {K : V → H → Prop} {s x : V} : Get2 (aAppend Try.prog #[160, 160] s x σ nm) K ↔ ApK 16 2 s (srcCells σ 2 x) σ nm K := Ap_iff E160 (by kernel_rfl)
theorem Mk35 {σ : H} {nm : Nat} {K : V → H → Prop} {k k2 : IntKind} {l c : Int} : Get2 (aMake Try.prog 35 (.int k l) (.int k2 c) σ nm) K ↔ 0 ≤ l ∧ l ≤ c ∧ ((80 : Nat) : Int) * c ≤ 281474976710656 ∧ c ≤ 281474976710656 ∧ K (.sl nm 0 l.toNat 6) (H.place σ nm (.row (zeros [.int .u8 (0), .int .i64 (0), .snil, .int .i64 (0), .int .i64 (0), .snil] c.toNat))) := Mk_iff E35 Z41
theorem Mk38 {σ : H} {nm : Nat} {K : V → H → Prop} {k k2 : IntKind} {l c : Int} : Get2 (aMake Try.prog 38 (.int k l) (.int k2 c) σ nm) K ↔ 0 ≤ l ∧ l ≤ c ∧ ((8 : Nat) : Int) * c ≤ 281474976710656 ∧ c ≤ 281474976710656 ∧ K (.sl nm 0 l.toNat 1) (H.place σ nm (.row (zeros [.int .i64 (0)] c.toNat))) := Mk_iff E38 Z3
theorem Mk47 {σ : H} {nm : Nat} {K : V → H → Prop} {k k2 : IntKind} {l c : Int} : Get2 (aMake Try.prog 47 (.int k l) (.int k2 c) σ nm) K ↔ 0 ≤ l ∧ l ≤ c ∧ ((24 : Nat) : Int) * c ≤ 281474976710656 ∧ c ≤ 281474976710656 ∧ K (.sl nm 0 l.toNat 1) (H.place σ nm (.row (zeros [.snil] c.toNat))) := Mk_iff E47 Z38
theorem Mk56 {σ : H} {nm : Nat} {K : V → H → Prop} {k k2 : IntKind} {l c : Int} : Get2 (aMake Try.prog 56 (.int k l) (.int k2 c) σ nm) K ↔ 0 ≤ l ∧ l ≤ c ∧ ((8 : Nat) : Int) * c ≤ 281474976710656 ∧ c ≤ 281474976710656 ∧ K (.sl nm 0 l.toNat 1) (H.place σ nm (.row (zeros [.int .i64 (0)] c.toNat))) := Mk_iff E56 Z2
theorem Mk89 {σ : H} {nm : Nat} {K : V → H → Prop} {k k2 : IntKind} {l c : Int} : Get2 (aMake Try.prog 89 (.int k l) (.int k2 c) σ nm) K ↔ 0 ≤ l ∧ l ≤ c ∧ ((1 : Nat) : Int) * c ≤ 281474976710656 ∧ c ≤ 281474976710656 ∧ K (.sl nm 0 l.toNat 1) (H.place σ nm (.row (zeros [.bool false] c.toNat))) := Mk_iff E89 Z4
theorem Mk92 {σ : H} {nm : Nat} {K : V → H → Prop} {k k2 : IntKind} {l c : Int} : Get2 (aMake Try.prog 92 (.int k l) (.int k2 c) σ nm) K ↔ 0 ≤ l ∧ l ≤ c ∧ ((24 : Nat) : Int) * c ≤ 281474976710656 ∧ c ≤ 281474976710656 ∧ K (.sl nm 0 l.toNat 1) (H.place σ nm (.row (zeros [.snil] c.toNat))) := Mk_iff E92 Z89
theorem Mk101 {σ : H} {nm : Nat} {K : V → H → Prop} {k k2 : IntKind} {l c : Int} : Get2 (aMake Try.prog 101 (.int k l) (.int k2 c) σ nm) K ↔ 0 ≤ l ∧ l ≤ c ∧ ((16 : Nat) : Int) * c ≤ 281474976710656 ∧ c ≤ 281474976710656 ∧ K (.sl nm 0 l.toNat 2) (H.place σ nm (.row (zeros [.int .i64 (0), .int .i64 (0)] c.toNat))) := Mk_iff E101 Z105
theorem Bs22 {σ : H} {nm : Nat} {K : V → H → Prop} {n : Nat} {ps : List (Nat × V)} (hi : inRow 0 ps = true) (hl : ps.length = n) (hb : n * 4 ≤ 16777216) : Get2 (aBuildSlice Try.prog 22 n ps σ nm) K ↔ CellsAll 4 (ps.map (·.2)) fun cells => K (.sl nm 0 n 4) (H.place σ nm (.row cells)) := Bs_iff E22 (by decide) hi hl hb
theorem Bs23 {σ : H} {nm : Nat} {K : V → H → Prop} {n : Nat} {ps : List (Nat × V)} (hi : inRow 0 ps = true) (hl : ps.length = n) (hb : n * 1 ≤ 16777216) : Get2 (aBuildSlice Try.prog 23 n ps σ nm) K ↔ CellsAll 1 (ps.map (·.2)) fun cells => K (.sl nm 0 n 1) (H.place σ nm (.row cells)) := Bs_iff E23 (by decide) hi hl hb
theorem Bs31 {σ : H} {nm : Nat} {K : V → H → Prop} {n : Nat} {ps : List (Nat × V)} (hi : inRow 0 ps = true) (hl : ps.length = n) (hb : n * 6 ≤ 16777216) : Get2 (aBuildSlice Try.prog 31 n ps σ nm) K ↔ CellsAll 6 (ps.map (·.2)) fun cells => K (.sl nm 0 n 6) (H.place σ nm (.row cells)) := Bs_iff E31 (by decide) hi hl hb
theorem Bs35 {σ : H} {nm : Nat} {K : V → H → Prop} {n : Nat} {ps : List (Nat × V)} (hi : inRow 0 ps = true) (hl : ps.length = n) (hb : n * 6 ≤ 16777216) : Get2 (aBuildSlice Try.prog 35 n ps σ nm) K ↔ CellsAll 6 (ps.map (·.2)) fun cells => K (.sl nm 0 n 6) (H.place σ nm (.row cells)) := Bs_iff E35 (by decide) hi hl hb
theorem Bs38 {σ : H} {nm : Nat} {K : V → H → Prop} {n : Nat} {ps : List (Nat × V)} (hi : inRow 0 ps = true) (hl : ps.length = n) (hb : n * 1 ≤ 16777216) : Get2 (aBuildSlice Try.prog 38 n ps σ nm) K ↔ CellsAll 1 (ps.map (·.2)) fun cells => K (.sl nm 0 n 1) (H.place σ nm (.row cells)) := Bs_iff E38 (by decide) hi hl hb
theorem Bs39 {σ : H} {nm : Nat} {K : V → H → Prop} {n : Nat} {ps : List (Nat × V)} (hi : inRow 0 ps = true) (hl : ps.length = n) (hb : n * 6 ≤ 16777216) : Get2 (aBuildSlice Try.prog 39 n ps σ nm) K ↔ CellsAll 6 (ps.map (·.2)) fun cells => K (.sl nm 0 n 6) (H.place σ nm (.row cells)) := Bs_iff E39 (by decide) hi hl hb
theorem Bs47 {σ : H} {nm : Nat} {K : V → H → Prop} {n : Nat} {ps : List (Nat × V)} (hi : inRow 0 ps = true) (hl : ps.length = n) (hb : n * 1 ≤ 16777216) : Get2 (aBuildSlice Try.prog 47 n ps σ nm) K ↔ CellsAll 1 (ps.map (·.2)) fun cells => K (.sl nm 0 n 1) (H.place σ nm (.row cells)) := Bs_iff E47 (by decide) hi hl hb
theorem Bs50 {σ : H} {nm : Nat} {K : V → H → Prop} {n : Nat} {ps : List (Nat × V)} (hi : inRow 0 ps = true) (hl : ps.length = n) (hb : n * 2 ≤ 16777216) : Get2 (aBuildSlice Try.prog 50 n ps σ nm) K ↔ CellsAll 2 (ps.map (·.2)) fun cells => K (.sl nm 0 n 2) (H.place σ nm (.row cells)) := Bs_iff E50 (by decide) hi hl hb
theorem Bs53 {σ : H} {nm : Nat} {K : V → H → Prop} {n : Nat} {ps : List (Nat × V)} (hi : inRow 0 ps = true) (hl : ps.length = n) (hb : n * 1 ≤ 16777216) : Get2 (aBuildSlice Try.prog 53 n ps σ nm) K ↔ CellsAll 1 (ps.map (·.2)) fun cells => K (.sl nm 0 n 1) (H.place σ nm (.row cells)) := Bs_iff E53 (by decide) hi hl hb
theorem Bs56 {σ : H} {nm : Nat} {K : V → H → Prop} {n : Nat} {ps : List (Nat × V)} (hi : inRow 0 ps = true) (hl : ps.length = n) (hb : n * 1 ≤ 16777216) : Get2 (aBuildSlice Try.prog 56 n ps σ nm) K ↔ CellsAll 1 (ps.map (·.2)) fun cells => K (.sl nm 0 n 1) (H.place σ nm (.row cells)) := Bs_iff E56 (by decide) hi hl hb
theorem Bs75 {σ : H} {nm : Nat} {K : V → H → Prop} {n : Nat} {ps : List (Nat × V)} (hi : inRow 0 ps = true) (hl : ps.length = n) (hb : n * 6 ≤ 16777216) : Get2 (aBuildSlice Try.prog 75 n ps σ nm) K ↔ CellsAll 6 (ps.map (·.2)) fun cells => K (.sl nm 0 n 6) (H.place σ nm (.row cells)) := Bs_iff E75 (by decide) hi hl hb
theorem Bs83 {σ : H} {nm : Nat} {K : V → H → Prop} {n : Nat} {ps : List (Nat × V)} (hi : inRow 0 ps = true) (hl : ps.length = n) (hb : n * 3 ≤ 16777216) : Get2 (aBuildSlice Try.prog 83 n ps σ nm) K ↔ CellsAll 3 (ps.map (·.2)) fun cells => K (.sl nm 0 n 3) (H.place σ nm (.row cells)) := Bs_iff E83 (by decide) hi hl hb
theorem Bs89 {σ : H} {nm : Nat} {K : V → H → Prop} {n : Nat} {ps : List (Nat × V)} (hi : inRow 0 ps = true) (hl : ps.length = n) (hb : n * 1 ≤ 16777216) : Get2 (aBuildSlice Try.prog 89 n ps σ nm) K ↔ CellsAll 1 (ps.map (·.2)) fun cells => K (.sl nm 0 n 1) (H.place σ nm (.row cells)) := Bs_iff E89 (by decide) hi hl hb
theorem Bs117 {σ : H} {nm : Nat} {K : V → H → Prop} {n : Nat} {ps : List (Nat × V)} (hi : inRow 0 ps = true) (hl : ps.length = n) (hb : n * 4 ≤ 16777216) : Get2 (aBuildSlice Try.prog 117 n ps σ nm) K ↔ CellsAll 4 (ps.map (·.2)) fun cells => K (.sl nm 0 n 4) (H.place σ nm (.row cells)) := Bs_iff E117 (by decide) hi hl hb
theorem Bs160 {σ : H} {nm : Nat} {K : V → H → Prop} {n : Nat} {ps : List (Nat × V)} (hi : inRow 0 ps = true) (hl : ps.length = n) (hb : n * 2 ≤ 16777216) : Get2 (aBuildSlice Try.prog 160 n ps σ nm) K ↔ CellsAll 2 (ps.map (·.2)) fun cells => K (.sl nm 0 n 2) (H.place σ nm (.row cells)) := Bs_iff E160 (by decide) hi hl hb
theorem Sp35 {xs : List V} {lo hi : Option V} {K : V → Prop} : Get (aSlice Try.prog 35 (.ps 6 xs) lo hi) K ↔ Bd xs.length hi xs.length fun h => Bd h lo 0 fun l => K (.ps 6 ((xs.take h).drop l)) := Sl_ps U35 S41
theorem Sq35 {b off len : Nat} {lo hi : Option V} {K : V → Prop} : Get (aSlice Try.prog 35 (.sl b off len 6) lo hi) K ↔ Bd len hi len fun h => Bd h lo 0 fun l => K (if l = 0 then .sl b off h 6 else if l = h then .ps 6 [] else .sl b (off + l * 6) (h - l) 6) := Sl_sl U35 S41
theorem Sr35 {lo hi : Option V} {K : V → Prop} : Get (aSlice Try.prog 35 .snil lo hi) K ↔ Bd 0 hi 0 fun _ => Bd 0 lo 0 fun _ => K .snil := Sl_snil U35 S41
theorem Sp38 {xs : List V} {lo hi : Option V} {K : V → Prop} : Get (aSlice Try.prog 38 (.ps 1 xs) lo hi) K ↔ Bd xs.length hi xs.length fun h => Bd h lo 0 fun l => K (.ps 1 ((xs.take h).drop l)) := Sl_ps U38 S3
theorem Sq38 {b off len : Nat} {lo hi : Option V} {K : V → Prop} : Get (aSlice Try.prog 38 (.sl b off len 1) lo hi) K ↔ Bd len hi len fun h => Bd h lo 0 fun l => K (if l = 0 then .sl b off h 1 else if l = h then .ps 1 [] else .sl b (off + l * 1) (h - l) 1) := Sl_sl U38 S3
theorem Sr38 {lo hi : Option V} {K : V → Prop} : Get (aSlice Try.prog 38 .snil lo hi) K ↔ Bd 0 hi 0 fun _ => Bd 0 lo 0 fun _ => K .snil := Sl_snil U38 S3
theorem Sp39 {xs : List V} {lo hi : Option V} {K : V → Prop} : Get (aSlice Try.prog 39 (.ps 6 xs) lo hi) K ↔ Bd xs.length hi xs.length fun h => Bd h lo 0 fun l => K (.ps 6 ((xs.take h).drop l)) := Sl_ps U39 S55
theorem Sq39 {b off len : Nat} {lo hi : Option V} {K : V → Prop} : Get (aSlice Try.prog 39 (.sl b off len 6) lo hi) K ↔ Bd len hi len fun h => Bd h lo 0 fun l => K (if l = 0 then .sl b off h 6 else if l = h then .ps 6 [] else .sl b (off + l * 6) (h - l) 6) := Sl_sl U39 S55
theorem Sr39 {lo hi : Option V} {K : V → Prop} : Get (aSlice Try.prog 39 .snil lo hi) K ↔ Bd 0 hi 0 fun _ => Bd 0 lo 0 fun _ => K .snil := Sl_snil U39 S55
theorem Sp56 {xs : List V} {lo hi : Option V} {K : V → Prop} : Get (aSlice Try.prog 56 (.ps 1 xs) lo hi) K ↔ Bd xs.length hi xs.length fun h => Bd h lo 0 fun l => K (.ps 1 ((xs.take h).drop l)) := Sl_ps U56 S2
theorem Sq56 {b off len : Nat} {lo hi : Option V} {K : V → Prop} : Get (aSlice Try.prog 56 (.sl b off len 1) lo hi) K ↔ Bd len hi len fun h => Bd h lo 0 fun l => K (if l = 0 then .sl b off h 1 else if l = h then .ps 1 [] else .sl b (off + l * 1) (h - l) 1) := Sl_sl U56 S2
theorem Sr56 {lo hi : Option V} {K : V → Prop} : Get (aSlice Try.prog 56 .snil lo hi) K ↔ Bd 0 hi 0 fun _ => Bd 0 lo 0 fun _ => K .snil := Sl_snil U56 S2
theorem Sp75 {xs : List V} {lo hi : Option V} {K : V → Prop} : Get (aSlice Try.prog 75 (.ps 6 xs) lo hi) K ↔ Bd xs.length hi xs.length fun h => Bd h lo 0 fun l => K (.ps 6 ((xs.take h).drop l)) := Sl_ps U75 S116
theorem Sq75 {b off len : Nat} {lo hi : Option V} {K : V → Prop} : Get (aSlice Try.prog 75 (.sl b off len 6) lo hi) K ↔ Bd len hi len fun h => Bd h lo 0 fun l => K (if l = 0 then .sl b off h 6 else if l = h then .ps 6 [] else .sl b (off + l * 6) (h - l) 6) := Sl_sl U75 S116
theorem Sr75 {lo hi : Option V} {K : V → Prop} : Get (aSlice Try.prog 75 .snil lo hi) K ↔ Bd 0 hi 0 fun _ => Bd 0 lo 0 fun _ => K .snil := Sl_snil U75 S116
theorem Sp160 {xs : List V} {lo hi : Option V} {K : V → Prop} : Get (aSlice Try.prog 160 (.ps 2 xs) lo hi) K ↔ Bd xs.length hi xs.length fun h => Bd h lo 0 fun l => K (.ps 2 ((xs.take h).drop l)) := Sl_ps U160 S159
theorem Sq160 {b off len : Nat} {lo hi : Option V} {K : V → Prop} : Get (aSlice Try.prog 160 (.sl b off len 2) lo hi) K ↔ Bd len hi len fun h => Bd h lo 0 fun l => K (if l = 0 then .sl b off h 2 else if l = h then .ps 2 [] else .sl b (off + l * 2) (h - l) 2) := Sl_sl U160 S159
theorem Sr160 {lo hi : Option V} {K : V → Prop} : Get (aSlice Try.prog 160 .snil lo hi) K ↔ Bd 0 hi 0 fun _ => Bd 0 lo 0 fun _ => K .snil := Sl_snil U160 S159
theorem Lw22 {σ : H} {b n sz : Nat} : aLen Try.prog 22 σ (aV b n sz) = some (.int .i64 n) := Len_aV U22
theorem Iw22 {b n : Nat} {k : IntKind} {i : Int} : aIndexAddr Try.prog 22 (aV b n 4) (.int k i) = if 0 ≤ i ∧ i < n then some (.ptr b (0 + i.toNat * 4)) else none := Ix_aV U22 S33
theorem Lw23 {σ : H} {b n sz : Nat} : aLen Try.prog 23 σ (aV b n sz) = some (.int .i64 n) := Len_aV U23
theorem Iw23 {b n : Nat} {k : IntKind} {i : Int} : aIndexAddr Try.prog 23 (aV b n 1) (.int k i) = if 0 ≤ i ∧ i < n then some (.ptr b (0 + i.toNat * 1)) else none := Ix_aV U23 S50
theorem Lw31 {σ : H} {b n sz : Nat} : aLen Try.prog 31 σ (aV b n sz) = some (.int .i64 n) := Len_aV U31
theorem Iw31 {b n : Nat} {k : IntKind} {i : Int} : aIndexAddr Try.prog 31 (aV b n 6) (.int k i) = if 0 ≤ i ∧ i < n then some (.ptr b (0 + i.toNat * 6)) else none := Ix_aV U31 S37
theorem Lw35 {σ : H} {b n sz : Nat} : aLen Try.prog 35 σ (aV b n sz) = some (.int .i64 n) := Len_aV U35
theorem Iw35 {b n : Nat} {k : IntKind} {i : Int} : aIndexAddr Try.prog 35 (aV b n 6) (.int k i) = if 0 ≤ i ∧ i < n then some (.ptr b (0 + i.toNat * 6)) else none := Ix_aV U35 S41
theorem Lw38 {σ : H} {b n sz : Nat} : aLen Try.prog 38 σ (aV b n sz) = some (.int .i64 n) := Len_aV U38
theorem Iw38 {b n : Nat} {k : IntKind} {i : Int} : aIndexAddr Try.prog 38 (aV b n 1) (.int k i) = if 0 ≤ i ∧ i < n then some (.ptr b (0 + i.toNat * 1)) else none := Ix_aV U38 S3
theorem Lw39 {σ : H} {b n sz : Nat} : aLen Try.prog 39 σ (aV b n sz) = some (.int .i64 n) := Len_aV U39
theorem Iw39 {b n : Nat} {k : IntKind} {i : Int} : aIndexAddr Try.prog 39 (aV b n 6) (.int k i) = if 0 ≤ i ∧ i < n then some (.ptr b (0 + i.toNat * 6)) else none := Ix_aV U39 S55
theorem Lw47 {σ : H} {b n sz : Nat} : aLen Try.prog 47 σ (aV b n sz) = some (.int .i64 n) := Len_aV U47
theorem Iw47 {b n : Nat} {k : IntKind} {i : Int} : aIndexAddr Try.prog 47 (aV b n 1) (.int k i) = if 0 ≤ i ∧ i < n then some (.ptr b (0 + i.toNat * 1)) else none := Ix_aV U47 S38
theorem Lw50 {σ : H} {b n sz : Nat} : aLen Try.prog 50 σ (aV b n sz) = some (.int .i64 n) := Len_aV U50
theorem Iw50 {b n : Nat} {k : IntKind} {i : Int} : aIndexAddr Try.prog 50 (aV b n 2) (.int k i) = if 0 ≤ i ∧ i < n then some (.ptr b (0 + i.toNat * 2)) else none := Ix_aV U50 S52
theorem Lw53 {σ : H} {b n sz : Nat} : aLen Try.prog 53 σ (aV b n sz) = some (.int .i64 n) := Len_aV U53
theorem Iw53 {b n : Nat} {k : IntKind} {i : Int} : aIndexAddr Try.prog 53 (aV b n 1) (.int k i) = if 0 ≤ i ∧ i < n then some (.ptr b (0 + i.toNat * 1)) else none := Ix_aV U53 S35
theorem Lw56 {σ : H} {b n sz : Nat} : aLen Try.prog 56 σ (aV b n sz) = some (.int .i64 n) := Len_aV U56
theorem Iw56 {b n : Nat} {k : IntKind} {i : Int} : aIndexAddr Try.prog 56 (aV b n 1) (.int k i) = if 0 ≤ i ∧ i < n then some (.ptr b (0 + i.toNat * 1)) else none := Ix_aV U56 S2
theorem Lw75 {σ : H} {b n sz : Nat} : aLen Try.prog 75 σ (aV b n sz) = some (.int .i64 n) := Len_aV U75
theorem Iw75 {b n : Nat} {k : IntKind} {i : Int} : aIndexAddr Try.prog 75 (aV b n 6) (.int k i) = if 0 ≤ i ∧ i < n then some (.ptr b (0 + i.toNat * 6)) else none := Ix_aV U75 S116
theorem Lw83 {σ : H} {b n sz : Nat} : aLen Try.prog 83 σ (aV b n sz) = some (.int .i64 n) := Len_aV U83
theorem Iw83 {b n : Nat} {k : IntKind} {i : Int} : aIndexAddr Try.prog 83 (aV b n 3) (.int k i) = if 0 ≤ i ∧ i < n then some (.ptr b (0 + i.toNat * 3)) else none := Ix_aV U83 S119
theorem Lw89 {σ : H} {b n sz : Nat} : aLen Try.prog 89 σ (aV b n sz) = some (.int .i64 n) := Len_aV U89
theorem Iw89 {b n : Nat} {k : IntKind} {i : Int} : aIndexAddr Try.prog 89 (aV b n 1) (.int k i) = if 0 ≤ i ∧ i < n then some (.ptr b (0 + i.toNat * 1)) else none := Ix_aV U89 S4
theorem Lw92 {σ : H} {b n sz : Nat} : aLen Try.prog 92 σ (aV b n sz) = some (.int .i64 n) := Len_aV U92
theorem Iw92 {b n : Nat} {k : IntKind} {i : Int} : aIndexAddr Try.prog 92 (aV b n 1) (.int k i) = if 0 ≤ i ∧ i < n then some (.ptr b (0 + i.toNat * 1)) else none := Ix_aV U92 S89
theorem Lw101 {σ : H} {b n sz : Nat} : aLen Try.prog 101 σ (aV b n sz) = some (.int .i64 n) := Len_aV U101
theorem Iw101 {b n : Nat} {k : IntKind} {i : Int} : aIndexAddr Try.prog 101 (aV b n 2) (.int k i) = if 0 ≤ i ∧ i < n then some (.ptr b (0 + i.toNat * 2)) else none := Ix_aV U101 S105
theorem Lw117 {σ : H} {b n sz : Nat} : aLen Try.prog 117 σ (aV b n sz) = some (.int .i64 n) := Len_aV U117
theorem Iw117 {b n : Nat} {k : IntKind} {i : Int} : aIndexAddr Try.prog 117 (aV b n 4) (.int k i) = if 0 ≤ i ∧ i < n then some (.ptr b (0 + i.toNat * 4)) else none := Ix_aV U117 S121
theorem Lw160 {σ : H} {b n sz : Nat} : aLen Try.prog 160 σ (aV b n sz) = some (.int .i64 n) := Len_aV U160
theorem Iw160 {b n : Nat} {k : IntKind} {i : Int} : aIndexAddr Try.prog 160 (aV b n 2) (.int k i) = if 0 ≤ i ∧ i < n then some (.ptr b (0 + i.toNat * 2)) else none := Ix_aV U160 S159
theorem Bu25 {ps : List (Nat × V)} {K : V → Prop} : Get (aBuild Try.prog 25 ps) K ↔ BuK [(0, 1), (1, 1), (2, 1)] [.snil, .snil, .int .i64 (0)] ps K := Bu_iff (strT_of (by kernel_rfl) (by kernel_rfl))
theorem Bu33 {ps : List (Nat × V)} {K : V → Prop} : Get (aBuild Try.prog 33 ps) K ↔ BuK [(0, 1), (1, 1), (2, 1), (3, 1)] [.int .i64 (0), .int .i64 (0), .int .i64 (0), .snil] ps K := Bu_iff (strT_of (by kernel_rfl) (by kernel_rfl))
theorem Bu37 {ps : List (Nat × V)} {K : V → Prop} : Get (aBuild Try.prog 37 ps) K ↔ BuK [(0, 1), (1, 1), (2, 1), (3, 1), (4, 1), (5, 1)] [.snil, .snil, .int .u8 (0), .int .i64 (0), .int .i64 (0), .int .i64 (0)] ps K := Bu_iff (strT_of (by kernel_rfl) (by kernel_rfl))
theorem Bu41 {ps : List (Nat × V)} {K : V → Prop} : Get (aBuild Try.prog 41 ps) K ↔ BuK [(0, 1), (1, 1), (2, 1), (3, 1), (4, 1), (5, 1)] [.int .u8 (0), .int .i64 (0), .snil, .int .i64 (0), .int .i64 (0), .snil] ps K := Bu_iff (strT_of (by kernel_rfl) (by kernel_rfl))
theorem Bu52 {ps : List (Nat × V)} {K : V → Prop} : Get (aBuild Try.prog 52 ps) K ↔ BuK [(0, 1), (1, 1)] [.int .i64 (0), .int .i64 (0)] ps K := Bu_iff (strT_of (by kernel_rfl) (by kernel_rfl))
theorem Bu55 {ps : List (Nat × V)} {K : V → Prop} : Get (aBuild Try.prog 55 ps) K ↔ BuK [(0, 1), (1, 1), (2, 1), (3, 1), (4, 1), (5, 1)] [.int .i64 (0), .int .i64 (0), .int .u8 (0), .int .i64 (0), .int .i64 (0), .int .i64 (0)] ps K := Bu_iff (strT_of (by kernel_rfl) (by kernel_rfl))
theorem Bu79 {ps : List (Nat × V)} {K : V → Prop} : Get (aBuild Try.prog 79 ps) K ↔ BuK [(0, 3), (3, 1), (4, 1), (5, 1), (6, 1), (7, 1), (8, 1), (9, 7)] [.snil, .snil, .int .i64 (0), .snil, .int .i64 (0), .int .i64 (0), .snil, .snil, .bool false, .int .u8 (0), .int .i64 (0), .snil, .int .i64 (0), .int .i64 (0), .int .i64 (0), .int .i64 (0)] ps K := Bu_iff (strT_of (by kernel_rfl) (by kernel_rfl))
theorem Bu95 {ps : List (Nat × V)} {K : V → Prop} : Get (aBuild Try.prog 95 ps) K ↔ BuK [(0, 1), (1, 1)] [.int .i64 (0), .int .i64 (0)] ps K := Bu_iff (strT_of (by kernel_rfl) (by kernel_rfl))
theorem Bu103 {ps : List (Nat × V)} {K : V → Prop} : Get (aBuild Try.prog 103 ps) K ↔ BuK [(0, 3), (3, 4), (7, 1), (8, 1), (9, 1)] [.snil, .snil, .int .i64 (0), .int .i64 (0), .int .i64 (0), .int .i64 (0), .snil, .snil, .snil, .snil] ps K := Bu_iff (strT_of (by kernel_rfl) (by kernel_rfl))
theorem Bu105 {ps : List (Nat × V)} {K : V → Prop} : Get (aBuild Try.prog 105 ps) K ↔ BuK [(0, 1), (1, 1)] [.int .i64 (0), .int .i64 (0)] ps K := Bu_iff (strT_of (by kernel_rfl) (by kernel_rfl))
theorem Bu116 {ps : List (Nat × V)} {K : V → Prop} : Get (aBuild Try.prog 116 ps) K ↔ BuK [(0, 1), (1, 1), (2, 1), (3, 1), (4, 1), (5, 1)] [.int .i64 (0), .int .i64 (0), .int .i64 (0), .snil, .snil, .snil] ps K := Bu_iff (strT_of (by kernel_rfl) (by kernel_rfl))
theorem Bu119 {ps : List (Nat × V)} {K : V → Prop} : Get (aBuild Try.prog 119 ps) K ↔ BuK [(0, 1), (1, 1), (2, 1)] [.int .i64 (0), .int .i64 (0), .snil] ps K := Bu_iff (strT_of (by kernel_rfl) (by kernel_rfl))
theorem Bu121 {ps : List (Nat × V)} {K : V → Prop} : Get (aBuild Try.prog 121 ps) K ↔ BuK [(0, 1), (1, 1), (2, 1), (3, 1)] [.int .i64 (0), .bool false, .int .i64 (0), .snil] ps K := Bu_iff (strT_of (by kernel_rfl) (by kernel_rfl))
theorem Bu133 {ps : List (Nat × V)} {K : V → Prop} : Get (aBuild Try.prog 133 ps) K ↔ BuK [(0, 1), (1, 1), (2, 1)] [.int .i64 (0), .int .i64 (0), .int .i64 (0)] ps K := Bu_iff (strT_of (by kernel_rfl) (by kernel_rfl))
theorem Bu145 {ps : List (Nat × V)} {K : V → Prop} : Get (aBuild Try.prog 145 ps) K ↔ BuK [] [] ps K := Bu_iff (strT_of (by kernel_rfl) (by kernel_rfl))
theorem Bu147 {ps : List (Nat × V)} {K : V → Prop} : Get (aBuild Try.prog 147 ps) K ↔ BuK [(0, 1), (1, 1)] [.int .i64 (0), .int .i64 (0)] ps K := Bu_iff (strT_of (by kernel_rfl) (by kernel_rfl))
theorem Bu159 {ps : List (Nat × V)} {K : V → Prop} : Get (aBuild Try.prog 159 ps) K ↔ BuK [(0, 1), (1, 1)] [.int .i64 (0), .int .i64 (0)] ps K := Bu_iff (strT_of (by kernel_rfl) (by kernel_rfl))
theorem Nq4 : type_of% (And.intro (@Bl_eql Try.prog 4 U4) (@Bl_neq Try.prog 4 U4)) := (And.intro (@Bl_eql Try.prog 4 U4) (@Bl_neq Try.prog 4 U4))
theorem Nq22 : type_of% (And.intro (And.intro (@Nl_ps Try.prog 22 33 U22) (And.intro (@Nl_sl Try.prog 22 33 U22) (@Nl_snil Try.prog 22 33 U22))) (And.intro (And.intro (@Nn_ps Try.prog 22 33 U22) (And.intro (@Nn_sl Try.prog 22 33 U22) (@Nn_snil Try.prog 22 33 U22))) (@EqlK_nil Try.prog 22 33 U22))) := (And.intro (And.intro (@Nl_ps Try.prog 22 33 U22) (And.intro (@Nl_sl Try.prog 22 33 U22) (@Nl_snil Try.prog 22 33 U22))) (And.intro (And.intro (@Nn_ps Try.prog 22 33 U22) (And.intro (@Nn_sl Try.prog 22 33 U22) (@Nn_snil Try.prog 22 33 U22))) (@EqlK_nil Try.prog 22 33 U22)))
theorem Nq23 : type_of% (And.intro (And.intro (@Nl_ps Try.prog 23 50 U23) (And.intro (@Nl_sl Try.prog 23 50 U23) (@Nl_snil Try.prog 23 50 U23))) (And.intro (And.intro (@Nn_ps Try.prog 23 50 U23) (And.intro (@Nn_sl Try.prog 23 50 U23) (@Nn_snil Try.prog 23 50 U23))) (@EqlK_nil Try.prog 23 50 U23))) := (And.intro (And.intro (@Nl_ps Try.prog 23 50 U23) (And.intro (@Nl_sl Try.prog 23 50 U23) (@Nl_snil Try.prog 23 50 U23))) (And.intro (And.intro (@Nn_ps Try.prog 23 50 U23) (And.intro (@Nn_sl Try.prog 23 50 U23) (@Nn_snil Try.prog 23 50 U23))) (@EqlK_nil Try.prog 23 50 U23)))
theorem Nq31 : type_of% (And.intro (And.intro (@Nl_ps Try.prog 31 37 U31) (And.intro (@Nl_sl Try.prog 31 37 U31) (@Nl_snil Try.prog 31 37 U31))) (And.intro (And.intro (@Nn_ps Try.prog 31 37 U31) (And.intro (@Nn_sl Try.prog 31 37 U31) (@Nn_snil Try.prog 31 37 U31))) (@EqlK_nil Try.prog 31 37 U31))) := (And.intro (And.intro (@Nl_ps Try.prog 31 37 U31) (And.intro (@Nl_sl Try.prog 31 37 U31) (@Nl_snil Try.prog 31 37 U31))) (And.intro (And.intro (@Nn_ps Try.prog 31 37 U31) (And.intro (@Nn_sl Try.prog 31 37 U31) (@Nn_snil Try.prog 31 37 U31))) (@EqlK_nil Try.prog 31 37 U31)))
theorem Nq35 : type_of% (And.intro (And.intro (@Nl_ps Try.prog 35 41 U35) (And.intro (@Nl_sl Try.prog 35 41 U35) (@Nl_snil Try.prog 35 41 U35))) (And.intro (And.intro (@Nn_ps Try.prog 35 41 U35) (And.intro (@Nn_sl Try.prog 35 41 U35) (@Nn_snil Try.prog 35 41 U35))) (@EqlK_nil Try.prog 35 41 U35))) := (And.intro (And.intro (@Nl_ps Try.prog 35 41 U35) (And.intro (@Nl_sl Try.prog 35 41 U35) (@Nl_snil Try.prog 35 41 U35))) (And.intro (And.intro (@Nn_ps Try.prog 35 41 U35) (And.intro (@Nn_sl Try.prog 35 41 U35) (@Nn_snil Try.prog 35 41 U35))) (@EqlK_nil Try.prog 35 41 U35)))
theorem Nq38 : type_of% (And.intro (And.intro (@Nl_ps Try.prog 38 3 U38) (And.intro (@Nl_sl Try.prog 38 3 U38) (@Nl_snil Try.prog 38 3 U38))) (And.intro (And.intro (@Nn_ps Try.prog 38 3 U38) (And.intro (@Nn_sl Try.prog 38 3 U38) (@Nn_snil Try.prog 38 3 U38))) (@EqlK_nil Try.prog 38 3 U38))) := (And.intro (And.intro (@Nl_ps Try.prog 38 3 U38) (And.intro (@Nl_sl Try.prog 38 3 U38) (@Nl_snil Try.prog 38 3 U38))) (And.intro (And.intro (@Nn_ps Try.prog 38 3 U38) (And.intro (@Nn_sl Try.prog 38 3 U38) (@Nn_snil Try.prog 38 3 U38))) (@EqlK_nil Try.prog 38 3 U38)))
theorem Nq39 : type_of% (And.intro (And.intro (@Nl_ps Try.prog 39 55 U39) (And.intro (@Nl_sl Try.prog 39 55 U39) (@Nl_snil Try.prog 39 55 U39))) (And.intro (And.intro (@Nn_ps Try.prog 39 55 U39) (And.intro (@Nn_sl Try.prog 39 55 U39) (@Nn_snil Try.prog 39 55 U39))) (@EqlK_nil Try.prog 39 55 U39))) := (And.intro (And.intro (@Nl_ps Try.prog 39 55 U39) (And.intro (@Nl_sl Try.prog 39 55 U39) (@Nl_snil Try.prog 39 55 U39))) (And.intro (And.intro (@Nn_ps Try.prog 39 55 U39) (And.intro (@Nn_sl Try.prog 39 55 U39) (@Nn_snil Try.prog 39 55 U39))) (@EqlK_nil Try.prog 39 55 U39)))
theorem Nq50 : type_of% (And.intro (And.intro (@Nl_ps Try.prog 50 52 U50) (And.intro (@Nl_sl Try.prog 50 52 U50) (@Nl_snil Try.prog 50 52 U50))) (And.intro (And.intro (@Nn_ps Try.prog 50 52 U50) (And.intro (@Nn_sl Try.prog 50 52 U50) (@Nn_snil Try.prog 50 52 U50))) (@EqlK_nil Try.prog 50 52 U50))) := (And.intro (And.intro (@Nl_ps Try.prog 50 52 U50) (And.intro (@Nl_sl Try.prog 50 52 U50) (@Nl_snil Try.prog 50 52 U50))) (And.intro (And.intro (@Nn_ps Try.prog 50 52 U50) (And.intro (@Nn_sl Try.prog 50 52 U50) (@Nn_snil Try.prog 50 52 U50))) (@EqlK_nil Try.prog 50 52 U50)))
theorem CB3 : callB Try.prog 3 = true := by kernel_rfl
theorem CB4 : callB Try.prog 4 = true := by kernel_rfl
theorem CB5 : callB Try.prog 5 = true := by kernel_rfl
theorem CB6 : callB Try.prog 6 = true := by kernel_rfl
theorem CB7 : callB Try.prog 7 = true := by kernel_rfl
theorem CB8 : callB Try.prog 8 = true := by kernel_rfl
theorem CB9 : callB Try.prog 9 = true := by kernel_rfl
theorem CB10 : callB Try.prog 10 = true := by kernel_rfl
theorem CB11 : callB Try.prog 11 = true := by kernel_rfl
theorem CB12 : callB Try.prog 12 = true := by kernel_rfl
theorem CB13 : callB Try.prog 13 = true := by kernel_rfl
theorem CB14 : callB Try.prog 14 = true := by kernel_rfl
theorem CB15 : callB Try.prog 15 = true := by kernel_rfl
theorem CB16 : callB Try.prog 16 = true := by kernel_rfl
theorem CB17 : callB Try.prog 17 = true := by kernel_rfl
theorem CB18 : callB Try.prog 18 = true := by kernel_rfl
theorem CB19 : callB Try.prog 19 = true := by kernel_rfl
theorem CB20 : callB Try.prog 20 = true := by kernel_rfl
theorem CB21 : callB Try.prog 21 = true := by kernel_rfl
theorem CB22 : callB Try.prog 22 = true := by kernel_rfl
theorem CB23 : callB Try.prog 23 = true := by kernel_rfl
theorem CB24 : callB Try.prog 24 = true := by kernel_rfl
theorem CB25 : callB Try.prog 25 = true := by kernel_rfl
theorem CB26 : callB Try.prog 26 = true := by kernel_rfl
theorem CB27 : callB Try.prog 27 = true := by kernel_rfl
theorem CB28 : callB Try.prog 28 = true := by kernel_rfl
theorem CB29 : callB Try.prog 29 = true := by kernel_rfl
theorem CB30 : callB Try.prog 30 = true := by kernel_rfl
theorem CB31 : callB Try.prog 31 = true := by kernel_rfl
theorem CB32 : callB Try.prog 32 = true := by kernel_rfl
theorem CB33 : callB Try.prog 33 = true := by kernel_rfl
theorem CB34 : callB Try.prog 34 = true := by kernel_rfl
theorem CB35 : callB Try.prog 35 = true := by kernel_rfl
theorem CB36 : callB Try.prog 36 = true := by kernel_rfl
theorem CB37 : callB Try.prog 37 = true := by kernel_rfl
theorem CB38 : callB Try.prog 38 = true := by kernel_rfl
theorem CB39 : callB Try.prog 39 = true := by kernel_rfl
theorem CB40 : callB Try.prog 40 = true := by kernel_rfl
theorem CB41 : callB Try.prog 41 = true := by kernel_rfl
theorem CB42 : callB Try.prog 42 = true := by kernel_rfl
theorem CB43 : callB Try.prog 43 = true := by kernel_rfl
theorem CB44 : callB Try.prog 44 = true := by kernel_rfl
theorem CB45 : callB Try.prog 45 = true := by kernel_rfl
theorem CB46 : callB Try.prog 46 = true := by kernel_rfl
theorem CB47 : callB Try.prog 47 = true := by kernel_rfl
theorem CB48 : callB Try.prog 48 = true := by kernel_rfl
theorem CB49 : callB Try.prog 49 = true := by kernel_rfl
theorem CB50 : callB Try.prog 50 = true := by kernel_rfl
theorem CB51 : callB Try.prog 51 = true := by kernel_rfl
theorem CB52 : callB Try.prog 52 = true := by kernel_rfl
theorem CB53 : callB Try.prog 53 = true := by kernel_rfl
theorem CB54 : callB Try.prog 54 = true := by kernel_rfl
theorem CB55 : callB Try.prog 55 = true := by kernel_rfl
theorem CB56 : callB Try.prog 56 = true := by kernel_rfl
theorem CB57 : callB Try.prog 57 = true := by kernel_rfl
theorem CB58 : callB Try.prog 58 = true := by kernel_rfl
theorem CB59 : callB Try.prog 59 = true := by kernel_rfl
theorem CB60 : callB Try.prog 60 = true := by kernel_rfl
theorem CB61 : callB Try.prog 61 = true := by kernel_rfl
theorem CB62 : callB Try.prog 62 = true := by kernel_rfl
theorem CB63 : callB Try.prog 63 = true := by kernel_rfl
theorem CB64 : callB Try.prog 64 = true := by kernel_rfl
theorem CB65 : callB Try.prog 65 = true := by kernel_rfl
theorem CB66 : callB Try.prog 66 = true := by kernel_rfl
theorem CB67 : callB Try.prog 67 = true := by kernel_rfl
theorem CB68 : callB Try.prog 68 = true := by kernel_rfl
theorem CB69 : callB Try.prog 69 = true := by kernel_rfl
theorem CB70 : callB Try.prog 70 = true := by kernel_rfl
theorem CB71 : callB Try.prog 71 = true := by kernel_rfl
theorem CB72 : callB Try.prog 72 = true := by kernel_rfl
theorem CB73 : callB Try.prog 73 = true := by kernel_rfl
theorem CB74 : callB Try.prog 74 = true := by kernel_rfl
theorem CB75 : callB Try.prog 75 = true := by kernel_rfl
theorem CB76 : callB Try.prog 76 = true := by kernel_rfl
theorem CB77 : callB Try.prog 77 = true := by kernel_rfl
theorem CB78 : callB Try.prog 78 = true := by kernel_rfl
theorem CB79 : callB Try.prog 79 = true := by kernel_rfl
theorem CB80 : callB Try.prog 80 = true := by kernel_rfl
theorem CB81 : callB Try.prog 81 = true := by kernel_rfl
theorem CB82 : callB Try.prog 82 = true := by kernel_rfl
theorem CB83 : callB Try.prog 83 = true := by kernel_rfl
theorem CB84 : callB Try.prog 84 = true := by kernel_rfl
theorem CB85 : callB Try.prog 85 = true := by kernel_rfl
theorem CB86 : callB Try.prog 86 = true := by kernel_rfl
theorem CB87 : callB Try.prog 87 = true := by kernel_rfl
theorem CB88 : callB Try.prog 88 = true := by kernel_rfl
theorem CB89 : callB Try.prog 89 = true := by kernel_rfl
theorem CB90 : callB Try.prog 90 = true := by kernel_rfl
theorem CB91 : callB Try.prog 91 = true := by kernel_rfl
theorem CB92 : callB Try.prog 92 = true := by kernel_rfl
theorem CB93 : callB Try.prog 93 = true := by kernel_rfl
theorem CB94 : callB Try.prog 94 = true := by kernel_rfl
theorem CB95 : callB Try.prog 95 = true := by kernel_rfl
theorem CB96 : callB Try.prog 96 = true := by kernel_rfl
theorem CB97 : callB Try.prog 97 = true := by kernel_rfl
theorem CB98 : callB Try.prog 98 = true := by kernel_rfl
theorem CB99 : callB Try.prog 99 = true := by kernel_rfl
theorem CB100 : callB Try.prog 100 = true := by kernel_rfl
theorem CB101 : callB Try.prog 101 = true := by kernel_rfl
theorem CB102 : callB Try.prog 102 = true := by kernel_rfl
theorem CB103 : callB Try.prog 103 = true := by kernel_rfl
theorem CB104 : callB Try.prog 104 = true := by kernel_rfl
theorem CB105 : callB Try.prog 105 = true := by kernel_rfl

end Go.Proofs.Ytbnegbjaoiplmaa
