/-
MADE BY PROGRAM (GenFI.lean): what the functions of the dump name, part 0.
-/
import Derived.Test.YtpolhfiikbmplaaGreatDoorProg
import Derived.Test.YtpolhfiikbmplaaGreatDoorFi
import Derived.KernelRfl
namespace Go.Ev
open Go.Proofs
theorem fi0 : fiOf Tryz.prog Tryz.f0 = ⟨[], (some "main.main"), [], false, none, false⟩ := by kernel_rfl
theorem fi1 : fiOf Tryz.prog Tryz.f1 = ⟨[], (some "gosem.cut"), [], false, none, false⟩ := by kernel_rfl
theorem fi2 : fiOf Tryz.prog Tryz.f2 = ⟨[1], none, [], false, none, false⟩ := by kernel_rfl
theorem fi3 : fiOf Tryz.prog Tryz.f3 = ⟨[9, 10, 11, 12, 13, 14, 15], none, [], false, none, false⟩ := by kernel_rfl
theorem fi4 : fiOf Tryz.prog Tryz.f4 = ⟨[16, 17, 18, 19, 18, 16, 15], none, [], false, none, false⟩ := by kernel_rfl
theorem fi5 : fiOf Tryz.prog Tryz.f5 = ⟨[20, 21, 15], none, [], false, none, false⟩ := by kernel_rfl
theorem fi6 : fiOf Tryz.prog Tryz.f6 = ⟨[22, 23, 22, 22, 15], none, [], false, none, false⟩ := by kernel_rfl
theorem fi7 : fiOf Tryz.prog Tryz.f7 = ⟨[24, 25, 26, 27, 28, 28, 23, 23, 15], none, [], false, none, false⟩ := by kernel_rfl
theorem fi8 : fiOf Tryz.prog Tryz.f8 = ⟨[24, 26, 15, 24, 26, 22, 22, 15], none, [], false, none, false⟩ := by kernel_rfl
theorem fi9 : fiOf Tryz.prog Tryz.f9 = ⟨[11, 13, 29, 30], none, [], false, none, false⟩ := by kernel_rfl
theorem fi10 : fiOf Tryz.prog Tryz.f10 = ⟨[12, 14, 31], none, [], false, none, false⟩ := by kernel_rfl
theorem fi11 : fiOf Tryz.prog Tryz.f11 = ⟨[32, 29], none, [], false, none, false⟩ := by kernel_rfl
theorem fi12 : fiOf Tryz.prog Tryz.f12 = ⟨[33], none, [], false, none, false⟩ := by kernel_rfl
theorem fi13 : fiOf Tryz.prog Tryz.f13 = ⟨[34], none, [], false, none, false⟩ := by kernel_rfl
theorem fi14 : fiOf Tryz.prog Tryz.f14 = ⟨[35], none, [], false, none, false⟩ := by kernel_rfl
theorem fi15 : fiOf Tryz.prog Tryz.f15 = ⟨[37, 36, 37, 36], none, [], false, none, false⟩ := by kernel_rfl
theorem fi16 : fiOf Tryz.prog Tryz.f16 = ⟨[39, 40, 38], none, [], false, none, false⟩ := by kernel_rfl
theorem fi17 : fiOf Tryz.prog Tryz.f17 = ⟨[19], none, [], false, none, false⟩ := by kernel_rfl
theorem fi18 : fiOf Tryz.prog Tryz.f18 = ⟨[41], none, [], false, none, false⟩ := by kernel_rfl
theorem fi19 : fiOf Tryz.prog Tryz.f19 = ⟨[42], none, [], false, none, false⟩ := by kernel_rfl
theorem fi20 : fiOf Tryz.prog Tryz.f20 = ⟨[43, 29, 44, 45, 46], none, [], false, none, false⟩ := by kernel_rfl
theorem fi21 : fiOf Tryz.prog Tryz.f21 = ⟨[47], none, [], false, none, false⟩ := by kernel_rfl
theorem fi22 : fiOf Tryz.prog Tryz.f22 = ⟨[48, 49, 50, 51, 52, 53, 54, 22], none, [], false, none, false⟩ := by kernel_rfl
theorem fi23 : fiOf Tryz.prog Tryz.f23 = ⟨[55, 56, 57, 23], none, [], false, none, false⟩ := by kernel_rfl
theorem fi24 : fiOf Tryz.prog Tryz.f24 = ⟨[58], none, [], false, none, false⟩ := by kernel_rfl
theorem fi25 : fiOf Tryz.prog Tryz.f25 = ⟨[], none, [], false, none, false⟩ := by kernel_rfl
theorem fi26 : fiOf Tryz.prog Tryz.f26 = ⟨[24, 59], none, [], false, none, false⟩ := by kernel_rfl
theorem fi27 : fiOf Tryz.prog Tryz.f27 = ⟨[27], none, [], false, none, false⟩ := by kernel_rfl
theorem fi28 : fiOf Tryz.prog Tryz.f28 = ⟨[22, 23], none, [], false, none, false⟩ := by kernel_rfl
theorem fi29 : fiOf Tryz.prog Tryz.f29 = ⟨[29], none, [], true, none, false⟩ := by kernel_rfl
theorem fi30 : fiOf Tryz.prog Tryz.f30 = ⟨[41, 60, 61, 62, 63], none, [], false, none, false⟩ := by kernel_rfl
theorem fi31 : fiOf Tryz.prog Tryz.f31 = ⟨[64, 31], none, [], false, none, false⟩ := by kernel_rfl
theorem fi32 : fiOf Tryz.prog Tryz.f32 = ⟨[], none, [], false, none, false⟩ := by kernel_rfl
theorem fi33 : fiOf Tryz.prog Tryz.f33 = ⟨[33], none, [], false, none, false⟩ := by kernel_rfl
theorem fi34 : fiOf Tryz.prog Tryz.f34 = ⟨[34], none, [], false, none, false⟩ := by kernel_rfl
theorem fi35 : fiOf Tryz.prog Tryz.f35 = ⟨[35], none, [], false, none, false⟩ := by kernel_rfl
theorem fi36 : fiOf Tryz.prog Tryz.f36 = ⟨[65], none, [], false, none, false⟩ := by kernel_rfl
theorem fi37 : fiOf Tryz.prog Tryz.f37 = ⟨[67, 66, 67, 66], none, [], false, none, false⟩ := by kernel_rfl
theorem fi38 : fiOf Tryz.prog Tryz.f38 = ⟨[], none, [], true, none, false⟩ := by kernel_rfl
theorem fi39 : fiOf Tryz.prog Tryz.f39 = ⟨[68, 69, 70, 71, 72, 73, 74, 75, 76, 77, 78, 79, 80, 81, 82, 83, 84, 85, 86, 87, 88], none, [], false, none, false⟩ := by kernel_rfl
theorem fi40 : fiOf Tryz.prog Tryz.f40 = ⟨[], none, [], false, none, false⟩ := by kernel_rfl
theorem fi41 : fiOf Tryz.prog Tryz.f41 = ⟨[39], none, [], false, none, false⟩ := by kernel_rfl
theorem fi42 : fiOf Tryz.prog Tryz.f42 = ⟨[], none, [], false, none, false⟩ := by kernel_rfl
theorem fi43 : fiOf Tryz.prog Tryz.f43 = ⟨[], none, [], false, none, false⟩ := by kernel_rfl
theorem fi44 : fiOf Tryz.prog Tryz.f44 = ⟨[90, 89], none, [], false, none, false⟩ := by kernel_rfl
theorem fi45 : fiOf Tryz.prog Tryz.f45 = ⟨[92, 93, 91], none, [], false, none, false⟩ := by kernel_rfl
theorem fi46 : fiOf Tryz.prog Tryz.f46 = ⟨[], none, [], false, none, false⟩ := by kernel_rfl
theorem fi47 : fiOf Tryz.prog Tryz.f47 = ⟨[94, 47], none, [], false, none, false⟩ := by kernel_rfl
theorem fi48 : fiOf Tryz.prog Tryz.f48 = ⟨[95, 95, 95, 95, 97, 97, 96], none, [], false, none, false⟩ := by kernel_rfl
theorem fi49 : fiOf Tryz.prog Tryz.f49 = ⟨[48, 98, 49], none, [], false, none, false⟩ := by kernel_rfl
theorem fi50 : fiOf Tryz.prog Tryz.f50 = ⟨[48], none, [], false, none, false⟩ := by kernel_rfl
theorem fi51 : fiOf Tryz.prog Tryz.f51 = ⟨[49], none, [], false, none, false⟩ := by kernel_rfl
theorem fi52 : fiOf Tryz.prog Tryz.f52 = ⟨[], none, [], true, none, false⟩ := by kernel_rfl
theorem fi53 : fiOf Tryz.prog Tryz.f53 = ⟨[], none, [], true, none, false⟩ := by kernel_rfl
theorem fi54 : fiOf Tryz.prog Tryz.f54 = ⟨[], none, [], true, none, false⟩ := by kernel_rfl
theorem fi55 : fiOf Tryz.prog Tryz.f55 = ⟨[99, 99, 99, 100, 99, 100, 102, 102, 101], none, [], false, none, false⟩ := by kernel_rfl
theorem fi56 : fiOf Tryz.prog Tryz.f56 = ⟨[55, 56], none, [], false, none, false⟩ := by kernel_rfl
theorem fi57 : fiOf Tryz.prog Tryz.f57 = ⟨[55, 56], none, [], false, none, false⟩ := by kernel_rfl
theorem fi58 : fiOf Tryz.prog Tryz.f58 = ⟨[103, 58], none, [], false, none, false⟩ := by kernel_rfl
theorem fi59 : fiOf Tryz.prog Tryz.f59 = ⟨[58, 103, 59, 58], none, [], false, none, false⟩ := by kernel_rfl
theorem fi60 : fiOf Tryz.prog Tryz.f60 = ⟨[104], none, [], false, none, false⟩ := by kernel_rfl
theorem fi61 : fiOf Tryz.prog Tryz.f61 = ⟨[95], none, [], false, none, false⟩ := by kernel_rfl
theorem fi62 : fiOf Tryz.prog Tryz.f62 = ⟨[], none, [], false, none, false⟩ := by kernel_rfl
theorem fi63 : fiOf Tryz.prog Tryz.f63 = ⟨[105, 62, 106, 105, 106], none, [], false, none, false⟩ := by kernel_rfl
theorem fi64 : fiOf Tryz.prog Tryz.f64 = ⟨[19, 107, 42, 108, 109, 110, 108, 110], none, [], false, none, false⟩ := by kernel_rfl
theorem fi65 : fiOf Tryz.prog Tryz.f65 = ⟨[111, 9, 112], none, [], false, none, false⟩ := by kernel_rfl
theorem fi66 : fiOf Tryz.prog Tryz.f66 = ⟨[113, 114, 113], none, [], false, none, false⟩ := by kernel_rfl
theorem fi67 : fiOf Tryz.prog Tryz.f67 = ⟨[116, 116, 115, 116, 116, 115], none, [], false, none, false⟩ := by kernel_rfl
theorem fi68 : fiOf Tryz.prog Tryz.f68 = ⟨[118, 117], none, [], false, none, false⟩ := by kernel_rfl
theorem fi69 : fiOf Tryz.prog Tryz.f69 = ⟨[119, 121, 120, 117], none, [], false, none, false⟩ := by kernel_rfl
theorem fi70 : fiOf Tryz.prog Tryz.f70 = ⟨[119, 122, 120, 117], none, [], false, none, false⟩ := by kernel_rfl
theorem fi71 : fiOf Tryz.prog Tryz.f71 = ⟨[119, 124, 123, 125, 120, 117], none, [], false, none, false⟩ := by kernel_rfl
theorem fi72 : fiOf Tryz.prog Tryz.f72 = ⟨[126, 127, 129, 128], none, [], false, none, false⟩ := by kernel_rfl
theorem fi73 : fiOf Tryz.prog Tryz.f73 = ⟨[130, 128], none, [], false, none, false⟩ := by kernel_rfl
theorem fi74 : fiOf Tryz.prog Tryz.f74 = ⟨[132, 127, 131, 128, 133], none, [], false, none, false⟩ := by kernel_rfl
theorem fi75 : fiOf Tryz.prog Tryz.f75 = ⟨[132, 127, 129, 128, 133], none, [], false, none, false⟩ := by kernel_rfl
theorem fi76 : fiOf Tryz.prog Tryz.f76 = ⟨[132, 135, 134, 127, 129, 128, 133, 133], none, [], false, none, false⟩ := by kernel_rfl
theorem fi77 : fiOf Tryz.prog Tryz.f77 = ⟨[136, 128], none, [], false, none, false⟩ := by kernel_rfl
theorem fi78 : fiOf Tryz.prog Tryz.f78 = ⟨[137, 128, 118, 138, 128], none, [], false, none, false⟩ := by kernel_rfl
theorem fi79 : fiOf Tryz.prog Tryz.f79 = ⟨[140, 139], none, [], false, none, false⟩ := by kernel_rfl
theorem fi80 : fiOf Tryz.prog Tryz.f80 = ⟨[142, 141, 128, 119, 144, 144, 143, 145, 139], none, [], false, none, false⟩ := by kernel_rfl
theorem fi81 : fiOf Tryz.prog Tryz.f81 = ⟨[146, 147, 141, 148, 128, 150, 149, 135, 134, 148, 153, 120, 152, 151, 131, 154, 129, 154, 128, 157, 156, 155, 141, 128], none, [], false, none, false⟩ := by kernel_rfl
theorem fi82 : fiOf Tryz.prog Tryz.f82 = ⟨[128, 146, 158, 141, 128, 148, 128, 135, 134, 127, 131, 154, 129, 154, 128], none, [], false, none, false⟩ := by kernel_rfl
theorem fi83 : fiOf Tryz.prog Tryz.f83 = ⟨[159, 139, 160, 141, 128, 119], none, [], false, none, false⟩ := by kernel_rfl
theorem fi84 : fiOf Tryz.prog Tryz.f84 = ⟨[143, 159, 139, 159, 139], none, [], false, none, false⟩ := by kernel_rfl
theorem fi85 : fiOf Tryz.prog Tryz.f85 = ⟨[159, 139, 143, 159, 139], none, [], false, none, false⟩ := by kernel_rfl
theorem fi86 : fiOf Tryz.prog Tryz.f86 = ⟨[126, 104, 151, 128, 161, 134, 143, 143, 159, 139], none, [], false, none, false⟩ := by kernel_rfl
theorem fi87 : fiOf Tryz.prog Tryz.f87 = ⟨[128, 128, 118, 162, 141, 128, 163, 134, 164, 128, 163, 134, 145, 139], none, [], false, none, false⟩ := by kernel_rfl
theorem fi88 : fiOf Tryz.prog Tryz.f88 = ⟨[165, 104, 151, 128, 166, 141, 128, 119, 159, 139, 144, 167, 143, 163, 134, 143, 160, 141, 128, 167, 169, 168, 167, 171, 120, 170, 149], none, [], false, none, false⟩ := by kernel_rfl
theorem fi89 : fiOf Tryz.prog Tryz.f89 = ⟨[172, 173, 174, 175, 176, 177, 178, 179, 89, 89], none, [], true, none, false⟩ := by kernel_rfl
theorem fi90 : fiOf Tryz.prog Tryz.f90 = ⟨[180, 181], none, [], false, none, false⟩ := by kernel_rfl
theorem fi91 : fiOf Tryz.prog Tryz.f91 = ⟨[], none, [], false, none, false⟩ := by kernel_rfl
theorem fi92 : fiOf Tryz.prog Tryz.f92 = ⟨[182, 182], none, [], false, none, false⟩ := by kernel_rfl
theorem fi93 : fiOf Tryz.prog Tryz.f93 = ⟨[183, 183], none, [], false, none, false⟩ := by kernel_rfl
theorem fi94 : fiOf Tryz.prog Tryz.f94 = ⟨[184], none, [], false, none, false⟩ := by kernel_rfl
theorem fi95 : fiOf Tryz.prog Tryz.f95 = ⟨[], none, [], false, none, false⟩ := by kernel_rfl
theorem fi96 : fiOf Tryz.prog Tryz.f96 = ⟨[], none, [], false, none, false⟩ := by kernel_rfl
theorem fi97 : fiOf Tryz.prog Tryz.f97 = ⟨[185, 95], none, [], false, none, false⟩ := by kernel_rfl
theorem fi98 : fiOf Tryz.prog Tryz.f98 = ⟨[], none, [], true, none, false⟩ := by kernel_rfl
theorem fi99 : fiOf Tryz.prog Tryz.f99 = ⟨[186], none, [], false, none, false⟩ := by kernel_rfl
theorem fi100 : fiOf Tryz.prog Tryz.f100 = ⟨[116], none, [], false, none, false⟩ := by kernel_rfl
theorem fi101 : fiOf Tryz.prog Tryz.f101 = ⟨[], none, [], false, none, false⟩ := by kernel_rfl
theorem fi102 : fiOf Tryz.prog Tryz.f102 = ⟨[186], none, [], false, none, false⟩ := by kernel_rfl
theorem fi103 : fiOf Tryz.prog Tryz.f103 = ⟨[187, 188, 187, 188], none, [], false, none, false⟩ := by kernel_rfl
theorem fi104 : fiOf Tryz.prog Tryz.f104 = ⟨[189, 190], none, [], false, none, false⟩ := by kernel_rfl
theorem fi105 : fiOf Tryz.prog Tryz.f105 = ⟨[104], none, [], false, none, false⟩ := by kernel_rfl
theorem fi106 : fiOf Tryz.prog Tryz.f106 = ⟨[191], none, [], false, none, false⟩ := by kernel_rfl
theorem fi107 : fiOf Tryz.prog Tryz.f107 = ⟨[109, 109, 109, 192, 109, 109, 109, 109, 193, 109, 109, 109, 109], none, [], false, none, false⟩ := by kernel_rfl
theorem fi108 : fiOf Tryz.prog Tryz.f108 = ⟨[99, 99, 195, 194], none, [], false, none, false⟩ := by kernel_rfl
theorem fi109 : fiOf Tryz.prog Tryz.f109 = ⟨[42], none, [], false, none, false⟩ := by kernel_rfl
theorem fi110 : fiOf Tryz.prog Tryz.f110 = ⟨[196], none, [], false, none, false⟩ := by kernel_rfl
theorem fi111 : fiOf Tryz.prog Tryz.f111 = ⟨[197, 106, 198, 106, 198], none, [], false, none, false⟩ := by kernel_rfl
theorem fi112 : fiOf Tryz.prog Tryz.f112 = ⟨[199, 159, 112, 200], none, [], false, none, false⟩ := by kernel_rfl
theorem fi113 : fiOf Tryz.prog Tryz.f113 = ⟨[], none, [], false, none, false⟩ := by kernel_rfl
theorem fi114 : fiOf Tryz.prog Tryz.f114 = ⟨[], none, [], false, none, false⟩ := by kernel_rfl
theorem fi115 : fiOf Tryz.prog Tryz.f115 = ⟨[116, 116, 201, 202, 202], none, [], false, none, false⟩ := by kernel_rfl
theorem fi116 : fiOf Tryz.prog Tryz.f116 = ⟨[], none, [], false, none, false⟩ := by kernel_rfl
theorem fi117 : fiOf Tryz.prog Tryz.f117 = ⟨[152, 151, 131, 128], none, [], false, none, false⟩ := by kernel_rfl
theorem fi118 : fiOf Tryz.prog Tryz.f118 = ⟨[153, 120], none, [], false, none, false⟩ := by kernel_rfl
theorem fi119 : fiOf Tryz.prog Tryz.f119 = ⟨[118], none, [], false, none, false⟩ := by kernel_rfl
theorem fi120 : fiOf Tryz.prog Tryz.f120 = ⟨[128], none, [], false, none, false⟩ := by kernel_rfl
theorem fi121 : fiOf Tryz.prog Tryz.f121 = ⟨[203, 204, 205, 206, 207, 206, 208, 209, 210], none, [], false, none, false⟩ := by kernel_rfl
theorem fi122 : fiOf Tryz.prog Tryz.f122 = ⟨[203, 204, 211, 205, 206, 207, 206, 212, 206, 208, 209, 213, 210], none, [], false, none, false⟩ := by kernel_rfl
theorem fi123 : fiOf Tryz.prog Tryz.f123 = ⟨[128], none, [], false, none, false⟩ := by kernel_rfl
theorem fi124 : fiOf Tryz.prog Tryz.f124 = ⟨[214, 215, 216, 206, 217, 206], none, [], false, none, false⟩ := by kernel_rfl
theorem fi125 : fiOf Tryz.prog Tryz.f125 = ⟨[197, 218, 104, 215, 216, 206, 219, 206], none, [], false, none, false⟩ := by kernel_rfl
theorem fi126 : fiOf Tryz.prog Tryz.f126 = ⟨[128], none, [], false, none, false⟩ := by kernel_rfl
theorem fi127 : fiOf Tryz.prog Tryz.f127 = ⟨[118, 152, 151], none, [], false, none, false⟩ := by kernel_rfl
theorem fi128 : fiOf Tryz.prog Tryz.f128 = ⟨[], none, [], false, none, false⟩ := by kernel_rfl
theorem fi129 : fiOf Tryz.prog Tryz.f129 = ⟨[], none, [], false, none, false⟩ := by kernel_rfl
theorem fi130 : fiOf Tryz.prog Tryz.f130 = ⟨[220, 221, 165, 222, 223, 223], none, [], false, none, false⟩ := by kernel_rfl
theorem fi131 : fiOf Tryz.prog Tryz.f131 = ⟨[], none, [], false, none, false⟩ := by kernel_rfl
theorem fi132 : fiOf Tryz.prog Tryz.f132 = ⟨[166, 141, 128, 119, 135, 134], none, [], false, none, false⟩ := by kernel_rfl
theorem fi133 : fiOf Tryz.prog Tryz.f133 = ⟨[224, 139], none, [], false, none, false⟩ := by kernel_rfl
theorem fi134 : fiOf Tryz.prog Tryz.f134 = ⟨[128], none, [], false, none, false⟩ := by kernel_rfl
theorem fi135 : fiOf Tryz.prog Tryz.f135 = ⟨[106, 225, 226, 229, 228, 227], none, [], false, none, false⟩ := by kernel_rfl
theorem fi136 : fiOf Tryz.prog Tryz.f136 = ⟨[220, 165, 230, 231, 223, 233], none, [], true, none, false⟩ := by kernel_rfl
theorem fi137 : fiOf Tryz.prog Tryz.f137 = ⟨[106, 226, 234, 227, 227, 227], none, [], false, none, false⟩ := by kernel_rfl
theorem fi138 : fiOf Tryz.prog Tryz.f138 = ⟨[111, 137, 106, 235, 235], none, [], false, none, false⟩ := by kernel_rfl
theorem fi139 : fiOf Tryz.prog Tryz.f139 = ⟨[128], none, [], false, none, false⟩ := by kernel_rfl
theorem fi140 : fiOf Tryz.prog Tryz.f140 = ⟨[220, 221, 165, 236, 237, 167, 238, 223], none, [], false, none, false⟩ := by kernel_rfl
theorem fi141 : fiOf Tryz.prog Tryz.f141 = ⟨[128], none, [], false, none, false⟩ := by kernel_rfl
theorem fi142 : fiOf Tryz.prog Tryz.f142 = ⟨[220, 165, 165, 239, 233, 240, 241], none, [], false, none, false⟩ := by kernel_rfl
theorem fi143 : fiOf Tryz.prog Tryz.f143 = ⟨[], none, [], false, none, false⟩ := by kernel_rfl
theorem fi144 : fiOf Tryz.prog Tryz.f144 = ⟨[], none, [], false, none, false⟩ := by kernel_rfl
theorem fi145 : fiOf Tryz.prog Tryz.f145 = ⟨[242, 243, 245, 244], none, [], false, none, false⟩ := by kernel_rfl
theorem fi146 : fiOf Tryz.prog Tryz.f146 = ⟨[246, 141, 128, 119], none, [], false, none, false⟩ := by kernel_rfl
theorem fi147 : fiOf Tryz.prog Tryz.f147 = ⟨[197, 247, 248], none, [], false, none, false⟩ := by kernel_rfl
theorem fi148 : fiOf Tryz.prog Tryz.f148 = ⟨[249, 60], none, [], false, none, false⟩ := by kernel_rfl
theorem fi149 : fiOf Tryz.prog Tryz.f149 = ⟨[128], none, [], false, none, false⟩ := by kernel_rfl
theorem fi150 : fiOf Tryz.prog Tryz.f150 = ⟨[197, 247, 248, 250], none, [], false, none, false⟩ := by kernel_rfl
theorem fi151 : fiOf Tryz.prog Tryz.f151 = ⟨[128], none, [], false, none, false⟩ := by kernel_rfl
theorem fi152 : fiOf Tryz.prog Tryz.f152 = ⟨[252, 251], none, [], false, none, false⟩ := by kernel_rfl
theorem fi153 : fiOf Tryz.prog Tryz.f153 = ⟨[214, 208, 206], none, [], false, none, false⟩ := by kernel_rfl
theorem fi154 : fiOf Tryz.prog Tryz.f154 = ⟨[255], none, [], false, none, false⟩ := by kernel_rfl
theorem fi155 : fiOf Tryz.prog Tryz.f155 = ⟨[218, 256, 152, 257], none, [], false, none, false⟩ := by kernel_rfl
theorem fi156 : fiOf Tryz.prog Tryz.f156 = ⟨[128], none, [], false, none, false⟩ := by kernel_rfl
theorem fi157 : fiOf Tryz.prog Tryz.f157 = ⟨[214, 258, 211, 212, 206], none, [], false, none, false⟩ := by kernel_rfl
theorem fi158 : fiOf Tryz.prog Tryz.f158 = ⟨[260, 259], none, [], false, none, false⟩ := by kernel_rfl
theorem fi159 : fiOf Tryz.prog Tryz.f159 = ⟨[242, 243, 245], none, [], false, none, false⟩ := by kernel_rfl
theorem fi160 : fiOf Tryz.prog Tryz.f160 = ⟨[106, 106, 264, 264, 265, 266], none, [], false, none, false⟩ := by kernel_rfl
theorem fi161 : fiOf Tryz.prog Tryz.f161 = ⟨[189, 268], none, [], false, none, false⟩ := by kernel_rfl
theorem fi162 : fiOf Tryz.prog Tryz.f162 = ⟨[269, 259], none, [], false, none, false⟩ := by kernel_rfl
theorem fi163 : fiOf Tryz.prog Tryz.f163 = ⟨[106, 106, 225, 272, 271, 227], none, [], false, none, false⟩ := by kernel_rfl
theorem fi164 : fiOf Tryz.prog Tryz.f164 = ⟨[274, 273], none, [], false, none, false⟩ := by kernel_rfl
theorem fi165 : fiOf Tryz.prog Tryz.f165 = ⟨[276, 256], none, [], false, none, false⟩ := by kernel_rfl
theorem fi166 : fiOf Tryz.prog Tryz.f166 = ⟨[220, 277, 273], none, [], false, none, false⟩ := by kernel_rfl
end Go.Ev
