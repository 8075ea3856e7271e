/- What the seat's types are, one by one. -/
import Derived.Test.YtjgjmpophpifgaaDoorChecked
import Derived.Test.YtjgjmpophpifgaaDoorAd14
set_option linter.unusedVariables false
namespace Go.AD.T
@[go_sem] theorem sz0 : szOf Go.Proofs.Tryd.prog 0 = 1 := by kernel_rfl
@[go_sem] theorem by0 : byOf Go.Proofs.Tryd.prog 0 = 0 := by kernel_rfl
@[go_sem] theorem hT0 : hasT Go.Proofs.Tryd.prog 0 = true := by kernel_rfl
@[go_sem] theorem iS0 : (inf Go.Proofs.Tryd.prog 0).isSome = true := by kernel_rfl
@[go_sem] theorem ag0 : aggB Go.Proofs.Tryd.prog 0 = false := by kernel_rfl
@[go_sem] theorem zo0 : zeroOf Go.Proofs.Tryd.prog 0 = some [.undef] := by kernel_rfl
@[go_sem] theorem sz1 : szOf Go.Proofs.Tryd.prog 1 = 1 := by kernel_rfl
@[go_sem] theorem by1 : byOf Go.Proofs.Tryd.prog 1 = 8 := by kernel_rfl
@[go_sem] theorem hT1 : hasT Go.Proofs.Tryd.prog 1 = true := by kernel_rfl
@[go_sem] theorem iS1 : (inf Go.Proofs.Tryd.prog 1).isSome = true := by kernel_rfl
@[go_sem] theorem ag1 : aggB Go.Proofs.Tryd.prog 1 = false := by kernel_rfl
@[go_sem] theorem zo1 : zeroOf Go.Proofs.Tryd.prog 1 = some [.pv .nilFunc] := by kernel_rfl
@[go_sem] theorem sz2 : szOf Go.Proofs.Tryd.prog 2 = 1 := by kernel_rfl
@[go_sem] theorem by2 : byOf Go.Proofs.Tryd.prog 2 = 8 := by kernel_rfl
@[go_sem] theorem hT2 : hasT Go.Proofs.Tryd.prog 2 = true := by kernel_rfl
@[go_sem] theorem iS2 : (inf Go.Proofs.Tryd.prog 2).isSome = true := by kernel_rfl
@[go_sem] theorem ag2 : aggB Go.Proofs.Tryd.prog 2 = false := by kernel_rfl
@[go_sem] theorem zo2 : zeroOf Go.Proofs.Tryd.prog 2 = some [.pv (.int .i64 0)] := by kernel_rfl
@[go_sem] theorem sz3 : szOf Go.Proofs.Tryd.prog 3 = 1 := by kernel_rfl
@[go_sem] theorem by3 : byOf Go.Proofs.Tryd.prog 3 = 8 := by kernel_rfl
@[go_sem] theorem hT3 : hasT Go.Proofs.Tryd.prog 3 = true := by kernel_rfl
@[go_sem] theorem iS3 : (inf Go.Proofs.Tryd.prog 3).isSome = true := by kernel_rfl
@[go_sem] theorem ag3 : aggB Go.Proofs.Tryd.prog 3 = false := by kernel_rfl
@[go_sem] theorem zo3 : zeroOf Go.Proofs.Tryd.prog 3 = some [.pv (.int .i64 0)] := by kernel_rfl
@[go_sem] theorem sz4 : szOf Go.Proofs.Tryd.prog 4 = 1 := by kernel_rfl
@[go_sem] theorem by4 : byOf Go.Proofs.Tryd.prog 4 = 1 := by kernel_rfl
@[go_sem] theorem hT4 : hasT Go.Proofs.Tryd.prog 4 = true := by kernel_rfl
@[go_sem] theorem iS4 : (inf Go.Proofs.Tryd.prog 4).isSome = true := by kernel_rfl
@[go_sem] theorem ag4 : aggB Go.Proofs.Tryd.prog 4 = false := by kernel_rfl
@[go_sem] theorem zo4 : zeroOf Go.Proofs.Tryd.prog 4 = some [.pv (.bool false)] := by kernel_rfl
@[go_sem] theorem sz5 : szOf Go.Proofs.Tryd.prog 5 = 1 := by kernel_rfl
@[go_sem] theorem by5 : byOf Go.Proofs.Tryd.prog 5 = 1 := by kernel_rfl
@[go_sem] theorem hT5 : hasT Go.Proofs.Tryd.prog 5 = true := by kernel_rfl
@[go_sem] theorem iS5 : (inf Go.Proofs.Tryd.prog 5).isSome = true := by kernel_rfl
@[go_sem] theorem ag5 : aggB Go.Proofs.Tryd.prog 5 = false := by kernel_rfl
@[go_sem] theorem zo5 : zeroOf Go.Proofs.Tryd.prog 5 = some [.pv (.int .u8 0)] := by kernel_rfl
@[go_sem] theorem sz6 : szOf Go.Proofs.Tryd.prog 6 = 1 := by kernel_rfl
@[go_sem] theorem by6 : byOf Go.Proofs.Tryd.prog 6 = 1 := by kernel_rfl
@[go_sem] theorem hT6 : hasT Go.Proofs.Tryd.prog 6 = true := by kernel_rfl
@[go_sem] theorem iS6 : (inf Go.Proofs.Tryd.prog 6).isSome = true := by kernel_rfl
@[go_sem] theorem ag6 : aggB Go.Proofs.Tryd.prog 6 = false := by kernel_rfl
@[go_sem] theorem zo6 : zeroOf Go.Proofs.Tryd.prog 6 = some [.pv (.int .u8 0)] := by kernel_rfl
@[go_sem] theorem sz7 : szOf Go.Proofs.Tryd.prog 7 = 4 := by kernel_rfl
@[go_sem] theorem by7 : byOf Go.Proofs.Tryd.prog 7 = 24 := by kernel_rfl
@[go_sem] theorem hT7 : hasT Go.Proofs.Tryd.prog 7 = true := by kernel_rfl
@[go_sem] theorem iS7 : (inf Go.Proofs.Tryd.prog 7).isSome = true := by kernel_rfl
@[go_sem] theorem ag7 : aggB Go.Proofs.Tryd.prog 7 = true := by kernel_rfl
@[go_sem] theorem zo7 : zeroOf Go.Proofs.Tryd.prog 7 = some [.pv (.int .i64 0), .pv (.int .i64 0), .pv (.bool false), .pv (.int .u8 0)] := by kernel_rfl
@[go_sem] theorem fo7_0 : fieldOff Go.Proofs.Tryd.prog 7 0 = some (0, 2) := by kernel_rfl
@[go_sem] theorem fo7_1 : fieldOff Go.Proofs.Tryd.prog 7 1 = some (1, 3) := by kernel_rfl
@[go_sem] theorem fo7_2 : fieldOff Go.Proofs.Tryd.prog 7 2 = some (2, 4) := by kernel_rfl
@[go_sem] theorem fo7_3 : fieldOff Go.Proofs.Tryd.prog 7 3 = some (3, 6) := by kernel_rfl
@[go_sem] theorem sz8 : szOf Go.Proofs.Tryd.prog 8 = 4 := by kernel_rfl
@[go_sem] theorem by8 : byOf Go.Proofs.Tryd.prog 8 = 24 := by kernel_rfl
@[go_sem] theorem hT8 : hasT Go.Proofs.Tryd.prog 8 = true := by kernel_rfl
@[go_sem] theorem iS8 : (inf Go.Proofs.Tryd.prog 8).isSome = true := by kernel_rfl
@[go_sem] theorem ag8 : aggB Go.Proofs.Tryd.prog 8 = true := by kernel_rfl
@[go_sem] theorem zo8 : zeroOf Go.Proofs.Tryd.prog 8 = some [.pv (.int .i64 0), .pv (.int .i64 0), .pv (.bool false), .pv (.int .u8 0)] := by kernel_rfl
@[go_sem] theorem fo8_0 : fieldOff Go.Proofs.Tryd.prog 8 0 = some (0, 2) := by kernel_rfl
@[go_sem] theorem fo8_1 : fieldOff Go.Proofs.Tryd.prog 8 1 = some (1, 3) := by kernel_rfl
@[go_sem] theorem fo8_2 : fieldOff Go.Proofs.Tryd.prog 8 2 = some (2, 4) := by kernel_rfl
@[go_sem] theorem fo8_3 : fieldOff Go.Proofs.Tryd.prog 8 3 = some (3, 6) := by kernel_rfl
@[go_sem] theorem sz9 : szOf Go.Proofs.Tryd.prog 9 = 1 := by kernel_rfl
@[go_sem] theorem by9 : byOf Go.Proofs.Tryd.prog 9 = 16 := by kernel_rfl
@[go_sem] theorem hT9 : hasT Go.Proofs.Tryd.prog 9 = true := by kernel_rfl
@[go_sem] theorem iS9 : (inf Go.Proofs.Tryd.prog 9).isSome = true := by kernel_rfl
@[go_sem] theorem ag9 : aggB Go.Proofs.Tryd.prog 9 = false := by kernel_rfl
@[go_sem] theorem zo9 : zeroOf Go.Proofs.Tryd.prog 9 = some [.pv (.str [])] := by kernel_rfl
@[go_sem] theorem sz10 : szOf Go.Proofs.Tryd.prog 10 = 1 := by kernel_rfl
@[go_sem] theorem by10 : byOf Go.Proofs.Tryd.prog 10 = 16 := by kernel_rfl
@[go_sem] theorem hT10 : hasT Go.Proofs.Tryd.prog 10 = true := by kernel_rfl
@[go_sem] theorem iS10 : (inf Go.Proofs.Tryd.prog 10).isSome = true := by kernel_rfl
@[go_sem] theorem ag10 : aggB Go.Proofs.Tryd.prog 10 = false := by kernel_rfl
@[go_sem] theorem zo10 : zeroOf Go.Proofs.Tryd.prog 10 = some [.pv (.str [])] := by kernel_rfl
@[go_sem] theorem sz11 : szOf Go.Proofs.Tryd.prog 11 = 1 := by kernel_rfl
@[go_sem] theorem by11 : byOf Go.Proofs.Tryd.prog 11 = 16 := by kernel_rfl
@[go_sem] theorem hT11 : hasT Go.Proofs.Tryd.prog 11 = true := by kernel_rfl
@[go_sem] theorem iS11 : (inf Go.Proofs.Tryd.prog 11).isSome = true := by kernel_rfl
@[go_sem] theorem ag11 : aggB Go.Proofs.Tryd.prog 11 = false := by kernel_rfl
@[go_sem] theorem zo11 : zeroOf Go.Proofs.Tryd.prog 11 = some [.pv (.str [])] := by kernel_rfl
@[go_sem] theorem sz12 : szOf Go.Proofs.Tryd.prog 12 = 1 := by kernel_rfl
@[go_sem] theorem by12 : byOf Go.Proofs.Tryd.prog 12 = 8 := by kernel_rfl
@[go_sem] theorem hT12 : hasT Go.Proofs.Tryd.prog 12 = true := by kernel_rfl
@[go_sem] theorem iS12 : (inf Go.Proofs.Tryd.prog 12).isSome = true := by kernel_rfl
@[go_sem] theorem ag12 : aggB Go.Proofs.Tryd.prog 12 = false := by kernel_rfl
@[go_sem] theorem zo12 : zeroOf Go.Proofs.Tryd.prog 12 = some [.pv (.int .u64 0)] := by kernel_rfl
@[go_sem] theorem sz13 : szOf Go.Proofs.Tryd.prog 13 = 2 := by kernel_rfl
@[go_sem] theorem by13 : byOf Go.Proofs.Tryd.prog 13 = 24 := by kernel_rfl
@[go_sem] theorem hT13 : hasT Go.Proofs.Tryd.prog 13 = true := by kernel_rfl
@[go_sem] theorem iS13 : (inf Go.Proofs.Tryd.prog 13).isSome = true := by kernel_rfl
@[go_sem] theorem ag13 : aggB Go.Proofs.Tryd.prog 13 = true := by kernel_rfl
@[go_sem] theorem zo13 : zeroOf Go.Proofs.Tryd.prog 13 = some [.pv (.str []), .pv (.int .u64 0)] := by kernel_rfl
@[go_sem] theorem fo13_0 : fieldOff Go.Proofs.Tryd.prog 13 0 = some (0, 9) := by kernel_rfl
@[go_sem] theorem fo13_1 : fieldOff Go.Proofs.Tryd.prog 13 1 = some (1, 12) := by kernel_rfl
@[go_sem] theorem sz14 : szOf Go.Proofs.Tryd.prog 14 = 2 := by kernel_rfl
@[go_sem] theorem by14 : byOf Go.Proofs.Tryd.prog 14 = 24 := by kernel_rfl
@[go_sem] theorem hT14 : hasT Go.Proofs.Tryd.prog 14 = true := by kernel_rfl
@[go_sem] theorem iS14 : (inf Go.Proofs.Tryd.prog 14).isSome = true := by kernel_rfl
@[go_sem] theorem ag14 : aggB Go.Proofs.Tryd.prog 14 = true := by kernel_rfl
@[go_sem] theorem zo14 : zeroOf Go.Proofs.Tryd.prog 14 = some [.pv (.str []), .pv (.int .u64 0)] := by kernel_rfl
@[go_sem] theorem fo14_0 : fieldOff Go.Proofs.Tryd.prog 14 0 = some (0, 9) := by kernel_rfl
@[go_sem] theorem fo14_1 : fieldOff Go.Proofs.Tryd.prog 14 1 = some (1, 12) := by kernel_rfl
@[go_sem] theorem sz15 : szOf Go.Proofs.Tryd.prog 15 = 1 := by kernel_rfl
@[go_sem] theorem by15 : byOf Go.Proofs.Tryd.prog 15 = 8 := by kernel_rfl
@[go_sem] theorem hT15 : hasT Go.Proofs.Tryd.prog 15 = true := by kernel_rfl
@[go_sem] theorem iS15 : (inf Go.Proofs.Tryd.prog 15).isSome = true := by kernel_rfl
@[go_sem] theorem ag15 : aggB Go.Proofs.Tryd.prog 15 = false := by kernel_rfl
@[go_sem] theorem zo15 : zeroOf Go.Proofs.Tryd.prog 15 = some [.pv .nilPtr] := by kernel_rfl
@[go_sem] theorem sz16 : szOf Go.Proofs.Tryd.prog 16 = 1 := by kernel_rfl
@[go_sem] theorem by16 : byOf Go.Proofs.Tryd.prog 16 = 8 := by kernel_rfl
@[go_sem] theorem hT16 : hasT Go.Proofs.Tryd.prog 16 = true := by kernel_rfl
@[go_sem] theorem iS16 : (inf Go.Proofs.Tryd.prog 16).isSome = true := by kernel_rfl
@[go_sem] theorem ag16 : aggB Go.Proofs.Tryd.prog 16 = false := by kernel_rfl
@[go_sem] theorem zo16 : zeroOf Go.Proofs.Tryd.prog 16 = some [.pv .nilPtr] := by kernel_rfl
@[go_sem] theorem sz17 : szOf Go.Proofs.Tryd.prog 17 = 1 := by kernel_rfl
@[go_sem] theorem by17 : byOf Go.Proofs.Tryd.prog 17 = 8 := by kernel_rfl
@[go_sem] theorem hT17 : hasT Go.Proofs.Tryd.prog 17 = true := by kernel_rfl
@[go_sem] theorem iS17 : (inf Go.Proofs.Tryd.prog 17).isSome = true := by kernel_rfl
@[go_sem] theorem ag17 : aggB Go.Proofs.Tryd.prog 17 = false := by kernel_rfl
@[go_sem] theorem zo17 : zeroOf Go.Proofs.Tryd.prog 17 = some [.pv .nilPtr] := by kernel_rfl
@[go_sem] theorem sz18 : szOf Go.Proofs.Tryd.prog 18 = 1 := by kernel_rfl
@[go_sem] theorem by18 : byOf Go.Proofs.Tryd.prog 18 = 8 := by kernel_rfl
@[go_sem] theorem hT18 : hasT Go.Proofs.Tryd.prog 18 = true := by kernel_rfl
@[go_sem] theorem iS18 : (inf Go.Proofs.Tryd.prog 18).isSome = true := by kernel_rfl
@[go_sem] theorem ag18 : aggB Go.Proofs.Tryd.prog 18 = true := by kernel_rfl
@[go_sem] theorem zo18 : zeroOf Go.Proofs.Tryd.prog 18 = some [.pv .nilPtr] := by kernel_rfl
@[go_sem] theorem fo18_0 : fieldOff Go.Proofs.Tryd.prog 18 0 = some (0, 17) := by kernel_rfl
@[go_sem] theorem sz19 : szOf Go.Proofs.Tryd.prog 19 = 1 := by kernel_rfl
@[go_sem] theorem by19 : byOf Go.Proofs.Tryd.prog 19 = 8 := by kernel_rfl
@[go_sem] theorem hT19 : hasT Go.Proofs.Tryd.prog 19 = true := by kernel_rfl
@[go_sem] theorem iS19 : (inf Go.Proofs.Tryd.prog 19).isSome = true := by kernel_rfl
@[go_sem] theorem ag19 : aggB Go.Proofs.Tryd.prog 19 = true := by kernel_rfl
@[go_sem] theorem zo19 : zeroOf Go.Proofs.Tryd.prog 19 = some [.pv .nilPtr] := by kernel_rfl
@[go_sem] theorem fo19_0 : fieldOff Go.Proofs.Tryd.prog 19 0 = some (0, 17) := by kernel_rfl
@[go_sem] theorem sz20 : szOf Go.Proofs.Tryd.prog 20 = 1 := by kernel_rfl
@[go_sem] theorem by20 : byOf Go.Proofs.Tryd.prog 20 = 16 := by kernel_rfl
@[go_sem] theorem hT20 : hasT Go.Proofs.Tryd.prog 20 = true := by kernel_rfl
@[go_sem] theorem iS20 : (inf Go.Proofs.Tryd.prog 20).isSome = true := by kernel_rfl
@[go_sem] theorem ag20 : aggB Go.Proofs.Tryd.prog 20 = false := by kernel_rfl
@[go_sem] theorem zo20 : zeroOf Go.Proofs.Tryd.prog 20 = some [.pv .nilIface] := by kernel_rfl
@[go_sem] theorem sz21 : szOf Go.Proofs.Tryd.prog 21 = 1 := by kernel_rfl
@[go_sem] theorem by21 : byOf Go.Proofs.Tryd.prog 21 = 4 := by kernel_rfl
@[go_sem] theorem hT21 : hasT Go.Proofs.Tryd.prog 21 = true := by kernel_rfl
@[go_sem] theorem iS21 : (inf Go.Proofs.Tryd.prog 21).isSome = true := by kernel_rfl
@[go_sem] theorem ag21 : aggB Go.Proofs.Tryd.prog 21 = false := by kernel_rfl
@[go_sem] theorem zo21 : zeroOf Go.Proofs.Tryd.prog 21 = some [.pv (.int .i32 0)] := by kernel_rfl
@[go_sem] theorem sz22 : szOf Go.Proofs.Tryd.prog 22 = 1 := by kernel_rfl
@[go_sem] theorem by22 : byOf Go.Proofs.Tryd.prog 22 = 8 := by kernel_rfl
@[go_sem] theorem hT22 : hasT Go.Proofs.Tryd.prog 22 = true := by kernel_rfl
@[go_sem] theorem iS22 : (inf Go.Proofs.Tryd.prog 22).isSome = true := by kernel_rfl
@[go_sem] theorem ag22 : aggB Go.Proofs.Tryd.prog 22 = false := by kernel_rfl
@[go_sem] theorem zo22 : zeroOf Go.Proofs.Tryd.prog 22 = some [.pv .nilFunc] := by kernel_rfl
@[go_sem] theorem sz23 : szOf Go.Proofs.Tryd.prog 23 = 1 := by kernel_rfl
@[go_sem] theorem by23 : byOf Go.Proofs.Tryd.prog 23 = 24 := by kernel_rfl
@[go_sem] theorem hT23 : hasT Go.Proofs.Tryd.prog 23 = true := by kernel_rfl
@[go_sem] theorem iS23 : (inf Go.Proofs.Tryd.prog 23).isSome = true := by kernel_rfl
@[go_sem] theorem ag23 : aggB Go.Proofs.Tryd.prog 23 = false := by kernel_rfl
@[go_sem] theorem zo23 : zeroOf Go.Proofs.Tryd.prog 23 = some [.nilS] := by kernel_rfl
@[go_sem] theorem el23 : elOf Go.Proofs.Tryd.prog 23 = some 25 := by kernel_rfl
@[go_sem] theorem sz24 : szOf Go.Proofs.Tryd.prog 24 = 1 := by kernel_rfl
@[go_sem] theorem by24 : byOf Go.Proofs.Tryd.prog 24 = 8 := by kernel_rfl
@[go_sem] theorem hT24 : hasT Go.Proofs.Tryd.prog 24 = true := by kernel_rfl
@[go_sem] theorem iS24 : (inf Go.Proofs.Tryd.prog 24).isSome = true := by kernel_rfl
@[go_sem] theorem ag24 : aggB Go.Proofs.Tryd.prog 24 = false := by kernel_rfl
@[go_sem] theorem zo24 : zeroOf Go.Proofs.Tryd.prog 24 = some [.pv .nilFunc] := by kernel_rfl
@[go_sem] theorem sz25 : szOf Go.Proofs.Tryd.prog 25 = 2 := by kernel_rfl
@[go_sem] theorem by25 : byOf Go.Proofs.Tryd.prog 25 = 16 := by kernel_rfl
@[go_sem] theorem hT25 : hasT Go.Proofs.Tryd.prog 25 = true := by kernel_rfl
@[go_sem] theorem iS25 : (inf Go.Proofs.Tryd.prog 25).isSome = true := by kernel_rfl
@[go_sem] theorem ag25 : aggB Go.Proofs.Tryd.prog 25 = true := by kernel_rfl
@[go_sem] theorem zo25 : zeroOf Go.Proofs.Tryd.prog 25 = some [.pv (.int .i64 0), .pv (.int .i64 0)] := by kernel_rfl
@[go_sem] theorem sz26 : szOf Go.Proofs.Tryd.prog 26 = 1 := by kernel_rfl
@[go_sem] theorem by26 : byOf Go.Proofs.Tryd.prog 26 = 8 := by kernel_rfl
@[go_sem] theorem hT26 : hasT Go.Proofs.Tryd.prog 26 = true := by kernel_rfl
@[go_sem] theorem iS26 : (inf Go.Proofs.Tryd.prog 26).isSome = true := by kernel_rfl
@[go_sem] theorem ag26 : aggB Go.Proofs.Tryd.prog 26 = false := by kernel_rfl
@[go_sem] theorem zo26 : zeroOf Go.Proofs.Tryd.prog 26 = some [.pv .nilFunc] := by kernel_rfl
@[go_sem] theorem sz27 : szOf Go.Proofs.Tryd.prog 27 = 1 := by kernel_rfl
@[go_sem] theorem by27 : byOf Go.Proofs.Tryd.prog 27 = 24 := by kernel_rfl
@[go_sem] theorem hT27 : hasT Go.Proofs.Tryd.prog 27 = true := by kernel_rfl
@[go_sem] theorem iS27 : (inf Go.Proofs.Tryd.prog 27).isSome = true := by kernel_rfl
@[go_sem] theorem ag27 : aggB Go.Proofs.Tryd.prog 27 = false := by kernel_rfl
@[go_sem] theorem zo27 : zeroOf Go.Proofs.Tryd.prog 27 = some [.nilS] := by kernel_rfl
@[go_sem] theorem el27 : elOf Go.Proofs.Tryd.prog 27 = some 9 := by kernel_rfl
@[go_sem] theorem sz28 : szOf Go.Proofs.Tryd.prog 28 = 1 := by kernel_rfl
@[go_sem] theorem by28 : byOf Go.Proofs.Tryd.prog 28 = 8 := by kernel_rfl
@[go_sem] theorem hT28 : hasT Go.Proofs.Tryd.prog 28 = true := by kernel_rfl
@[go_sem] theorem iS28 : (inf Go.Proofs.Tryd.prog 28).isSome = true := by kernel_rfl
@[go_sem] theorem ag28 : aggB Go.Proofs.Tryd.prog 28 = false := by kernel_rfl
@[go_sem] theorem zo28 : zeroOf Go.Proofs.Tryd.prog 28 = some [.pv .nilFunc] := by kernel_rfl
@[go_sem] theorem sz29 : szOf Go.Proofs.Tryd.prog 29 = 1 := by kernel_rfl
@[go_sem] theorem by29 : byOf Go.Proofs.Tryd.prog 29 = 8 := by kernel_rfl
@[go_sem] theorem hT29 : hasT Go.Proofs.Tryd.prog 29 = true := by kernel_rfl
@[go_sem] theorem iS29 : (inf Go.Proofs.Tryd.prog 29).isSome = true := by kernel_rfl
@[go_sem] theorem ag29 : aggB Go.Proofs.Tryd.prog 29 = false := by kernel_rfl
@[go_sem] theorem zo29 : zeroOf Go.Proofs.Tryd.prog 29 = some [.pv .nilFunc] := by kernel_rfl
@[go_sem] theorem sz30 : szOf Go.Proofs.Tryd.prog 30 = 1 := by kernel_rfl
@[go_sem] theorem by30 : byOf Go.Proofs.Tryd.prog 30 = 24 := by kernel_rfl
@[go_sem] theorem hT30 : hasT Go.Proofs.Tryd.prog 30 = true := by kernel_rfl
@[go_sem] theorem iS30 : (inf Go.Proofs.Tryd.prog 30).isSome = true := by kernel_rfl
@[go_sem] theorem ag30 : aggB Go.Proofs.Tryd.prog 30 = false := by kernel_rfl
@[go_sem] theorem zo30 : zeroOf Go.Proofs.Tryd.prog 30 = some [.nilS] := by kernel_rfl
@[go_sem] theorem el30 : elOf Go.Proofs.Tryd.prog 30 = some 5 := by kernel_rfl
@[go_sem] theorem sz31 : szOf Go.Proofs.Tryd.prog 31 = 1 := by kernel_rfl
@[go_sem] theorem by31 : byOf Go.Proofs.Tryd.prog 31 = 8 := by kernel_rfl
@[go_sem] theorem hT31 : hasT Go.Proofs.Tryd.prog 31 = true := by kernel_rfl
@[go_sem] theorem iS31 : (inf Go.Proofs.Tryd.prog 31).isSome = true := by kernel_rfl
@[go_sem] theorem ag31 : aggB Go.Proofs.Tryd.prog 31 = false := by kernel_rfl
@[go_sem] theorem zo31 : zeroOf Go.Proofs.Tryd.prog 31 = some [.pv .nilFunc] := by kernel_rfl
@[go_sem] theorem sz32 : szOf Go.Proofs.Tryd.prog 32 = 1 := by kernel_rfl
@[go_sem] theorem by32 : byOf Go.Proofs.Tryd.prog 32 = 0 := by kernel_rfl
@[go_sem] theorem hT32 : hasT Go.Proofs.Tryd.prog 32 = true := by kernel_rfl
@[go_sem] theorem iS32 : (inf Go.Proofs.Tryd.prog 32).isSome = true := by kernel_rfl
@[go_sem] theorem ag32 : aggB Go.Proofs.Tryd.prog 32 = false := by kernel_rfl
@[go_sem] theorem zo32 : zeroOf Go.Proofs.Tryd.prog 32 = some [.undef] := by kernel_rfl
@[go_sem] theorem sz33 : szOf Go.Proofs.Tryd.prog 33 = 1 := by kernel_rfl
@[go_sem] theorem by33 : byOf Go.Proofs.Tryd.prog 33 = 8 := by kernel_rfl
@[go_sem] theorem hT33 : hasT Go.Proofs.Tryd.prog 33 = true := by kernel_rfl
@[go_sem] theorem iS33 : (inf Go.Proofs.Tryd.prog 33).isSome = true := by kernel_rfl
@[go_sem] theorem ag33 : aggB Go.Proofs.Tryd.prog 33 = false := by kernel_rfl
@[go_sem] theorem zo33 : zeroOf Go.Proofs.Tryd.prog 33 = some [.pv .nilFunc] := by kernel_rfl
@[go_sem] theorem sz34 : szOf Go.Proofs.Tryd.prog 34 = 1 := by kernel_rfl
@[go_sem] theorem by34 : byOf Go.Proofs.Tryd.prog 34 = 8 := by kernel_rfl
@[go_sem] theorem hT34 : hasT Go.Proofs.Tryd.prog 34 = true := by kernel_rfl
@[go_sem] theorem iS34 : (inf Go.Proofs.Tryd.prog 34).isSome = true := by kernel_rfl
@[go_sem] theorem ag34 : aggB Go.Proofs.Tryd.prog 34 = false := by kernel_rfl
@[go_sem] theorem zo34 : zeroOf Go.Proofs.Tryd.prog 34 = some [.pv .nilFunc] := by kernel_rfl
@[go_sem] theorem sz35 : szOf Go.Proofs.Tryd.prog 35 = 1 := by kernel_rfl
@[go_sem] theorem by35 : byOf Go.Proofs.Tryd.prog 35 = 24 := by kernel_rfl
@[go_sem] theorem hT35 : hasT Go.Proofs.Tryd.prog 35 = true := by kernel_rfl
@[go_sem] theorem iS35 : (inf Go.Proofs.Tryd.prog 35).isSome = true := by kernel_rfl
@[go_sem] theorem ag35 : aggB Go.Proofs.Tryd.prog 35 = false := by kernel_rfl
@[go_sem] theorem zo35 : zeroOf Go.Proofs.Tryd.prog 35 = some [.nilS] := by kernel_rfl
@[go_sem] theorem el35 : elOf Go.Proofs.Tryd.prog 35 = some 39 := by kernel_rfl
@[go_sem] theorem sz36 : szOf Go.Proofs.Tryd.prog 36 = 1 := by kernel_rfl
@[go_sem] theorem by36 : byOf Go.Proofs.Tryd.prog 36 = 0 := by kernel_rfl
@[go_sem] theorem hT36 : hasT Go.Proofs.Tryd.prog 36 = true := by kernel_rfl
@[go_sem] theorem iS36 : (inf Go.Proofs.Tryd.prog 36).isSome = true := by kernel_rfl
@[go_sem] theorem ag36 : aggB Go.Proofs.Tryd.prog 36 = false := by kernel_rfl
@[go_sem] theorem zo36 : zeroOf Go.Proofs.Tryd.prog 36 = some [.undef] := by kernel_rfl
@[go_sem] theorem sz37 : szOf Go.Proofs.Tryd.prog 37 = 1 := by kernel_rfl
@[go_sem] theorem by37 : byOf Go.Proofs.Tryd.prog 37 = 8 := by kernel_rfl
@[go_sem] theorem hT37 : hasT Go.Proofs.Tryd.prog 37 = true := by kernel_rfl
@[go_sem] theorem iS37 : (inf Go.Proofs.Tryd.prog 37).isSome = true := by kernel_rfl
@[go_sem] theorem ag37 : aggB Go.Proofs.Tryd.prog 37 = false := by kernel_rfl
@[go_sem] theorem zo37 : zeroOf Go.Proofs.Tryd.prog 37 = some [.pv .nilFunc] := by kernel_rfl
@[go_sem] theorem sz38 : szOf Go.Proofs.Tryd.prog 38 = 3 := by kernel_rfl
@[go_sem] theorem by38 : byOf Go.Proofs.Tryd.prog 38 = 56 := by kernel_rfl
@[go_sem] theorem hT38 : hasT Go.Proofs.Tryd.prog 38 = true := by kernel_rfl
@[go_sem] theorem iS38 : (inf Go.Proofs.Tryd.prog 38).isSome = true := by kernel_rfl
@[go_sem] theorem ag38 : aggB Go.Proofs.Tryd.prog 38 = true := by kernel_rfl
@[go_sem] theorem zo38 : zeroOf Go.Proofs.Tryd.prog 38 = some [.pv (.str []), .pv (.str []), .nilS] := by kernel_rfl
@[go_sem] theorem fo38_0 : fieldOff Go.Proofs.Tryd.prog 38 0 = some (0, 9) := by kernel_rfl
@[go_sem] theorem fo38_1 : fieldOff Go.Proofs.Tryd.prog 38 1 = some (1, 9) := by kernel_rfl
@[go_sem] theorem fo38_2 : fieldOff Go.Proofs.Tryd.prog 38 2 = some (2, 35) := by kernel_rfl
@[go_sem] theorem sz39 : szOf Go.Proofs.Tryd.prog 39 = 3 := by kernel_rfl
@[go_sem] theorem by39 : byOf Go.Proofs.Tryd.prog 39 = 56 := by kernel_rfl
@[go_sem] theorem hT39 : hasT Go.Proofs.Tryd.prog 39 = true := by kernel_rfl
@[go_sem] theorem iS39 : (inf Go.Proofs.Tryd.prog 39).isSome = true := by kernel_rfl
@[go_sem] theorem ag39 : aggB Go.Proofs.Tryd.prog 39 = true := by kernel_rfl
@[go_sem] theorem zo39 : zeroOf Go.Proofs.Tryd.prog 39 = some [.pv (.str []), .pv (.str []), .nilS] := by kernel_rfl
@[go_sem] theorem fo39_0 : fieldOff Go.Proofs.Tryd.prog 39 0 = some (0, 9) := by kernel_rfl
@[go_sem] theorem fo39_1 : fieldOff Go.Proofs.Tryd.prog 39 1 = some (1, 9) := by kernel_rfl
@[go_sem] theorem fo39_2 : fieldOff Go.Proofs.Tryd.prog 39 2 = some (2, 35) := by kernel_rfl
@[go_sem] theorem sz40 : szOf Go.Proofs.Tryd.prog 40 = 1 := by kernel_rfl
@[go_sem] theorem by40 : byOf Go.Proofs.Tryd.prog 40 = 8 := by kernel_rfl
@[go_sem] theorem hT40 : hasT Go.Proofs.Tryd.prog 40 = true := by kernel_rfl
@[go_sem] theorem iS40 : (inf Go.Proofs.Tryd.prog 40).isSome = true := by kernel_rfl
@[go_sem] theorem ag40 : aggB Go.Proofs.Tryd.prog 40 = false := by kernel_rfl
@[go_sem] theorem zo40 : zeroOf Go.Proofs.Tryd.prog 40 = some [.pv .nilFunc] := by kernel_rfl
@[go_sem] theorem sz41 : szOf Go.Proofs.Tryd.prog 41 = 1 := by kernel_rfl
@[go_sem] theorem by41 : byOf Go.Proofs.Tryd.prog 41 = 8 := by kernel_rfl
@[go_sem] theorem hT41 : hasT Go.Proofs.Tryd.prog 41 = true := by kernel_rfl
@[go_sem] theorem iS41 : (inf Go.Proofs.Tryd.prog 41).isSome = true := by kernel_rfl
@[go_sem] theorem ag41 : aggB Go.Proofs.Tryd.prog 41 = false := by kernel_rfl
@[go_sem] theorem zo41 : zeroOf Go.Proofs.Tryd.prog 41 = some [.pv .nilFunc] := by kernel_rfl
@[go_sem] theorem sz42 : szOf Go.Proofs.Tryd.prog 42 = 1 := by kernel_rfl
@[go_sem] theorem by42 : byOf Go.Proofs.Tryd.prog 42 = 8 := by kernel_rfl
@[go_sem] theorem hT42 : hasT Go.Proofs.Tryd.prog 42 = true := by kernel_rfl
@[go_sem] theorem iS42 : (inf Go.Proofs.Tryd.prog 42).isSome = true := by kernel_rfl
@[go_sem] theorem ag42 : aggB Go.Proofs.Tryd.prog 42 = false := by kernel_rfl
@[go_sem] theorem zo42 : zeroOf Go.Proofs.Tryd.prog 42 = some [.pv .nilFunc] := by kernel_rfl
@[go_sem] theorem sz43 : szOf Go.Proofs.Tryd.prog 43 = 1 := by kernel_rfl
@[go_sem] theorem by43 : byOf Go.Proofs.Tryd.prog 43 = 8 := by kernel_rfl
@[go_sem] theorem hT43 : hasT Go.Proofs.Tryd.prog 43 = true := by kernel_rfl
@[go_sem] theorem iS43 : (inf Go.Proofs.Tryd.prog 43).isSome = true := by kernel_rfl
@[go_sem] theorem ag43 : aggB Go.Proofs.Tryd.prog 43 = false := by kernel_rfl
@[go_sem] theorem zo43 : zeroOf Go.Proofs.Tryd.prog 43 = some [.pv .nilFunc] := by kernel_rfl
@[go_sem] theorem sz44 : szOf Go.Proofs.Tryd.prog 44 = 1 := by kernel_rfl
@[go_sem] theorem by44 : byOf Go.Proofs.Tryd.prog 44 = 8 := by kernel_rfl
@[go_sem] theorem hT44 : hasT Go.Proofs.Tryd.prog 44 = true := by kernel_rfl
@[go_sem] theorem iS44 : (inf Go.Proofs.Tryd.prog 44).isSome = true := by kernel_rfl
@[go_sem] theorem ag44 : aggB Go.Proofs.Tryd.prog 44 = false := by kernel_rfl
@[go_sem] theorem zo44 : zeroOf Go.Proofs.Tryd.prog 44 = some [.pv .nilFunc] := by kernel_rfl
@[go_sem] theorem sz45 : szOf Go.Proofs.Tryd.prog 45 = 1 := by kernel_rfl
@[go_sem] theorem by45 : byOf Go.Proofs.Tryd.prog 45 = 8 := by kernel_rfl
@[go_sem] theorem hT45 : hasT Go.Proofs.Tryd.prog 45 = true := by kernel_rfl
@[go_sem] theorem iS45 : (inf Go.Proofs.Tryd.prog 45).isSome = true := by kernel_rfl
@[go_sem] theorem ag45 : aggB Go.Proofs.Tryd.prog 45 = false := by kernel_rfl
@[go_sem] theorem zo45 : zeroOf Go.Proofs.Tryd.prog 45 = some [.pv .nilFunc] := by kernel_rfl
@[go_sem] theorem sz46 : szOf Go.Proofs.Tryd.prog 46 = 1 := by kernel_rfl
@[go_sem] theorem by46 : byOf Go.Proofs.Tryd.prog 46 = 8 := by kernel_rfl
@[go_sem] theorem hT46 : hasT Go.Proofs.Tryd.prog 46 = true := by kernel_rfl
@[go_sem] theorem iS46 : (inf Go.Proofs.Tryd.prog 46).isSome = true := by kernel_rfl
@[go_sem] theorem ag46 : aggB Go.Proofs.Tryd.prog 46 = false := by kernel_rfl
@[go_sem] theorem zo46 : zeroOf Go.Proofs.Tryd.prog 46 = some [.pv .nilFunc] := by kernel_rfl
@[go_sem] theorem sz47 : szOf Go.Proofs.Tryd.prog 47 = 1 := by kernel_rfl
@[go_sem] theorem by47 : byOf Go.Proofs.Tryd.prog 47 = 24 := by kernel_rfl
@[go_sem] theorem hT47 : hasT Go.Proofs.Tryd.prog 47 = true := by kernel_rfl
@[go_sem] theorem iS47 : (inf Go.Proofs.Tryd.prog 47).isSome = true := by kernel_rfl
@[go_sem] theorem ag47 : aggB Go.Proofs.Tryd.prog 47 = false := by kernel_rfl
@[go_sem] theorem zo47 : zeroOf Go.Proofs.Tryd.prog 47 = some [.nilS] := by kernel_rfl
@[go_sem] theorem el47 : elOf Go.Proofs.Tryd.prog 47 = some 52 := by kernel_rfl
@[go_sem] theorem sz48 : szOf Go.Proofs.Tryd.prog 48 = 1 := by kernel_rfl
@[go_sem] theorem by48 : byOf Go.Proofs.Tryd.prog 48 = 0 := by kernel_rfl
@[go_sem] theorem hT48 : hasT Go.Proofs.Tryd.prog 48 = true := by kernel_rfl
@[go_sem] theorem iS48 : (inf Go.Proofs.Tryd.prog 48).isSome = true := by kernel_rfl
@[go_sem] theorem ag48 : aggB Go.Proofs.Tryd.prog 48 = false := by kernel_rfl
@[go_sem] theorem zo48 : zeroOf Go.Proofs.Tryd.prog 48 = some [.undef] := by kernel_rfl
@[go_sem] theorem sz49 : szOf Go.Proofs.Tryd.prog 49 = 1 := by kernel_rfl
@[go_sem] theorem by49 : byOf Go.Proofs.Tryd.prog 49 = 8 := by kernel_rfl
@[go_sem] theorem hT49 : hasT Go.Proofs.Tryd.prog 49 = true := by kernel_rfl
@[go_sem] theorem iS49 : (inf Go.Proofs.Tryd.prog 49).isSome = true := by kernel_rfl
@[go_sem] theorem ag49 : aggB Go.Proofs.Tryd.prog 49 = false := by kernel_rfl
@[go_sem] theorem zo49 : zeroOf Go.Proofs.Tryd.prog 49 = some [.pv .nilFunc] := by kernel_rfl
@[go_sem] theorem sz50 : szOf Go.Proofs.Tryd.prog 50 = 1 := by kernel_rfl
@[go_sem] theorem by50 : byOf Go.Proofs.Tryd.prog 50 = 8 := by kernel_rfl
@[go_sem] theorem hT50 : hasT Go.Proofs.Tryd.prog 50 = true := by kernel_rfl
@[go_sem] theorem iS50 : (inf Go.Proofs.Tryd.prog 50).isSome = true := by kernel_rfl
@[go_sem] theorem ag50 : aggB Go.Proofs.Tryd.prog 50 = false := by kernel_rfl
@[go_sem] theorem zo50 : zeroOf Go.Proofs.Tryd.prog 50 = some [.pv .nilFunc] := by kernel_rfl
@[go_sem] theorem sz51 : szOf Go.Proofs.Tryd.prog 51 = 2 := by kernel_rfl
@[go_sem] theorem by51 : byOf Go.Proofs.Tryd.prog 51 = 32 := by kernel_rfl
@[go_sem] theorem hT51 : hasT Go.Proofs.Tryd.prog 51 = true := by kernel_rfl
@[go_sem] theorem iS51 : (inf Go.Proofs.Tryd.prog 51).isSome = true := by kernel_rfl
@[go_sem] theorem ag51 : aggB Go.Proofs.Tryd.prog 51 = true := by kernel_rfl
@[go_sem] theorem zo51 : zeroOf Go.Proofs.Tryd.prog 51 = some [.pv (.str []), .pv (.str [])] := by kernel_rfl
@[go_sem] theorem fo51_0 : fieldOff Go.Proofs.Tryd.prog 51 0 = some (0, 9) := by kernel_rfl
@[go_sem] theorem fo51_1 : fieldOff Go.Proofs.Tryd.prog 51 1 = some (1, 9) := by kernel_rfl
@[go_sem] theorem sz52 : szOf Go.Proofs.Tryd.prog 52 = 2 := by kernel_rfl
@[go_sem] theorem by52 : byOf Go.Proofs.Tryd.prog 52 = 32 := by kernel_rfl
@[go_sem] theorem hT52 : hasT Go.Proofs.Tryd.prog 52 = true := by kernel_rfl
@[go_sem] theorem iS52 : (inf Go.Proofs.Tryd.prog 52).isSome = true := by kernel_rfl
@[go_sem] theorem ag52 : aggB Go.Proofs.Tryd.prog 52 = true := by kernel_rfl
@[go_sem] theorem zo52 : zeroOf Go.Proofs.Tryd.prog 52 = some [.pv (.str []), .pv (.str [])] := by kernel_rfl
@[go_sem] theorem fo52_0 : fieldOff Go.Proofs.Tryd.prog 52 0 = some (0, 9) := by kernel_rfl
@[go_sem] theorem fo52_1 : fieldOff Go.Proofs.Tryd.prog 52 1 = some (1, 9) := by kernel_rfl
@[go_sem] theorem sz53 : szOf Go.Proofs.Tryd.prog 53 = 0 := by kernel_rfl
@[go_sem] theorem by53 : byOf Go.Proofs.Tryd.prog 53 = 0 := by kernel_rfl
@[go_sem] theorem hT53 : hasT Go.Proofs.Tryd.prog 53 = true := by kernel_rfl
@[go_sem] theorem iS53 : (inf Go.Proofs.Tryd.prog 53).isSome = true := by kernel_rfl
@[go_sem] theorem ag53 : aggB Go.Proofs.Tryd.prog 53 = true := by kernel_rfl
@[go_sem] theorem zo53 : zeroOf Go.Proofs.Tryd.prog 53 = some [] := by kernel_rfl
@[go_sem] theorem sz54 : szOf Go.Proofs.Tryd.prog 54 = 0 := by kernel_rfl
@[go_sem] theorem by54 : byOf Go.Proofs.Tryd.prog 54 = 0 := by kernel_rfl
@[go_sem] theorem hT54 : hasT Go.Proofs.Tryd.prog 54 = true := by kernel_rfl
@[go_sem] theorem iS54 : (inf Go.Proofs.Tryd.prog 54).isSome = true := by kernel_rfl
@[go_sem] theorem ag54 : aggB Go.Proofs.Tryd.prog 54 = true := by kernel_rfl
@[go_sem] theorem zo54 : zeroOf Go.Proofs.Tryd.prog 54 = some [] := by kernel_rfl
@[go_sem] theorem sz55 : szOf Go.Proofs.Tryd.prog 55 = 1 := by kernel_rfl
@[go_sem] theorem by55 : byOf Go.Proofs.Tryd.prog 55 = 0 := by kernel_rfl
@[go_sem] theorem hT55 : hasT Go.Proofs.Tryd.prog 55 = true := by kernel_rfl
@[go_sem] theorem iS55 : (inf Go.Proofs.Tryd.prog 55).isSome = true := by kernel_rfl
@[go_sem] theorem ag55 : aggB Go.Proofs.Tryd.prog 55 = false := by kernel_rfl
@[go_sem] theorem zo55 : zeroOf Go.Proofs.Tryd.prog 55 = some [.undef] := by kernel_rfl
@[go_sem] theorem sz56 : szOf Go.Proofs.Tryd.prog 56 = 1 := by kernel_rfl
@[go_sem] theorem by56 : byOf Go.Proofs.Tryd.prog 56 = 8 := by kernel_rfl
@[go_sem] theorem hT56 : hasT Go.Proofs.Tryd.prog 56 = true := by kernel_rfl
@[go_sem] theorem iS56 : (inf Go.Proofs.Tryd.prog 56).isSome = true := by kernel_rfl
@[go_sem] theorem ag56 : aggB Go.Proofs.Tryd.prog 56 = false := by kernel_rfl
@[go_sem] theorem zo56 : zeroOf Go.Proofs.Tryd.prog 56 = some [.pv .nilFunc] := by kernel_rfl
@[go_sem] theorem sz57 : szOf Go.Proofs.Tryd.prog 57 = 1 := by kernel_rfl
@[go_sem] theorem by57 : byOf Go.Proofs.Tryd.prog 57 = 8 := by kernel_rfl
@[go_sem] theorem hT57 : hasT Go.Proofs.Tryd.prog 57 = true := by kernel_rfl
@[go_sem] theorem iS57 : (inf Go.Proofs.Tryd.prog 57).isSome = true := by kernel_rfl
@[go_sem] theorem ag57 : aggB Go.Proofs.Tryd.prog 57 = false := by kernel_rfl
@[go_sem] theorem zo57 : zeroOf Go.Proofs.Tryd.prog 57 = some [.pv .nilPtr] := by kernel_rfl
@[go_sem] theorem sz58 : szOf Go.Proofs.Tryd.prog 58 = 1 := by kernel_rfl
@[go_sem] theorem by58 : byOf Go.Proofs.Tryd.prog 58 = 24 := by kernel_rfl
@[go_sem] theorem hT58 : hasT Go.Proofs.Tryd.prog 58 = true := by kernel_rfl
@[go_sem] theorem iS58 : (inf Go.Proofs.Tryd.prog 58).isSome = true := by kernel_rfl
@[go_sem] theorem ag58 : aggB Go.Proofs.Tryd.prog 58 = true := by kernel_rfl
@[go_sem] theorem zo58 : zeroOf Go.Proofs.Tryd.prog 58 = some [.nilS] := by kernel_rfl
@[go_sem] theorem fo58_0 : fieldOff Go.Proofs.Tryd.prog 58 0 = some (0, 47) := by kernel_rfl
@[go_sem] theorem sz59 : szOf Go.Proofs.Tryd.prog 59 = 1 := by kernel_rfl
@[go_sem] theorem by59 : byOf Go.Proofs.Tryd.prog 59 = 24 := by kernel_rfl
@[go_sem] theorem hT59 : hasT Go.Proofs.Tryd.prog 59 = true := by kernel_rfl
@[go_sem] theorem iS59 : (inf Go.Proofs.Tryd.prog 59).isSome = true := by kernel_rfl
@[go_sem] theorem ag59 : aggB Go.Proofs.Tryd.prog 59 = true := by kernel_rfl
@[go_sem] theorem zo59 : zeroOf Go.Proofs.Tryd.prog 59 = some [.nilS] := by kernel_rfl
@[go_sem] theorem fo59_0 : fieldOff Go.Proofs.Tryd.prog 59 0 = some (0, 47) := by kernel_rfl
@[go_sem] theorem sz60 : szOf Go.Proofs.Tryd.prog 60 = 1 := by kernel_rfl
@[go_sem] theorem by60 : byOf Go.Proofs.Tryd.prog 60 = 0 := by kernel_rfl
@[go_sem] theorem hT60 : hasT Go.Proofs.Tryd.prog 60 = true := by kernel_rfl
@[go_sem] theorem iS60 : (inf Go.Proofs.Tryd.prog 60).isSome = true := by kernel_rfl
@[go_sem] theorem ag60 : aggB Go.Proofs.Tryd.prog 60 = false := by kernel_rfl
@[go_sem] theorem zo60 : zeroOf Go.Proofs.Tryd.prog 60 = some [.undef] := by kernel_rfl
@[go_sem] theorem sz61 : szOf Go.Proofs.Tryd.prog 61 = 1 := by kernel_rfl
@[go_sem] theorem by61 : byOf Go.Proofs.Tryd.prog 61 = 8 := by kernel_rfl
@[go_sem] theorem hT61 : hasT Go.Proofs.Tryd.prog 61 = true := by kernel_rfl
@[go_sem] theorem iS61 : (inf Go.Proofs.Tryd.prog 61).isSome = true := by kernel_rfl
@[go_sem] theorem ag61 : aggB Go.Proofs.Tryd.prog 61 = false := by kernel_rfl
@[go_sem] theorem zo61 : zeroOf Go.Proofs.Tryd.prog 61 = some [.pv .nilFunc] := by kernel_rfl
@[go_sem] theorem sz62 : szOf Go.Proofs.Tryd.prog 62 = 1 := by kernel_rfl
@[go_sem] theorem by62 : byOf Go.Proofs.Tryd.prog 62 = 8 := by kernel_rfl
@[go_sem] theorem hT62 : hasT Go.Proofs.Tryd.prog 62 = true := by kernel_rfl
@[go_sem] theorem iS62 : (inf Go.Proofs.Tryd.prog 62).isSome = true := by kernel_rfl
@[go_sem] theorem ag62 : aggB Go.Proofs.Tryd.prog 62 = false := by kernel_rfl
@[go_sem] theorem zo62 : zeroOf Go.Proofs.Tryd.prog 62 = some [.pv .nilFunc] := by kernel_rfl
@[go_sem] theorem sz63 : szOf Go.Proofs.Tryd.prog 63 = 3 := by kernel_rfl
@[go_sem] theorem by63 : byOf Go.Proofs.Tryd.prog 63 = 3 := by kernel_rfl
@[go_sem] theorem hT63 : hasT Go.Proofs.Tryd.prog 63 = true := by kernel_rfl
@[go_sem] theorem iS63 : (inf Go.Proofs.Tryd.prog 63).isSome = true := by kernel_rfl
@[go_sem] theorem ag63 : aggB Go.Proofs.Tryd.prog 63 = true := by kernel_rfl
@[go_sem] theorem zo63 : zeroOf Go.Proofs.Tryd.prog 63 = some [.pv (.bool false), .pv (.bool false), .pv (.bool false)] := by kernel_rfl
@[go_sem] theorem fo63_0 : fieldOff Go.Proofs.Tryd.prog 63 0 = some (0, 4) := by kernel_rfl
@[go_sem] theorem fo63_1 : fieldOff Go.Proofs.Tryd.prog 63 1 = some (1, 4) := by kernel_rfl
@[go_sem] theorem fo63_2 : fieldOff Go.Proofs.Tryd.prog 63 2 = some (2, 4) := by kernel_rfl
@[go_sem] theorem sz64 : szOf Go.Proofs.Tryd.prog 64 = 3 := by kernel_rfl
@[go_sem] theorem by64 : byOf Go.Proofs.Tryd.prog 64 = 3 := by kernel_rfl
@[go_sem] theorem hT64 : hasT Go.Proofs.Tryd.prog 64 = true := by kernel_rfl
@[go_sem] theorem iS64 : (inf Go.Proofs.Tryd.prog 64).isSome = true := by kernel_rfl
@[go_sem] theorem ag64 : aggB Go.Proofs.Tryd.prog 64 = true := by kernel_rfl
@[go_sem] theorem zo64 : zeroOf Go.Proofs.Tryd.prog 64 = some [.pv (.bool false), .pv (.bool false), .pv (.bool false)] := by kernel_rfl
@[go_sem] theorem fo64_0 : fieldOff Go.Proofs.Tryd.prog 64 0 = some (0, 4) := by kernel_rfl
@[go_sem] theorem fo64_1 : fieldOff Go.Proofs.Tryd.prog 64 1 = some (1, 4) := by kernel_rfl
@[go_sem] theorem fo64_2 : fieldOff Go.Proofs.Tryd.prog 64 2 = some (2, 4) := by kernel_rfl
@[go_sem] theorem sz65 : szOf Go.Proofs.Tryd.prog 65 = 1 := by kernel_rfl
@[go_sem] theorem by65 : byOf Go.Proofs.Tryd.prog 65 = 8 := by kernel_rfl
@[go_sem] theorem hT65 : hasT Go.Proofs.Tryd.prog 65 = true := by kernel_rfl
@[go_sem] theorem iS65 : (inf Go.Proofs.Tryd.prog 65).isSome = true := by kernel_rfl
@[go_sem] theorem ag65 : aggB Go.Proofs.Tryd.prog 65 = false := by kernel_rfl
@[go_sem] theorem zo65 : zeroOf Go.Proofs.Tryd.prog 65 = some [.pv .nilFunc] := by kernel_rfl
@[go_sem] theorem sz66 : szOf Go.Proofs.Tryd.prog 66 = 1 := by kernel_rfl
@[go_sem] theorem by66 : byOf Go.Proofs.Tryd.prog 66 = 8 := by kernel_rfl
@[go_sem] theorem hT66 : hasT Go.Proofs.Tryd.prog 66 = true := by kernel_rfl
@[go_sem] theorem iS66 : (inf Go.Proofs.Tryd.prog 66).isSome = true := by kernel_rfl
@[go_sem] theorem ag66 : aggB Go.Proofs.Tryd.prog 66 = false := by kernel_rfl
@[go_sem] theorem zo66 : zeroOf Go.Proofs.Tryd.prog 66 = some [.pv .nilFunc] := by kernel_rfl
@[go_sem] theorem sz67 : szOf Go.Proofs.Tryd.prog 67 = 1 := by kernel_rfl
@[go_sem] theorem by67 : byOf Go.Proofs.Tryd.prog 67 = 8 := by kernel_rfl
@[go_sem] theorem hT67 : hasT Go.Proofs.Tryd.prog 67 = true := by kernel_rfl
@[go_sem] theorem iS67 : (inf Go.Proofs.Tryd.prog 67).isSome = true := by kernel_rfl
@[go_sem] theorem ag67 : aggB Go.Proofs.Tryd.prog 67 = false := by kernel_rfl
@[go_sem] theorem zo67 : zeroOf Go.Proofs.Tryd.prog 67 = some [.pv .nilFunc] := by kernel_rfl
@[go_sem] theorem sz68 : szOf Go.Proofs.Tryd.prog 68 = 1 := by kernel_rfl
@[go_sem] theorem by68 : byOf Go.Proofs.Tryd.prog 68 = 8 := by kernel_rfl
@[go_sem] theorem hT68 : hasT Go.Proofs.Tryd.prog 68 = true := by kernel_rfl
@[go_sem] theorem iS68 : (inf Go.Proofs.Tryd.prog 68).isSome = true := by kernel_rfl
@[go_sem] theorem ag68 : aggB Go.Proofs.Tryd.prog 68 = false := by kernel_rfl
@[go_sem] theorem zo68 : zeroOf Go.Proofs.Tryd.prog 68 = some [.pv .nilFunc] := by kernel_rfl
@[go_sem] theorem sz69 : szOf Go.Proofs.Tryd.prog 69 = 1 := by kernel_rfl
@[go_sem] theorem by69 : byOf Go.Proofs.Tryd.prog 69 = 8 := by kernel_rfl
@[go_sem] theorem hT69 : hasT Go.Proofs.Tryd.prog 69 = true := by kernel_rfl
@[go_sem] theorem iS69 : (inf Go.Proofs.Tryd.prog 69).isSome = true := by kernel_rfl
@[go_sem] theorem ag69 : aggB Go.Proofs.Tryd.prog 69 = false := by kernel_rfl
@[go_sem] theorem zo69 : zeroOf Go.Proofs.Tryd.prog 69 = some [.pv .nilFunc] := by kernel_rfl
@[go_sem] theorem sz70 : szOf Go.Proofs.Tryd.prog 70 = 1 := by kernel_rfl
@[go_sem] theorem by70 : byOf Go.Proofs.Tryd.prog 70 = 8 := by kernel_rfl
@[go_sem] theorem hT70 : hasT Go.Proofs.Tryd.prog 70 = true := by kernel_rfl
@[go_sem] theorem iS70 : (inf Go.Proofs.Tryd.prog 70).isSome = true := by kernel_rfl
@[go_sem] theorem ag70 : aggB Go.Proofs.Tryd.prog 70 = false := by kernel_rfl
@[go_sem] theorem zo70 : zeroOf Go.Proofs.Tryd.prog 70 = some [.pv .nilPtr] := by kernel_rfl
@[go_sem] theorem sz71 : szOf Go.Proofs.Tryd.prog 71 = 2 := by kernel_rfl
@[go_sem] theorem by71 : byOf Go.Proofs.Tryd.prog 71 = 40 := by kernel_rfl
@[go_sem] theorem hT71 : hasT Go.Proofs.Tryd.prog 71 = true := by kernel_rfl
@[go_sem] theorem iS71 : (inf Go.Proofs.Tryd.prog 71).isSome = true := by kernel_rfl
@[go_sem] theorem ag71 : aggB Go.Proofs.Tryd.prog 71 = true := by kernel_rfl
@[go_sem] theorem zo71 : zeroOf Go.Proofs.Tryd.prog 71 = some [.pv (.str []), .nilS] := by kernel_rfl
@[go_sem] theorem fo71_0 : fieldOff Go.Proofs.Tryd.prog 71 0 = some (0, 9) := by kernel_rfl
@[go_sem] theorem fo71_1 : fieldOff Go.Proofs.Tryd.prog 71 1 = some (1, 47) := by kernel_rfl
@[go_sem] theorem sz72 : szOf Go.Proofs.Tryd.prog 72 = 2 := by kernel_rfl
@[go_sem] theorem by72 : byOf Go.Proofs.Tryd.prog 72 = 40 := by kernel_rfl
@[go_sem] theorem hT72 : hasT Go.Proofs.Tryd.prog 72 = true := by kernel_rfl
@[go_sem] theorem iS72 : (inf Go.Proofs.Tryd.prog 72).isSome = true := by kernel_rfl
@[go_sem] theorem ag72 : aggB Go.Proofs.Tryd.prog 72 = true := by kernel_rfl
@[go_sem] theorem zo72 : zeroOf Go.Proofs.Tryd.prog 72 = some [.pv (.str []), .nilS] := by kernel_rfl
@[go_sem] theorem fo72_0 : fieldOff Go.Proofs.Tryd.prog 72 0 = some (0, 9) := by kernel_rfl
@[go_sem] theorem fo72_1 : fieldOff Go.Proofs.Tryd.prog 72 1 = some (1, 47) := by kernel_rfl
@[go_sem] theorem sz73 : szOf Go.Proofs.Tryd.prog 73 = 1 := by kernel_rfl
@[go_sem] theorem by73 : byOf Go.Proofs.Tryd.prog 73 = 8 := by kernel_rfl
@[go_sem] theorem hT73 : hasT Go.Proofs.Tryd.prog 73 = true := by kernel_rfl
@[go_sem] theorem iS73 : (inf Go.Proofs.Tryd.prog 73).isSome = true := by kernel_rfl
@[go_sem] theorem ag73 : aggB Go.Proofs.Tryd.prog 73 = false := by kernel_rfl
@[go_sem] theorem zo73 : zeroOf Go.Proofs.Tryd.prog 73 = some [.pv .nilPtr] := by kernel_rfl
@[go_sem] theorem sz74 : szOf Go.Proofs.Tryd.prog 74 = 2 := by kernel_rfl
@[go_sem] theorem by74 : byOf Go.Proofs.Tryd.prog 74 = 32 := by kernel_rfl
@[go_sem] theorem hT74 : hasT Go.Proofs.Tryd.prog 74 = true := by kernel_rfl
@[go_sem] theorem iS74 : (inf Go.Proofs.Tryd.prog 74).isSome = true := by kernel_rfl
@[go_sem] theorem ag74 : aggB Go.Proofs.Tryd.prog 74 = true := by kernel_rfl
@[go_sem] theorem zo74 : zeroOf Go.Proofs.Tryd.prog 74 = some [.pv .nilPtr, .nilS] := by kernel_rfl
@[go_sem] theorem fo74_0 : fieldOff Go.Proofs.Tryd.prog 74 0 = some (0, 73) := by kernel_rfl
@[go_sem] theorem fo74_1 : fieldOff Go.Proofs.Tryd.prog 74 1 = some (1, 30) := by kernel_rfl
@[go_sem] theorem sz75 : szOf Go.Proofs.Tryd.prog 75 = 2 := by kernel_rfl
@[go_sem] theorem by75 : byOf Go.Proofs.Tryd.prog 75 = 32 := by kernel_rfl
@[go_sem] theorem hT75 : hasT Go.Proofs.Tryd.prog 75 = true := by kernel_rfl
@[go_sem] theorem iS75 : (inf Go.Proofs.Tryd.prog 75).isSome = true := by kernel_rfl
@[go_sem] theorem ag75 : aggB Go.Proofs.Tryd.prog 75 = true := by kernel_rfl
@[go_sem] theorem zo75 : zeroOf Go.Proofs.Tryd.prog 75 = some [.pv .nilPtr, .nilS] := by kernel_rfl
@[go_sem] theorem fo75_0 : fieldOff Go.Proofs.Tryd.prog 75 0 = some (0, 73) := by kernel_rfl
@[go_sem] theorem fo75_1 : fieldOff Go.Proofs.Tryd.prog 75 1 = some (1, 30) := by kernel_rfl
@[go_sem] theorem sz76 : szOf Go.Proofs.Tryd.prog 76 = 1 := by kernel_rfl
@[go_sem] theorem by76 : byOf Go.Proofs.Tryd.prog 76 = 16 := by kernel_rfl
@[go_sem] theorem hT76 : hasT Go.Proofs.Tryd.prog 76 = true := by kernel_rfl
@[go_sem] theorem iS76 : (inf Go.Proofs.Tryd.prog 76).isSome = true := by kernel_rfl
@[go_sem] theorem ag76 : aggB Go.Proofs.Tryd.prog 76 = false := by kernel_rfl
@[go_sem] theorem zo76 : zeroOf Go.Proofs.Tryd.prog 76 = some [.pv .nilIface] := by kernel_rfl
@[go_sem] theorem sz77 : szOf Go.Proofs.Tryd.prog 77 = 1 := by kernel_rfl
@[go_sem] theorem by77 : byOf Go.Proofs.Tryd.prog 77 = 16 := by kernel_rfl
@[go_sem] theorem hT77 : hasT Go.Proofs.Tryd.prog 77 = true := by kernel_rfl
@[go_sem] theorem iS77 : (inf Go.Proofs.Tryd.prog 77).isSome = true := by kernel_rfl
@[go_sem] theorem ag77 : aggB Go.Proofs.Tryd.prog 77 = false := by kernel_rfl
@[go_sem] theorem zo77 : zeroOf Go.Proofs.Tryd.prog 77 = some [.pv .nilIface] := by kernel_rfl
@[go_sem] theorem sz78 : szOf Go.Proofs.Tryd.prog 78 = 1 := by kernel_rfl
@[go_sem] theorem by78 : byOf Go.Proofs.Tryd.prog 78 = 0 := by kernel_rfl
@[go_sem] theorem hT78 : hasT Go.Proofs.Tryd.prog 78 = true := by kernel_rfl
@[go_sem] theorem iS78 : (inf Go.Proofs.Tryd.prog 78).isSome = true := by kernel_rfl
@[go_sem] theorem ag78 : aggB Go.Proofs.Tryd.prog 78 = false := by kernel_rfl
@[go_sem] theorem zo78 : zeroOf Go.Proofs.Tryd.prog 78 = some [.undef] := by kernel_rfl
@[go_sem] theorem sz79 : szOf Go.Proofs.Tryd.prog 79 = 1 := by kernel_rfl
@[go_sem] theorem by79 : byOf Go.Proofs.Tryd.prog 79 = 8 := by kernel_rfl
@[go_sem] theorem hT79 : hasT Go.Proofs.Tryd.prog 79 = true := by kernel_rfl
@[go_sem] theorem iS79 : (inf Go.Proofs.Tryd.prog 79).isSome = true := by kernel_rfl
@[go_sem] theorem ag79 : aggB Go.Proofs.Tryd.prog 79 = false := by kernel_rfl
@[go_sem] theorem zo79 : zeroOf Go.Proofs.Tryd.prog 79 = some [.pv .nilFunc] := by kernel_rfl
@[go_sem] theorem sz80 : szOf Go.Proofs.Tryd.prog 80 = 1 := by kernel_rfl
@[go_sem] theorem by80 : byOf Go.Proofs.Tryd.prog 80 = 8 := by kernel_rfl
@[go_sem] theorem hT80 : hasT Go.Proofs.Tryd.prog 80 = true := by kernel_rfl
@[go_sem] theorem iS80 : (inf Go.Proofs.Tryd.prog 80).isSome = true := by kernel_rfl
@[go_sem] theorem ag80 : aggB Go.Proofs.Tryd.prog 80 = false := by kernel_rfl
@[go_sem] theorem zo80 : zeroOf Go.Proofs.Tryd.prog 80 = some [.pv .nilFunc] := by kernel_rfl
@[go_sem] theorem sz81 : szOf Go.Proofs.Tryd.prog 81 = 1 := by kernel_rfl
@[go_sem] theorem by81 : byOf Go.Proofs.Tryd.prog 81 = 8 := by kernel_rfl
@[go_sem] theorem hT81 : hasT Go.Proofs.Tryd.prog 81 = true := by kernel_rfl
@[go_sem] theorem iS81 : (inf Go.Proofs.Tryd.prog 81).isSome = true := by kernel_rfl
@[go_sem] theorem ag81 : aggB Go.Proofs.Tryd.prog 81 = false := by kernel_rfl
@[go_sem] theorem zo81 : zeroOf Go.Proofs.Tryd.prog 81 = some [.pv .nilFunc] := by kernel_rfl
@[go_sem] theorem sz82 : szOf Go.Proofs.Tryd.prog 82 = 1 := by kernel_rfl
@[go_sem] theorem by82 : byOf Go.Proofs.Tryd.prog 82 = 8 := by kernel_rfl
@[go_sem] theorem hT82 : hasT Go.Proofs.Tryd.prog 82 = true := by kernel_rfl
@[go_sem] theorem iS82 : (inf Go.Proofs.Tryd.prog 82).isSome = true := by kernel_rfl
@[go_sem] theorem ag82 : aggB Go.Proofs.Tryd.prog 82 = false := by kernel_rfl
@[go_sem] theorem zo82 : zeroOf Go.Proofs.Tryd.prog 82 = some [.pv .nilFunc] := by kernel_rfl
@[go_sem] theorem sz83 : szOf Go.Proofs.Tryd.prog 83 = 1 := by kernel_rfl
@[go_sem] theorem by83 : byOf Go.Proofs.Tryd.prog 83 = 0 := by kernel_rfl
@[go_sem] theorem hT83 : hasT Go.Proofs.Tryd.prog 83 = true := by kernel_rfl
@[go_sem] theorem iS83 : (inf Go.Proofs.Tryd.prog 83).isSome = true := by kernel_rfl
@[go_sem] theorem ag83 : aggB Go.Proofs.Tryd.prog 83 = false := by kernel_rfl
@[go_sem] theorem zo83 : zeroOf Go.Proofs.Tryd.prog 83 = some [.undef] := by kernel_rfl
@[go_sem] theorem sz84 : szOf Go.Proofs.Tryd.prog 84 = 1 := by kernel_rfl
@[go_sem] theorem by84 : byOf Go.Proofs.Tryd.prog 84 = 8 := by kernel_rfl
@[go_sem] theorem hT84 : hasT Go.Proofs.Tryd.prog 84 = true := by kernel_rfl
@[go_sem] theorem iS84 : (inf Go.Proofs.Tryd.prog 84).isSome = true := by kernel_rfl
@[go_sem] theorem ag84 : aggB Go.Proofs.Tryd.prog 84 = false := by kernel_rfl
@[go_sem] theorem zo84 : zeroOf Go.Proofs.Tryd.prog 84 = some [.pv .nilFunc] := by kernel_rfl
@[go_sem] theorem sz85 : szOf Go.Proofs.Tryd.prog 85 = 1 := by kernel_rfl
@[go_sem] theorem by85 : byOf Go.Proofs.Tryd.prog 85 = 8 := by kernel_rfl
@[go_sem] theorem hT85 : hasT Go.Proofs.Tryd.prog 85 = true := by kernel_rfl
@[go_sem] theorem iS85 : (inf Go.Proofs.Tryd.prog 85).isSome = true := by kernel_rfl
@[go_sem] theorem ag85 : aggB Go.Proofs.Tryd.prog 85 = false := by kernel_rfl
@[go_sem] theorem zo85 : zeroOf Go.Proofs.Tryd.prog 85 = some [.pv .nilFunc] := by kernel_rfl
@[go_sem] theorem sz86 : szOf Go.Proofs.Tryd.prog 86 = 1 := by kernel_rfl
@[go_sem] theorem by86 : byOf Go.Proofs.Tryd.prog 86 = 8 := by kernel_rfl
@[go_sem] theorem hT86 : hasT Go.Proofs.Tryd.prog 86 = true := by kernel_rfl
@[go_sem] theorem iS86 : (inf Go.Proofs.Tryd.prog 86).isSome = true := by kernel_rfl
@[go_sem] theorem ag86 : aggB Go.Proofs.Tryd.prog 86 = false := by kernel_rfl
@[go_sem] theorem zo86 : zeroOf Go.Proofs.Tryd.prog 86 = some [.pv .nilFunc] := by kernel_rfl
@[go_sem] theorem sz87 : szOf Go.Proofs.Tryd.prog 87 = 1 := by kernel_rfl
@[go_sem] theorem by87 : byOf Go.Proofs.Tryd.prog 87 = 8 := by kernel_rfl
@[go_sem] theorem hT87 : hasT Go.Proofs.Tryd.prog 87 = true := by kernel_rfl
@[go_sem] theorem iS87 : (inf Go.Proofs.Tryd.prog 87).isSome = true := by kernel_rfl
@[go_sem] theorem ag87 : aggB Go.Proofs.Tryd.prog 87 = false := by kernel_rfl
@[go_sem] theorem zo87 : zeroOf Go.Proofs.Tryd.prog 87 = some [.pv .nilFunc] := by kernel_rfl
@[go_sem] theorem sz88 : szOf Go.Proofs.Tryd.prog 88 = 1 := by kernel_rfl
@[go_sem] theorem by88 : byOf Go.Proofs.Tryd.prog 88 = 8 := by kernel_rfl
@[go_sem] theorem hT88 : hasT Go.Proofs.Tryd.prog 88 = true := by kernel_rfl
@[go_sem] theorem iS88 : (inf Go.Proofs.Tryd.prog 88).isSome = true := by kernel_rfl
@[go_sem] theorem ag88 : aggB Go.Proofs.Tryd.prog 88 = false := by kernel_rfl
@[go_sem] theorem zo88 : zeroOf Go.Proofs.Tryd.prog 88 = some [.pv .nilFunc] := by kernel_rfl
@[go_sem] theorem sz89 : szOf Go.Proofs.Tryd.prog 89 = 1 := by kernel_rfl
@[go_sem] theorem by89 : byOf Go.Proofs.Tryd.prog 89 = 8 := by kernel_rfl
@[go_sem] theorem hT89 : hasT Go.Proofs.Tryd.prog 89 = true := by kernel_rfl
@[go_sem] theorem iS89 : (inf Go.Proofs.Tryd.prog 89).isSome = true := by kernel_rfl
@[go_sem] theorem ag89 : aggB Go.Proofs.Tryd.prog 89 = false := by kernel_rfl
@[go_sem] theorem zo89 : zeroOf Go.Proofs.Tryd.prog 89 = some [.pv .nilFunc] := by kernel_rfl
@[go_sem] theorem sz90 : szOf Go.Proofs.Tryd.prog 90 = 1 := by kernel_rfl
@[go_sem] theorem by90 : byOf Go.Proofs.Tryd.prog 90 = 8 := by kernel_rfl
@[go_sem] theorem hT90 : hasT Go.Proofs.Tryd.prog 90 = true := by kernel_rfl
@[go_sem] theorem iS90 : (inf Go.Proofs.Tryd.prog 90).isSome = true := by kernel_rfl
@[go_sem] theorem ag90 : aggB Go.Proofs.Tryd.prog 90 = false := by kernel_rfl
@[go_sem] theorem zo90 : zeroOf Go.Proofs.Tryd.prog 90 = some [.pv .nilFunc] := by kernel_rfl
@[go_sem] theorem sz91 : szOf Go.Proofs.Tryd.prog 91 = 1 := by kernel_rfl
@[go_sem] theorem by91 : byOf Go.Proofs.Tryd.prog 91 = 8 := by kernel_rfl
@[go_sem] theorem hT91 : hasT Go.Proofs.Tryd.prog 91 = true := by kernel_rfl
@[go_sem] theorem iS91 : (inf Go.Proofs.Tryd.prog 91).isSome = true := by kernel_rfl
@[go_sem] theorem ag91 : aggB Go.Proofs.Tryd.prog 91 = false := by kernel_rfl
@[go_sem] theorem zo91 : zeroOf Go.Proofs.Tryd.prog 91 = some [.pv .nilFunc] := by kernel_rfl
@[go_sem] theorem sz92 : szOf Go.Proofs.Tryd.prog 92 = 1 := by kernel_rfl
@[go_sem] theorem by92 : byOf Go.Proofs.Tryd.prog 92 = 8 := by kernel_rfl
@[go_sem] theorem hT92 : hasT Go.Proofs.Tryd.prog 92 = true := by kernel_rfl
@[go_sem] theorem iS92 : (inf Go.Proofs.Tryd.prog 92).isSome = true := by kernel_rfl
@[go_sem] theorem ag92 : aggB Go.Proofs.Tryd.prog 92 = false := by kernel_rfl
@[go_sem] theorem zo92 : zeroOf Go.Proofs.Tryd.prog 92 = some [.pv .nilFunc] := by kernel_rfl
@[go_sem] theorem sz93 : szOf Go.Proofs.Tryd.prog 93 = 1 := by kernel_rfl
@[go_sem] theorem by93 : byOf Go.Proofs.Tryd.prog 93 = 8 := by kernel_rfl
@[go_sem] theorem hT93 : hasT Go.Proofs.Tryd.prog 93 = true := by kernel_rfl
@[go_sem] theorem iS93 : (inf Go.Proofs.Tryd.prog 93).isSome = true := by kernel_rfl
@[go_sem] theorem ag93 : aggB Go.Proofs.Tryd.prog 93 = false := by kernel_rfl
@[go_sem] theorem zo93 : zeroOf Go.Proofs.Tryd.prog 93 = some [.pv .nilFunc] := by kernel_rfl
@[go_sem] theorem sz94 : szOf Go.Proofs.Tryd.prog 94 = 1 := by kernel_rfl
@[go_sem] theorem by94 : byOf Go.Proofs.Tryd.prog 94 = 8 := by kernel_rfl
@[go_sem] theorem hT94 : hasT Go.Proofs.Tryd.prog 94 = true := by kernel_rfl
@[go_sem] theorem iS94 : (inf Go.Proofs.Tryd.prog 94).isSome = true := by kernel_rfl
@[go_sem] theorem ag94 : aggB Go.Proofs.Tryd.prog 94 = false := by kernel_rfl
@[go_sem] theorem zo94 : zeroOf Go.Proofs.Tryd.prog 94 = some [.pv .nilFunc] := by kernel_rfl
@[go_sem] theorem sz95 : szOf Go.Proofs.Tryd.prog 95 = 1 := by kernel_rfl
@[go_sem] theorem by95 : byOf Go.Proofs.Tryd.prog 95 = 8 := by kernel_rfl
@[go_sem] theorem hT95 : hasT Go.Proofs.Tryd.prog 95 = true := by kernel_rfl
@[go_sem] theorem iS95 : (inf Go.Proofs.Tryd.prog 95).isSome = true := by kernel_rfl
@[go_sem] theorem ag95 : aggB Go.Proofs.Tryd.prog 95 = false := by kernel_rfl
@[go_sem] theorem zo95 : zeroOf Go.Proofs.Tryd.prog 95 = some [.pv .nilFunc] := by kernel_rfl
@[go_sem] theorem sz98 : szOf Go.Proofs.Tryd.prog 98 = 1 := by kernel_rfl
@[go_sem] theorem by98 : byOf Go.Proofs.Tryd.prog 98 = 0 := by kernel_rfl
@[go_sem] theorem hT98 : hasT Go.Proofs.Tryd.prog 98 = true := by kernel_rfl
@[go_sem] theorem iS98 : (inf Go.Proofs.Tryd.prog 98).isSome = true := by kernel_rfl
@[go_sem] theorem ag98 : aggB Go.Proofs.Tryd.prog 98 = false := by kernel_rfl
@[go_sem] theorem zo98 : zeroOf Go.Proofs.Tryd.prog 98 = some [.undef] := by kernel_rfl
@[go_sem] theorem sz99 : szOf Go.Proofs.Tryd.prog 99 = 1 := by kernel_rfl
@[go_sem] theorem by99 : byOf Go.Proofs.Tryd.prog 99 = 8 := by kernel_rfl
@[go_sem] theorem hT99 : hasT Go.Proofs.Tryd.prog 99 = true := by kernel_rfl
@[go_sem] theorem iS99 : (inf Go.Proofs.Tryd.prog 99).isSome = true := by kernel_rfl
@[go_sem] theorem ag99 : aggB Go.Proofs.Tryd.prog 99 = false := by kernel_rfl
@[go_sem] theorem zo99 : zeroOf Go.Proofs.Tryd.prog 99 = some [.pv .nilFunc] := by kernel_rfl
@[go_sem] theorem sz100 : szOf Go.Proofs.Tryd.prog 100 = 1 := by kernel_rfl
@[go_sem] theorem by100 : byOf Go.Proofs.Tryd.prog 100 = 8 := by kernel_rfl
@[go_sem] theorem hT100 : hasT Go.Proofs.Tryd.prog 100 = true := by kernel_rfl
@[go_sem] theorem iS100 : (inf Go.Proofs.Tryd.prog 100).isSome = true := by kernel_rfl
@[go_sem] theorem ag100 : aggB Go.Proofs.Tryd.prog 100 = false := by kernel_rfl
@[go_sem] theorem zo100 : zeroOf Go.Proofs.Tryd.prog 100 = some [.pv .nilFunc] := by kernel_rfl
@[go_sem] theorem sz101 : szOf Go.Proofs.Tryd.prog 101 = 1 := by kernel_rfl
@[go_sem] theorem by101 : byOf Go.Proofs.Tryd.prog 101 = 8 := by kernel_rfl
@[go_sem] theorem hT101 : hasT Go.Proofs.Tryd.prog 101 = true := by kernel_rfl
@[go_sem] theorem iS101 : (inf Go.Proofs.Tryd.prog 101).isSome = true := by kernel_rfl
@[go_sem] theorem ag101 : aggB Go.Proofs.Tryd.prog 101 = false := by kernel_rfl
@[go_sem] theorem zo101 : zeroOf Go.Proofs.Tryd.prog 101 = some [.pv .nilPtr] := by kernel_rfl
@[go_sem] theorem sz102 : szOf Go.Proofs.Tryd.prog 102 = 1 := by kernel_rfl
@[go_sem] theorem by102 : byOf Go.Proofs.Tryd.prog 102 = 8 := by kernel_rfl
@[go_sem] theorem hT102 : hasT Go.Proofs.Tryd.prog 102 = true := by kernel_rfl
@[go_sem] theorem iS102 : (inf Go.Proofs.Tryd.prog 102).isSome = true := by kernel_rfl
@[go_sem] theorem ag102 : aggB Go.Proofs.Tryd.prog 102 = false := by kernel_rfl
@[go_sem] theorem zo102 : zeroOf Go.Proofs.Tryd.prog 102 = some [.pv .nilFunc] := by kernel_rfl
@[go_sem] theorem sz103 : szOf Go.Proofs.Tryd.prog 103 = 1 := by kernel_rfl
@[go_sem] theorem by103 : byOf Go.Proofs.Tryd.prog 103 = 8 := by kernel_rfl
@[go_sem] theorem hT103 : hasT Go.Proofs.Tryd.prog 103 = true := by kernel_rfl
@[go_sem] theorem iS103 : (inf Go.Proofs.Tryd.prog 103).isSome = true := by kernel_rfl
@[go_sem] theorem ag103 : aggB Go.Proofs.Tryd.prog 103 = false := by kernel_rfl
@[go_sem] theorem zo103 : zeroOf Go.Proofs.Tryd.prog 103 = some [.pv .nilFunc] := by kernel_rfl
@[go_sem] theorem sz104 : szOf Go.Proofs.Tryd.prog 104 = 1 := by kernel_rfl
@[go_sem] theorem by104 : byOf Go.Proofs.Tryd.prog 104 = 0 := by kernel_rfl
@[go_sem] theorem hT104 : hasT Go.Proofs.Tryd.prog 104 = true := by kernel_rfl
@[go_sem] theorem iS104 : (inf Go.Proofs.Tryd.prog 104).isSome = true := by kernel_rfl
@[go_sem] theorem ag104 : aggB Go.Proofs.Tryd.prog 104 = false := by kernel_rfl
@[go_sem] theorem zo104 : zeroOf Go.Proofs.Tryd.prog 104 = some [.undef] := by kernel_rfl
@[go_sem] theorem sz105 : szOf Go.Proofs.Tryd.prog 105 = 1 := by kernel_rfl
@[go_sem] theorem by105 : byOf Go.Proofs.Tryd.prog 105 = 8 := by kernel_rfl
@[go_sem] theorem hT105 : hasT Go.Proofs.Tryd.prog 105 = true := by kernel_rfl
@[go_sem] theorem iS105 : (inf Go.Proofs.Tryd.prog 105).isSome = true := by kernel_rfl
@[go_sem] theorem ag105 : aggB Go.Proofs.Tryd.prog 105 = false := by kernel_rfl
@[go_sem] theorem zo105 : zeroOf Go.Proofs.Tryd.prog 105 = some [.pv .nilFunc] := by kernel_rfl
@[go_sem] theorem sz106 : szOf Go.Proofs.Tryd.prog 106 = 1 := by kernel_rfl
@[go_sem] theorem by106 : byOf Go.Proofs.Tryd.prog 106 = 8 := by kernel_rfl
@[go_sem] theorem hT106 : hasT Go.Proofs.Tryd.prog 106 = true := by kernel_rfl
@[go_sem] theorem iS106 : (inf Go.Proofs.Tryd.prog 106).isSome = true := by kernel_rfl
@[go_sem] theorem ag106 : aggB Go.Proofs.Tryd.prog 106 = false := by kernel_rfl
@[go_sem] theorem zo106 : zeroOf Go.Proofs.Tryd.prog 106 = some [.pv .nilFunc] := by kernel_rfl
@[go_sem] theorem sz107 : szOf Go.Proofs.Tryd.prog 107 = 1 := by kernel_rfl
@[go_sem] theorem by107 : byOf Go.Proofs.Tryd.prog 107 = 8 := by kernel_rfl
@[go_sem] theorem hT107 : hasT Go.Proofs.Tryd.prog 107 = true := by kernel_rfl
@[go_sem] theorem iS107 : (inf Go.Proofs.Tryd.prog 107).isSome = true := by kernel_rfl
@[go_sem] theorem ag107 : aggB Go.Proofs.Tryd.prog 107 = false := by kernel_rfl
@[go_sem] theorem zo107 : zeroOf Go.Proofs.Tryd.prog 107 = some [.pv .nilPtr] := by kernel_rfl
@[go_sem] theorem sz108 : szOf Go.Proofs.Tryd.prog 108 = 1 := by kernel_rfl
@[go_sem] theorem by108 : byOf Go.Proofs.Tryd.prog 108 = 8 := by kernel_rfl
@[go_sem] theorem hT108 : hasT Go.Proofs.Tryd.prog 108 = true := by kernel_rfl
@[go_sem] theorem iS108 : (inf Go.Proofs.Tryd.prog 108).isSome = true := by kernel_rfl
@[go_sem] theorem ag108 : aggB Go.Proofs.Tryd.prog 108 = false := by kernel_rfl
@[go_sem] theorem zo108 : zeroOf Go.Proofs.Tryd.prog 108 = some [.pv .nilFunc] := by kernel_rfl
@[go_sem] theorem sz109 : szOf Go.Proofs.Tryd.prog 109 = 1 := by kernel_rfl
@[go_sem] theorem by109 : byOf Go.Proofs.Tryd.prog 109 = 8 := by kernel_rfl
@[go_sem] theorem hT109 : hasT Go.Proofs.Tryd.prog 109 = true := by kernel_rfl
@[go_sem] theorem iS109 : (inf Go.Proofs.Tryd.prog 109).isSome = true := by kernel_rfl
@[go_sem] theorem ag109 : aggB Go.Proofs.Tryd.prog 109 = false := by kernel_rfl
@[go_sem] theorem zo109 : zeroOf Go.Proofs.Tryd.prog 109 = some [.pv .nilFunc] := by kernel_rfl
@[go_sem] theorem sz110 : szOf Go.Proofs.Tryd.prog 110 = 1 := by kernel_rfl
@[go_sem] theorem by110 : byOf Go.Proofs.Tryd.prog 110 = 8 := by kernel_rfl
@[go_sem] theorem hT110 : hasT Go.Proofs.Tryd.prog 110 = true := by kernel_rfl
@[go_sem] theorem iS110 : (inf Go.Proofs.Tryd.prog 110).isSome = true := by kernel_rfl
@[go_sem] theorem ag110 : aggB Go.Proofs.Tryd.prog 110 = false := by kernel_rfl
@[go_sem] theorem zo110 : zeroOf Go.Proofs.Tryd.prog 110 = some [.pv .nilFunc] := by kernel_rfl
@[go_sem] theorem sz111 : szOf Go.Proofs.Tryd.prog 111 = 1 := by kernel_rfl
@[go_sem] theorem by111 : byOf Go.Proofs.Tryd.prog 111 = 0 := by kernel_rfl
@[go_sem] theorem hT111 : hasT Go.Proofs.Tryd.prog 111 = true := by kernel_rfl
@[go_sem] theorem iS111 : (inf Go.Proofs.Tryd.prog 111).isSome = true := by kernel_rfl
@[go_sem] theorem ag111 : aggB Go.Proofs.Tryd.prog 111 = false := by kernel_rfl
@[go_sem] theorem zo111 : zeroOf Go.Proofs.Tryd.prog 111 = some [.undef] := by kernel_rfl
@[go_sem] theorem sz112 : szOf Go.Proofs.Tryd.prog 112 = 1 := by kernel_rfl
@[go_sem] theorem by112 : byOf Go.Proofs.Tryd.prog 112 = 8 := by kernel_rfl
@[go_sem] theorem hT112 : hasT Go.Proofs.Tryd.prog 112 = true := by kernel_rfl
@[go_sem] theorem iS112 : (inf Go.Proofs.Tryd.prog 112).isSome = true := by kernel_rfl
@[go_sem] theorem ag112 : aggB Go.Proofs.Tryd.prog 112 = false := by kernel_rfl
@[go_sem] theorem zo112 : zeroOf Go.Proofs.Tryd.prog 112 = some [.pv .nilFunc] := by kernel_rfl
@[go_sem] theorem sz113 : szOf Go.Proofs.Tryd.prog 113 = 1 := by kernel_rfl
@[go_sem] theorem by113 : byOf Go.Proofs.Tryd.prog 113 = 0 := by kernel_rfl
@[go_sem] theorem hT113 : hasT Go.Proofs.Tryd.prog 113 = true := by kernel_rfl
@[go_sem] theorem iS113 : (inf Go.Proofs.Tryd.prog 113).isSome = true := by kernel_rfl
@[go_sem] theorem ag113 : aggB Go.Proofs.Tryd.prog 113 = false := by kernel_rfl
@[go_sem] theorem zo113 : zeroOf Go.Proofs.Tryd.prog 113 = some [.undef] := by kernel_rfl
@[go_sem] theorem sz114 : szOf Go.Proofs.Tryd.prog 114 = 1 := by kernel_rfl
@[go_sem] theorem by114 : byOf Go.Proofs.Tryd.prog 114 = 8 := by kernel_rfl
@[go_sem] theorem hT114 : hasT Go.Proofs.Tryd.prog 114 = true := by kernel_rfl
@[go_sem] theorem iS114 : (inf Go.Proofs.Tryd.prog 114).isSome = true := by kernel_rfl
@[go_sem] theorem ag114 : aggB Go.Proofs.Tryd.prog 114 = false := by kernel_rfl
@[go_sem] theorem zo114 : zeroOf Go.Proofs.Tryd.prog 114 = some [.pv .nilFunc] := by kernel_rfl
@[go_sem] theorem sz115 : szOf Go.Proofs.Tryd.prog 115 = 1 := by kernel_rfl
@[go_sem] theorem by115 : byOf Go.Proofs.Tryd.prog 115 = 8 := by kernel_rfl
@[go_sem] theorem hT115 : hasT Go.Proofs.Tryd.prog 115 = true := by kernel_rfl
@[go_sem] theorem iS115 : (inf Go.Proofs.Tryd.prog 115).isSome = true := by kernel_rfl
@[go_sem] theorem ag115 : aggB Go.Proofs.Tryd.prog 115 = false := by kernel_rfl
@[go_sem] theorem zo115 : zeroOf Go.Proofs.Tryd.prog 115 = some [.pv .nilFunc] := by kernel_rfl
@[go_sem] theorem sz116 : szOf Go.Proofs.Tryd.prog 116 = 1 := by kernel_rfl
@[go_sem] theorem by116 : byOf Go.Proofs.Tryd.prog 116 = 8 := by kernel_rfl
@[go_sem] theorem hT116 : hasT Go.Proofs.Tryd.prog 116 = true := by kernel_rfl
@[go_sem] theorem iS116 : (inf Go.Proofs.Tryd.prog 116).isSome = true := by kernel_rfl
@[go_sem] theorem ag116 : aggB Go.Proofs.Tryd.prog 116 = false := by kernel_rfl
@[go_sem] theorem zo116 : zeroOf Go.Proofs.Tryd.prog 116 = some [.pv .nilFunc] := by kernel_rfl
@[go_sem] theorem sz117 : szOf Go.Proofs.Tryd.prog 117 = 1 := by kernel_rfl
@[go_sem] theorem by117 : byOf Go.Proofs.Tryd.prog 117 = 8 := by kernel_rfl
@[go_sem] theorem hT117 : hasT Go.Proofs.Tryd.prog 117 = true := by kernel_rfl
@[go_sem] theorem iS117 : (inf Go.Proofs.Tryd.prog 117).isSome = true := by kernel_rfl
@[go_sem] theorem ag117 : aggB Go.Proofs.Tryd.prog 117 = false := by kernel_rfl
@[go_sem] theorem zo117 : zeroOf Go.Proofs.Tryd.prog 117 = some [.pv (.int .u64 0)] := by kernel_rfl
@[go_sem] theorem sz118 : szOf Go.Proofs.Tryd.prog 118 = 1 := by kernel_rfl
@[go_sem] theorem by118 : byOf Go.Proofs.Tryd.prog 118 = 8 := by kernel_rfl
@[go_sem] theorem hT118 : hasT Go.Proofs.Tryd.prog 118 = true := by kernel_rfl
@[go_sem] theorem iS118 : (inf Go.Proofs.Tryd.prog 118).isSome = true := by kernel_rfl
@[go_sem] theorem ag118 : aggB Go.Proofs.Tryd.prog 118 = false := by kernel_rfl
@[go_sem] theorem zo118 : zeroOf Go.Proofs.Tryd.prog 118 = some [.pv .nilPtr] := by kernel_rfl
@[go_sem] theorem sz119 : szOf Go.Proofs.Tryd.prog 119 = 1 := by kernel_rfl
@[go_sem] theorem by119 : byOf Go.Proofs.Tryd.prog 119 = 8 := by kernel_rfl
@[go_sem] theorem hT119 : hasT Go.Proofs.Tryd.prog 119 = true := by kernel_rfl
@[go_sem] theorem iS119 : (inf Go.Proofs.Tryd.prog 119).isSome = true := by kernel_rfl
@[go_sem] theorem ag119 : aggB Go.Proofs.Tryd.prog 119 = false := by kernel_rfl
@[go_sem] theorem zo119 : zeroOf Go.Proofs.Tryd.prog 119 = some [.pv .nilFunc] := by kernel_rfl
@[go_sem] theorem sz120 : szOf Go.Proofs.Tryd.prog 120 = 1 := by kernel_rfl
@[go_sem] theorem by120 : byOf Go.Proofs.Tryd.prog 120 = 8 := by kernel_rfl
@[go_sem] theorem hT120 : hasT Go.Proofs.Tryd.prog 120 = true := by kernel_rfl
@[go_sem] theorem iS120 : (inf Go.Proofs.Tryd.prog 120).isSome = true := by kernel_rfl
@[go_sem] theorem ag120 : aggB Go.Proofs.Tryd.prog 120 = false := by kernel_rfl
@[go_sem] theorem zo120 : zeroOf Go.Proofs.Tryd.prog 120 = some [.pv .nilFunc] := by kernel_rfl
@[go_sem] theorem sz121 : szOf Go.Proofs.Tryd.prog 121 = 1 := by kernel_rfl
@[go_sem] theorem by121 : byOf Go.Proofs.Tryd.prog 121 = 4 := by kernel_rfl
@[go_sem] theorem hT121 : hasT Go.Proofs.Tryd.prog 121 = true := by kernel_rfl
@[go_sem] theorem iS121 : (inf Go.Proofs.Tryd.prog 121).isSome = true := by kernel_rfl
@[go_sem] theorem ag121 : aggB Go.Proofs.Tryd.prog 121 = false := by kernel_rfl
@[go_sem] theorem zo121 : zeroOf Go.Proofs.Tryd.prog 121 = some [.pv (.int .u32 0)] := by kernel_rfl
@[go_sem] theorem sz122 : szOf Go.Proofs.Tryd.prog 122 = 1 := by kernel_rfl
@[go_sem] theorem by122 : byOf Go.Proofs.Tryd.prog 122 = 0 := by kernel_rfl
@[go_sem] theorem hT122 : hasT Go.Proofs.Tryd.prog 122 = true := by kernel_rfl
@[go_sem] theorem iS122 : (inf Go.Proofs.Tryd.prog 122).isSome = true := by kernel_rfl
@[go_sem] theorem ag122 : aggB Go.Proofs.Tryd.prog 122 = false := by kernel_rfl
@[go_sem] theorem zo122 : zeroOf Go.Proofs.Tryd.prog 122 = some [.undef] := by kernel_rfl
@[go_sem] theorem sz123 : szOf Go.Proofs.Tryd.prog 123 = 1 := by kernel_rfl
@[go_sem] theorem by123 : byOf Go.Proofs.Tryd.prog 123 = 8 := by kernel_rfl
@[go_sem] theorem hT123 : hasT Go.Proofs.Tryd.prog 123 = true := by kernel_rfl
@[go_sem] theorem iS123 : (inf Go.Proofs.Tryd.prog 123).isSome = true := by kernel_rfl
@[go_sem] theorem ag123 : aggB Go.Proofs.Tryd.prog 123 = false := by kernel_rfl
@[go_sem] theorem zo123 : zeroOf Go.Proofs.Tryd.prog 123 = some [.pv .nilFunc] := by kernel_rfl
@[go_sem] theorem sz124 : szOf Go.Proofs.Tryd.prog 124 = 1 := by kernel_rfl
@[go_sem] theorem by124 : byOf Go.Proofs.Tryd.prog 124 = 8 := by kernel_rfl
@[go_sem] theorem hT124 : hasT Go.Proofs.Tryd.prog 124 = true := by kernel_rfl
@[go_sem] theorem iS124 : (inf Go.Proofs.Tryd.prog 124).isSome = true := by kernel_rfl
@[go_sem] theorem ag124 : aggB Go.Proofs.Tryd.prog 124 = false := by kernel_rfl
@[go_sem] theorem zo124 : zeroOf Go.Proofs.Tryd.prog 124 = some [.pv .nilFunc] := by kernel_rfl
@[go_sem] theorem sz125 : szOf Go.Proofs.Tryd.prog 125 = 1 := by kernel_rfl
@[go_sem] theorem by125 : byOf Go.Proofs.Tryd.prog 125 = 8 := by kernel_rfl
@[go_sem] theorem hT125 : hasT Go.Proofs.Tryd.prog 125 = true := by kernel_rfl
@[go_sem] theorem iS125 : (inf Go.Proofs.Tryd.prog 125).isSome = true := by kernel_rfl
@[go_sem] theorem ag125 : aggB Go.Proofs.Tryd.prog 125 = false := by kernel_rfl
@[go_sem] theorem zo125 : zeroOf Go.Proofs.Tryd.prog 125 = some [.pv .nilFunc] := by kernel_rfl
@[go_sem] theorem sz126 : szOf Go.Proofs.Tryd.prog 126 = 1 := by kernel_rfl
@[go_sem] theorem by126 : byOf Go.Proofs.Tryd.prog 126 = 8 := by kernel_rfl
@[go_sem] theorem hT126 : hasT Go.Proofs.Tryd.prog 126 = true := by kernel_rfl
@[go_sem] theorem iS126 : (inf Go.Proofs.Tryd.prog 126).isSome = true := by kernel_rfl
@[go_sem] theorem ag126 : aggB Go.Proofs.Tryd.prog 126 = false := by kernel_rfl
@[go_sem] theorem zo126 : zeroOf Go.Proofs.Tryd.prog 126 = some [.pv .nilFunc] := by kernel_rfl
@[go_sem] theorem sz127 : szOf Go.Proofs.Tryd.prog 127 = 1 := by kernel_rfl
@[go_sem] theorem by127 : byOf Go.Proofs.Tryd.prog 127 = 8 := by kernel_rfl
@[go_sem] theorem hT127 : hasT Go.Proofs.Tryd.prog 127 = true := by kernel_rfl
@[go_sem] theorem iS127 : (inf Go.Proofs.Tryd.prog 127).isSome = true := by kernel_rfl
@[go_sem] theorem ag127 : aggB Go.Proofs.Tryd.prog 127 = false := by kernel_rfl
@[go_sem] theorem zo127 : zeroOf Go.Proofs.Tryd.prog 127 = some [.pv .nilFunc] := by kernel_rfl
@[go_sem] theorem sz129 : szOf Go.Proofs.Tryd.prog 129 = 2 := by kernel_rfl
@[go_sem] theorem by129 : byOf Go.Proofs.Tryd.prog 129 = 2 := by kernel_rfl
@[go_sem] theorem hT129 : hasT Go.Proofs.Tryd.prog 129 = true := by kernel_rfl
@[go_sem] theorem iS129 : (inf Go.Proofs.Tryd.prog 129).isSome = true := by kernel_rfl
@[go_sem] theorem ag129 : aggB Go.Proofs.Tryd.prog 129 = true := by kernel_rfl
@[go_sem] theorem zo129 : zeroOf Go.Proofs.Tryd.prog 129 = some [.pv (.int .u8 0), .pv (.int .u8 0)] := by kernel_rfl
@[go_sem] theorem fo129_0 : fieldOff Go.Proofs.Tryd.prog 129 0 = some (0, 5) := by kernel_rfl
@[go_sem] theorem fo129_1 : fieldOff Go.Proofs.Tryd.prog 129 1 = some (1, 5) := by kernel_rfl
@[go_sem] theorem sz130 : szOf Go.Proofs.Tryd.prog 130 = 2 := by kernel_rfl
@[go_sem] theorem by130 : byOf Go.Proofs.Tryd.prog 130 = 2 := by kernel_rfl
@[go_sem] theorem hT130 : hasT Go.Proofs.Tryd.prog 130 = true := by kernel_rfl
@[go_sem] theorem iS130 : (inf Go.Proofs.Tryd.prog 130).isSome = true := by kernel_rfl
@[go_sem] theorem ag130 : aggB Go.Proofs.Tryd.prog 130 = true := by kernel_rfl
@[go_sem] theorem zo130 : zeroOf Go.Proofs.Tryd.prog 130 = some [.pv (.int .u8 0), .pv (.int .u8 0)] := by kernel_rfl
@[go_sem] theorem fo130_0 : fieldOff Go.Proofs.Tryd.prog 130 0 = some (0, 5) := by kernel_rfl
@[go_sem] theorem fo130_1 : fieldOff Go.Proofs.Tryd.prog 130 1 = some (1, 5) := by kernel_rfl
@[go_sem] theorem sz131 : szOf Go.Proofs.Tryd.prog 131 = 32 := by kernel_rfl
@[go_sem] theorem by131 : byOf Go.Proofs.Tryd.prog 131 = 32 := by kernel_rfl
@[go_sem] theorem hT131 : hasT Go.Proofs.Tryd.prog 131 = true := by kernel_rfl
@[go_sem] theorem iS131 : (inf Go.Proofs.Tryd.prog 131).isSome = true := by kernel_rfl
@[go_sem] theorem ag131 : aggB Go.Proofs.Tryd.prog 131 = true := by kernel_rfl
@[go_sem] theorem zo131 : zeroOf Go.Proofs.Tryd.prog 131 = some [.pv (.int .u8 0), .pv (.int .u8 0), .pv (.int .u8 0), .pv (.int .u8 0), .pv (.int .u8 0), .pv (.int .u8 0), .pv (.int .u8 0), .pv (.int .u8 0), .pv (.int .u8 0), .pv (.int .u8 0), .pv (.int .u8 0), .pv (.int .u8 0), .pv (.int .u8 0), .pv (.int .u8 0), .pv (.int .u8 0), .pv (.int .u8 0), .pv (.int .u8 0), .pv (.int .u8 0), .pv (.int .u8 0), .pv (.int .u8 0), .pv (.int .u8 0), .pv (.int .u8 0), .pv (.int .u8 0), .pv (.int .u8 0), .pv (.int .u8 0), .pv (.int .u8 0), .pv (.int .u8 0), .pv (.int .u8 0), .pv (.int .u8 0), .pv (.int .u8 0), .pv (.int .u8 0), .pv (.int .u8 0)] := by kernel_rfl
@[go_sem] theorem sz132 : szOf Go.Proofs.Tryd.prog 132 = 1 := by kernel_rfl
@[go_sem] theorem by132 : byOf Go.Proofs.Tryd.prog 132 = 8 := by kernel_rfl
@[go_sem] theorem hT132 : hasT Go.Proofs.Tryd.prog 132 = true := by kernel_rfl
@[go_sem] theorem iS132 : (inf Go.Proofs.Tryd.prog 132).isSome = true := by kernel_rfl
@[go_sem] theorem ag132 : aggB Go.Proofs.Tryd.prog 132 = false := by kernel_rfl
@[go_sem] theorem zo132 : zeroOf Go.Proofs.Tryd.prog 132 = some [.pv .nilFunc] := by kernel_rfl
@[go_sem] theorem sz133 : szOf Go.Proofs.Tryd.prog 133 = 1 := by kernel_rfl
@[go_sem] theorem by133 : byOf Go.Proofs.Tryd.prog 133 = 8 := by kernel_rfl
@[go_sem] theorem hT133 : hasT Go.Proofs.Tryd.prog 133 = true := by kernel_rfl
@[go_sem] theorem iS133 : (inf Go.Proofs.Tryd.prog 133).isSome = true := by kernel_rfl
@[go_sem] theorem ag133 : aggB Go.Proofs.Tryd.prog 133 = false := by kernel_rfl
@[go_sem] theorem zo133 : zeroOf Go.Proofs.Tryd.prog 133 = some [.pv .nilFunc] := by kernel_rfl
@[go_sem] theorem sz134 : szOf Go.Proofs.Tryd.prog 134 = 4 := by kernel_rfl
@[go_sem] theorem by134 : byOf Go.Proofs.Tryd.prog 134 = 40 := by kernel_rfl
@[go_sem] theorem hT134 : hasT Go.Proofs.Tryd.prog 134 = true := by kernel_rfl
@[go_sem] theorem iS134 : (inf Go.Proofs.Tryd.prog 134).isSome = true := by kernel_rfl
@[go_sem] theorem ag134 : aggB Go.Proofs.Tryd.prog 134 = true := by kernel_rfl
@[go_sem] theorem zo134 : zeroOf Go.Proofs.Tryd.prog 134 = some [.pv .nilPtr, .pv .nilPtr, .pv .nilPtr, .pv (.str [])] := by kernel_rfl
@[go_sem] theorem fo134_0 : fieldOff Go.Proofs.Tryd.prog 134 0 = some (0, 17) := by kernel_rfl
@[go_sem] theorem fo134_1 : fieldOff Go.Proofs.Tryd.prog 134 1 = some (1, 17) := by kernel_rfl
@[go_sem] theorem fo134_2 : fieldOff Go.Proofs.Tryd.prog 134 2 = some (2, 17) := by kernel_rfl
@[go_sem] theorem fo134_3 : fieldOff Go.Proofs.Tryd.prog 134 3 = some (3, 9) := by kernel_rfl
@[go_sem] theorem sz135 : szOf Go.Proofs.Tryd.prog 135 = 4 := by kernel_rfl
@[go_sem] theorem by135 : byOf Go.Proofs.Tryd.prog 135 = 40 := by kernel_rfl
@[go_sem] theorem hT135 : hasT Go.Proofs.Tryd.prog 135 = true := by kernel_rfl
@[go_sem] theorem iS135 : (inf Go.Proofs.Tryd.prog 135).isSome = true := by kernel_rfl
@[go_sem] theorem ag135 : aggB Go.Proofs.Tryd.prog 135 = true := by kernel_rfl
@[go_sem] theorem zo135 : zeroOf Go.Proofs.Tryd.prog 135 = some [.pv .nilPtr, .pv .nilPtr, .pv .nilPtr, .pv (.str [])] := by kernel_rfl
@[go_sem] theorem fo135_0 : fieldOff Go.Proofs.Tryd.prog 135 0 = some (0, 17) := by kernel_rfl
@[go_sem] theorem fo135_1 : fieldOff Go.Proofs.Tryd.prog 135 1 = some (1, 17) := by kernel_rfl
@[go_sem] theorem fo135_2 : fieldOff Go.Proofs.Tryd.prog 135 2 = some (2, 17) := by kernel_rfl
@[go_sem] theorem fo135_3 : fieldOff Go.Proofs.Tryd.prog 135 3 = some (3, 9) := by kernel_rfl
@[go_sem] theorem sz136 : szOf Go.Proofs.Tryd.prog 136 = 0 := by kernel_rfl
@[go_sem] theorem by136 : byOf Go.Proofs.Tryd.prog 136 = 0 := by kernel_rfl
@[go_sem] theorem hT136 : hasT Go.Proofs.Tryd.prog 136 = true := by kernel_rfl
@[go_sem] theorem iS136 : (inf Go.Proofs.Tryd.prog 136).isSome = true := by kernel_rfl
@[go_sem] theorem ag136 : aggB Go.Proofs.Tryd.prog 136 = true := by kernel_rfl
@[go_sem] theorem zo136 : zeroOf Go.Proofs.Tryd.prog 136 = some [] := by kernel_rfl
@[go_sem] theorem sz137 : szOf Go.Proofs.Tryd.prog 137 = 0 := by kernel_rfl
@[go_sem] theorem by137 : byOf Go.Proofs.Tryd.prog 137 = 0 := by kernel_rfl
@[go_sem] theorem hT137 : hasT Go.Proofs.Tryd.prog 137 = true := by kernel_rfl
@[go_sem] theorem iS137 : (inf Go.Proofs.Tryd.prog 137).isSome = true := by kernel_rfl
@[go_sem] theorem ag137 : aggB Go.Proofs.Tryd.prog 137 = true := by kernel_rfl
@[go_sem] theorem zo137 : zeroOf Go.Proofs.Tryd.prog 137 = some [] := by kernel_rfl
@[go_sem] theorem fo137_0 : fieldOff Go.Proofs.Tryd.prog 137 0 = some (0, 136) := by kernel_rfl
@[go_sem] theorem sz138 : szOf Go.Proofs.Tryd.prog 138 = 0 := by kernel_rfl
@[go_sem] theorem by138 : byOf Go.Proofs.Tryd.prog 138 = 0 := by kernel_rfl
@[go_sem] theorem hT138 : hasT Go.Proofs.Tryd.prog 138 = true := by kernel_rfl
@[go_sem] theorem iS138 : (inf Go.Proofs.Tryd.prog 138).isSome = true := by kernel_rfl
@[go_sem] theorem ag138 : aggB Go.Proofs.Tryd.prog 138 = true := by kernel_rfl
@[go_sem] theorem zo138 : zeroOf Go.Proofs.Tryd.prog 138 = some [] := by kernel_rfl
@[go_sem] theorem fo138_0 : fieldOff Go.Proofs.Tryd.prog 138 0 = some (0, 136) := by kernel_rfl
@[go_sem] theorem sz139 : szOf Go.Proofs.Tryd.prog 139 = 1 := by kernel_rfl
@[go_sem] theorem by139 : byOf Go.Proofs.Tryd.prog 139 = 8 := by kernel_rfl
@[go_sem] theorem hT139 : hasT Go.Proofs.Tryd.prog 139 = true := by kernel_rfl
@[go_sem] theorem iS139 : (inf Go.Proofs.Tryd.prog 139).isSome = true := by kernel_rfl
@[go_sem] theorem ag139 : aggB Go.Proofs.Tryd.prog 139 = false := by kernel_rfl
@[go_sem] theorem zo139 : zeroOf Go.Proofs.Tryd.prog 139 = some [.pv .nilFunc] := by kernel_rfl
@[go_sem] theorem sz140 : szOf Go.Proofs.Tryd.prog 140 = 1 := by kernel_rfl
@[go_sem] theorem by140 : byOf Go.Proofs.Tryd.prog 140 = 1 := by kernel_rfl
@[go_sem] theorem hT140 : hasT Go.Proofs.Tryd.prog 140 = true := by kernel_rfl
@[go_sem] theorem iS140 : (inf Go.Proofs.Tryd.prog 140).isSome = true := by kernel_rfl
@[go_sem] theorem ag140 : aggB Go.Proofs.Tryd.prog 140 = false := by kernel_rfl
@[go_sem] theorem zo140 : zeroOf Go.Proofs.Tryd.prog 140 = some [.pv (.int .u8 0)] := by kernel_rfl
@[go_sem] theorem sz141 : szOf Go.Proofs.Tryd.prog 141 = 1 := by kernel_rfl
@[go_sem] theorem by141 : byOf Go.Proofs.Tryd.prog 141 = 1 := by kernel_rfl
@[go_sem] theorem hT141 : hasT Go.Proofs.Tryd.prog 141 = true := by kernel_rfl
@[go_sem] theorem iS141 : (inf Go.Proofs.Tryd.prog 141).isSome = true := by kernel_rfl
@[go_sem] theorem ag141 : aggB Go.Proofs.Tryd.prog 141 = false := by kernel_rfl
@[go_sem] theorem zo141 : zeroOf Go.Proofs.Tryd.prog 141 = some [.pv (.int .u8 0)] := by kernel_rfl
@[go_sem] theorem sz142 : szOf Go.Proofs.Tryd.prog 142 = 1 := by kernel_rfl
@[go_sem] theorem by142 : byOf Go.Proofs.Tryd.prog 142 = 8 := by kernel_rfl
@[go_sem] theorem hT142 : hasT Go.Proofs.Tryd.prog 142 = true := by kernel_rfl
@[go_sem] theorem iS142 : (inf Go.Proofs.Tryd.prog 142).isSome = true := by kernel_rfl
@[go_sem] theorem ag142 : aggB Go.Proofs.Tryd.prog 142 = false := by kernel_rfl
@[go_sem] theorem zo142 : zeroOf Go.Proofs.Tryd.prog 142 = some [.pv .nilFunc] := by kernel_rfl
@[go_sem] theorem sz143 : szOf Go.Proofs.Tryd.prog 143 = 1 := by kernel_rfl
@[go_sem] theorem by143 : byOf Go.Proofs.Tryd.prog 143 = 4 := by kernel_rfl
@[go_sem] theorem hT143 : hasT Go.Proofs.Tryd.prog 143 = true := by kernel_rfl
@[go_sem] theorem iS143 : (inf Go.Proofs.Tryd.prog 143).isSome = true := by kernel_rfl
@[go_sem] theorem ag143 : aggB Go.Proofs.Tryd.prog 143 = false := by kernel_rfl
@[go_sem] theorem zo143 : zeroOf Go.Proofs.Tryd.prog 143 = some [.pv (.int .i32 0)] := by kernel_rfl
@[go_sem] theorem sz144 : szOf Go.Proofs.Tryd.prog 144 = 1 := by kernel_rfl
@[go_sem] theorem by144 : byOf Go.Proofs.Tryd.prog 144 = 4 := by kernel_rfl
@[go_sem] theorem hT144 : hasT Go.Proofs.Tryd.prog 144 = true := by kernel_rfl
@[go_sem] theorem iS144 : (inf Go.Proofs.Tryd.prog 144).isSome = true := by kernel_rfl
@[go_sem] theorem ag144 : aggB Go.Proofs.Tryd.prog 144 = false := by kernel_rfl
@[go_sem] theorem zo144 : zeroOf Go.Proofs.Tryd.prog 144 = some [.pv (.int .i32 0)] := by kernel_rfl
@[go_sem] theorem sz145 : szOf Go.Proofs.Tryd.prog 145 = 11 := by kernel_rfl
@[go_sem] theorem by145 : byOf Go.Proofs.Tryd.prog 145 = 48 := by kernel_rfl
@[go_sem] theorem hT145 : hasT Go.Proofs.Tryd.prog 145 = true := by kernel_rfl
@[go_sem] theorem iS145 : (inf Go.Proofs.Tryd.prog 145).isSome = true := by kernel_rfl
@[go_sem] theorem ag145 : aggB Go.Proofs.Tryd.prog 145 = true := by kernel_rfl
@[go_sem] theorem zo145 : zeroOf Go.Proofs.Tryd.prog 145 = some [.pv (.int .u64 0), .pv (.int .u64 0), .pv (.int .u32 0), .pv (.int .u8 0), .pv (.int .u8 0), .pv (.int .u8 0), .pv (.int .u8 0), .pv .nilFunc, .pv .nilPtr, .pv (.int .i32 0), .pv (.int .i32 0)] := by kernel_rfl
@[go_sem] theorem fo145_0 : fieldOff Go.Proofs.Tryd.prog 145 0 = some (0, 12) := by kernel_rfl
@[go_sem] theorem fo145_1 : fieldOff Go.Proofs.Tryd.prog 145 1 = some (1, 12) := by kernel_rfl
@[go_sem] theorem fo145_2 : fieldOff Go.Proofs.Tryd.prog 145 2 = some (2, 121) := by kernel_rfl
@[go_sem] theorem fo145_3 : fieldOff Go.Proofs.Tryd.prog 145 3 = some (3, 140) := by kernel_rfl
@[go_sem] theorem fo145_4 : fieldOff Go.Proofs.Tryd.prog 145 4 = some (4, 5) := by kernel_rfl
@[go_sem] theorem fo145_5 : fieldOff Go.Proofs.Tryd.prog 145 5 = some (5, 5) := by kernel_rfl
@[go_sem] theorem fo145_6 : fieldOff Go.Proofs.Tryd.prog 145 6 = some (6, 141) := by kernel_rfl
@[go_sem] theorem fo145_7 : fieldOff Go.Proofs.Tryd.prog 145 7 = some (7, 142) := by kernel_rfl
@[go_sem] theorem fo145_8 : fieldOff Go.Proofs.Tryd.prog 145 8 = some (8, 107) := by kernel_rfl
@[go_sem] theorem fo145_9 : fieldOff Go.Proofs.Tryd.prog 145 9 = some (9, 143) := by kernel_rfl
@[go_sem] theorem fo145_10 : fieldOff Go.Proofs.Tryd.prog 145 10 = some (10, 144) := by kernel_rfl
@[go_sem] theorem sz146 : szOf Go.Proofs.Tryd.prog 146 = 11 := by kernel_rfl
@[go_sem] theorem by146 : byOf Go.Proofs.Tryd.prog 146 = 48 := by kernel_rfl
@[go_sem] theorem hT146 : hasT Go.Proofs.Tryd.prog 146 = true := by kernel_rfl
@[go_sem] theorem iS146 : (inf Go.Proofs.Tryd.prog 146).isSome = true := by kernel_rfl
@[go_sem] theorem ag146 : aggB Go.Proofs.Tryd.prog 146 = true := by kernel_rfl
@[go_sem] theorem zo146 : zeroOf Go.Proofs.Tryd.prog 146 = some [.pv (.int .u64 0), .pv (.int .u64 0), .pv (.int .u32 0), .pv (.int .u8 0), .pv (.int .u8 0), .pv (.int .u8 0), .pv (.int .u8 0), .pv .nilFunc, .pv .nilPtr, .pv (.int .i32 0), .pv (.int .i32 0)] := by kernel_rfl
@[go_sem] theorem fo146_0 : fieldOff Go.Proofs.Tryd.prog 146 0 = some (0, 12) := by kernel_rfl
@[go_sem] theorem fo146_1 : fieldOff Go.Proofs.Tryd.prog 146 1 = some (1, 12) := by kernel_rfl
@[go_sem] theorem fo146_2 : fieldOff Go.Proofs.Tryd.prog 146 2 = some (2, 121) := by kernel_rfl
@[go_sem] theorem fo146_3 : fieldOff Go.Proofs.Tryd.prog 146 3 = some (3, 140) := by kernel_rfl
@[go_sem] theorem fo146_4 : fieldOff Go.Proofs.Tryd.prog 146 4 = some (4, 5) := by kernel_rfl
@[go_sem] theorem fo146_5 : fieldOff Go.Proofs.Tryd.prog 146 5 = some (5, 5) := by kernel_rfl
@[go_sem] theorem fo146_6 : fieldOff Go.Proofs.Tryd.prog 146 6 = some (6, 141) := by kernel_rfl
@[go_sem] theorem fo146_7 : fieldOff Go.Proofs.Tryd.prog 146 7 = some (7, 142) := by kernel_rfl
@[go_sem] theorem fo146_8 : fieldOff Go.Proofs.Tryd.prog 146 8 = some (8, 107) := by kernel_rfl
@[go_sem] theorem fo146_9 : fieldOff Go.Proofs.Tryd.prog 146 9 = some (9, 143) := by kernel_rfl
@[go_sem] theorem fo146_10 : fieldOff Go.Proofs.Tryd.prog 146 10 = some (10, 144) := by kernel_rfl
end Go.AD.T
