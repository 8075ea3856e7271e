/- What the seat's types are, one by one. -/
import Derived.Test.YtjgjmpophpifgaaChecked
import Derived.Test.YtjgjmpophpifgaaAd14
set_option linter.unusedVariables false
namespace Go.AD.T
@[go_sem] theorem sz0 : szOf Go.Proofs.Try.prog 0 = 1 := by kernel_rfl
@[go_sem] theorem by0 : byOf Go.Proofs.Try.prog 0 = 0 := by kernel_rfl
@[go_sem] theorem hT0 : hasT Go.Proofs.Try.prog 0 = true := by kernel_rfl
@[go_sem] theorem iS0 : (inf Go.Proofs.Try.prog 0).isSome = true := by kernel_rfl
@[go_sem] theorem ag0 : aggB Go.Proofs.Try.prog 0 = false := by kernel_rfl
@[go_sem] theorem zo0 : zeroOf Go.Proofs.Try.prog 0 = some [.undef] := by kernel_rfl
@[go_sem] theorem sz1 : szOf Go.Proofs.Try.prog 1 = 1 := by kernel_rfl
@[go_sem] theorem by1 : byOf Go.Proofs.Try.prog 1 = 8 := by kernel_rfl
@[go_sem] theorem hT1 : hasT Go.Proofs.Try.prog 1 = true := by kernel_rfl
@[go_sem] theorem iS1 : (inf Go.Proofs.Try.prog 1).isSome = true := by kernel_rfl
@[go_sem] theorem ag1 : aggB Go.Proofs.Try.prog 1 = false := by kernel_rfl
@[go_sem] theorem zo1 : zeroOf Go.Proofs.Try.prog 1 = some [.pv .nilFunc] := by kernel_rfl
@[go_sem] theorem sz2 : szOf Go.Proofs.Try.prog 2 = 1 := by kernel_rfl
@[go_sem] theorem by2 : byOf Go.Proofs.Try.prog 2 = 8 := by kernel_rfl
@[go_sem] theorem hT2 : hasT Go.Proofs.Try.prog 2 = true := by kernel_rfl
@[go_sem] theorem iS2 : (inf Go.Proofs.Try.prog 2).isSome = true := by kernel_rfl
@[go_sem] theorem ag2 : aggB Go.Proofs.Try.prog 2 = false := by kernel_rfl
@[go_sem] theorem zo2 : zeroOf Go.Proofs.Try.prog 2 = some [.pv (.int .i64 0)] := by kernel_rfl
@[go_sem] theorem sz3 : szOf Go.Proofs.Try.prog 3 = 1 := by kernel_rfl
@[go_sem] theorem by3 : byOf Go.Proofs.Try.prog 3 = 8 := by kernel_rfl
@[go_sem] theorem hT3 : hasT Go.Proofs.Try.prog 3 = true := by kernel_rfl
@[go_sem] theorem iS3 : (inf Go.Proofs.Try.prog 3).isSome = true := by kernel_rfl
@[go_sem] theorem ag3 : aggB Go.Proofs.Try.prog 3 = false := by kernel_rfl
@[go_sem] theorem zo3 : zeroOf Go.Proofs.Try.prog 3 = some [.pv (.int .i64 0)] := by kernel_rfl
@[go_sem] theorem sz4 : szOf Go.Proofs.Try.prog 4 = 1 := by kernel_rfl
@[go_sem] theorem by4 : byOf Go.Proofs.Try.prog 4 = 1 := by kernel_rfl
@[go_sem] theorem hT4 : hasT Go.Proofs.Try.prog 4 = true := by kernel_rfl
@[go_sem] theorem iS4 : (inf Go.Proofs.Try.prog 4).isSome = true := by kernel_rfl
@[go_sem] theorem ag4 : aggB Go.Proofs.Try.prog 4 = false := by kernel_rfl
@[go_sem] theorem zo4 : zeroOf Go.Proofs.Try.prog 4 = some [.pv (.bool false)] := by kernel_rfl
@[go_sem] theorem sz5 : szOf Go.Proofs.Try.prog 5 = 1 := by kernel_rfl
@[go_sem] theorem by5 : byOf Go.Proofs.Try.prog 5 = 1 := by kernel_rfl
@[go_sem] theorem hT5 : hasT Go.Proofs.Try.prog 5 = true := by kernel_rfl
@[go_sem] theorem iS5 : (inf Go.Proofs.Try.prog 5).isSome = true := by kernel_rfl
@[go_sem] theorem ag5 : aggB Go.Proofs.Try.prog 5 = false := by kernel_rfl
@[go_sem] theorem zo5 : zeroOf Go.Proofs.Try.prog 5 = some [.pv (.int .u8 0)] := by kernel_rfl
@[go_sem] theorem sz6 : szOf Go.Proofs.Try.prog 6 = 1 := by kernel_rfl
@[go_sem] theorem by6 : byOf Go.Proofs.Try.prog 6 = 1 := by kernel_rfl
@[go_sem] theorem hT6 : hasT Go.Proofs.Try.prog 6 = true := by kernel_rfl
@[go_sem] theorem iS6 : (inf Go.Proofs.Try.prog 6).isSome = true := by kernel_rfl
@[go_sem] theorem ag6 : aggB Go.Proofs.Try.prog 6 = false := by kernel_rfl
@[go_sem] theorem zo6 : zeroOf Go.Proofs.Try.prog 6 = some [.pv (.int .u8 0)] := by kernel_rfl
@[go_sem] theorem sz7 : szOf Go.Proofs.Try.prog 7 = 4 := by kernel_rfl
@[go_sem] theorem by7 : byOf Go.Proofs.Try.prog 7 = 24 := by kernel_rfl
@[go_sem] theorem hT7 : hasT Go.Proofs.Try.prog 7 = true := by kernel_rfl
@[go_sem] theorem iS7 : (inf Go.Proofs.Try.prog 7).isSome = true := by kernel_rfl
@[go_sem] theorem ag7 : aggB Go.Proofs.Try.prog 7 = true := by kernel_rfl
@[go_sem] theorem zo7 : zeroOf Go.Proofs.Try.prog 7 = some [.pv (.int .i64 0), .pv (.int .i64 0), .pv (.bool false), .pv (.int .u8 0)] := by kernel_rfl
@[go_sem] theorem fo7_0 : fieldOff Go.Proofs.Try.prog 7 0 = some (0, 2) := by kernel_rfl
@[go_sem] theorem fo7_1 : fieldOff Go.Proofs.Try.prog 7 1 = some (1, 3) := by kernel_rfl
@[go_sem] theorem fo7_2 : fieldOff Go.Proofs.Try.prog 7 2 = some (2, 4) := by kernel_rfl
@[go_sem] theorem fo7_3 : fieldOff Go.Proofs.Try.prog 7 3 = some (3, 6) := by kernel_rfl
@[go_sem] theorem sz8 : szOf Go.Proofs.Try.prog 8 = 4 := by kernel_rfl
@[go_sem] theorem by8 : byOf Go.Proofs.Try.prog 8 = 24 := by kernel_rfl
@[go_sem] theorem hT8 : hasT Go.Proofs.Try.prog 8 = true := by kernel_rfl
@[go_sem] theorem iS8 : (inf Go.Proofs.Try.prog 8).isSome = true := by kernel_rfl
@[go_sem] theorem ag8 : aggB Go.Proofs.Try.prog 8 = true := by kernel_rfl
@[go_sem] theorem zo8 : zeroOf Go.Proofs.Try.prog 8 = some [.pv (.int .i64 0), .pv (.int .i64 0), .pv (.bool false), .pv (.int .u8 0)] := by kernel_rfl
@[go_sem] theorem fo8_0 : fieldOff Go.Proofs.Try.prog 8 0 = some (0, 2) := by kernel_rfl
@[go_sem] theorem fo8_1 : fieldOff Go.Proofs.Try.prog 8 1 = some (1, 3) := by kernel_rfl
@[go_sem] theorem fo8_2 : fieldOff Go.Proofs.Try.prog 8 2 = some (2, 4) := by kernel_rfl
@[go_sem] theorem fo8_3 : fieldOff Go.Proofs.Try.prog 8 3 = some (3, 6) := by kernel_rfl
@[go_sem] theorem sz9 : szOf Go.Proofs.Try.prog 9 = 1 := by kernel_rfl
@[go_sem] theorem by9 : byOf Go.Proofs.Try.prog 9 = 16 := by kernel_rfl
@[go_sem] theorem hT9 : hasT Go.Proofs.Try.prog 9 = true := by kernel_rfl
@[go_sem] theorem iS9 : (inf Go.Proofs.Try.prog 9).isSome = true := by kernel_rfl
@[go_sem] theorem ag9 : aggB Go.Proofs.Try.prog 9 = false := by kernel_rfl
@[go_sem] theorem zo9 : zeroOf Go.Proofs.Try.prog 9 = some [.pv (.str [])] := by kernel_rfl
@[go_sem] theorem sz10 : szOf Go.Proofs.Try.prog 10 = 1 := by kernel_rfl
@[go_sem] theorem by10 : byOf Go.Proofs.Try.prog 10 = 16 := by kernel_rfl
@[go_sem] theorem hT10 : hasT Go.Proofs.Try.prog 10 = true := by kernel_rfl
@[go_sem] theorem iS10 : (inf Go.Proofs.Try.prog 10).isSome = true := by kernel_rfl
@[go_sem] theorem ag10 : aggB Go.Proofs.Try.prog 10 = false := by kernel_rfl
@[go_sem] theorem zo10 : zeroOf Go.Proofs.Try.prog 10 = some [.pv (.str [])] := by kernel_rfl
@[go_sem] theorem sz11 : szOf Go.Proofs.Try.prog 11 = 1 := by kernel_rfl
@[go_sem] theorem by11 : byOf Go.Proofs.Try.prog 11 = 16 := by kernel_rfl
@[go_sem] theorem hT11 : hasT Go.Proofs.Try.prog 11 = true := by kernel_rfl
@[go_sem] theorem iS11 : (inf Go.Proofs.Try.prog 11).isSome = true := by kernel_rfl
@[go_sem] theorem ag11 : aggB Go.Proofs.Try.prog 11 = false := by kernel_rfl
@[go_sem] theorem zo11 : zeroOf Go.Proofs.Try.prog 11 = some [.pv (.str [])] := by kernel_rfl
@[go_sem] theorem sz12 : szOf Go.Proofs.Try.prog 12 = 1 := by kernel_rfl
@[go_sem] theorem by12 : byOf Go.Proofs.Try.prog 12 = 8 := by kernel_rfl
@[go_sem] theorem hT12 : hasT Go.Proofs.Try.prog 12 = true := by kernel_rfl
@[go_sem] theorem iS12 : (inf Go.Proofs.Try.prog 12).isSome = true := by kernel_rfl
@[go_sem] theorem ag12 : aggB Go.Proofs.Try.prog 12 = false := by kernel_rfl
@[go_sem] theorem zo12 : zeroOf Go.Proofs.Try.prog 12 = some [.pv (.int .u64 0)] := by kernel_rfl
@[go_sem] theorem sz13 : szOf Go.Proofs.Try.prog 13 = 2 := by kernel_rfl
@[go_sem] theorem by13 : byOf Go.Proofs.Try.prog 13 = 24 := by kernel_rfl
@[go_sem] theorem hT13 : hasT Go.Proofs.Try.prog 13 = true := by kernel_rfl
@[go_sem] theorem iS13 : (inf Go.Proofs.Try.prog 13).isSome = true := by kernel_rfl
@[go_sem] theorem ag13 : aggB Go.Proofs.Try.prog 13 = true := by kernel_rfl
@[go_sem] theorem zo13 : zeroOf Go.Proofs.Try.prog 13 = some [.pv (.str []), .pv (.int .u64 0)] := by kernel_rfl
@[go_sem] theorem fo13_0 : fieldOff Go.Proofs.Try.prog 13 0 = some (0, 9) := by kernel_rfl
@[go_sem] theorem fo13_1 : fieldOff Go.Proofs.Try.prog 13 1 = some (1, 12) := by kernel_rfl
@[go_sem] theorem sz14 : szOf Go.Proofs.Try.prog 14 = 2 := by kernel_rfl
@[go_sem] theorem by14 : byOf Go.Proofs.Try.prog 14 = 24 := by kernel_rfl
@[go_sem] theorem hT14 : hasT Go.Proofs.Try.prog 14 = true := by kernel_rfl
@[go_sem] theorem iS14 : (inf Go.Proofs.Try.prog 14).isSome = true := by kernel_rfl
@[go_sem] theorem ag14 : aggB Go.Proofs.Try.prog 14 = true := by kernel_rfl
@[go_sem] theorem zo14 : zeroOf Go.Proofs.Try.prog 14 = some [.pv (.str []), .pv (.int .u64 0)] := by kernel_rfl
@[go_sem] theorem fo14_0 : fieldOff Go.Proofs.Try.prog 14 0 = some (0, 9) := by kernel_rfl
@[go_sem] theorem fo14_1 : fieldOff Go.Proofs.Try.prog 14 1 = some (1, 12) := by kernel_rfl
@[go_sem] theorem sz15 : szOf Go.Proofs.Try.prog 15 = 1 := by kernel_rfl
@[go_sem] theorem by15 : byOf Go.Proofs.Try.prog 15 = 8 := by kernel_rfl
@[go_sem] theorem hT15 : hasT Go.Proofs.Try.prog 15 = true := by kernel_rfl
@[go_sem] theorem iS15 : (inf Go.Proofs.Try.prog 15).isSome = true := by kernel_rfl
@[go_sem] theorem ag15 : aggB Go.Proofs.Try.prog 15 = false := by kernel_rfl
@[go_sem] theorem zo15 : zeroOf Go.Proofs.Try.prog 15 = some [.pv .nilPtr] := by kernel_rfl
@[go_sem] theorem sz16 : szOf Go.Proofs.Try.prog 16 = 1 := by kernel_rfl
@[go_sem] theorem by16 : byOf Go.Proofs.Try.prog 16 = 8 := by kernel_rfl
@[go_sem] theorem hT16 : hasT Go.Proofs.Try.prog 16 = true := by kernel_rfl
@[go_sem] theorem iS16 : (inf Go.Proofs.Try.prog 16).isSome = true := by kernel_rfl
@[go_sem] theorem ag16 : aggB Go.Proofs.Try.prog 16 = false := by kernel_rfl
@[go_sem] theorem zo16 : zeroOf Go.Proofs.Try.prog 16 = some [.pv .nilPtr] := by kernel_rfl
@[go_sem] theorem sz17 : szOf Go.Proofs.Try.prog 17 = 1 := by kernel_rfl
@[go_sem] theorem by17 : byOf Go.Proofs.Try.prog 17 = 8 := by kernel_rfl
@[go_sem] theorem hT17 : hasT Go.Proofs.Try.prog 17 = true := by kernel_rfl
@[go_sem] theorem iS17 : (inf Go.Proofs.Try.prog 17).isSome = true := by kernel_rfl
@[go_sem] theorem ag17 : aggB Go.Proofs.Try.prog 17 = false := by kernel_rfl
@[go_sem] theorem zo17 : zeroOf Go.Proofs.Try.prog 17 = some [.pv .nilPtr] := by kernel_rfl
@[go_sem] theorem sz18 : szOf Go.Proofs.Try.prog 18 = 1 := by kernel_rfl
@[go_sem] theorem by18 : byOf Go.Proofs.Try.prog 18 = 8 := by kernel_rfl
@[go_sem] theorem hT18 : hasT Go.Proofs.Try.prog 18 = true := by kernel_rfl
@[go_sem] theorem iS18 : (inf Go.Proofs.Try.prog 18).isSome = true := by kernel_rfl
@[go_sem] theorem ag18 : aggB Go.Proofs.Try.prog 18 = true := by kernel_rfl
@[go_sem] theorem zo18 : zeroOf Go.Proofs.Try.prog 18 = some [.pv .nilPtr] := by kernel_rfl
@[go_sem] theorem fo18_0 : fieldOff Go.Proofs.Try.prog 18 0 = some (0, 17) := by kernel_rfl
@[go_sem] theorem sz19 : szOf Go.Proofs.Try.prog 19 = 1 := by kernel_rfl
@[go_sem] theorem by19 : byOf Go.Proofs.Try.prog 19 = 8 := by kernel_rfl
@[go_sem] theorem hT19 : hasT Go.Proofs.Try.prog 19 = true := by kernel_rfl
@[go_sem] theorem iS19 : (inf Go.Proofs.Try.prog 19).isSome = true := by kernel_rfl
@[go_sem] theorem ag19 : aggB Go.Proofs.Try.prog 19 = true := by kernel_rfl
@[go_sem] theorem zo19 : zeroOf Go.Proofs.Try.prog 19 = some [.pv .nilPtr] := by kernel_rfl
@[go_sem] theorem fo19_0 : fieldOff Go.Proofs.Try.prog 19 0 = some (0, 17) := by kernel_rfl
@[go_sem] theorem sz20 : szOf Go.Proofs.Try.prog 20 = 1 := by kernel_rfl
@[go_sem] theorem by20 : byOf Go.Proofs.Try.prog 20 = 16 := by kernel_rfl
@[go_sem] theorem hT20 : hasT Go.Proofs.Try.prog 20 = true := by kernel_rfl
@[go_sem] theorem iS20 : (inf Go.Proofs.Try.prog 20).isSome = true := by kernel_rfl
@[go_sem] theorem ag20 : aggB Go.Proofs.Try.prog 20 = false := by kernel_rfl
@[go_sem] theorem zo20 : zeroOf Go.Proofs.Try.prog 20 = some [.pv .nilIface] := by kernel_rfl
@[go_sem] theorem sz21 : szOf Go.Proofs.Try.prog 21 = 1 := by kernel_rfl
@[go_sem] theorem by21 : byOf Go.Proofs.Try.prog 21 = 4 := by kernel_rfl
@[go_sem] theorem hT21 : hasT Go.Proofs.Try.prog 21 = true := by kernel_rfl
@[go_sem] theorem iS21 : (inf Go.Proofs.Try.prog 21).isSome = true := by kernel_rfl
@[go_sem] theorem ag21 : aggB Go.Proofs.Try.prog 21 = false := by kernel_rfl
@[go_sem] theorem zo21 : zeroOf Go.Proofs.Try.prog 21 = some [.pv (.int .i32 0)] := by kernel_rfl
@[go_sem] theorem sz22 : szOf Go.Proofs.Try.prog 22 = 1 := by kernel_rfl
@[go_sem] theorem by22 : byOf Go.Proofs.Try.prog 22 = 8 := by kernel_rfl
@[go_sem] theorem hT22 : hasT Go.Proofs.Try.prog 22 = true := by kernel_rfl
@[go_sem] theorem iS22 : (inf Go.Proofs.Try.prog 22).isSome = true := by kernel_rfl
@[go_sem] theorem ag22 : aggB Go.Proofs.Try.prog 22 = false := by kernel_rfl
@[go_sem] theorem zo22 : zeroOf Go.Proofs.Try.prog 22 = some [.pv .nilFunc] := by kernel_rfl
@[go_sem] theorem sz23 : szOf Go.Proofs.Try.prog 23 = 1 := by kernel_rfl
@[go_sem] theorem by23 : byOf Go.Proofs.Try.prog 23 = 24 := by kernel_rfl
@[go_sem] theorem hT23 : hasT Go.Proofs.Try.prog 23 = true := by kernel_rfl
@[go_sem] theorem iS23 : (inf Go.Proofs.Try.prog 23).isSome = true := by kernel_rfl
@[go_sem] theorem ag23 : aggB Go.Proofs.Try.prog 23 = false := by kernel_rfl
@[go_sem] theorem zo23 : zeroOf Go.Proofs.Try.prog 23 = some [.nilS] := by kernel_rfl
@[go_sem] theorem el23 : elOf Go.Proofs.Try.prog 23 = some 30 := by kernel_rfl
@[go_sem] theorem sz24 : szOf Go.Proofs.Try.prog 24 = 1 := by kernel_rfl
@[go_sem] theorem by24 : byOf Go.Proofs.Try.prog 24 = 0 := by kernel_rfl
@[go_sem] theorem hT24 : hasT Go.Proofs.Try.prog 24 = true := by kernel_rfl
@[go_sem] theorem iS24 : (inf Go.Proofs.Try.prog 24).isSome = true := by kernel_rfl
@[go_sem] theorem ag24 : aggB Go.Proofs.Try.prog 24 = false := by kernel_rfl
@[go_sem] theorem zo24 : zeroOf Go.Proofs.Try.prog 24 = some [.undef] := by kernel_rfl
@[go_sem] theorem sz25 : szOf Go.Proofs.Try.prog 25 = 1 := by kernel_rfl
@[go_sem] theorem by25 : byOf Go.Proofs.Try.prog 25 = 8 := by kernel_rfl
@[go_sem] theorem hT25 : hasT Go.Proofs.Try.prog 25 = true := by kernel_rfl
@[go_sem] theorem iS25 : (inf Go.Proofs.Try.prog 25).isSome = true := by kernel_rfl
@[go_sem] theorem ag25 : aggB Go.Proofs.Try.prog 25 = false := by kernel_rfl
@[go_sem] theorem zo25 : zeroOf Go.Proofs.Try.prog 25 = some [.pv .nilFunc] := by kernel_rfl
@[go_sem] theorem sz26 : szOf Go.Proofs.Try.prog 26 = 1 := by kernel_rfl
@[go_sem] theorem by26 : byOf Go.Proofs.Try.prog 26 = 8 := by kernel_rfl
@[go_sem] theorem hT26 : hasT Go.Proofs.Try.prog 26 = true := by kernel_rfl
@[go_sem] theorem iS26 : (inf Go.Proofs.Try.prog 26).isSome = true := by kernel_rfl
@[go_sem] theorem ag26 : aggB Go.Proofs.Try.prog 26 = false := by kernel_rfl
@[go_sem] theorem zo26 : zeroOf Go.Proofs.Try.prog 26 = some [.pv .nilFunc] := by kernel_rfl
@[go_sem] theorem sz27 : szOf Go.Proofs.Try.prog 27 = 1 := by kernel_rfl
@[go_sem] theorem by27 : byOf Go.Proofs.Try.prog 27 = 8 := by kernel_rfl
@[go_sem] theorem hT27 : hasT Go.Proofs.Try.prog 27 = true := by kernel_rfl
@[go_sem] theorem iS27 : (inf Go.Proofs.Try.prog 27).isSome = true := by kernel_rfl
@[go_sem] theorem ag27 : aggB Go.Proofs.Try.prog 27 = false := by kernel_rfl
@[go_sem] theorem zo27 : zeroOf Go.Proofs.Try.prog 27 = some [.pv .nilFunc] := by kernel_rfl
@[go_sem] theorem sz28 : szOf Go.Proofs.Try.prog 28 = 1 := by kernel_rfl
@[go_sem] theorem by28 : byOf Go.Proofs.Try.prog 28 = 8 := by kernel_rfl
@[go_sem] theorem hT28 : hasT Go.Proofs.Try.prog 28 = true := by kernel_rfl
@[go_sem] theorem iS28 : (inf Go.Proofs.Try.prog 28).isSome = true := by kernel_rfl
@[go_sem] theorem ag28 : aggB Go.Proofs.Try.prog 28 = false := by kernel_rfl
@[go_sem] theorem zo28 : zeroOf Go.Proofs.Try.prog 28 = some [.pv .nilFunc] := by kernel_rfl
@[go_sem] theorem sz29 : szOf Go.Proofs.Try.prog 29 = 2 := by kernel_rfl
@[go_sem] theorem by29 : byOf Go.Proofs.Try.prog 29 = 32 := by kernel_rfl
@[go_sem] theorem hT29 : hasT Go.Proofs.Try.prog 29 = true := by kernel_rfl
@[go_sem] theorem iS29 : (inf Go.Proofs.Try.prog 29).isSome = true := by kernel_rfl
@[go_sem] theorem ag29 : aggB Go.Proofs.Try.prog 29 = true := by kernel_rfl
@[go_sem] theorem zo29 : zeroOf Go.Proofs.Try.prog 29 = some [.pv (.str []), .pv (.str [])] := by kernel_rfl
@[go_sem] theorem fo29_0 : fieldOff Go.Proofs.Try.prog 29 0 = some (0, 9) := by kernel_rfl
@[go_sem] theorem fo29_1 : fieldOff Go.Proofs.Try.prog 29 1 = some (1, 9) := by kernel_rfl
@[go_sem] theorem sz30 : szOf Go.Proofs.Try.prog 30 = 2 := by kernel_rfl
@[go_sem] theorem by30 : byOf Go.Proofs.Try.prog 30 = 32 := by kernel_rfl
@[go_sem] theorem hT30 : hasT Go.Proofs.Try.prog 30 = true := by kernel_rfl
@[go_sem] theorem iS30 : (inf Go.Proofs.Try.prog 30).isSome = true := by kernel_rfl
@[go_sem] theorem ag30 : aggB Go.Proofs.Try.prog 30 = true := by kernel_rfl
@[go_sem] theorem zo30 : zeroOf Go.Proofs.Try.prog 30 = some [.pv (.str []), .pv (.str [])] := by kernel_rfl
@[go_sem] theorem fo30_0 : fieldOff Go.Proofs.Try.prog 30 0 = some (0, 9) := by kernel_rfl
@[go_sem] theorem fo30_1 : fieldOff Go.Proofs.Try.prog 30 1 = some (1, 9) := by kernel_rfl
@[go_sem] theorem sz31 : szOf Go.Proofs.Try.prog 31 = 1 := by kernel_rfl
@[go_sem] theorem by31 : byOf Go.Proofs.Try.prog 31 = 8 := by kernel_rfl
@[go_sem] theorem hT31 : hasT Go.Proofs.Try.prog 31 = true := by kernel_rfl
@[go_sem] theorem iS31 : (inf Go.Proofs.Try.prog 31).isSome = true := by kernel_rfl
@[go_sem] theorem ag31 : aggB Go.Proofs.Try.prog 31 = false := by kernel_rfl
@[go_sem] theorem zo31 : zeroOf Go.Proofs.Try.prog 31 = some [.pv .nilFunc] := by kernel_rfl
@[go_sem] theorem sz32 : szOf Go.Proofs.Try.prog 32 = 1 := by kernel_rfl
@[go_sem] theorem by32 : byOf Go.Proofs.Try.prog 32 = 24 := by kernel_rfl
@[go_sem] theorem hT32 : hasT Go.Proofs.Try.prog 32 = true := by kernel_rfl
@[go_sem] theorem iS32 : (inf Go.Proofs.Try.prog 32).isSome = true := by kernel_rfl
@[go_sem] theorem ag32 : aggB Go.Proofs.Try.prog 32 = false := by kernel_rfl
@[go_sem] theorem zo32 : zeroOf Go.Proofs.Try.prog 32 = some [.nilS] := by kernel_rfl
@[go_sem] theorem el32 : elOf Go.Proofs.Try.prog 32 = some 34 := by kernel_rfl
@[go_sem] theorem sz33 : szOf Go.Proofs.Try.prog 33 = 5 := by kernel_rfl
@[go_sem] theorem by33 : byOf Go.Proofs.Try.prog 33 = 72 := by kernel_rfl
@[go_sem] theorem hT33 : hasT Go.Proofs.Try.prog 33 = true := by kernel_rfl
@[go_sem] theorem iS33 : (inf Go.Proofs.Try.prog 33).isSome = true := by kernel_rfl
@[go_sem] theorem ag33 : aggB Go.Proofs.Try.prog 33 = true := by kernel_rfl
@[go_sem] theorem zo33 : zeroOf Go.Proofs.Try.prog 33 = some [.pv (.str []), .pv (.str []), .nilS, .pv (.int .i64 0), .pv (.int .i64 0)] := by kernel_rfl
@[go_sem] theorem fo33_0 : fieldOff Go.Proofs.Try.prog 33 0 = some (0, 9) := by kernel_rfl
@[go_sem] theorem fo33_1 : fieldOff Go.Proofs.Try.prog 33 1 = some (1, 9) := by kernel_rfl
@[go_sem] theorem fo33_2 : fieldOff Go.Proofs.Try.prog 33 2 = some (2, 32) := by kernel_rfl
@[go_sem] theorem fo33_3 : fieldOff Go.Proofs.Try.prog 33 3 = some (3, 3) := by kernel_rfl
@[go_sem] theorem fo33_4 : fieldOff Go.Proofs.Try.prog 33 4 = some (4, 3) := by kernel_rfl
@[go_sem] theorem sz34 : szOf Go.Proofs.Try.prog 34 = 5 := by kernel_rfl
@[go_sem] theorem by34 : byOf Go.Proofs.Try.prog 34 = 72 := by kernel_rfl
@[go_sem] theorem hT34 : hasT Go.Proofs.Try.prog 34 = true := by kernel_rfl
@[go_sem] theorem iS34 : (inf Go.Proofs.Try.prog 34).isSome = true := by kernel_rfl
@[go_sem] theorem ag34 : aggB Go.Proofs.Try.prog 34 = true := by kernel_rfl
@[go_sem] theorem zo34 : zeroOf Go.Proofs.Try.prog 34 = some [.pv (.str []), .pv (.str []), .nilS, .pv (.int .i64 0), .pv (.int .i64 0)] := by kernel_rfl
@[go_sem] theorem fo34_0 : fieldOff Go.Proofs.Try.prog 34 0 = some (0, 9) := by kernel_rfl
@[go_sem] theorem fo34_1 : fieldOff Go.Proofs.Try.prog 34 1 = some (1, 9) := by kernel_rfl
@[go_sem] theorem fo34_2 : fieldOff Go.Proofs.Try.prog 34 2 = some (2, 32) := by kernel_rfl
@[go_sem] theorem fo34_3 : fieldOff Go.Proofs.Try.prog 34 3 = some (3, 3) := by kernel_rfl
@[go_sem] theorem fo34_4 : fieldOff Go.Proofs.Try.prog 34 4 = some (4, 3) := by kernel_rfl
@[go_sem] theorem sz35 : szOf Go.Proofs.Try.prog 35 = 1 := by kernel_rfl
@[go_sem] theorem by35 : byOf Go.Proofs.Try.prog 35 = 0 := by kernel_rfl
@[go_sem] theorem hT35 : hasT Go.Proofs.Try.prog 35 = true := by kernel_rfl
@[go_sem] theorem iS35 : (inf Go.Proofs.Try.prog 35).isSome = true := by kernel_rfl
@[go_sem] theorem ag35 : aggB Go.Proofs.Try.prog 35 = false := by kernel_rfl
@[go_sem] theorem zo35 : zeroOf Go.Proofs.Try.prog 35 = some [.undef] := by kernel_rfl
@[go_sem] theorem sz36 : szOf Go.Proofs.Try.prog 36 = 1 := by kernel_rfl
@[go_sem] theorem by36 : byOf Go.Proofs.Try.prog 36 = 8 := by kernel_rfl
@[go_sem] theorem hT36 : hasT Go.Proofs.Try.prog 36 = true := by kernel_rfl
@[go_sem] theorem iS36 : (inf Go.Proofs.Try.prog 36).isSome = true := by kernel_rfl
@[go_sem] theorem ag36 : aggB Go.Proofs.Try.prog 36 = false := by kernel_rfl
@[go_sem] theorem zo36 : zeroOf Go.Proofs.Try.prog 36 = some [.pv .nilFunc] := by kernel_rfl
@[go_sem] theorem sz37 : szOf Go.Proofs.Try.prog 37 = 1 := by kernel_rfl
@[go_sem] theorem by37 : byOf Go.Proofs.Try.prog 37 = 8 := by kernel_rfl
@[go_sem] theorem hT37 : hasT Go.Proofs.Try.prog 37 = true := by kernel_rfl
@[go_sem] theorem iS37 : (inf Go.Proofs.Try.prog 37).isSome = true := by kernel_rfl
@[go_sem] theorem ag37 : aggB Go.Proofs.Try.prog 37 = false := by kernel_rfl
@[go_sem] theorem zo37 : zeroOf Go.Proofs.Try.prog 37 = some [.pv .nilFunc] := by kernel_rfl
@[go_sem] theorem sz39 : szOf Go.Proofs.Try.prog 39 = 1 := by kernel_rfl
@[go_sem] theorem by39 : byOf Go.Proofs.Try.prog 39 = 8 := by kernel_rfl
@[go_sem] theorem hT39 : hasT Go.Proofs.Try.prog 39 = true := by kernel_rfl
@[go_sem] theorem iS39 : (inf Go.Proofs.Try.prog 39).isSome = true := by kernel_rfl
@[go_sem] theorem ag39 : aggB Go.Proofs.Try.prog 39 = false := by kernel_rfl
@[go_sem] theorem zo39 : zeroOf Go.Proofs.Try.prog 39 = some [.pv .nilPtr] := by kernel_rfl
@[go_sem] theorem sz40 : szOf Go.Proofs.Try.prog 40 = 2 := by kernel_rfl
@[go_sem] theorem by40 : byOf Go.Proofs.Try.prog 40 = 40 := by kernel_rfl
@[go_sem] theorem hT40 : hasT Go.Proofs.Try.prog 40 = true := by kernel_rfl
@[go_sem] theorem iS40 : (inf Go.Proofs.Try.prog 40).isSome = true := by kernel_rfl
@[go_sem] theorem ag40 : aggB Go.Proofs.Try.prog 40 = true := by kernel_rfl
@[go_sem] theorem zo40 : zeroOf Go.Proofs.Try.prog 40 = some [.pv (.str []), .nilS] := by kernel_rfl
@[go_sem] theorem fo40_0 : fieldOff Go.Proofs.Try.prog 40 0 = some (0, 9) := by kernel_rfl
@[go_sem] theorem fo40_1 : fieldOff Go.Proofs.Try.prog 40 1 = some (1, 23) := by kernel_rfl
@[go_sem] theorem sz41 : szOf Go.Proofs.Try.prog 41 = 2 := by kernel_rfl
@[go_sem] theorem by41 : byOf Go.Proofs.Try.prog 41 = 40 := by kernel_rfl
@[go_sem] theorem hT41 : hasT Go.Proofs.Try.prog 41 = true := by kernel_rfl
@[go_sem] theorem iS41 : (inf Go.Proofs.Try.prog 41).isSome = true := by kernel_rfl
@[go_sem] theorem ag41 : aggB Go.Proofs.Try.prog 41 = true := by kernel_rfl
@[go_sem] theorem zo41 : zeroOf Go.Proofs.Try.prog 41 = some [.pv (.str []), .nilS] := by kernel_rfl
@[go_sem] theorem fo41_0 : fieldOff Go.Proofs.Try.prog 41 0 = some (0, 9) := by kernel_rfl
@[go_sem] theorem fo41_1 : fieldOff Go.Proofs.Try.prog 41 1 = some (1, 23) := by kernel_rfl
@[go_sem] theorem sz42 : szOf Go.Proofs.Try.prog 42 = 1 := by kernel_rfl
@[go_sem] theorem by42 : byOf Go.Proofs.Try.prog 42 = 8 := by kernel_rfl
@[go_sem] theorem hT42 : hasT Go.Proofs.Try.prog 42 = true := by kernel_rfl
@[go_sem] theorem iS42 : (inf Go.Proofs.Try.prog 42).isSome = true := by kernel_rfl
@[go_sem] theorem ag42 : aggB Go.Proofs.Try.prog 42 = false := by kernel_rfl
@[go_sem] theorem zo42 : zeroOf Go.Proofs.Try.prog 42 = some [.pv .nilFunc] := by kernel_rfl
@[go_sem] theorem sz43 : szOf Go.Proofs.Try.prog 43 = 1 := by kernel_rfl
@[go_sem] theorem by43 : byOf Go.Proofs.Try.prog 43 = 0 := by kernel_rfl
@[go_sem] theorem hT43 : hasT Go.Proofs.Try.prog 43 = true := by kernel_rfl
@[go_sem] theorem iS43 : (inf Go.Proofs.Try.prog 43).isSome = true := by kernel_rfl
@[go_sem] theorem ag43 : aggB Go.Proofs.Try.prog 43 = false := by kernel_rfl
@[go_sem] theorem zo43 : zeroOf Go.Proofs.Try.prog 43 = some [.undef] := by kernel_rfl
@[go_sem] theorem sz44 : szOf Go.Proofs.Try.prog 44 = 1 := by kernel_rfl
@[go_sem] theorem by44 : byOf Go.Proofs.Try.prog 44 = 8 := by kernel_rfl
@[go_sem] theorem hT44 : hasT Go.Proofs.Try.prog 44 = true := by kernel_rfl
@[go_sem] theorem iS44 : (inf Go.Proofs.Try.prog 44).isSome = true := by kernel_rfl
@[go_sem] theorem ag44 : aggB Go.Proofs.Try.prog 44 = false := by kernel_rfl
@[go_sem] theorem zo44 : zeroOf Go.Proofs.Try.prog 44 = some [.pv .nilFunc] := by kernel_rfl
@[go_sem] theorem sz45 : szOf Go.Proofs.Try.prog 45 = 1 := by kernel_rfl
@[go_sem] theorem by45 : byOf Go.Proofs.Try.prog 45 = 8 := by kernel_rfl
@[go_sem] theorem hT45 : hasT Go.Proofs.Try.prog 45 = true := by kernel_rfl
@[go_sem] theorem iS45 : (inf Go.Proofs.Try.prog 45).isSome = true := by kernel_rfl
@[go_sem] theorem ag45 : aggB Go.Proofs.Try.prog 45 = false := by kernel_rfl
@[go_sem] theorem zo45 : zeroOf Go.Proofs.Try.prog 45 = some [.pv .nilFunc] := by kernel_rfl
@[go_sem] theorem sz46 : szOf Go.Proofs.Try.prog 46 = 1 := by kernel_rfl
@[go_sem] theorem by46 : byOf Go.Proofs.Try.prog 46 = 8 := by kernel_rfl
@[go_sem] theorem hT46 : hasT Go.Proofs.Try.prog 46 = true := by kernel_rfl
@[go_sem] theorem iS46 : (inf Go.Proofs.Try.prog 46).isSome = true := by kernel_rfl
@[go_sem] theorem ag46 : aggB Go.Proofs.Try.prog 46 = false := by kernel_rfl
@[go_sem] theorem zo46 : zeroOf Go.Proofs.Try.prog 46 = some [.pv .nilFunc] := by kernel_rfl
@[go_sem] theorem sz47 : szOf Go.Proofs.Try.prog 47 = 1 := by kernel_rfl
@[go_sem] theorem by47 : byOf Go.Proofs.Try.prog 47 = 8 := by kernel_rfl
@[go_sem] theorem hT47 : hasT Go.Proofs.Try.prog 47 = true := by kernel_rfl
@[go_sem] theorem iS47 : (inf Go.Proofs.Try.prog 47).isSome = true := by kernel_rfl
@[go_sem] theorem ag47 : aggB Go.Proofs.Try.prog 47 = false := by kernel_rfl
@[go_sem] theorem zo47 : zeroOf Go.Proofs.Try.prog 47 = some [.pv .nilFunc] := by kernel_rfl
@[go_sem] theorem sz48 : szOf Go.Proofs.Try.prog 48 = 1 := by kernel_rfl
@[go_sem] theorem by48 : byOf Go.Proofs.Try.prog 48 = 24 := by kernel_rfl
@[go_sem] theorem hT48 : hasT Go.Proofs.Try.prog 48 = true := by kernel_rfl
@[go_sem] theorem iS48 : (inf Go.Proofs.Try.prog 48).isSome = true := by kernel_rfl
@[go_sem] theorem ag48 : aggB Go.Proofs.Try.prog 48 = false := by kernel_rfl
@[go_sem] theorem zo48 : zeroOf Go.Proofs.Try.prog 48 = some [.nilS] := by kernel_rfl
@[go_sem] theorem el48 : elOf Go.Proofs.Try.prog 48 = some 9 := by kernel_rfl
@[go_sem] theorem sz49 : szOf Go.Proofs.Try.prog 49 = 1 := by kernel_rfl
@[go_sem] theorem by49 : byOf Go.Proofs.Try.prog 49 = 8 := by kernel_rfl
@[go_sem] theorem hT49 : hasT Go.Proofs.Try.prog 49 = true := by kernel_rfl
@[go_sem] theorem iS49 : (inf Go.Proofs.Try.prog 49).isSome = true := by kernel_rfl
@[go_sem] theorem ag49 : aggB Go.Proofs.Try.prog 49 = false := by kernel_rfl
@[go_sem] theorem zo49 : zeroOf Go.Proofs.Try.prog 49 = some [.pv .nilFunc] := by kernel_rfl
@[go_sem] theorem sz50 : szOf Go.Proofs.Try.prog 50 = 1 := by kernel_rfl
@[go_sem] theorem by50 : byOf Go.Proofs.Try.prog 50 = 24 := by kernel_rfl
@[go_sem] theorem hT50 : hasT Go.Proofs.Try.prog 50 = true := by kernel_rfl
@[go_sem] theorem iS50 : (inf Go.Proofs.Try.prog 50).isSome = true := by kernel_rfl
@[go_sem] theorem ag50 : aggB Go.Proofs.Try.prog 50 = false := by kernel_rfl
@[go_sem] theorem zo50 : zeroOf Go.Proofs.Try.prog 50 = some [.nilS] := by kernel_rfl
@[go_sem] theorem el50 : elOf Go.Proofs.Try.prog 50 = some 5 := by kernel_rfl
@[go_sem] theorem sz51 : szOf Go.Proofs.Try.prog 51 = 1 := by kernel_rfl
@[go_sem] theorem by51 : byOf Go.Proofs.Try.prog 51 = 8 := by kernel_rfl
@[go_sem] theorem hT51 : hasT Go.Proofs.Try.prog 51 = true := by kernel_rfl
@[go_sem] theorem iS51 : (inf Go.Proofs.Try.prog 51).isSome = true := by kernel_rfl
@[go_sem] theorem ag51 : aggB Go.Proofs.Try.prog 51 = false := by kernel_rfl
@[go_sem] theorem zo51 : zeroOf Go.Proofs.Try.prog 51 = some [.pv (.int .i64 0)] := by kernel_rfl
@[go_sem] theorem sz52 : szOf Go.Proofs.Try.prog 52 = 1 := by kernel_rfl
@[go_sem] theorem by52 : byOf Go.Proofs.Try.prog 52 = 8 := by kernel_rfl
@[go_sem] theorem hT52 : hasT Go.Proofs.Try.prog 52 = true := by kernel_rfl
@[go_sem] theorem iS52 : (inf Go.Proofs.Try.prog 52).isSome = true := by kernel_rfl
@[go_sem] theorem ag52 : aggB Go.Proofs.Try.prog 52 = false := by kernel_rfl
@[go_sem] theorem zo52 : zeroOf Go.Proofs.Try.prog 52 = some [.pv .nilPtr] := by kernel_rfl
@[go_sem] theorem sz53 : szOf Go.Proofs.Try.prog 53 = 2 := by kernel_rfl
@[go_sem] theorem by53 : byOf Go.Proofs.Try.prog 53 = 24 := by kernel_rfl
@[go_sem] theorem hT53 : hasT Go.Proofs.Try.prog 53 = true := by kernel_rfl
@[go_sem] theorem iS53 : (inf Go.Proofs.Try.prog 53).isSome = true := by kernel_rfl
@[go_sem] theorem ag53 : aggB Go.Proofs.Try.prog 53 = true := by kernel_rfl
@[go_sem] theorem zo53 : zeroOf Go.Proofs.Try.prog 53 = some [.pv (.str []), .pv (.int .i64 0)] := by kernel_rfl
@[go_sem] theorem fo53_0 : fieldOff Go.Proofs.Try.prog 53 0 = some (0, 9) := by kernel_rfl
@[go_sem] theorem fo53_1 : fieldOff Go.Proofs.Try.prog 53 1 = some (1, 3) := by kernel_rfl
@[go_sem] theorem sz54 : szOf Go.Proofs.Try.prog 54 = 2 := by kernel_rfl
@[go_sem] theorem by54 : byOf Go.Proofs.Try.prog 54 = 24 := by kernel_rfl
@[go_sem] theorem hT54 : hasT Go.Proofs.Try.prog 54 = true := by kernel_rfl
@[go_sem] theorem iS54 : (inf Go.Proofs.Try.prog 54).isSome = true := by kernel_rfl
@[go_sem] theorem ag54 : aggB Go.Proofs.Try.prog 54 = true := by kernel_rfl
@[go_sem] theorem zo54 : zeroOf Go.Proofs.Try.prog 54 = some [.pv (.str []), .pv (.int .i64 0)] := by kernel_rfl
@[go_sem] theorem fo54_0 : fieldOff Go.Proofs.Try.prog 54 0 = some (0, 9) := by kernel_rfl
@[go_sem] theorem fo54_1 : fieldOff Go.Proofs.Try.prog 54 1 = some (1, 3) := by kernel_rfl
@[go_sem] theorem sz55 : szOf Go.Proofs.Try.prog 55 = 1 := by kernel_rfl
@[go_sem] theorem by55 : byOf Go.Proofs.Try.prog 55 = 8 := by kernel_rfl
@[go_sem] theorem hT55 : hasT Go.Proofs.Try.prog 55 = true := by kernel_rfl
@[go_sem] theorem iS55 : (inf Go.Proofs.Try.prog 55).isSome = true := by kernel_rfl
@[go_sem] theorem ag55 : aggB Go.Proofs.Try.prog 55 = false := by kernel_rfl
@[go_sem] theorem zo55 : zeroOf Go.Proofs.Try.prog 55 = some [.pv .nilFunc] := by kernel_rfl
@[go_sem] theorem sz56 : szOf Go.Proofs.Try.prog 56 = 1 := by kernel_rfl
@[go_sem] theorem by56 : byOf Go.Proofs.Try.prog 56 = 8 := by kernel_rfl
@[go_sem] theorem hT56 : hasT Go.Proofs.Try.prog 56 = true := by kernel_rfl
@[go_sem] theorem iS56 : (inf Go.Proofs.Try.prog 56).isSome = true := by kernel_rfl
@[go_sem] theorem ag56 : aggB Go.Proofs.Try.prog 56 = false := by kernel_rfl
@[go_sem] theorem zo56 : zeroOf Go.Proofs.Try.prog 56 = some [.pv .nilFunc] := by kernel_rfl
@[go_sem] theorem sz57 : szOf Go.Proofs.Try.prog 57 = 1 := by kernel_rfl
@[go_sem] theorem by57 : byOf Go.Proofs.Try.prog 57 = 8 := by kernel_rfl
@[go_sem] theorem hT57 : hasT Go.Proofs.Try.prog 57 = true := by kernel_rfl
@[go_sem] theorem iS57 : (inf Go.Proofs.Try.prog 57).isSome = true := by kernel_rfl
@[go_sem] theorem ag57 : aggB Go.Proofs.Try.prog 57 = false := by kernel_rfl
@[go_sem] theorem zo57 : zeroOf Go.Proofs.Try.prog 57 = some [.pv .nilFunc] := by kernel_rfl
@[go_sem] theorem sz58 : szOf Go.Proofs.Try.prog 58 = 1 := by kernel_rfl
@[go_sem] theorem by58 : byOf Go.Proofs.Try.prog 58 = 8 := by kernel_rfl
@[go_sem] theorem hT58 : hasT Go.Proofs.Try.prog 58 = true := by kernel_rfl
@[go_sem] theorem iS58 : (inf Go.Proofs.Try.prog 58).isSome = true := by kernel_rfl
@[go_sem] theorem ag58 : aggB Go.Proofs.Try.prog 58 = false := by kernel_rfl
@[go_sem] theorem zo58 : zeroOf Go.Proofs.Try.prog 58 = some [.pv .nilFunc] := by kernel_rfl
@[go_sem] theorem sz59 : szOf Go.Proofs.Try.prog 59 = 1 := by kernel_rfl
@[go_sem] theorem by59 : byOf Go.Proofs.Try.prog 59 = 8 := by kernel_rfl
@[go_sem] theorem hT59 : hasT Go.Proofs.Try.prog 59 = true := by kernel_rfl
@[go_sem] theorem iS59 : (inf Go.Proofs.Try.prog 59).isSome = true := by kernel_rfl
@[go_sem] theorem ag59 : aggB Go.Proofs.Try.prog 59 = false := by kernel_rfl
@[go_sem] theorem zo59 : zeroOf Go.Proofs.Try.prog 59 = some [.pv .nilFunc] := by kernel_rfl
@[go_sem] theorem sz60 : szOf Go.Proofs.Try.prog 60 = 1 := by kernel_rfl
@[go_sem] theorem by60 : byOf Go.Proofs.Try.prog 60 = 0 := by kernel_rfl
@[go_sem] theorem hT60 : hasT Go.Proofs.Try.prog 60 = true := by kernel_rfl
@[go_sem] theorem iS60 : (inf Go.Proofs.Try.prog 60).isSome = true := by kernel_rfl
@[go_sem] theorem ag60 : aggB Go.Proofs.Try.prog 60 = false := by kernel_rfl
@[go_sem] theorem zo60 : zeroOf Go.Proofs.Try.prog 60 = some [.undef] := by kernel_rfl
@[go_sem] theorem sz61 : szOf Go.Proofs.Try.prog 61 = 1 := by kernel_rfl
@[go_sem] theorem by61 : byOf Go.Proofs.Try.prog 61 = 8 := by kernel_rfl
@[go_sem] theorem hT61 : hasT Go.Proofs.Try.prog 61 = true := by kernel_rfl
@[go_sem] theorem iS61 : (inf Go.Proofs.Try.prog 61).isSome = true := by kernel_rfl
@[go_sem] theorem ag61 : aggB Go.Proofs.Try.prog 61 = false := by kernel_rfl
@[go_sem] theorem zo61 : zeroOf Go.Proofs.Try.prog 61 = some [.pv .nilFunc] := by kernel_rfl
@[go_sem] theorem sz62 : szOf Go.Proofs.Try.prog 62 = 1 := by kernel_rfl
@[go_sem] theorem by62 : byOf Go.Proofs.Try.prog 62 = 8 := by kernel_rfl
@[go_sem] theorem hT62 : hasT Go.Proofs.Try.prog 62 = true := by kernel_rfl
@[go_sem] theorem iS62 : (inf Go.Proofs.Try.prog 62).isSome = true := by kernel_rfl
@[go_sem] theorem ag62 : aggB Go.Proofs.Try.prog 62 = false := by kernel_rfl
@[go_sem] theorem zo62 : zeroOf Go.Proofs.Try.prog 62 = some [.pv .nilFunc] := by kernel_rfl
@[go_sem] theorem sz63 : szOf Go.Proofs.Try.prog 63 = 1 := by kernel_rfl
@[go_sem] theorem by63 : byOf Go.Proofs.Try.prog 63 = 8 := by kernel_rfl
@[go_sem] theorem hT63 : hasT Go.Proofs.Try.prog 63 = true := by kernel_rfl
@[go_sem] theorem iS63 : (inf Go.Proofs.Try.prog 63).isSome = true := by kernel_rfl
@[go_sem] theorem ag63 : aggB Go.Proofs.Try.prog 63 = false := by kernel_rfl
@[go_sem] theorem zo63 : zeroOf Go.Proofs.Try.prog 63 = some [.pv .nilFunc] := by kernel_rfl
@[go_sem] theorem sz64 : szOf Go.Proofs.Try.prog 64 = 1 := by kernel_rfl
@[go_sem] theorem by64 : byOf Go.Proofs.Try.prog 64 = 8 := by kernel_rfl
@[go_sem] theorem hT64 : hasT Go.Proofs.Try.prog 64 = true := by kernel_rfl
@[go_sem] theorem iS64 : (inf Go.Proofs.Try.prog 64).isSome = true := by kernel_rfl
@[go_sem] theorem ag64 : aggB Go.Proofs.Try.prog 64 = false := by kernel_rfl
@[go_sem] theorem zo64 : zeroOf Go.Proofs.Try.prog 64 = some [.pv .nilFunc] := by kernel_rfl
@[go_sem] theorem sz65 : szOf Go.Proofs.Try.prog 65 = 1 := by kernel_rfl
@[go_sem] theorem by65 : byOf Go.Proofs.Try.prog 65 = 8 := by kernel_rfl
@[go_sem] theorem hT65 : hasT Go.Proofs.Try.prog 65 = true := by kernel_rfl
@[go_sem] theorem iS65 : (inf Go.Proofs.Try.prog 65).isSome = true := by kernel_rfl
@[go_sem] theorem ag65 : aggB Go.Proofs.Try.prog 65 = false := by kernel_rfl
@[go_sem] theorem zo65 : zeroOf Go.Proofs.Try.prog 65 = some [.pv .nilPtr] := by kernel_rfl
@[go_sem] theorem sz66 : szOf Go.Proofs.Try.prog 66 = 2 := by kernel_rfl
@[go_sem] theorem by66 : byOf Go.Proofs.Try.prog 66 = 32 := by kernel_rfl
@[go_sem] theorem hT66 : hasT Go.Proofs.Try.prog 66 = true := by kernel_rfl
@[go_sem] theorem iS66 : (inf Go.Proofs.Try.prog 66).isSome = true := by kernel_rfl
@[go_sem] theorem ag66 : aggB Go.Proofs.Try.prog 66 = true := by kernel_rfl
@[go_sem] theorem zo66 : zeroOf Go.Proofs.Try.prog 66 = some [.pv .nilPtr, .nilS] := by kernel_rfl
@[go_sem] theorem fo66_0 : fieldOff Go.Proofs.Try.prog 66 0 = some (0, 65) := by kernel_rfl
@[go_sem] theorem fo66_1 : fieldOff Go.Proofs.Try.prog 66 1 = some (1, 50) := by kernel_rfl
@[go_sem] theorem sz67 : szOf Go.Proofs.Try.prog 67 = 2 := by kernel_rfl
@[go_sem] theorem by67 : byOf Go.Proofs.Try.prog 67 = 32 := by kernel_rfl
@[go_sem] theorem hT67 : hasT Go.Proofs.Try.prog 67 = true := by kernel_rfl
@[go_sem] theorem iS67 : (inf Go.Proofs.Try.prog 67).isSome = true := by kernel_rfl
@[go_sem] theorem ag67 : aggB Go.Proofs.Try.prog 67 = true := by kernel_rfl
@[go_sem] theorem zo67 : zeroOf Go.Proofs.Try.prog 67 = some [.pv .nilPtr, .nilS] := by kernel_rfl
@[go_sem] theorem fo67_0 : fieldOff Go.Proofs.Try.prog 67 0 = some (0, 65) := by kernel_rfl
@[go_sem] theorem fo67_1 : fieldOff Go.Proofs.Try.prog 67 1 = some (1, 50) := by kernel_rfl
@[go_sem] theorem sz68 : szOf Go.Proofs.Try.prog 68 = 1 := by kernel_rfl
@[go_sem] theorem by68 : byOf Go.Proofs.Try.prog 68 = 8 := by kernel_rfl
@[go_sem] theorem hT68 : hasT Go.Proofs.Try.prog 68 = true := by kernel_rfl
@[go_sem] theorem iS68 : (inf Go.Proofs.Try.prog 68).isSome = true := by kernel_rfl
@[go_sem] theorem ag68 : aggB Go.Proofs.Try.prog 68 = false := by kernel_rfl
@[go_sem] theorem zo68 : zeroOf Go.Proofs.Try.prog 68 = some [.pv .nilFunc] := by kernel_rfl
@[go_sem] theorem sz69 : szOf Go.Proofs.Try.prog 69 = 1 := by kernel_rfl
@[go_sem] theorem by69 : byOf Go.Proofs.Try.prog 69 = 16 := by kernel_rfl
@[go_sem] theorem hT69 : hasT Go.Proofs.Try.prog 69 = true := by kernel_rfl
@[go_sem] theorem iS69 : (inf Go.Proofs.Try.prog 69).isSome = true := by kernel_rfl
@[go_sem] theorem ag69 : aggB Go.Proofs.Try.prog 69 = false := by kernel_rfl
@[go_sem] theorem zo69 : zeroOf Go.Proofs.Try.prog 69 = some [.pv .nilIface] := by kernel_rfl
@[go_sem] theorem sz70 : szOf Go.Proofs.Try.prog 70 = 1 := by kernel_rfl
@[go_sem] theorem by70 : byOf Go.Proofs.Try.prog 70 = 16 := by kernel_rfl
@[go_sem] theorem hT70 : hasT Go.Proofs.Try.prog 70 = true := by kernel_rfl
@[go_sem] theorem iS70 : (inf Go.Proofs.Try.prog 70).isSome = true := by kernel_rfl
@[go_sem] theorem ag70 : aggB Go.Proofs.Try.prog 70 = false := by kernel_rfl
@[go_sem] theorem zo70 : zeroOf Go.Proofs.Try.prog 70 = some [.pv .nilIface] := by kernel_rfl
@[go_sem] theorem sz71 : szOf Go.Proofs.Try.prog 71 = 1 := by kernel_rfl
@[go_sem] theorem by71 : byOf Go.Proofs.Try.prog 71 = 8 := by kernel_rfl
@[go_sem] theorem hT71 : hasT Go.Proofs.Try.prog 71 = true := by kernel_rfl
@[go_sem] theorem iS71 : (inf Go.Proofs.Try.prog 71).isSome = true := by kernel_rfl
@[go_sem] theorem ag71 : aggB Go.Proofs.Try.prog 71 = false := by kernel_rfl
@[go_sem] theorem zo71 : zeroOf Go.Proofs.Try.prog 71 = some [.pv .nilFunc] := by kernel_rfl
@[go_sem] theorem sz72 : szOf Go.Proofs.Try.prog 72 = 1 := by kernel_rfl
@[go_sem] theorem by72 : byOf Go.Proofs.Try.prog 72 = 0 := by kernel_rfl
@[go_sem] theorem hT72 : hasT Go.Proofs.Try.prog 72 = true := by kernel_rfl
@[go_sem] theorem iS72 : (inf Go.Proofs.Try.prog 72).isSome = true := by kernel_rfl
@[go_sem] theorem ag72 : aggB Go.Proofs.Try.prog 72 = false := by kernel_rfl
@[go_sem] theorem zo72 : zeroOf Go.Proofs.Try.prog 72 = some [.undef] := by kernel_rfl
@[go_sem] theorem sz73 : szOf Go.Proofs.Try.prog 73 = 1 := by kernel_rfl
@[go_sem] theorem by73 : byOf Go.Proofs.Try.prog 73 = 8 := by kernel_rfl
@[go_sem] theorem hT73 : hasT Go.Proofs.Try.prog 73 = true := by kernel_rfl
@[go_sem] theorem iS73 : (inf Go.Proofs.Try.prog 73).isSome = true := by kernel_rfl
@[go_sem] theorem ag73 : aggB Go.Proofs.Try.prog 73 = false := by kernel_rfl
@[go_sem] theorem zo73 : zeroOf Go.Proofs.Try.prog 73 = some [.pv .nilFunc] := by kernel_rfl
@[go_sem] theorem sz74 : szOf Go.Proofs.Try.prog 74 = 1 := by kernel_rfl
@[go_sem] theorem by74 : byOf Go.Proofs.Try.prog 74 = 0 := by kernel_rfl
@[go_sem] theorem hT74 : hasT Go.Proofs.Try.prog 74 = true := by kernel_rfl
@[go_sem] theorem iS74 : (inf Go.Proofs.Try.prog 74).isSome = true := by kernel_rfl
@[go_sem] theorem ag74 : aggB Go.Proofs.Try.prog 74 = false := by kernel_rfl
@[go_sem] theorem zo74 : zeroOf Go.Proofs.Try.prog 74 = some [.undef] := by kernel_rfl
@[go_sem] theorem sz75 : szOf Go.Proofs.Try.prog 75 = 1 := by kernel_rfl
@[go_sem] theorem by75 : byOf Go.Proofs.Try.prog 75 = 8 := by kernel_rfl
@[go_sem] theorem hT75 : hasT Go.Proofs.Try.prog 75 = true := by kernel_rfl
@[go_sem] theorem iS75 : (inf Go.Proofs.Try.prog 75).isSome = true := by kernel_rfl
@[go_sem] theorem ag75 : aggB Go.Proofs.Try.prog 75 = false := by kernel_rfl
@[go_sem] theorem zo75 : zeroOf Go.Proofs.Try.prog 75 = some [.pv .nilFunc] := by kernel_rfl
@[go_sem] theorem sz76 : szOf Go.Proofs.Try.prog 76 = 1 := by kernel_rfl
@[go_sem] theorem by76 : byOf Go.Proofs.Try.prog 76 = 8 := by kernel_rfl
@[go_sem] theorem hT76 : hasT Go.Proofs.Try.prog 76 = true := by kernel_rfl
@[go_sem] theorem iS76 : (inf Go.Proofs.Try.prog 76).isSome = true := by kernel_rfl
@[go_sem] theorem ag76 : aggB Go.Proofs.Try.prog 76 = false := by kernel_rfl
@[go_sem] theorem zo76 : zeroOf Go.Proofs.Try.prog 76 = some [.pv .nilFunc] := by kernel_rfl
@[go_sem] theorem sz77 : szOf Go.Proofs.Try.prog 77 = 1 := by kernel_rfl
@[go_sem] theorem by77 : byOf Go.Proofs.Try.prog 77 = 8 := by kernel_rfl
@[go_sem] theorem hT77 : hasT Go.Proofs.Try.prog 77 = true := by kernel_rfl
@[go_sem] theorem iS77 : (inf Go.Proofs.Try.prog 77).isSome = true := by kernel_rfl
@[go_sem] theorem ag77 : aggB Go.Proofs.Try.prog 77 = false := by kernel_rfl
@[go_sem] theorem zo77 : zeroOf Go.Proofs.Try.prog 77 = some [.pv .nilPtr] := by kernel_rfl
@[go_sem] theorem sz78 : szOf Go.Proofs.Try.prog 78 = 1 := by kernel_rfl
@[go_sem] theorem by78 : byOf Go.Proofs.Try.prog 78 = 8 := by kernel_rfl
@[go_sem] theorem hT78 : hasT Go.Proofs.Try.prog 78 = true := by kernel_rfl
@[go_sem] theorem iS78 : (inf Go.Proofs.Try.prog 78).isSome = true := by kernel_rfl
@[go_sem] theorem ag78 : aggB Go.Proofs.Try.prog 78 = false := by kernel_rfl
@[go_sem] theorem zo78 : zeroOf Go.Proofs.Try.prog 78 = some [.pv .nilFunc] := by kernel_rfl
@[go_sem] theorem sz79 : szOf Go.Proofs.Try.prog 79 = 1 := by kernel_rfl
@[go_sem] theorem by79 : byOf Go.Proofs.Try.prog 79 = 0 := by kernel_rfl
@[go_sem] theorem hT79 : hasT Go.Proofs.Try.prog 79 = true := by kernel_rfl
@[go_sem] theorem iS79 : (inf Go.Proofs.Try.prog 79).isSome = true := by kernel_rfl
@[go_sem] theorem ag79 : aggB Go.Proofs.Try.prog 79 = false := by kernel_rfl
@[go_sem] theorem zo79 : zeroOf Go.Proofs.Try.prog 79 = some [.undef] := by kernel_rfl
@[go_sem] theorem sz80 : szOf Go.Proofs.Try.prog 80 = 1 := by kernel_rfl
@[go_sem] theorem by80 : byOf Go.Proofs.Try.prog 80 = 8 := by kernel_rfl
@[go_sem] theorem hT80 : hasT Go.Proofs.Try.prog 80 = true := by kernel_rfl
@[go_sem] theorem iS80 : (inf Go.Proofs.Try.prog 80).isSome = true := by kernel_rfl
@[go_sem] theorem ag80 : aggB Go.Proofs.Try.prog 80 = false := by kernel_rfl
@[go_sem] theorem zo80 : zeroOf Go.Proofs.Try.prog 80 = some [.pv .nilFunc] := by kernel_rfl
@[go_sem] theorem sz81 : szOf Go.Proofs.Try.prog 81 = 1 := by kernel_rfl
@[go_sem] theorem by81 : byOf Go.Proofs.Try.prog 81 = 8 := by kernel_rfl
@[go_sem] theorem hT81 : hasT Go.Proofs.Try.prog 81 = true := by kernel_rfl
@[go_sem] theorem iS81 : (inf Go.Proofs.Try.prog 81).isSome = true := by kernel_rfl
@[go_sem] theorem ag81 : aggB Go.Proofs.Try.prog 81 = false := by kernel_rfl
@[go_sem] theorem zo81 : zeroOf Go.Proofs.Try.prog 81 = some [.pv .nilPtr] := by kernel_rfl
@[go_sem] theorem sz84 : szOf Go.Proofs.Try.prog 84 = 1 := by kernel_rfl
@[go_sem] theorem by84 : byOf Go.Proofs.Try.prog 84 = 8 := by kernel_rfl
@[go_sem] theorem hT84 : hasT Go.Proofs.Try.prog 84 = true := by kernel_rfl
@[go_sem] theorem iS84 : (inf Go.Proofs.Try.prog 84).isSome = true := by kernel_rfl
@[go_sem] theorem ag84 : aggB Go.Proofs.Try.prog 84 = false := by kernel_rfl
@[go_sem] theorem zo84 : zeroOf Go.Proofs.Try.prog 84 = some [.pv .nilFunc] := by kernel_rfl
@[go_sem] theorem sz85 : szOf Go.Proofs.Try.prog 85 = 1 := by kernel_rfl
@[go_sem] theorem by85 : byOf Go.Proofs.Try.prog 85 = 8 := by kernel_rfl
@[go_sem] theorem hT85 : hasT Go.Proofs.Try.prog 85 = true := by kernel_rfl
@[go_sem] theorem iS85 : (inf Go.Proofs.Try.prog 85).isSome = true := by kernel_rfl
@[go_sem] theorem ag85 : aggB Go.Proofs.Try.prog 85 = false := by kernel_rfl
@[go_sem] theorem zo85 : zeroOf Go.Proofs.Try.prog 85 = some [.pv .nilFunc] := by kernel_rfl
@[go_sem] theorem sz86 : szOf Go.Proofs.Try.prog 86 = 1 := by kernel_rfl
@[go_sem] theorem by86 : byOf Go.Proofs.Try.prog 86 = 8 := by kernel_rfl
@[go_sem] theorem hT86 : hasT Go.Proofs.Try.prog 86 = true := by kernel_rfl
@[go_sem] theorem iS86 : (inf Go.Proofs.Try.prog 86).isSome = true := by kernel_rfl
@[go_sem] theorem ag86 : aggB Go.Proofs.Try.prog 86 = false := by kernel_rfl
@[go_sem] theorem zo86 : zeroOf Go.Proofs.Try.prog 86 = some [.pv .nilPtr] := by kernel_rfl
@[go_sem] theorem sz87 : szOf Go.Proofs.Try.prog 87 = 1 := by kernel_rfl
@[go_sem] theorem by87 : byOf Go.Proofs.Try.prog 87 = 8 := by kernel_rfl
@[go_sem] theorem hT87 : hasT Go.Proofs.Try.prog 87 = true := by kernel_rfl
@[go_sem] theorem iS87 : (inf Go.Proofs.Try.prog 87).isSome = true := by kernel_rfl
@[go_sem] theorem ag87 : aggB Go.Proofs.Try.prog 87 = false := by kernel_rfl
@[go_sem] theorem zo87 : zeroOf Go.Proofs.Try.prog 87 = some [.pv .nilFunc] := by kernel_rfl
@[go_sem] theorem sz88 : szOf Go.Proofs.Try.prog 88 = 1 := by kernel_rfl
@[go_sem] theorem by88 : byOf Go.Proofs.Try.prog 88 = 8 := by kernel_rfl
@[go_sem] theorem hT88 : hasT Go.Proofs.Try.prog 88 = true := by kernel_rfl
@[go_sem] theorem iS88 : (inf Go.Proofs.Try.prog 88).isSome = true := by kernel_rfl
@[go_sem] theorem ag88 : aggB Go.Proofs.Try.prog 88 = false := by kernel_rfl
@[go_sem] theorem zo88 : zeroOf Go.Proofs.Try.prog 88 = some [.pv .nilFunc] := by kernel_rfl
@[go_sem] theorem sz89 : szOf Go.Proofs.Try.prog 89 = 1 := by kernel_rfl
@[go_sem] theorem by89 : byOf Go.Proofs.Try.prog 89 = 8 := by kernel_rfl
@[go_sem] theorem hT89 : hasT Go.Proofs.Try.prog 89 = true := by kernel_rfl
@[go_sem] theorem iS89 : (inf Go.Proofs.Try.prog 89).isSome = true := by kernel_rfl
@[go_sem] theorem ag89 : aggB Go.Proofs.Try.prog 89 = false := by kernel_rfl
@[go_sem] theorem zo89 : zeroOf Go.Proofs.Try.prog 89 = some [.pv .nilFunc] := by kernel_rfl
@[go_sem] theorem sz90 : szOf Go.Proofs.Try.prog 90 = 1 := by kernel_rfl
@[go_sem] theorem by90 : byOf Go.Proofs.Try.prog 90 = 8 := by kernel_rfl
@[go_sem] theorem hT90 : hasT Go.Proofs.Try.prog 90 = true := by kernel_rfl
@[go_sem] theorem iS90 : (inf Go.Proofs.Try.prog 90).isSome = true := by kernel_rfl
@[go_sem] theorem ag90 : aggB Go.Proofs.Try.prog 90 = false := by kernel_rfl
@[go_sem] theorem zo90 : zeroOf Go.Proofs.Try.prog 90 = some [.pv .nilFunc] := by kernel_rfl
@[go_sem] theorem sz91 : szOf Go.Proofs.Try.prog 91 = 1 := by kernel_rfl
@[go_sem] theorem by91 : byOf Go.Proofs.Try.prog 91 = 8 := by kernel_rfl
@[go_sem] theorem hT91 : hasT Go.Proofs.Try.prog 91 = true := by kernel_rfl
@[go_sem] theorem iS91 : (inf Go.Proofs.Try.prog 91).isSome = true := by kernel_rfl
@[go_sem] theorem ag91 : aggB Go.Proofs.Try.prog 91 = false := by kernel_rfl
@[go_sem] theorem zo91 : zeroOf Go.Proofs.Try.prog 91 = some [.pv .nilFunc] := by kernel_rfl
@[go_sem] theorem sz92 : szOf Go.Proofs.Try.prog 92 = 1 := by kernel_rfl
@[go_sem] theorem by92 : byOf Go.Proofs.Try.prog 92 = 8 := by kernel_rfl
@[go_sem] theorem hT92 : hasT Go.Proofs.Try.prog 92 = true := by kernel_rfl
@[go_sem] theorem iS92 : (inf Go.Proofs.Try.prog 92).isSome = true := by kernel_rfl
@[go_sem] theorem ag92 : aggB Go.Proofs.Try.prog 92 = false := by kernel_rfl
@[go_sem] theorem zo92 : zeroOf Go.Proofs.Try.prog 92 = some [.pv (.int .u64 0)] := by kernel_rfl
@[go_sem] theorem sz93 : szOf Go.Proofs.Try.prog 93 = 1 := by kernel_rfl
@[go_sem] theorem by93 : byOf Go.Proofs.Try.prog 93 = 0 := by kernel_rfl
@[go_sem] theorem hT93 : hasT Go.Proofs.Try.prog 93 = true := by kernel_rfl
@[go_sem] theorem iS93 : (inf Go.Proofs.Try.prog 93).isSome = true := by kernel_rfl
@[go_sem] theorem ag93 : aggB Go.Proofs.Try.prog 93 = false := by kernel_rfl
@[go_sem] theorem zo93 : zeroOf Go.Proofs.Try.prog 93 = some [.undef] := by kernel_rfl
@[go_sem] theorem sz94 : szOf Go.Proofs.Try.prog 94 = 1 := by kernel_rfl
@[go_sem] theorem by94 : byOf Go.Proofs.Try.prog 94 = 8 := by kernel_rfl
@[go_sem] theorem hT94 : hasT Go.Proofs.Try.prog 94 = true := by kernel_rfl
@[go_sem] theorem iS94 : (inf Go.Proofs.Try.prog 94).isSome = true := by kernel_rfl
@[go_sem] theorem ag94 : aggB Go.Proofs.Try.prog 94 = false := by kernel_rfl
@[go_sem] theorem zo94 : zeroOf Go.Proofs.Try.prog 94 = some [.pv .nilFunc] := by kernel_rfl
@[go_sem] theorem sz95 : szOf Go.Proofs.Try.prog 95 = 1 := by kernel_rfl
@[go_sem] theorem by95 : byOf Go.Proofs.Try.prog 95 = 4 := by kernel_rfl
@[go_sem] theorem hT95 : hasT Go.Proofs.Try.prog 95 = true := by kernel_rfl
@[go_sem] theorem iS95 : (inf Go.Proofs.Try.prog 95).isSome = true := by kernel_rfl
@[go_sem] theorem ag95 : aggB Go.Proofs.Try.prog 95 = false := by kernel_rfl
@[go_sem] theorem zo95 : zeroOf Go.Proofs.Try.prog 95 = some [.pv (.int .u32 0)] := by kernel_rfl
@[go_sem] theorem sz96 : szOf Go.Proofs.Try.prog 96 = 1 := by kernel_rfl
@[go_sem] theorem by96 : byOf Go.Proofs.Try.prog 96 = 0 := by kernel_rfl
@[go_sem] theorem hT96 : hasT Go.Proofs.Try.prog 96 = true := by kernel_rfl
@[go_sem] theorem iS96 : (inf Go.Proofs.Try.prog 96).isSome = true := by kernel_rfl
@[go_sem] theorem ag96 : aggB Go.Proofs.Try.prog 96 = false := by kernel_rfl
@[go_sem] theorem zo96 : zeroOf Go.Proofs.Try.prog 96 = some [.undef] := by kernel_rfl
@[go_sem] theorem sz97 : szOf Go.Proofs.Try.prog 97 = 1 := by kernel_rfl
@[go_sem] theorem by97 : byOf Go.Proofs.Try.prog 97 = 8 := by kernel_rfl
@[go_sem] theorem hT97 : hasT Go.Proofs.Try.prog 97 = true := by kernel_rfl
@[go_sem] theorem iS97 : (inf Go.Proofs.Try.prog 97).isSome = true := by kernel_rfl
@[go_sem] theorem ag97 : aggB Go.Proofs.Try.prog 97 = false := by kernel_rfl
@[go_sem] theorem zo97 : zeroOf Go.Proofs.Try.prog 97 = some [.pv .nilFunc] := by kernel_rfl
@[go_sem] theorem sz98 : szOf Go.Proofs.Try.prog 98 = 4 := by kernel_rfl
@[go_sem] theorem by98 : byOf Go.Proofs.Try.prog 98 = 40 := by kernel_rfl
@[go_sem] theorem hT98 : hasT Go.Proofs.Try.prog 98 = true := by kernel_rfl
@[go_sem] theorem iS98 : (inf Go.Proofs.Try.prog 98).isSome = true := by kernel_rfl
@[go_sem] theorem ag98 : aggB Go.Proofs.Try.prog 98 = true := by kernel_rfl
@[go_sem] theorem zo98 : zeroOf Go.Proofs.Try.prog 98 = some [.pv .nilPtr, .pv .nilPtr, .pv .nilPtr, .pv (.str [])] := by kernel_rfl
@[go_sem] theorem fo98_0 : fieldOff Go.Proofs.Try.prog 98 0 = some (0, 17) := by kernel_rfl
@[go_sem] theorem fo98_1 : fieldOff Go.Proofs.Try.prog 98 1 = some (1, 17) := by kernel_rfl
@[go_sem] theorem fo98_2 : fieldOff Go.Proofs.Try.prog 98 2 = some (2, 17) := by kernel_rfl
@[go_sem] theorem fo98_3 : fieldOff Go.Proofs.Try.prog 98 3 = some (3, 9) := by kernel_rfl
@[go_sem] theorem sz99 : szOf Go.Proofs.Try.prog 99 = 4 := by kernel_rfl
@[go_sem] theorem by99 : byOf Go.Proofs.Try.prog 99 = 40 := by kernel_rfl
@[go_sem] theorem hT99 : hasT Go.Proofs.Try.prog 99 = true := by kernel_rfl
@[go_sem] theorem iS99 : (inf Go.Proofs.Try.prog 99).isSome = true := by kernel_rfl
@[go_sem] theorem ag99 : aggB Go.Proofs.Try.prog 99 = true := by kernel_rfl
@[go_sem] theorem zo99 : zeroOf Go.Proofs.Try.prog 99 = some [.pv .nilPtr, .pv .nilPtr, .pv .nilPtr, .pv (.str [])] := by kernel_rfl
@[go_sem] theorem fo99_0 : fieldOff Go.Proofs.Try.prog 99 0 = some (0, 17) := by kernel_rfl
@[go_sem] theorem fo99_1 : fieldOff Go.Proofs.Try.prog 99 1 = some (1, 17) := by kernel_rfl
@[go_sem] theorem fo99_2 : fieldOff Go.Proofs.Try.prog 99 2 = some (2, 17) := by kernel_rfl
@[go_sem] theorem fo99_3 : fieldOff Go.Proofs.Try.prog 99 3 = some (3, 9) := by kernel_rfl
@[go_sem] theorem sz100 : szOf Go.Proofs.Try.prog 100 = 0 := by kernel_rfl
@[go_sem] theorem by100 : byOf Go.Proofs.Try.prog 100 = 0 := by kernel_rfl
@[go_sem] theorem hT100 : hasT Go.Proofs.Try.prog 100 = true := by kernel_rfl
@[go_sem] theorem iS100 : (inf Go.Proofs.Try.prog 100).isSome = true := by kernel_rfl
@[go_sem] theorem ag100 : aggB Go.Proofs.Try.prog 100 = true := by kernel_rfl
@[go_sem] theorem zo100 : zeroOf Go.Proofs.Try.prog 100 = some [] := by kernel_rfl
@[go_sem] theorem sz101 : szOf Go.Proofs.Try.prog 101 = 0 := by kernel_rfl
@[go_sem] theorem by101 : byOf Go.Proofs.Try.prog 101 = 0 := by kernel_rfl
@[go_sem] theorem hT101 : hasT Go.Proofs.Try.prog 101 = true := by kernel_rfl
@[go_sem] theorem iS101 : (inf Go.Proofs.Try.prog 101).isSome = true := by kernel_rfl
@[go_sem] theorem ag101 : aggB Go.Proofs.Try.prog 101 = true := by kernel_rfl
@[go_sem] theorem zo101 : zeroOf Go.Proofs.Try.prog 101 = some [] := by kernel_rfl
@[go_sem] theorem fo101_0 : fieldOff Go.Proofs.Try.prog 101 0 = some (0, 100) := by kernel_rfl
@[go_sem] theorem sz102 : szOf Go.Proofs.Try.prog 102 = 0 := by kernel_rfl
@[go_sem] theorem by102 : byOf Go.Proofs.Try.prog 102 = 0 := by kernel_rfl
@[go_sem] theorem hT102 : hasT Go.Proofs.Try.prog 102 = true := by kernel_rfl
@[go_sem] theorem iS102 : (inf Go.Proofs.Try.prog 102).isSome = true := by kernel_rfl
@[go_sem] theorem ag102 : aggB Go.Proofs.Try.prog 102 = true := by kernel_rfl
@[go_sem] theorem zo102 : zeroOf Go.Proofs.Try.prog 102 = some [] := by kernel_rfl
@[go_sem] theorem fo102_0 : fieldOff Go.Proofs.Try.prog 102 0 = some (0, 100) := by kernel_rfl
@[go_sem] theorem sz103 : szOf Go.Proofs.Try.prog 103 = 1 := by kernel_rfl
@[go_sem] theorem by103 : byOf Go.Proofs.Try.prog 103 = 8 := by kernel_rfl
@[go_sem] theorem hT103 : hasT Go.Proofs.Try.prog 103 = true := by kernel_rfl
@[go_sem] theorem iS103 : (inf Go.Proofs.Try.prog 103).isSome = true := by kernel_rfl
@[go_sem] theorem ag103 : aggB Go.Proofs.Try.prog 103 = false := by kernel_rfl
@[go_sem] theorem zo103 : zeroOf Go.Proofs.Try.prog 103 = some [.pv .nilFunc] := by kernel_rfl
@[go_sem] theorem sz104 : szOf Go.Proofs.Try.prog 104 = 1 := by kernel_rfl
@[go_sem] theorem by104 : byOf Go.Proofs.Try.prog 104 = 1 := by kernel_rfl
@[go_sem] theorem hT104 : hasT Go.Proofs.Try.prog 104 = true := by kernel_rfl
@[go_sem] theorem iS104 : (inf Go.Proofs.Try.prog 104).isSome = true := by kernel_rfl
@[go_sem] theorem ag104 : aggB Go.Proofs.Try.prog 104 = false := by kernel_rfl
@[go_sem] theorem zo104 : zeroOf Go.Proofs.Try.prog 104 = some [.pv (.int .u8 0)] := by kernel_rfl
@[go_sem] theorem sz105 : szOf Go.Proofs.Try.prog 105 = 1 := by kernel_rfl
@[go_sem] theorem by105 : byOf Go.Proofs.Try.prog 105 = 1 := by kernel_rfl
@[go_sem] theorem hT105 : hasT Go.Proofs.Try.prog 105 = true := by kernel_rfl
@[go_sem] theorem iS105 : (inf Go.Proofs.Try.prog 105).isSome = true := by kernel_rfl
@[go_sem] theorem ag105 : aggB Go.Proofs.Try.prog 105 = false := by kernel_rfl
@[go_sem] theorem zo105 : zeroOf Go.Proofs.Try.prog 105 = some [.pv (.int .u8 0)] := by kernel_rfl
@[go_sem] theorem sz106 : szOf Go.Proofs.Try.prog 106 = 1 := by kernel_rfl
@[go_sem] theorem by106 : byOf Go.Proofs.Try.prog 106 = 8 := by kernel_rfl
@[go_sem] theorem hT106 : hasT Go.Proofs.Try.prog 106 = true := by kernel_rfl
@[go_sem] theorem iS106 : (inf Go.Proofs.Try.prog 106).isSome = true := by kernel_rfl
@[go_sem] theorem ag106 : aggB Go.Proofs.Try.prog 106 = false := by kernel_rfl
@[go_sem] theorem zo106 : zeroOf Go.Proofs.Try.prog 106 = some [.pv .nilFunc] := by kernel_rfl
@[go_sem] theorem sz107 : szOf Go.Proofs.Try.prog 107 = 1 := by kernel_rfl
@[go_sem] theorem by107 : byOf Go.Proofs.Try.prog 107 = 4 := by kernel_rfl
@[go_sem] theorem hT107 : hasT Go.Proofs.Try.prog 107 = true := by kernel_rfl
@[go_sem] theorem iS107 : (inf Go.Proofs.Try.prog 107).isSome = true := by kernel_rfl
@[go_sem] theorem ag107 : aggB Go.Proofs.Try.prog 107 = false := by kernel_rfl
@[go_sem] theorem zo107 : zeroOf Go.Proofs.Try.prog 107 = some [.pv (.int .i32 0)] := by kernel_rfl
@[go_sem] theorem sz108 : szOf Go.Proofs.Try.prog 108 = 1 := by kernel_rfl
@[go_sem] theorem by108 : byOf Go.Proofs.Try.prog 108 = 4 := by kernel_rfl
@[go_sem] theorem hT108 : hasT Go.Proofs.Try.prog 108 = true := by kernel_rfl
@[go_sem] theorem iS108 : (inf Go.Proofs.Try.prog 108).isSome = true := by kernel_rfl
@[go_sem] theorem ag108 : aggB Go.Proofs.Try.prog 108 = false := by kernel_rfl
@[go_sem] theorem zo108 : zeroOf Go.Proofs.Try.prog 108 = some [.pv (.int .i32 0)] := by kernel_rfl
@[go_sem] theorem sz109 : szOf Go.Proofs.Try.prog 109 = 11 := by kernel_rfl
@[go_sem] theorem by109 : byOf Go.Proofs.Try.prog 109 = 48 := by kernel_rfl
@[go_sem] theorem hT109 : hasT Go.Proofs.Try.prog 109 = true := by kernel_rfl
@[go_sem] theorem iS109 : (inf Go.Proofs.Try.prog 109).isSome = true := by kernel_rfl
@[go_sem] theorem ag109 : aggB Go.Proofs.Try.prog 109 = true := by kernel_rfl
@[go_sem] theorem zo109 : zeroOf Go.Proofs.Try.prog 109 = some [.pv (.int .u64 0), .pv (.int .u64 0), .pv (.int .u32 0), .pv (.int .u8 0), .pv (.int .u8 0), .pv (.int .u8 0), .pv (.int .u8 0), .pv .nilFunc, .pv .nilPtr, .pv (.int .i32 0), .pv (.int .i32 0)] := by kernel_rfl
@[go_sem] theorem fo109_0 : fieldOff Go.Proofs.Try.prog 109 0 = some (0, 12) := by kernel_rfl
@[go_sem] theorem fo109_1 : fieldOff Go.Proofs.Try.prog 109 1 = some (1, 12) := by kernel_rfl
@[go_sem] theorem fo109_2 : fieldOff Go.Proofs.Try.prog 109 2 = some (2, 95) := by kernel_rfl
@[go_sem] theorem fo109_3 : fieldOff Go.Proofs.Try.prog 109 3 = some (3, 104) := by kernel_rfl
@[go_sem] theorem fo109_4 : fieldOff Go.Proofs.Try.prog 109 4 = some (4, 5) := by kernel_rfl
@[go_sem] theorem fo109_5 : fieldOff Go.Proofs.Try.prog 109 5 = some (5, 5) := by kernel_rfl
@[go_sem] theorem fo109_6 : fieldOff Go.Proofs.Try.prog 109 6 = some (6, 105) := by kernel_rfl
@[go_sem] theorem fo109_7 : fieldOff Go.Proofs.Try.prog 109 7 = some (7, 106) := by kernel_rfl
@[go_sem] theorem fo109_8 : fieldOff Go.Proofs.Try.prog 109 8 = some (8, 77) := by kernel_rfl
@[go_sem] theorem fo109_9 : fieldOff Go.Proofs.Try.prog 109 9 = some (9, 107) := by kernel_rfl
@[go_sem] theorem fo109_10 : fieldOff Go.Proofs.Try.prog 109 10 = some (10, 108) := by kernel_rfl
@[go_sem] theorem sz110 : szOf Go.Proofs.Try.prog 110 = 11 := by kernel_rfl
@[go_sem] theorem by110 : byOf Go.Proofs.Try.prog 110 = 48 := by kernel_rfl
@[go_sem] theorem hT110 : hasT Go.Proofs.Try.prog 110 = true := by kernel_rfl
@[go_sem] theorem iS110 : (inf Go.Proofs.Try.prog 110).isSome = true := by kernel_rfl
@[go_sem] theorem ag110 : aggB Go.Proofs.Try.prog 110 = true := by kernel_rfl
@[go_sem] theorem zo110 : zeroOf Go.Proofs.Try.prog 110 = some [.pv (.int .u64 0), .pv (.int .u64 0), .pv (.int .u32 0), .pv (.int .u8 0), .pv (.int .u8 0), .pv (.int .u8 0), .pv (.int .u8 0), .pv .nilFunc, .pv .nilPtr, .pv (.int .i32 0), .pv (.int .i32 0)] := by kernel_rfl
@[go_sem] theorem fo110_0 : fieldOff Go.Proofs.Try.prog 110 0 = some (0, 12) := by kernel_rfl
@[go_sem] theorem fo110_1 : fieldOff Go.Proofs.Try.prog 110 1 = some (1, 12) := by kernel_rfl
@[go_sem] theorem fo110_2 : fieldOff Go.Proofs.Try.prog 110 2 = some (2, 95) := by kernel_rfl
@[go_sem] theorem fo110_3 : fieldOff Go.Proofs.Try.prog 110 3 = some (3, 104) := by kernel_rfl
@[go_sem] theorem fo110_4 : fieldOff Go.Proofs.Try.prog 110 4 = some (4, 5) := by kernel_rfl
@[go_sem] theorem fo110_5 : fieldOff Go.Proofs.Try.prog 110 5 = some (5, 5) := by kernel_rfl
@[go_sem] theorem fo110_6 : fieldOff Go.Proofs.Try.prog 110 6 = some (6, 105) := by kernel_rfl
@[go_sem] theorem fo110_7 : fieldOff Go.Proofs.Try.prog 110 7 = some (7, 106) := by kernel_rfl
@[go_sem] theorem fo110_8 : fieldOff Go.Proofs.Try.prog 110 8 = some (8, 77) := by kernel_rfl
@[go_sem] theorem fo110_9 : fieldOff Go.Proofs.Try.prog 110 9 = some (9, 107) := by kernel_rfl
@[go_sem] theorem fo110_10 : fieldOff Go.Proofs.Try.prog 110 10 = some (10, 108) := by kernel_rfl
end Go.AD.T
