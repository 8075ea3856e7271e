/- What the seat's types are, one by one. -/
import Derived.Test.YtjgjmpophpifgaaDoorChecked
import Derived.Test.YtjgjmpophpifgaaDoorAd14
set_option linter.unusedVariables false
namespace Go.AD.T
open Go.Proofs.Tryd
@[go_sem] theorem sz0 : szOf prog 0 = 1 := by kernel_rfl
@[go_sem] theorem by0 : byOf prog 0 = 0 := by kernel_rfl
@[go_sem] theorem hT0 : hasT prog 0 = true := by kernel_rfl
@[go_sem] theorem iS0 : (inf prog 0).isSome = true := by kernel_rfl
@[go_sem] theorem ag0 : aggB prog 0 = false := by kernel_rfl
@[go_sem] theorem zo0 : zeroOf prog 0 = some [.undef] := by kernel_rfl
@[go_sem] theorem sz1 : szOf prog 1 = 1 := by kernel_rfl
@[go_sem] theorem by1 : byOf prog 1 = 8 := by kernel_rfl
@[go_sem] theorem hT1 : hasT prog 1 = true := by kernel_rfl
@[go_sem] theorem iS1 : (inf prog 1).isSome = true := by kernel_rfl
@[go_sem] theorem ag1 : aggB prog 1 = false := by kernel_rfl
@[go_sem] theorem zo1 : zeroOf prog 1 = some [.pv .nilFunc] := by kernel_rfl
@[go_sem] theorem sz2 : szOf prog 2 = 1 := by kernel_rfl
@[go_sem] theorem by2 : byOf prog 2 = 8 := by kernel_rfl
@[go_sem] theorem hT2 : hasT prog 2 = true := by kernel_rfl
@[go_sem] theorem iS2 : (inf prog 2).isSome = true := by kernel_rfl
@[go_sem] theorem ag2 : aggB prog 2 = false := by kernel_rfl
@[go_sem] theorem zo2 : zeroOf prog 2 = some [.pv (.int .i64 0)] := by kernel_rfl
@[go_sem] theorem sz3 : szOf prog 3 = 1 := by kernel_rfl
@[go_sem] theorem by3 : byOf prog 3 = 8 := by kernel_rfl
@[go_sem] theorem hT3 : hasT prog 3 = true := by kernel_rfl
@[go_sem] theorem iS3 : (inf prog 3).isSome = true := by kernel_rfl
@[go_sem] theorem ag3 : aggB prog 3 = false := by kernel_rfl
@[go_sem] theorem zo3 : zeroOf prog 3 = some [.pv (.int .i64 0)] := by kernel_rfl
@[go_sem] theorem sz4 : szOf prog 4 = 1 := by kernel_rfl
@[go_sem] theorem by4 : byOf prog 4 = 1 := by kernel_rfl
@[go_sem] theorem hT4 : hasT prog 4 = true := by kernel_rfl
@[go_sem] theorem iS4 : (inf prog 4).isSome = true := by kernel_rfl
@[go_sem] theorem ag4 : aggB prog 4 = false := by kernel_rfl
@[go_sem] theorem zo4 : zeroOf prog 4 = some [.pv (.bool false)] := by kernel_rfl
@[go_sem] theorem sz5 : szOf prog 5 = 1 := by kernel_rfl
@[go_sem] theorem by5 : byOf prog 5 = 1 := by kernel_rfl
@[go_sem] theorem hT5 : hasT prog 5 = true := by kernel_rfl
@[go_sem] theorem iS5 : (inf prog 5).isSome = true := by kernel_rfl
@[go_sem] theorem ag5 : aggB prog 5 = false := by kernel_rfl
@[go_sem] theorem zo5 : zeroOf prog 5 = some [.pv (.int .u8 0)] := by kernel_rfl
@[go_sem] theorem sz6 : szOf prog 6 = 1 := by kernel_rfl
@[go_sem] theorem by6 : byOf prog 6 = 1 := by kernel_rfl
@[go_sem] theorem hT6 : hasT prog 6 = true := by kernel_rfl
@[go_sem] theorem iS6 : (inf prog 6).isSome = true := by kernel_rfl
@[go_sem] theorem ag6 : aggB prog 6 = false := by kernel_rfl
@[go_sem] theorem zo6 : zeroOf prog 6 = some [.pv (.int .u8 0)] := by kernel_rfl
@[go_sem] theorem sz8 : szOf prog 8 = 4 := by kernel_rfl
@[go_sem] theorem by8 : byOf prog 8 = 24 := by kernel_rfl
@[go_sem] theorem hT8 : hasT prog 8 = true := by kernel_rfl
@[go_sem] theorem iS8 : (inf prog 8).isSome = true := by kernel_rfl
@[go_sem] theorem ag8 : aggB prog 8 = true := by kernel_rfl
@[go_sem] theorem zo8 : zeroOf prog 8 = some [.pv (.int .i64 0), .pv (.int .i64 0), .pv (.bool false), .pv (.int .u8 0)] := by kernel_rfl
@[go_sem] theorem fo8_0 : fieldOff prog 8 0 = some (0, 2) := by kernel_rfl
@[go_sem] theorem fo8_1 : fieldOff prog 8 1 = some (1, 3) := by kernel_rfl
@[go_sem] theorem fo8_2 : fieldOff prog 8 2 = some (2, 4) := by kernel_rfl
@[go_sem] theorem fo8_3 : fieldOff prog 8 3 = some (3, 6) := by kernel_rfl
@[go_sem] theorem sz9 : szOf prog 9 = 1 := by kernel_rfl
@[go_sem] theorem by9 : byOf prog 9 = 16 := by kernel_rfl
@[go_sem] theorem hT9 : hasT prog 9 = true := by kernel_rfl
@[go_sem] theorem iS9 : (inf prog 9).isSome = true := by kernel_rfl
@[go_sem] theorem ag9 : aggB prog 9 = false := by kernel_rfl
@[go_sem] theorem zo9 : zeroOf prog 9 = some [.pv (.str [])] := by kernel_rfl
@[go_sem] theorem sz20 : szOf prog 20 = 1 := by kernel_rfl
@[go_sem] theorem by20 : byOf prog 20 = 16 := by kernel_rfl
@[go_sem] theorem hT20 : hasT prog 20 = true := by kernel_rfl
@[go_sem] theorem iS20 : (inf prog 20).isSome = true := by kernel_rfl
@[go_sem] theorem ag20 : aggB prog 20 = false := by kernel_rfl
@[go_sem] theorem zo20 : zeroOf prog 20 = some [.pv .nilIface] := by kernel_rfl
@[go_sem] theorem sz27 : szOf prog 27 = 1 := by kernel_rfl
@[go_sem] theorem by27 : byOf prog 27 = 24 := by kernel_rfl
@[go_sem] theorem hT27 : hasT prog 27 = true := by kernel_rfl
@[go_sem] theorem iS27 : (inf prog 27).isSome = true := by kernel_rfl
@[go_sem] theorem ag27 : aggB prog 27 = false := by kernel_rfl
@[go_sem] theorem zo27 : zeroOf prog 27 = some [.nilS] := by kernel_rfl
@[go_sem] theorem el27 : elOf prog 27 = some 9 := by kernel_rfl
@[go_sem] theorem sz30 : szOf prog 30 = 1 := by kernel_rfl
@[go_sem] theorem by30 : byOf prog 30 = 24 := by kernel_rfl
@[go_sem] theorem hT30 : hasT prog 30 = true := by kernel_rfl
@[go_sem] theorem iS30 : (inf prog 30).isSome = true := by kernel_rfl
@[go_sem] theorem ag30 : aggB prog 30 = false := by kernel_rfl
@[go_sem] theorem zo30 : zeroOf prog 30 = some [.nilS] := by kernel_rfl
@[go_sem] theorem el30 : elOf prog 30 = some 5 := by kernel_rfl
@[go_sem] theorem sz33 : szOf prog 33 = 1 := by kernel_rfl
@[go_sem] theorem by33 : byOf prog 33 = 8 := by kernel_rfl
@[go_sem] theorem hT33 : hasT prog 33 = true := by kernel_rfl
@[go_sem] theorem iS33 : (inf prog 33).isSome = true := by kernel_rfl
@[go_sem] theorem ag33 : aggB prog 33 = false := by kernel_rfl
@[go_sem] theorem zo33 : zeroOf prog 33 = some [.pv .nilFunc] := by kernel_rfl
@[go_sem] theorem sz34 : szOf prog 34 = 1 := by kernel_rfl
@[go_sem] theorem by34 : byOf prog 34 = 8 := by kernel_rfl
@[go_sem] theorem hT34 : hasT prog 34 = true := by kernel_rfl
@[go_sem] theorem iS34 : (inf prog 34).isSome = true := by kernel_rfl
@[go_sem] theorem ag34 : aggB prog 34 = false := by kernel_rfl
@[go_sem] theorem zo34 : zeroOf prog 34 = some [.pv .nilFunc] := by kernel_rfl
@[go_sem] theorem sz35 : szOf prog 35 = 1 := by kernel_rfl
@[go_sem] theorem by35 : byOf prog 35 = 24 := by kernel_rfl
@[go_sem] theorem hT35 : hasT prog 35 = true := by kernel_rfl
@[go_sem] theorem iS35 : (inf prog 35).isSome = true := by kernel_rfl
@[go_sem] theorem ag35 : aggB prog 35 = false := by kernel_rfl
@[go_sem] theorem zo35 : zeroOf prog 35 = some [.nilS] := by kernel_rfl
@[go_sem] theorem el35 : elOf prog 35 = some 39 := by kernel_rfl
@[go_sem] theorem sz39 : szOf prog 39 = 3 := by kernel_rfl
@[go_sem] theorem by39 : byOf prog 39 = 56 := by kernel_rfl
@[go_sem] theorem hT39 : hasT prog 39 = true := by kernel_rfl
@[go_sem] theorem iS39 : (inf prog 39).isSome = true := by kernel_rfl
@[go_sem] theorem ag39 : aggB prog 39 = true := by kernel_rfl
@[go_sem] theorem zo39 : zeroOf prog 39 = some [.pv (.str []), .pv (.str []), .nilS] := by kernel_rfl
@[go_sem] theorem fo39_0 : fieldOff prog 39 0 = some (0, 9) := by kernel_rfl
@[go_sem] theorem fo39_1 : fieldOff prog 39 1 = some (1, 9) := by kernel_rfl
@[go_sem] theorem fo39_2 : fieldOff prog 39 2 = some (2, 35) := by kernel_rfl
@[go_sem] theorem sz47 : szOf prog 47 = 1 := by kernel_rfl
@[go_sem] theorem by47 : byOf prog 47 = 24 := by kernel_rfl
@[go_sem] theorem hT47 : hasT prog 47 = true := by kernel_rfl
@[go_sem] theorem iS47 : (inf prog 47).isSome = true := by kernel_rfl
@[go_sem] theorem ag47 : aggB prog 47 = false := by kernel_rfl
@[go_sem] theorem zo47 : zeroOf prog 47 = some [.nilS] := by kernel_rfl
@[go_sem] theorem el47 : elOf prog 47 = some 52 := by kernel_rfl
@[go_sem] theorem sz48 : szOf prog 48 = 1 := by kernel_rfl
@[go_sem] theorem by48 : byOf prog 48 = 0 := by kernel_rfl
@[go_sem] theorem hT48 : hasT prog 48 = true := by kernel_rfl
@[go_sem] theorem iS48 : (inf prog 48).isSome = true := by kernel_rfl
@[go_sem] theorem ag48 : aggB prog 48 = false := by kernel_rfl
@[go_sem] theorem zo48 : zeroOf prog 48 = some [.undef] := by kernel_rfl
@[go_sem] theorem sz52 : szOf prog 52 = 2 := by kernel_rfl
@[go_sem] theorem by52 : byOf prog 52 = 32 := by kernel_rfl
@[go_sem] theorem hT52 : hasT prog 52 = true := by kernel_rfl
@[go_sem] theorem iS52 : (inf prog 52).isSome = true := by kernel_rfl
@[go_sem] theorem ag52 : aggB prog 52 = true := by kernel_rfl
@[go_sem] theorem zo52 : zeroOf prog 52 = some [.pv (.str []), .pv (.str [])] := by kernel_rfl
@[go_sem] theorem fo52_0 : fieldOff prog 52 0 = some (0, 9) := by kernel_rfl
@[go_sem] theorem fo52_1 : fieldOff prog 52 1 = some (1, 9) := by kernel_rfl
@[go_sem] theorem sz54 : szOf prog 54 = 0 := by kernel_rfl
@[go_sem] theorem by54 : byOf prog 54 = 0 := by kernel_rfl
@[go_sem] theorem hT54 : hasT prog 54 = true := by kernel_rfl
@[go_sem] theorem iS54 : (inf prog 54).isSome = true := by kernel_rfl
@[go_sem] theorem ag54 : aggB prog 54 = true := by kernel_rfl
@[go_sem] theorem zo54 : zeroOf prog 54 = some [] := by kernel_rfl
@[go_sem] theorem sz57 : szOf prog 57 = 1 := by kernel_rfl
@[go_sem] theorem by57 : byOf prog 57 = 8 := by kernel_rfl
@[go_sem] theorem hT57 : hasT prog 57 = true := by kernel_rfl
@[go_sem] theorem iS57 : (inf prog 57).isSome = true := by kernel_rfl
@[go_sem] theorem ag57 : aggB prog 57 = false := by kernel_rfl
@[go_sem] theorem zo57 : zeroOf prog 57 = some [.pv .nilPtr] := by kernel_rfl
@[go_sem] theorem sz59 : szOf prog 59 = 1 := by kernel_rfl
@[go_sem] theorem by59 : byOf prog 59 = 24 := by kernel_rfl
@[go_sem] theorem hT59 : hasT prog 59 = true := by kernel_rfl
@[go_sem] theorem iS59 : (inf prog 59).isSome = true := by kernel_rfl
@[go_sem] theorem ag59 : aggB prog 59 = true := by kernel_rfl
@[go_sem] theorem zo59 : zeroOf prog 59 = some [.nilS] := by kernel_rfl
@[go_sem] theorem fo59_0 : fieldOff prog 59 0 = some (0, 47) := by kernel_rfl
@[go_sem] theorem sz64 : szOf prog 64 = 3 := by kernel_rfl
@[go_sem] theorem by64 : byOf prog 64 = 3 := by kernel_rfl
@[go_sem] theorem hT64 : hasT prog 64 = true := by kernel_rfl
@[go_sem] theorem iS64 : (inf prog 64).isSome = true := by kernel_rfl
@[go_sem] theorem ag64 : aggB prog 64 = true := by kernel_rfl
@[go_sem] theorem zo64 : zeroOf prog 64 = some [.pv (.bool false), .pv (.bool false), .pv (.bool false)] := by kernel_rfl
@[go_sem] theorem fo64_0 : fieldOff prog 64 0 = some (0, 4) := by kernel_rfl
@[go_sem] theorem fo64_1 : fieldOff prog 64 1 = some (1, 4) := by kernel_rfl
@[go_sem] theorem fo64_2 : fieldOff prog 64 2 = some (2, 4) := by kernel_rfl
@[go_sem] theorem sz72 : szOf prog 72 = 2 := by kernel_rfl
@[go_sem] theorem by72 : byOf prog 72 = 40 := by kernel_rfl
@[go_sem] theorem hT72 : hasT prog 72 = true := by kernel_rfl
@[go_sem] theorem iS72 : (inf prog 72).isSome = true := by kernel_rfl
@[go_sem] theorem ag72 : aggB prog 72 = true := by kernel_rfl
@[go_sem] theorem zo72 : zeroOf prog 72 = some [.pv (.str []), .nilS] := by kernel_rfl
@[go_sem] theorem fo72_0 : fieldOff prog 72 0 = some (0, 9) := by kernel_rfl
@[go_sem] theorem fo72_1 : fieldOff prog 72 1 = some (1, 47) := by kernel_rfl
@[go_sem] theorem sz73 : szOf prog 73 = 1 := by kernel_rfl
@[go_sem] theorem by73 : byOf prog 73 = 8 := by kernel_rfl
@[go_sem] theorem hT73 : hasT prog 73 = true := by kernel_rfl
@[go_sem] theorem iS73 : (inf prog 73).isSome = true := by kernel_rfl
@[go_sem] theorem ag73 : aggB prog 73 = false := by kernel_rfl
@[go_sem] theorem zo73 : zeroOf prog 73 = some [.pv .nilPtr] := by kernel_rfl
@[go_sem] theorem sz75 : szOf prog 75 = 2 := by kernel_rfl
@[go_sem] theorem by75 : byOf prog 75 = 32 := by kernel_rfl
@[go_sem] theorem hT75 : hasT prog 75 = true := by kernel_rfl
@[go_sem] theorem iS75 : (inf prog 75).isSome = true := by kernel_rfl
@[go_sem] theorem ag75 : aggB prog 75 = true := by kernel_rfl
@[go_sem] theorem zo75 : zeroOf prog 75 = some [.pv .nilPtr, .nilS] := by kernel_rfl
@[go_sem] theorem fo75_0 : fieldOff prog 75 0 = some (0, 73) := by kernel_rfl
@[go_sem] theorem fo75_1 : fieldOff prog 75 1 = some (1, 30) := by kernel_rfl
end Go.AD.T
