import Derived.Test.YteabilbccbhecaaGreatDoorChecked
import Derived.Test.YteabilbccbhecaaGreatDoorM7
set_option linter.unusedVariables false
namespace Go.AD.T
open Go.Proofs.Tryz
@[go_sem] theorem sz0:szOf prog 0=1:=by kernel_rfl
@[go_sem] theorem by0:byOf prog 0=0:=by kernel_rfl
@[go_sem] theorem hT0:hasT prog 0=true:=by kernel_rfl
@[go_sem] theorem iS0:(inf prog 0).isSome=true:=by kernel_rfl
@[go_sem] theorem ag0:aggB prog 0=false:=by kernel_rfl
@[go_sem] theorem zo0:zeroOf prog 0=some [.undef]:=by kernel_rfl
@[go_sem] theorem sz1:szOf prog 1=1:=by kernel_rfl
@[go_sem] theorem by1:byOf prog 1=8:=by kernel_rfl
@[go_sem] theorem hT1:hasT prog 1=true:=by kernel_rfl
@[go_sem] theorem iS1:(inf prog 1).isSome=true:=by kernel_rfl
@[go_sem] theorem ag1:aggB prog 1=false:=by kernel_rfl
@[go_sem] theorem zo1:zeroOf prog 1=some [.pv .nilFunc]:=by kernel_rfl
@[go_sem] theorem sz2:szOf prog 2=1:=by kernel_rfl
@[go_sem] theorem by2:byOf prog 2=8:=by kernel_rfl
@[go_sem] theorem hT2:hasT prog 2=true:=by kernel_rfl
@[go_sem] theorem iS2:(inf prog 2).isSome=true:=by kernel_rfl
@[go_sem] theorem ag2:aggB prog 2=false:=by kernel_rfl
@[go_sem] theorem zo2:zeroOf prog 2=some [.pv (.int .i64 0)]:=by kernel_rfl
@[go_sem] theorem sz3:szOf prog 3=1:=by kernel_rfl
@[go_sem] theorem by3:byOf prog 3=8:=by kernel_rfl
@[go_sem] theorem hT3:hasT prog 3=true:=by kernel_rfl
@[go_sem] theorem iS3:(inf prog 3).isSome=true:=by kernel_rfl
@[go_sem] theorem ag3:aggB prog 3=false:=by kernel_rfl
@[go_sem] theorem zo3:zeroOf prog 3=some [.pv (.int .i64 0)]:=by kernel_rfl
@[go_sem] theorem sz4:szOf prog 4=1:=by kernel_rfl
@[go_sem] theorem by4:byOf prog 4=1:=by kernel_rfl
@[go_sem] theorem hT4:hasT prog 4=true:=by kernel_rfl
@[go_sem] theorem iS4:(inf prog 4).isSome=true:=by kernel_rfl
@[go_sem] theorem ag4:aggB prog 4=false:=by kernel_rfl
@[go_sem] theorem zo4:zeroOf prog 4=some [.pv (.bool false)]:=by kernel_rfl
@[go_sem] theorem sz5:szOf prog 5=1:=by kernel_rfl
@[go_sem] theorem by5:byOf prog 5=1:=by kernel_rfl
@[go_sem] theorem hT5:hasT prog 5=true:=by kernel_rfl
@[go_sem] theorem iS5:(inf prog 5).isSome=true:=by kernel_rfl
@[go_sem] theorem ag5:aggB prog 5=false:=by kernel_rfl
@[go_sem] theorem zo5:zeroOf prog 5=some [.pv (.int .u8 0)]:=by kernel_rfl
@[go_sem] theorem sz6:szOf prog 6=1:=by kernel_rfl
@[go_sem] theorem by6:byOf prog 6=1:=by kernel_rfl
@[go_sem] theorem hT6:hasT prog 6=true:=by kernel_rfl
@[go_sem] theorem iS6:(inf prog 6).isSome=true:=by kernel_rfl
@[go_sem] theorem ag6:aggB prog 6=false:=by kernel_rfl
@[go_sem] theorem zo6:zeroOf prog 6=some [.pv (.int .u8 0)]:=by kernel_rfl
@[go_sem] theorem sz7:szOf prog 7=4:=by kernel_rfl
@[go_sem] theorem by7:byOf prog 7=24:=by kernel_rfl
@[go_sem] theorem hT7:hasT prog 7=true:=by kernel_rfl
@[go_sem] theorem iS7:(inf prog 7).isSome=true:=by kernel_rfl
@[go_sem] theorem ag7:aggB prog 7=true:=by kernel_rfl
@[go_sem] theorem zo7:zeroOf prog 7=some [.pv (.int .i64 0),.pv (.int .i64 0),.pv (.bool false),.pv (.int .u8 0)]:=by kernel_rfl
@[go_sem] theorem fo7_0:fieldOff prog 7 0=some (0,2):=by kernel_rfl
@[go_sem] theorem fo7_1:fieldOff prog 7 1=some (1,3):=by kernel_rfl
@[go_sem] theorem fo7_2:fieldOff prog 7 2=some (2,4):=by kernel_rfl
@[go_sem] theorem fo7_3:fieldOff prog 7 3=some (3,6):=by kernel_rfl
@[go_sem] theorem sz9:szOf prog 9=1:=by kernel_rfl
@[go_sem] theorem by9:byOf prog 9=16:=by kernel_rfl
@[go_sem] theorem hT9:hasT prog 9=true:=by kernel_rfl
@[go_sem] theorem iS9:(inf prog 9).isSome=true:=by kernel_rfl
@[go_sem] theorem ag9:aggB prog 9=false:=by kernel_rfl
@[go_sem] theorem zo9:zeroOf prog 9=some [.pv (.str [])]:=by kernel_rfl
@[go_sem] theorem sz11:szOf prog 11=1:=by kernel_rfl
@[go_sem] theorem by11:byOf prog 11=16:=by kernel_rfl
@[go_sem] theorem hT11:hasT prog 11=true:=by kernel_rfl
@[go_sem] theorem iS11:(inf prog 11).isSome=true:=by kernel_rfl
@[go_sem] theorem ag11:aggB prog 11=false:=by kernel_rfl
@[go_sem] theorem zo11:zeroOf prog 11=some [.pv (.str [])]:=by kernel_rfl
@[go_sem] theorem sz12:szOf prog 12=1:=by kernel_rfl
@[go_sem] theorem by12:byOf prog 12=8:=by kernel_rfl
@[go_sem] theorem hT12:hasT prog 12=true:=by kernel_rfl
@[go_sem] theorem iS12:(inf prog 12).isSome=true:=by kernel_rfl
@[go_sem] theorem ag12:aggB prog 12=false:=by kernel_rfl
@[go_sem] theorem zo12:zeroOf prog 12=some [.pv (.int .u64 0)]:=by kernel_rfl
@[go_sem] theorem sz14:szOf prog 14=2:=by kernel_rfl
@[go_sem] theorem by14:byOf prog 14=24:=by kernel_rfl
@[go_sem] theorem hT14:hasT prog 14=true:=by kernel_rfl
@[go_sem] theorem iS14:(inf prog 14).isSome=true:=by kernel_rfl
@[go_sem] theorem ag14:aggB prog 14=true:=by kernel_rfl
@[go_sem] theorem zo14:zeroOf prog 14=some [.pv (.str []),.pv (.int .u64 0)]:=by kernel_rfl
@[go_sem] theorem fo14_0:fieldOff prog 14 0=some (0,9):=by kernel_rfl
@[go_sem] theorem fo14_1:fieldOff prog 14 1=some (1,12):=by kernel_rfl
@[go_sem] theorem sz17:szOf prog 17=1:=by kernel_rfl
@[go_sem] theorem by17:byOf prog 17=8:=by kernel_rfl
@[go_sem] theorem hT17:hasT prog 17=true:=by kernel_rfl
@[go_sem] theorem iS17:(inf prog 17).isSome=true:=by kernel_rfl
@[go_sem] theorem ag17:aggB prog 17=false:=by kernel_rfl
@[go_sem] theorem zo17:zeroOf prog 17=some [.pv .nilPtr]:=by kernel_rfl
@[go_sem] theorem sz21:szOf prog 21=1:=by kernel_rfl
@[go_sem] theorem by21:byOf prog 21=4:=by kernel_rfl
@[go_sem] theorem hT21:hasT prog 21=true:=by kernel_rfl
@[go_sem] theorem iS21:(inf prog 21).isSome=true:=by kernel_rfl
@[go_sem] theorem ag21:aggB prog 21=false:=by kernel_rfl
@[go_sem] theorem zo21:zeroOf prog 21=some [.pv (.int .i32 0)]:=by kernel_rfl
@[go_sem] theorem sz22:szOf prog 22=1:=by kernel_rfl
@[go_sem] theorem by22:byOf prog 22=8:=by kernel_rfl
@[go_sem] theorem hT22:hasT prog 22=true:=by kernel_rfl
@[go_sem] theorem iS22:(inf prog 22).isSome=true:=by kernel_rfl
@[go_sem] theorem ag22:aggB prog 22=false:=by kernel_rfl
@[go_sem] theorem zo22:zeroOf prog 22=some [.pv (.float .f64 0)]:=by kernel_rfl
@[go_sem] theorem sz23:szOf prog 23=3:=by kernel_rfl
@[go_sem] theorem by23:byOf prog 23=40:=by kernel_rfl
@[go_sem] theorem hT23:hasT prog 23=true:=by kernel_rfl
@[go_sem] theorem iS23:(inf prog 23).isSome=true:=by kernel_rfl
@[go_sem] theorem ag23:aggB prog 23=true:=by kernel_rfl
@[go_sem] theorem zo23:zeroOf prog 23=some [.pv (.str []),.pv (.float .f64 0),.pv (.str [])]:=by kernel_rfl
@[go_sem] theorem fo23_0:fieldOff prog 23 0=some (0,9):=by kernel_rfl
@[go_sem] theorem fo23_1:fieldOff prog 23 1=some (1,22):=by kernel_rfl
@[go_sem] theorem fo23_2:fieldOff prog 23 2=some (2,9):=by kernel_rfl
@[go_sem] theorem sz24:szOf prog 24=3:=by kernel_rfl
@[go_sem] theorem by24:byOf prog 24=40:=by kernel_rfl
@[go_sem] theorem hT24:hasT prog 24=true:=by kernel_rfl
@[go_sem] theorem iS24:(inf prog 24).isSome=true:=by kernel_rfl
@[go_sem] theorem ag24:aggB prog 24=true:=by kernel_rfl
@[go_sem] theorem zo24:zeroOf prog 24=some [.pv (.str []),.pv (.float .f64 0),.pv (.str [])]:=by kernel_rfl
@[go_sem] theorem fo24_0:fieldOff prog 24 0=some (0,9):=by kernel_rfl
@[go_sem] theorem fo24_1:fieldOff prog 24 1=some (1,22):=by kernel_rfl
@[go_sem] theorem fo24_2:fieldOff prog 24 2=some (2,9):=by kernel_rfl
@[go_sem] theorem sz25:szOf prog 25=9:=by kernel_rfl
@[go_sem] theorem by25:byOf prog 25=120:=by kernel_rfl
@[go_sem] theorem hT25:hasT prog 25=true:=by kernel_rfl
@[go_sem] theorem iS25:(inf prog 25).isSome=true:=by kernel_rfl
@[go_sem] theorem ag25:aggB prog 25=true:=by kernel_rfl
@[go_sem] theorem zo25:zeroOf prog 25=some [.pv (.str []),.pv (.float .f64 0),.pv (.str []),.pv (.str []),.pv (.float .f64 0),.pv (.str []),.pv (.str []),.pv (.float .f64 0),.pv (.str [])]:=by kernel_rfl
@[go_sem] theorem sz28:szOf prog 28=1:=by kernel_rfl
@[go_sem] theorem by28:byOf prog 28=24:=by kernel_rfl
@[go_sem] theorem hT28:hasT prog 28=true:=by kernel_rfl
@[go_sem] theorem iS28:(inf prog 28).isSome=true:=by kernel_rfl
@[go_sem] theorem ag28:aggB prog 28=false:=by kernel_rfl
@[go_sem] theorem zo28:zeroOf prog 28=some [.nilS]:=by kernel_rfl
@[go_sem] theorem el28:elOf prog 28=some 24:=by kernel_rfl
@[go_sem] theorem sz30:szOf prog 30=1:=by kernel_rfl
@[go_sem] theorem by30:byOf prog 30=16:=by kernel_rfl
@[go_sem] theorem hT30:hasT prog 30=true:=by kernel_rfl
@[go_sem] theorem iS30:(inf prog 30).isSome=true:=by kernel_rfl
@[go_sem] theorem ag30:aggB prog 30=false:=by kernel_rfl
@[go_sem] theorem zo30:zeroOf prog 30=some [.pv .nilIface]:=by kernel_rfl
@[go_sem] theorem sz31:szOf prog 31=3:=by kernel_rfl
@[go_sem] theorem by31:byOf prog 31=48:=by kernel_rfl
@[go_sem] theorem hT31:hasT prog 31=true:=by kernel_rfl
@[go_sem] theorem iS31:(inf prog 31).isSome=true:=by kernel_rfl
@[go_sem] theorem ag31:aggB prog 31=true:=by kernel_rfl
@[go_sem] theorem zo31:zeroOf prog 31=some [.pv .nilIface,.pv .nilIface,.pv .nilIface]:=by kernel_rfl
@[go_sem] theorem sz37:szOf prog 37=1:=by kernel_rfl
@[go_sem] theorem by37:byOf prog 37=8:=by kernel_rfl
@[go_sem] theorem hT37:hasT prog 37=true:=by kernel_rfl
@[go_sem] theorem iS37:(inf prog 37).isSome=true:=by kernel_rfl
@[go_sem] theorem ag37:aggB prog 37=false:=by kernel_rfl
@[go_sem] theorem zo37:zeroOf prog 37=some [.pv (.int .u64 0)]:=by kernel_rfl
@[go_sem] theorem sz43:szOf prog 43=1:=by kernel_rfl
@[go_sem] theorem by43:byOf prog 43=8:=by kernel_rfl
@[go_sem] theorem hT43:hasT prog 43=true:=by kernel_rfl
@[go_sem] theorem iS43:(inf prog 43).isSome=true:=by kernel_rfl
@[go_sem] theorem ag43:aggB prog 43=false:=by kernel_rfl
@[go_sem] theorem zo43:zeroOf prog 43=some [.pv .nilFunc]:=by kernel_rfl
@[go_sem] theorem sz56:szOf prog 56=1:=by kernel_rfl
@[go_sem] theorem by56:byOf prog 56=8:=by kernel_rfl
@[go_sem] theorem hT56:hasT prog 56=true:=by kernel_rfl
@[go_sem] theorem iS56:(inf prog 56).isSome=true:=by kernel_rfl
@[go_sem] theorem ag56:aggB prog 56=false:=by kernel_rfl
@[go_sem] theorem zo56:zeroOf prog 56=some [.pv (.float .f64 0)]:=by kernel_rfl
@[go_sem] theorem sz57:szOf prog 57=1:=by kernel_rfl
@[go_sem] theorem by57:byOf prog 57=16:=by kernel_rfl
@[go_sem] theorem hT57:hasT prog 57=true:=by kernel_rfl
@[go_sem] theorem iS57:(inf prog 57).isSome=true:=by kernel_rfl
@[go_sem] theorem ag57:aggB prog 57=false:=by kernel_rfl
@[go_sem] theorem zo57:zeroOf prog 57=some [.pv (.str [])]:=by kernel_rfl
@[go_sem] theorem sz61:szOf prog 61=2:=by kernel_rfl
@[go_sem] theorem by61:byOf prog 61=24:=by kernel_rfl
@[go_sem] theorem hT61:hasT prog 61=true:=by kernel_rfl
@[go_sem] theorem iS61:(inf prog 61).isSome=true:=by kernel_rfl
@[go_sem] theorem ag61:aggB prog 61=true:=by kernel_rfl
@[go_sem] theorem zo61:zeroOf prog 61=some [.pv (.float .f64 0),.pv (.str [])]:=by kernel_rfl
@[go_sem] theorem fo61_0:fieldOff prog 61 0=some (0,22):=by kernel_rfl
@[go_sem] theorem fo61_1:fieldOff prog 61 1=some (1,9):=by kernel_rfl
@[go_sem] theorem sz63:szOf prog 63=0:=by kernel_rfl
@[go_sem] theorem by63:byOf prog 63=0:=by kernel_rfl
@[go_sem] theorem hT63:hasT prog 63=true:=by kernel_rfl
@[go_sem] theorem iS63:(inf prog 63).isSome=true:=by kernel_rfl
@[go_sem] theorem ag63:aggB prog 63=true:=by kernel_rfl
@[go_sem] theorem zo63:zeroOf prog 63=some []:=by kernel_rfl
@[go_sem] theorem sz75:szOf prog 75=1:=by kernel_rfl
@[go_sem] theorem by75:byOf prog 75=16:=by kernel_rfl
@[go_sem] theorem hT75:hasT prog 75=true:=by kernel_rfl
@[go_sem] theorem iS75:(inf prog 75).isSome=true:=by kernel_rfl
@[go_sem] theorem ag75:aggB prog 75=false:=by kernel_rfl
@[go_sem] theorem zo75:zeroOf prog 75=some [.pv .nilIface]:=by kernel_rfl
@[go_sem] theorem sz80:szOf prog 80=8:=by kernel_rfl
@[go_sem] theorem by80:byOf prog 80=32:=by kernel_rfl
@[go_sem] theorem hT80:hasT prog 80=true:=by kernel_rfl
@[go_sem] theorem iS80:(inf prog 80).isSome=true:=by kernel_rfl
@[go_sem] theorem ag80:aggB prog 80=true:=by kernel_rfl
@[go_sem] theorem zo80:zeroOf prog 80=some [.pv (.bool false),.pv (.bool false),.pv (.bool false),.pv (.bool false),.pv (.bool false),.pv (.int .i64 0),.pv (.int .i64 0),.pv (.int .u8 0)]:=by kernel_rfl
@[go_sem] theorem fo80_0:fieldOff prog 80 0=some (0,4):=by kernel_rfl
@[go_sem] theorem fo80_1:fieldOff prog 80 1=some (1,4):=by kernel_rfl
@[go_sem] theorem fo80_2:fieldOff prog 80 2=some (2,4):=by kernel_rfl
@[go_sem] theorem fo80_3:fieldOff prog 80 3=some (3,4):=by kernel_rfl
@[go_sem] theorem fo80_4:fieldOff prog 80 4=some (4,4):=by kernel_rfl
@[go_sem] theorem fo80_5:fieldOff prog 80 5=some (5,3):=by kernel_rfl
@[go_sem] theorem fo80_6:fieldOff prog 80 6=some (6,3):=by kernel_rfl
@[go_sem] theorem fo80_7:fieldOff prog 80 7=some (7,5):=by kernel_rfl
@[go_sem] theorem sz85:szOf prog 85=1:=by kernel_rfl
@[go_sem] theorem by85:byOf prog 85=24:=by kernel_rfl
@[go_sem] theorem hT85:hasT prog 85=true:=by kernel_rfl
@[go_sem] theorem iS85:(inf prog 85).isSome=true:=by kernel_rfl
@[go_sem] theorem ag85:aggB prog 85=false:=by kernel_rfl
@[go_sem] theorem zo85:zeroOf prog 85=some [.nilS]:=by kernel_rfl
@[go_sem] theorem el85:elOf prog 85=some 3:=by kernel_rfl
@[go_sem] theorem sz91:szOf prog 91=256:=by kernel_rfl
@[go_sem] theorem by91:byOf prog 91=256:=by kernel_rfl
@[go_sem] theorem hT91:hasT prog 91=true:=by kernel_rfl
@[go_sem] theorem iS91:(inf prog 91).isSome=true:=by kernel_rfl
@[go_sem] theorem ag91:aggB prog 91=true:=by kernel_rfl
@[go_sem] theorem sz108:szOf prog 108=1:=by kernel_rfl
@[go_sem] theorem by108:byOf prog 108=8:=by kernel_rfl
@[go_sem] theorem hT108:hasT prog 108=true:=by kernel_rfl
@[go_sem] theorem iS108:(inf prog 108).isSome=true:=by kernel_rfl
@[go_sem] theorem ag108:aggB prog 108=false:=by kernel_rfl
@[go_sem] theorem zo108:zeroOf prog 108=some [.pv (.int .u64 0)]:=by kernel_rfl
@[go_sem] theorem sz120:szOf prog 120=1:=by kernel_rfl
@[go_sem] theorem by120:byOf prog 120=8:=by kernel_rfl
@[go_sem] theorem hT120:hasT prog 120=true:=by kernel_rfl
@[go_sem] theorem iS120:(inf prog 120).isSome=true:=by kernel_rfl
@[go_sem] theorem ag120:aggB prog 120=false:=by kernel_rfl
@[go_sem] theorem zo120:zeroOf prog 120=some [.pv (.int .i64 0)]:=by kernel_rfl
@[go_sem] theorem sz121:szOf prog 121=1:=by kernel_rfl
@[go_sem] theorem by121:byOf prog 121=8:=by kernel_rfl
@[go_sem] theorem hT121:hasT prog 121=true:=by kernel_rfl
@[go_sem] theorem iS121:(inf prog 121).isSome=true:=by kernel_rfl
@[go_sem] theorem ag121:aggB prog 121=false:=by kernel_rfl
@[go_sem] theorem zo121:zeroOf prog 121=some [.pv .nilPtr]:=by kernel_rfl
@[go_sem] theorem sz130:szOf prog 130=1:=by kernel_rfl
@[go_sem] theorem by130:byOf prog 130=4:=by kernel_rfl
@[go_sem] theorem hT130:hasT prog 130=true:=by kernel_rfl
@[go_sem] theorem iS130:(inf prog 130).isSome=true:=by kernel_rfl
@[go_sem] theorem ag130:aggB prog 130=false:=by kernel_rfl
@[go_sem] theorem zo130:zeroOf prog 130=some [.pv (.float .f32 0)]:=by kernel_rfl
@[go_sem] theorem sz135:szOf prog 135=3:=by kernel_rfl
@[go_sem] theorem by135:byOf prog 135=48:=by kernel_rfl
@[go_sem] theorem hT135:hasT prog 135=true:=by kernel_rfl
@[go_sem] theorem iS135:(inf prog 135).isSome=true:=by kernel_rfl
@[go_sem] theorem ag135:aggB prog 135=true:=by kernel_rfl
@[go_sem] theorem zo135:zeroOf prog 135=some [.pv (.str []),.pv (.str []),.pv .nilIface]:=by kernel_rfl
@[go_sem] theorem fo135_0:fieldOff prog 135 0=some (0,9):=by kernel_rfl
@[go_sem] theorem fo135_1:fieldOff prog 135 1=some (1,9):=by kernel_rfl
@[go_sem] theorem fo135_2:fieldOff prog 135 2=some (2,75):=by kernel_rfl
@[go_sem] theorem sz141:szOf prog 141=1:=by kernel_rfl
@[go_sem] theorem by141:byOf prog 141=24:=by kernel_rfl
@[go_sem] theorem hT141:hasT prog 141=true:=by kernel_rfl
@[go_sem] theorem iS141:(inf prog 141).isSome=true:=by kernel_rfl
@[go_sem] theorem ag141:aggB prog 141=false:=by kernel_rfl
@[go_sem] theorem zo141:zeroOf prog 141=some [.nilS]:=by kernel_rfl
@[go_sem] theorem el141:elOf prog 141=some 5:=by kernel_rfl
@[go_sem] theorem sz145:szOf prog 145=1:=by kernel_rfl
@[go_sem] theorem by145:byOf prog 145=8:=by kernel_rfl
@[go_sem] theorem hT145:hasT prog 145=true:=by kernel_rfl
@[go_sem] theorem iS145:(inf prog 145).isSome=true:=by kernel_rfl
@[go_sem] theorem ag145:aggB prog 145=false:=by kernel_rfl
@[go_sem] theorem zo145:zeroOf prog 145=some [.pv .nilFunc]:=by kernel_rfl
@[go_sem] theorem sz171:szOf prog 171=3:=by kernel_rfl
@[go_sem] theorem by171:byOf prog 171=24:=by kernel_rfl
@[go_sem] theorem hT171:hasT prog 171=true:=by kernel_rfl
@[go_sem] theorem iS171:(inf prog 171).isSome=true:=by kernel_rfl
@[go_sem] theorem ag171:aggB prog 171=true:=by kernel_rfl
@[go_sem] theorem zo171:zeroOf prog 171=some [.pv (.int .u64 0),.pv (.int .u64 0),.pv (.int .i64 0)]:=by kernel_rfl
@[go_sem] theorem fo171_0:fieldOff prog 171 0=some (0,108):=by kernel_rfl
@[go_sem] theorem fo171_1:fieldOff prog 171 1=some (1,108):=by kernel_rfl
@[go_sem] theorem fo171_2:fieldOff prog 171 2=some (2,3):=by kernel_rfl
@[go_sem] theorem sz172:szOf prog 172=1:=by kernel_rfl
@[go_sem] theorem by172:byOf prog 172=4:=by kernel_rfl
@[go_sem] theorem hT172:hasT prog 172=true:=by kernel_rfl
@[go_sem] theorem iS172:(inf prog 172).isSome=true:=by kernel_rfl
@[go_sem] theorem ag172:aggB prog 172=false:=by kernel_rfl
@[go_sem] theorem zo172:zeroOf prog 172=some [.pv (.int .u32 0)]:=by kernel_rfl
@[go_sem] theorem sz179:szOf prog 179=800:=by kernel_rfl
@[go_sem] theorem by179:byOf prog 179=800:=by kernel_rfl
@[go_sem] theorem hT179:hasT prog 179=true:=by kernel_rfl
@[go_sem] theorem iS179:(inf prog 179).isSome=true:=by kernel_rfl
@[go_sem] theorem ag179:aggB prog 179=true:=by kernel_rfl
@[go_sem] theorem sz181:szOf prog 181=804:=by kernel_rfl
@[go_sem] theorem by181:byOf prog 181=824:=by kernel_rfl
@[go_sem] theorem hT181:hasT prog 181=true:=by kernel_rfl
@[go_sem] theorem iS181:(inf prog 181).isSome=true:=by kernel_rfl
@[go_sem] theorem ag181:aggB prog 181=true:=by kernel_rfl
@[go_sem] theorem fo181_0:fieldOff prog 181 0=some (0,179):=by kernel_rfl
@[go_sem] theorem fo181_1:fieldOff prog 181 1=some (800,3):=by kernel_rfl
@[go_sem] theorem fo181_2:fieldOff prog 181 2=some (801,3):=by kernel_rfl
@[go_sem] theorem fo181_3:fieldOff prog 181 3=some (802,4):=by kernel_rfl
@[go_sem] theorem fo181_4:fieldOff prog 181 4=some (803,4):=by kernel_rfl
@[go_sem] theorem sz208:szOf prog 208=3:=by kernel_rfl
@[go_sem] theorem by208:byOf prog 208=24:=by kernel_rfl
@[go_sem] theorem hT208:hasT prog 208=true:=by kernel_rfl
@[go_sem] theorem iS208:(inf prog 208).isSome=true:=by kernel_rfl
@[go_sem] theorem ag208:aggB prog 208=true:=by kernel_rfl
@[go_sem] theorem zo208:zeroOf prog 208=some [.pv (.int .u64 0),.pv (.int .u64 0),.pv (.int .i64 0)]:=by kernel_rfl
@[go_sem] theorem fo208_0:fieldOff prog 208 0=some (0,37):=by kernel_rfl
@[go_sem] theorem fo208_1:fieldOff prog 208 1=some (1,37):=by kernel_rfl
@[go_sem] theorem fo208_2:fieldOff prog 208 2=some (2,3):=by kernel_rfl
@[go_sem] theorem sz211:szOf prog 211=1:=by kernel_rfl
@[go_sem] theorem by211:byOf prog 211=8:=by kernel_rfl
@[go_sem] theorem hT211:hasT prog 211=true:=by kernel_rfl
@[go_sem] theorem iS211:(inf prog 211).isSome=true:=by kernel_rfl
@[go_sem] theorem ag211:aggB prog 211=false:=by kernel_rfl
@[go_sem] theorem zo211:zeroOf prog 211=some [.pv (.int .u64 0)]:=by kernel_rfl
@[go_sem] theorem sz217:szOf prog 217=1:=by kernel_rfl
@[go_sem] theorem by217:byOf prog 217=24:=by kernel_rfl
@[go_sem] theorem hT217:hasT prog 217=true:=by kernel_rfl
@[go_sem] theorem iS217:(inf prog 217).isSome=true:=by kernel_rfl
@[go_sem] theorem ag217:aggB prog 217=false:=by kernel_rfl
@[go_sem] theorem zo217:zeroOf prog 217=some [.nilS]:=by kernel_rfl
@[go_sem] theorem el217:elOf prog 217=some 22:=by kernel_rfl
@[go_sem] theorem sz241:szOf prog 241=2:=by kernel_rfl
@[go_sem] theorem by241:byOf prog 241=16:=by kernel_rfl
@[go_sem] theorem hT241:hasT prog 241=true:=by kernel_rfl
@[go_sem] theorem iS241:(inf prog 241).isSome=true:=by kernel_rfl
@[go_sem] theorem ag241:aggB prog 241=true:=by kernel_rfl
@[go_sem] theorem zo241:zeroOf prog 241=some [.pv (.int .u64 0),.pv (.int .u64 0)]:=by kernel_rfl
@[go_sem] theorem fo241_0:fieldOff prog 241 0=some (0,37):=by kernel_rfl
@[go_sem] theorem fo241_1:fieldOff prog 241 1=some (1,37):=by kernel_rfl
@[go_sem] theorem sz242:szOf prog 242=1392:=by kernel_rfl
@[go_sem] theorem by242:byOf prog 242=11136:=by kernel_rfl
@[go_sem] theorem hT242:hasT prog 242=true:=by kernel_rfl
@[go_sem] theorem iS242:(inf prog 242).isSome=true:=by kernel_rfl
@[go_sem] theorem ag242:aggB prog 242=true:=by kernel_rfl
@[go_sem] theorem sz256:szOf prog 256=2:=by kernel_rfl
@[go_sem] theorem by256:byOf prog 256=24:=by kernel_rfl
@[go_sem] theorem hT256:hasT prog 256=true:=by kernel_rfl
@[go_sem] theorem iS256:(inf prog 256).isSome=true:=by kernel_rfl
@[go_sem] theorem ag256:aggB prog 256=true:=by kernel_rfl
@[go_sem] theorem zo256:zeroOf prog 256=some [.pv (.int .i64 0),.pv (.str [])]:=by kernel_rfl
@[go_sem] theorem fo256_0:fieldOff prog 256 0=some (0,3):=by kernel_rfl
@[go_sem] theorem fo256_1:fieldOff prog 256 1=some (1,9):=by kernel_rfl
@[go_sem] theorem sz257:szOf prog 257=1:=by kernel_rfl
@[go_sem] theorem by257:byOf prog 257=24:=by kernel_rfl
@[go_sem] theorem hT257:hasT prog 257=true:=by kernel_rfl
@[go_sem] theorem iS257:(inf prog 257).isSome=true:=by kernel_rfl
@[go_sem] theorem ag257:aggB prog 257=false:=by kernel_rfl
@[go_sem] theorem zo257:zeroOf prog 257=some [.nilS]:=by kernel_rfl
@[go_sem] theorem el257:elOf prog 257=some 256:=by kernel_rfl
end Go.AD.T

set_option linter.unusedVariables false
namespace Go.AD
section
variable {P:Program} {σ τ:AS} {t:TypeId} {K:AV->Prop} {k:IntKind} {a b:Int}
attribute [go_sem] lock_eq
@[go_sem] theorem set_same (σ:AS) (i:Nat) (o:AObj):(σ.set i o) i=some o:=by simp [AS.set]
theorem set_ne (σ:AS) {i j:Nat} (o:AObj) (h:j ≠ i):(σ.set i o) j=σ j:=by simp [AS.set,h]
@[go_sem] theorem del_same (σ:AS) (i:Nat):(σ.del i) i=none:=by simp [AS.del]
theorem del_ne (σ:AS) {i j:Nat} (h:j ≠ i):(σ.del i) j=σ j:=by simp [AS.del,h]
@[go_sem] theorem set_set (σ:AS) (i:Nat) (o o':AObj):(σ.set i o).set i o'=σ.set i o':=by
  funext j; simp only [AS.set]; split <;> rfl
theorem sub_refl (σ:AS):σ.sub σ:=fun _ _ h=>h
theorem AS.sub.trans {σ τ υ:AS} (h:σ.sub τ) (h':τ.sub υ):σ.sub υ:=fun i o x=>h' i o (h i o x)
theorem sub_set {σ:AS} {i:Nat} (o:AObj) (h:σ i=none):σ.sub (σ.set i o):=by
  intro j o' hj
  by_cases e:j=i
  · subst e; rw [h] at hj; cases hj
  · rw [set_ne σ o e]; exact hj
@[go_sem] theorem bin_add:binD P .add t (.pv (.int k a)) (.pv (.int k b)) K=K (.pv (.int k (k.wrap (a + b)))):=by simp [binD,intOp]
@[go_sem] theorem bin_sub:binD P .sub t (.pv (.int k a)) (.pv (.int k b)) K=K (.pv (.int k (k.wrap (a - b)))):=by simp [binD,intOp]
@[go_sem] theorem bin_mul:binD P .mul t (.pv (.int k a)) (.pv (.int k b)) K=K (.pv (.int k (k.wrap (a * b)))):=by simp [binD,intOp]
@[go_sem] theorem bin_quo:binD P .quo t (.pv (.int k a)) (.pv (.int k b)) K=(b ≠ 0/\K (.pv (.int k (k.wrap (a.tdiv b))))):=by simp [binD,intOp]
@[go_sem] theorem bin_rem:binD P .rem t (.pv (.int k a)) (.pv (.int k b)) K=(b ≠ 0/\K (.pv (.int k (a.tmod b)))):=by simp [binD,intOp]
@[go_sem] theorem bin_and:binD P .and t (.pv (.int k a)) (.pv (.int k b)) K=K (.pv (.int k (k.wrap (BitVec.ofInt k.bits a &&& BitVec.ofInt k.bits b).toNat))):=by simp [binD,intOp]
@[go_sem] theorem bin_or:binD P .or t (.pv (.int k a)) (.pv (.int k b)) K=K (.pv (.int k (k.wrap (BitVec.ofInt k.bits a ||| BitVec.ofInt k.bits b).toNat))):=by simp [binD,intOp]
@[go_sem] theorem bin_xor:binD P .xor t (.pv (.int k a)) (.pv (.int k b)) K=K (.pv (.int k (k.wrap (BitVec.ofInt k.bits a ^^^ BitVec.ofInt k.bits b).toNat))):=by simp [binD,intOp]
@[go_sem] theorem bin_eql:binD P .eql t (.pv (.int k a)) (.pv (.int k b)) K=K (.pv (.bool (a == b))):=by simp [binD,intOp]
@[go_sem] theorem bin_neq:binD P .neq t (.pv (.int k a)) (.pv (.int k b)) K=K (.pv (.bool (a != b))):=by simp [binD,intOp]
@[go_sem] theorem bin_lss:binD P .lss t (.pv (.int k a)) (.pv (.int k b)) K=K (.pv (.bool (a < b))):=by simp [binD,intOp]
@[go_sem] theorem bin_leq:binD P .leq t (.pv (.int k a)) (.pv (.int k b)) K=K (.pv (.bool (a <= b))):=by simp [binD,intOp]
@[go_sem] theorem bin_gtr:binD P .gtr t (.pv (.int k a)) (.pv (.int k b)) K=K (.pv (.bool (a > b))):=by simp [binD,intOp]
@[go_sem] theorem bin_geq:binD P .geq t (.pv (.int k a)) (.pv (.int k b)) K=K (.pv (.bool (a ≥ b))):=by simp [binD,intOp]
@[go_sem] theorem bin_shl {k':IntKind}:binD P .shl t (.pv (.int k a)) (.pv (.int k' b)) K=(0 <= b/\K (.pv (.int k (k.wrap (a * 2 ^ min b.toNat k.bits))))):=by simp [binD,shiftOp]
@[go_sem] theorem bin_shr {k':IntKind}:binD P .shr t (.pv (.int k a)) (.pv (.int k' b)) K=(0 <= b/\K (.pv (.int k (a.fdiv (2 ^ min b.toNat k.bits))))):=by simp [binD,shiftOp]
variable {x y:List UInt8}
@[go_sem] theorem bin_cat:binD P .add t (.pv (.str x)) (.pv (.str y)) K=(x.length + y.length <= 9223372036854775807/\K (.pv (.str (x ++ y)))):=by simp [binD,strOp]
@[go_sem] theorem bin_seql:binD P .eql t (.pv (.str x)) (.pv (.str y)) K=K (.pv (.bool (x == y))):=by simp [binD,strOp]
@[go_sem] theorem bin_sneq:binD P .neq t (.pv (.str x)) (.pv (.str y)) K=K (.pv (.bool (!(x == y)))):=by simp [binD,strOp]
@[go_sem] theorem bin_slss:binD P .lss t (.pv (.str x)) (.pv (.str y)) K=K (.pv (.bool (Op.bytesLess x y))):=by simp [binD,strOp]
@[go_sem] theorem bin_sleq:binD P .leq t (.pv (.str x)) (.pv (.str y)) K=K (.pv (.bool (Op.bytesLess x y || x == y))):=by simp [binD,strOp]
@[go_sem] theorem bin_sgtr:binD P .gtr t (.pv (.str x)) (.pv (.str y)) K=K (.pv (.bool (!(Op.bytesLess x y || x == y)))):=by simp [binD,strOp]
@[go_sem] theorem bin_sgeq:binD P .geq t (.pv (.str x)) (.pv (.str y)) K=K (.pv (.bool (!(Op.bytesLess x y)))):=by simp [binD,strOp]
section
variable {fk:FloatKind} {fa fb:Nat}
@[go_sem] theorem bin_feql:binD P .eql t (.pv (.float fk fa)) (.pv (.float fk fb)) K=K (.pv (.bool (fk.format.order fa fb == some .eq))):=by simp [binD,fcmp]
@[go_sem] theorem bin_fneq:binD P .neq t (.pv (.float fk fa)) (.pv (.float fk fb)) K=K (.pv (.bool (fk.format.order fa fb != some .eq))):=by simp [binD,fcmp]
@[go_sem] theorem bin_flss:binD P .lss t (.pv (.float fk fa)) (.pv (.float fk fb)) K=K (.pv (.bool (fk.format.order fa fb == some .lt))):=by simp [binD,fcmp]
@[go_sem] theorem bin_fleq:binD P .leq t (.pv (.float fk fa)) (.pv (.float fk fb)) K=K (.pv (.bool (fk.format.order fa fb == some .lt || fk.format.order fa fb == some .eq))):=by simp [binD,fcmp]
@[go_sem] theorem bin_fgtr:binD P .gtr t (.pv (.float fk fa)) (.pv (.float fk fb)) K=K (.pv (.bool (fk.format.order fa fb == some .gt))):=by simp [binD,fcmp]
@[go_sem] theorem bin_fgeq:binD P .geq t (.pv (.float fk fa)) (.pv (.float fk fb)) K=K (.pv (.bool (fk.format.order fa fb == some .gt || fk.format.order fa fb == some .eq))):=by simp [binD,fcmp]
@[go_sem] theorem un_fneg:unD .neg (.pv (.float fk fa)) K=K (.pv (.float fk (Op.negFloat fk fa))):=rfl
theorem fbin_some {op:BinOp} {K:AV->AS->Prop} {r:Nat} (h:floatBits op fk fa fb=some r) (hK:K (.pv (.float fk r)) σ):fbinD σ op (.pv (.float fk fa)) (.pv (.float fk fb)) K:=by
  simp only [fbinD,h,true_and]
  exact hK
theorem fbin_nan {op:BinOp} {K:AV->AS->Prop} (h:floatBits op fk fa fb=none) (hK:∀ r,(fk.decode r).isNaN=true->K (.pv (.float fk r)) σ):fbinD σ op (.pv (.float fk fa)) (.pv (.float fk fb)) K:=by
  simp only [fbinD,h,true_and]
  exact hK
end
section
variable {tt:TypeId} {ag:Bool} {cs:List PV}
theorem nil_eql0 {ms} (h:P.underlying t=some (.interface ms)):nilB P .eql t (.pv .nilIface) K=K (.pv (.bool true)):=by simp [nilB,nilE,h]
theorem nil_neq0 {ms} (h:P.underlying t=some (.interface ms)):nilB P .neq t (.pv .nilIface) K=K (.pv (.bool false)):=by simp [nilB,nilE,h]
theorem nil_eql1 {ms} (h:P.underlying t=some (.interface ms)):nilB P .eql t (.pv (.iface tt ag cs)) K=K (.pv (.bool false)):=by simp [nilB,nilE,h]
theorem nil_neq1 {ms} (h:P.underlying t=some (.interface ms)):nilB P .neq t (.pv (.iface tt ag cs)) K=K (.pv (.bool true)):=by simp [nilB,nilE,h]
end
theorem bin_beql {p q:Bool} (h:P.underlying t=some .bool):binD P .eql t (.pv (.bool p)) (.pv (.bool q)) K=K (.pv (.bool (p == q))):=by simp [binD,eqD,h]
@[go_sem] theorem un_not {p:Bool}:unD .not (.pv (.bool p)) K=K (.pv (.bool (!p))):=rfl
@[go_sem] theorem un_neg:unD .neg (.pv (.int k a)) K=K (.pv (.int k (k.wrap (0 - a)))):=rfl
@[go_sem] theorem cond_bool {p:Bool} {A B:Prop}:condD (.pv (.bool p)) A B=if p=true then A else B:=rfl
@[go_sem] theorem guard_true {p:Bool} {A B:Prop}:guardD (.pv (.bool p)) true A B=if p=true then A else B:=rfl
@[go_sem] theorem guard_false {p:Bool} {A B:Prop}:guardD (.pv (.bool p)) false A B=if p=true then B else A:=by
  cases p <;> simp [guardD]
@[go_sem] theorem pick_bool {p:Bool} {A B:AV}:pickD (.pv (.bool p)) A B K=K (if p=true then A else B):=rfl
@[go_sem] theorem max_one:foldD max2D (.pv (.int k a)) [.pv (.int k b)] K=K (.pv (.int k (max a b))):=by
  simp only [foldD,max2D]
  congr 3
  omega
@[go_sem] theorem min_one:foldD min2D (.pv (.int k a)) [.pv (.int k b)] K=K (.pv (.int k (min a b))):=by
  simp only [foldD,min2D]
  congr 3
  omega
variable {n off id size:Nat} {cs:List PV} {i:Int}
theorem isSlice {e:TypeId} (h:elOf P t=some e):P.underlying t=some (.slice e):=by
  unfold elOf at h; split at h
  · rename_i e' h'; cases h; exact h'
  · cases h
theorem isSlice' (h:(elOf P t).isSome=true):P.underlying t=some (.slice ((elOf P t).getD 0)):=by
  cases he:elOf P t with
  | none=>rw [he] at h; cases h
  | some e=>simpa using isSlice he
@[go_sem] theorem len_lst (h:(elOf P t).isSome=true):lenD P t (.pv (.lst n cs)) K=K (.pv (.int .i64 n)):=by simp only [lenD,isSlice' h]
@[go_sem] theorem len_grow (h:(elOf P t).isSome=true):lenD P t (.grow id n cs) K=K (.pv (.int .i64 n)):=by simp only [lenD,isSlice' h]
@[go_sem] theorem len_full (h:(elOf P t).isSome=true):lenD P t (.full n cs) K=K (.pv (.int .i64 n)):=by simp only [lenD,isSlice' h]
@[go_sem] theorem len_msl (h:(elOf P t).isSome=true):lenD P t (.msl id off n size) K=K (.pv (.int .i64 n)):=by simp only [lenD,isSlice' h]
@[go_sem] theorem len_nil (h:(elOf P t).isSome=true):lenD P t .nilS K=K (.pv (.int .i64 0)):=by simp only [lenD,isSlice' h]
theorem len_str (h:P.underlying t=some .string):lenD P t (.pv (.str x)) K=K (.pv (.int .i64 x.length)):=by simp only [lenD,h]
@[go_sem] theorem ix_lst (h:(elOf P t).isSome=true):indexAddrD P t (.pv (.lst n cs)) (.pv (.int k i)) K=((inf P ((elOf P t).getD 0)).isSome=true/\n * szOf P ((elOf P t).getD 0) <= cs.length/\0 < szOf P ((elOf P t).getD 0)/\0 <= i/\i < (n:Int)/\K (.elemP cs (i.toNat * szOf P ((elOf P t).getD 0)))):=by
  simp only [indexAddrD,isSlice' h]
@[go_sem] theorem ix_grow (h:(elOf P t).isSome=true):indexAddrD P t (.grow id n cs) (.pv (.int k i)) K=((inf P ((elOf P t).getD 0)).isSome=true/\n * szOf P ((elOf P t).getD 0) <= cs.length/\0 < szOf P ((elOf P t).getD 0)/\0 <= i/\i < (n:Int)/\K (.elemP cs (i.toNat * szOf P ((elOf P t).getD 0)))):=by
  simp only [indexAddrD,isSlice' h]
@[go_sem] theorem ix_full (h:(elOf P t).isSome=true):indexAddrD P t (.full n cs) (.pv (.int k i)) K=((inf P ((elOf P t).getD 0)).isSome=true/\n * szOf P ((elOf P t).getD 0) <= cs.length/\0 < szOf P ((elOf P t).getD 0)/\0 <= i/\i < (n:Int)/\K (.elemP cs (i.toNat * szOf P ((elOf P t).getD 0)))):=by
  simp only [indexAddrD,isSlice' h]
@[go_sem] theorem ix_msl (h:(elOf P t).isSome=true):indexAddrD P t (.msl id off n size) (.pv (.int k i)) K=((inf P ((elOf P t).getD 0)).isSome=true/\0 <= i/\i < (n:Int)/\K (.addr id (off + i.toNat * szOf P ((elOf P t).getD 0)))):=by
  simp only [indexAddrD,isSlice' h]
theorem ix_str (h:P.underlying t=some .string):indexD P t (.pv (.str x)) (.pv (.int k i)) K=(0 <= i/\∃ b,x[i.toNat]?=some b/\K (.pv (.int .u8 b.toNat))):=by
  simp only [indexD,h,true_and]
  cases x[i.toNat]? <;> simp
variable {s f:Nat}
@[go_sem] theorem fa_addr (h:(fieldOff P s f).isSome=true):fieldAddrD P s (.addr id off) f K=(hasT P ((fieldOff P s f).getD (0,0)).2=true/\0 < szOf P ((fieldOff P s f).getD (0,0)).2/\K (.addr id (off + ((fieldOff P s f).getD (0,0)).1))):=by
  cases e:fieldOff P s f with
  | none=>rw [e] at h; cases h
  | some x=>simp only [fieldAddrD,e,movePtr,Option.getD_some,Nat.pos_iff_ne_zero]
@[go_sem] theorem fa_elem (h:(fieldOff P s f).isSome=true):fieldAddrD P s (.elemP cs off) f K=(hasT P ((fieldOff P s f).getD (0,0)).2=true/\0 < szOf P ((fieldOff P s f).getD (0,0)).2/\K (.elemP cs (off + ((fieldOff P s f).getD (0,0)).1))):=by
  cases e:fieldOff P s f with
  | none=>rw [e] at h; cases h
  | some x=>simp only [fieldAddrD,e,movePtr,Option.getD_some,Nat.pos_iff_ne_zero]
@[go_sem] theorem nil_addr:nilD (.addr id off) K=K (.addr id off):=rfl
@[go_sem] theorem nil_elem:nilD (.elemP cs off) K=K (.elemP cs off):=rfl
@[go_sem] theorem nil_glob {g:Nat}:nilD (.glob g off) K=K (.glob g off):=rfl
@[go_sem] theorem load_elem (h:hasT P t=true) (h2:aggB P t=false):loadD P σ t (.elemP cs off) K=(∃ v,cs[off]?=some v/\K (.pv v)):=by
  simp only [loadD,h,h2,true_and]
  cases cs[off]? <;> simp
@[go_sem] theorem load_elemA (h:hasT P t=true) (h2:aggB P t=true):loadD P σ t (.elemP cs off) K=(off + szOf P t <= cs.length/\K (.agg (((cs.drop off).take (szOf P t)).map .pv))):=by simp [loadD,h,h2]
theorem load_addr (h:hasT P t=true) (h2:aggB P t=false) {az:List AV} {var:Option TypeId} (h3:σ id=some (.cells az var)):loadD P σ t (.addr id off) K=(∃ v,az[off]?=some v/\K v):=by
  simp only [loadD,h,h2,h3,true_and]
  cases az[off]? <;> simp
theorem load_addrA (h:hasT P t=true) (h2:aggB P t=true) {az:List AV} {var:Option TypeId} (h3:σ id=some (.cells az var)):loadD P σ t (.addr id off) K=(off + szOf P t <= az.length/\K (.agg ((az.drop off).take (szOf P t)))):=by simp [loadD,h,h2,h3]
theorem store_addr {K:AS->Prop} {v:AV} {az:List AV} {var:Option TypeId} (h:hasT P t=true) (h1:v.cells.length=szOf P t) (h2:v.cells.all AV.cellOk=true) (h3:σ id=some (.cells az var)) :
    storeD P σ t (.addr id off) v K=(off + v.cells.length <= az.length/\K (σ.set id (.cells (setAll az off v.cells) var))):=by simp [storeD,h,h1,h2,h3]
theorem store_one {K:AS->Prop} {v:AV} {az:List AV} {var:Option TypeId} (h:hasT P t=true) (h1:szOf P t=1) (hv:v.cells=[v]) (h2:v.cellOk=true) (h3:σ id=some (.cells az var)) (ho:off < az.length) (hk:K (σ.set id (.cells (az.set off v) var))) :
    storeD P σ t (.addr id off) v K:=by
  rw [store_addr h (by simp [hv,h1]) (by simp [hv,h2]) h3,hv]
  exact ⟨by simp; omega,hk⟩
theorem toPVs_pv:∀ ys:List PV,toPVs (ys.map .pv)=some ys
  | []=>rfl
  | y :: ys=>by simp [toPVs,toPV,toPVs_pv ys]
def RowT (P:Program) (t e:TypeId):Prop:=elOf P t=some e/\0 < szOf P e/\∃ z,zeroOf P e=some z/\z.length=szOf P e
section
variable {e:TypeId} {m:Nat} {ys:List PV} {v:AV} {K:AV->AS->Prop}
theorem app_nil (he:RowT P t e) (hx:shown P σ e v=some (m,ys)) (hl:ys.length=m * szOf P e) (hm:m ≠ 0) (hb:m * byOf P e <= 140737488355328) (hn:m <= 9223372036854775807)
    (h:∀ id,σ id=none->K (.grow id m ys) (σ.set id (.front m (szOf P e) (some e)))):appendD P false σ t .nilS v K:=by
  obtain ⟨h1,h2,z,h3,h4⟩:=he
  simp only [appendD,appendCore,h1,h2,h3,h4,hx,hl,hm,if_false,true_and]
  refine ⟨hb,hn,?_⟩
  simp only [newRowD,Bool.false_eq_true,if_false,toPVs_pv]
  exact h
theorem app_grow {mu:Bool} (he:RowT P t e) (hx:shown P σ e v=some (m,ys)) (hl:ys.length=m * szOf P e) {mk:Option TypeId} (hg:σ id=some (.front n (szOf P e) mk)) (hm0:m ≠ 0) (hc:cs.length=n * szOf P e) (hb:(n + m) * byOf P e <= 140737488355328) (hn:n + m <= 9223372036854775807)
    (h:K (.grow id (n + m) (cs ++ ys)) (σ.set id (.front (n + m) (szOf P e) (if mk=some e then mk else none)))):appendD P mu σ t (.grow id n cs) v K:=by
  obtain ⟨h1,h2,z,h3,h4⟩:=he
  simp only [appendD,appendCore,h1,h2,h3,h4,hx,hl,hg,hm0,if_false,true_and]
  exact ⟨hc,hb,hn,h⟩
end
theorem alloc_of {K:AV->AS->Prop} {z:List AV} (h:zeroOf P t=some z) (h2:z.all AV.cellOk=true) (hK:∀ id,σ id=none->K (.addr id 0) (σ.set id (.cells z (some t)))):allocD P σ t K:=by
  simp only [allocD,h]
  exact ⟨h2,hK⟩
theorem retV_self {K:AV->AS->Prop} {v:AV} (h:K v σ):retV v σ K:=⟨v,σ,.inl (.inl rfl),sub_refl σ,h⟩
theorem retV_sub {K:AV->AS->Prop} {v:AV} (hs:τ.sub σ) (h:K v τ):retV v σ K:=⟨v,τ,.inl (.inl rfl),hs,h⟩
theorem wrap64 {n:Int} (h:-9223372036854775808 <= n) (h':n < 9223372036854775808):IntKind.wrap .i64 n=n:=by
  have e:IntKind.wrap .i64 n=if n % 18446744073709551616 ≥ 9223372036854775808 then n % 18446744073709551616 - 18446744073709551616 else n % 18446744073709551616:=by
    simp [IntKind.wrap,IntKind.bits,IntKind.signed]
  rw [e]
  split <;> omega
end
attribute [go_sem] Nat.le_refl Nat.zero_lt_one Nat.zero_lt_succ Int.toNat_natCast Int.natCast_nonneg Option.isSome_some Option.getD_some decide_eq_true_eq Nat.mul_one Nat.zero_add Nat.add_zero true_and and_true
def Tr.wk (T:Tr):Tr:=fun args σ K X=>∃ args',wkL args args'/\T args' σ K X
theorem SoundF.wk {P:Program} {f:FuncId} {T:Tr} (S:SoundF P f T):SoundF P f (Tr.wk T):=by
  rintro w0 hS ρ σ w args us K X H hr ⟨args',hw,hT⟩
  exact S w0 hS ρ σ w args' us K X H (wkL_sound hr hw) hT
def i64s (l:List Int):List PV:=l.map fun n=>.int .i64 n
@[go_sem] theorem i64s_length (l:List Int):(i64s l).length=l.length:=by simp [i64s]
end Go.AD

set_option linter.unusedVariables false
namespace Go.AD
@[go_sem] theorem nAdd (a b:Nat):(a:Int) + (b:Int)=((a + b:Nat):Int):=rfl
@[go_sem] theorem nAddL (a k:Nat) [NeZero k]:(a:Int) + (no_index (OfNat.ofNat k):Int)=((a + OfNat.ofNat k:Nat):Int):=rfl
@[go_sem] theorem nLAdd (a k:Nat) [NeZero k]:(no_index (OfNat.ofNat k):Int) + (a:Int)=((OfNat.ofNat k + a:Nat):Int):=rfl
@[go_sem] theorem nAdd1 (a:Nat):(a:Int) + 1=((a + 1:Nat):Int):=rfl
@[go_sem] theorem nSub (a b:Nat) (h:b <= a):(a:Int) - (b:Int)=((a - b:Nat):Int):=by omega
@[go_sem] theorem nSub1 (a:Nat) (h:1 <= a):(a:Int) - 1=((a - 1:Nat):Int):=by omega
@[go_sem] theorem nSubL (a k:Nat) [NeZero k] (h:OfNat.ofNat k <= a):(a:Int) - (no_index (OfNat.ofNat k):Int)=((a - OfNat.ofNat k:Nat):Int):=nSub a k h
@[go_sem] theorem nMax (a b:Nat):max (a:Int) (b:Int)=((max a b:Nat):Int):=by omega
@[go_sem] theorem nMin (a b:Nat):min (a:Int) (b:Int)=((min a b:Nat):Int):=by omega
@[go_sem] theorem nLt (a b:Nat):((a:Int) < (b:Int))=(a < b):=by simp
@[go_sem] theorem nLe (a b:Nat):((a:Int) <= (b:Int))=(a <= b):=by simp
@[go_sem] theorem nEq (a b:Nat):((a:Int)=(b:Int))=(a=b):=propext ⟨by omega,by omega⟩
@[go_sem] theorem nLtL (a k:Nat) [NeZero k]:((a:Int) < (no_index (OfNat.ofNat k):Int))=(a < OfNat.ofNat k):=nLt a k
@[go_sem] theorem nLeL (a k:Nat) [NeZero k]:((a:Int) <= (no_index (OfNat.ofNat k):Int))=(a <= OfNat.ofNat k):=nLe a k
@[go_sem] theorem nLLt (a k:Nat) [NeZero k]:((no_index (OfNat.ofNat k):Int) < (a:Int))=(OfNat.ofNat k < a):=nLt k a
@[go_sem] theorem nLLe (a k:Nat) [NeZero k]:((no_index (OfNat.ofNat k):Int) <= (a:Int))=(OfNat.ofNat k <= a):=nLe k a
@[go_sem] theorem nEqL (a k:Nat) [NeZero k]:((a:Int)=(no_index (OfNat.ofNat k):Int))=(a=OfNat.ofNat k):=nEq a k
theorem iteI {c:Prop} [Decidable c] {A B:Prop} (h1:c->A) (h2:¬ c->B):if c then A else B:=by
  by_cases h:c
  · rw [if_pos h]; exact h1 h
  · rw [if_neg h]; exact h2 h
@[go_sem] theorem nBeq (a b:Nat):((a:Int) == (b:Int))=(a == b):=by
  rw [Bool.eq_iff_iff]; simp only [beq_iff_eq]; omega
@[go_sem] theorem nBeqL (a k:Nat) [NeZero k]:((a:Int) == (no_index (OfNat.ofNat k):Int))=(a == OfNat.ofNat k):=nBeq a k
@[go_sem] theorem nBeq0 (a:Nat):((a:Int) == 0)=(a == 0):=nBeq a 0
@[go_sem] theorem nLt0 (a:Nat):((0:Int) < (a:Int))=(0 < a):=nLt 0 a
@[go_sem] theorem nLe0 (a:Nat):((a:Int) <= 0)=(a <= 0):=nLe a 0
@[go_sem] theorem nEq0 (a:Nat):((a:Int)=0)=(a=0):=nEq a 0
@[go_sem] theorem nGt (a b:Int):(a > b)=(b < a):=rfl
@[go_sem] theorem nGe (a b:Int):(a ≥ b)=(b <= a):=rfl
@[go_sem] theorem nTmod (a k:Nat):(a:Int).tmod (k:Int)=((a % k:Nat):Int):=rfl
@[go_sem] theorem nTmodL (a k:Nat) [NeZero k]:(a:Int).tmod (no_index (OfNat.ofNat k):Int)=((a % OfNat.ofNat k:Nat):Int):=rfl
@[go_sem] theorem nTdiv (a k:Nat):(a:Int).tdiv (k:Int)=((a / k:Nat):Int):=rfl
@[go_sem] theorem nTdivL (a k:Nat) [NeZero k]:(a:Int).tdiv (no_index (OfNat.ofNat k):Int)=((a / OfNat.ofNat k:Nat):Int):=rfl
theorem nFdiv (a k:Nat):(a:Int).fdiv (k:Int)=((a / k:Nat):Int):=by rw [Int.fdiv_eq_ediv_of_nonneg _ (by omega)]; rfl
@[go_sem] theorem nMul (a b:Nat):(a:Int) * (b:Int)=((a * b:Nat):Int):=rfl
@[go_sem] theorem nMulL (a k:Nat) [NeZero k]:(a:Int) * (no_index (OfNat.ofNat k):Int)=((a * OfNat.ofNat k:Nat):Int):=rfl
@[go_sem] theorem wrapU8 {n:Int} (h:0 <= n) (h':n < 256):IntKind.wrap .u8 n=n:=by
  have e:IntKind.wrap .u8 n=n % 256:=by simp [IntKind.wrap,IntKind.bits,IntKind.signed]
  rw [e]; omega
@[go_sem] theorem wrap32 {n:Int} (h:-2147483648 <= n) (h':n < 2147483648):IntKind.wrap .i32 n=n:=by
  have e:IntKind.wrap .i32 n=if n % 4294967296 ≥ 2147483648 then n % 4294967296 - 4294967296 else n % 4294967296:=by simp [IntKind.wrap,IntKind.bits,IntKind.signed]
  rw [e]
  split <;> omega
section
variable {P:Program} {σ:AS} {t id off:Nat} {K:AV->Prop} {k:IntKind}
theorem ixS (h:P.underlying t=some .string) {x:List UInt8} {i:Nat} (hi:i < x.length):indexD P t (.pv (.str x)) (.pv (.int k i)) K=K (.pv (.int .u8 (x.getD i 0).toNat)):=by
  rw [ix_str h]
  simp [hi]
theorem slS (h:P.underlying t=some .string) {x:List UInt8} {i:Nat} (hi:i <= x.length):sliceD P t (.pv (.str x)) (some (.pv (.int k i))) none K=K (.pv (.str (x.drop i))):=by
  simp [sliceD,h,cutAt,hi]
theorem slS0 (h:P.underlying t=some .string) {x:List UInt8} {i:Nat} (hi:i <= x.length):sliceD P t (.pv (.str x)) none (some (.pv (.int k i))) K=K (.pv (.str (x.take i))):=by
  simp [sliceD,h,cutAt,hi]
def ldM:Option AObj->Nat->(AV->Prop)->Prop
  | some (.cells cs _),off,K=>∃ v,cs[off]?=some v/\K v
  | _,_,_=>False
def stM (σ:AS) (id:Nat):Option AObj->Nat->AV->(AS->Prop)->Prop
  | some (.cells cs var),off,v,K=>off < cs.length/\K (σ.set id (.cells (cs.set off v) var))
  | _,_,_,_=>False
theorem ldM_cells {cs:List AV} {var:Option TypeId}:ldM (some (.cells cs var)) off K=∃ v,cs[off]?=some v/\K v:=rfl
theorem stM_cells {cs:List AV} {var:Option TypeId} {v:AV} {K:AS->Prop}:stM σ id (some (.cells cs var)) off v K=(off < cs.length/\K (σ.set id (.cells (cs.set off v) var))):=rfl
theorem ldA (h:hasT P t=true) (h2:aggB P t=false):loadD P σ t (.addr id off) K=ldM (σ id) off K:=by
  simp only [loadD,h,h2,true_and]
  cases σ id with
  | none=>rfl
  | some o =>
    cases o with
    | cells cs var=>simp only [ldM]; cases cs[off]? <;> simp
    | _=>rfl
theorem stA {v:AV} {K:AS->Prop} (h:hasT P t=true) (h1:szOf P t=1) (hv:v.cells=[v]) (h2:v.cellOk=true):storeD P σ t (.addr id off) v K=stM σ id (σ id) off v K:=by
  simp only [storeD,h,h1,hv,h2,List.length_singleton,List.all_cons,List.all_nil,Bool.and_self,true_and]
  cases σ id with
  | none=>rfl
  | some o =>
    cases o with
    | cells cs var =>
      simp only [stM,setAll]
      exact propext ⟨fun h=>⟨by omega,h.2⟩,fun h=>⟨by omega,h.2⟩⟩
    | _=>rfl
end
theorem cvI {P:Program} {σ:AS} {s d:TypeId} {k k':IntKind} {n:Int} {K:AV->Prop} (hs:(P.underlying s).isSome=true) (hd:P.underlying d=some (.int k)):convD P σ s d (.pv (.int k' n)) K=K (.pv (.int k (k.wrap n))):=by
  cases e:P.underlying s with
  | none=>rw [e] at hs; cases hs
  | some x=>simp [convD,e,hd]
@[go_sem] theorem ext_tuple {vs:List AV} {i:Nat} {K:AV->Prop}:extractD (.tuple vs) i K=∃ v,vs[i]?=some v/\K v:=by
  simp only [extractD]
  cases vs[i]? <;> simp
theorem someEx {α:Type} {a:α} {p:α->Prop}:(∃ v,some a=some v/\p v)=p a:=by simp
structure Grow (P:Program) (e:TypeId) (σ0 σ:AS) (v:AV) (n:Nat) (cs:List PV):Prop where
  sub:σ0.sub σ
  row:(v=.nilS/\n=0/\cs=[]) \/ ∃ id mk,v=.grow id n cs/\0 < n/\σ id=some (.front n (szOf P e) mk)/\σ0 id=none
  len:cs.length=n * szOf P e
section
variable {P:Program} {σ0 σ:AS} {t e:TypeId} {v x:AV} {n m:Nat} {cs ys:List PV}
theorem Grow.start (P:Program) (e:TypeId) (σ:AS):Grow P e σ σ .nilS 0 []:=⟨sub_refl σ,.inl ⟨rfl,rfl,rfl⟩,by simp⟩
theorem Grow.toPV (G:Grow P e σ0 σ v n cs):toPV v=some (.lst n cs):=by
  rcases G.row with ⟨rfl,rfl,rfl⟩ | ⟨id,mk,rfl,_⟩ <;> rfl
theorem Grow.append {K:AV->AS->Prop} (G:Grow P e σ0 σ v n cs) (hT:RowT P t e) (hx:shown P σ e x=some (m,ys)) (hl:ys.length=m * szOf P e) (hm:0 < m) (hb:(n + m) * byOf P e <= 140737488355328) (hn:n + m <= 9223372036854775807)
    (h:∀ v' σ',Grow P e σ0 σ' v' (n + m) (cs ++ ys)->K v' σ'):appendD P false σ t v x K:=by
  rcases G.row with ⟨rfl,rfl,rfl⟩ | ⟨id,mk,rfl,h0,hg,hg0⟩
  · refine app_nil hT hx hl (by omega) (by simpa using hb) (by omega) ?_
    intro id hid
    have h0:σ0 id=none:=by
      cases e:σ0 id with
      | none=>rfl
      | some o=>rw [G.sub _ _ e] at hid; cases hid
    exact h _ _ ⟨G.sub.trans (sub_set _ hid),.inr ⟨id,some e,by simp,by omega,by simp [set_same],h0⟩,by simp [hl]⟩
  · refine app_grow hT hx hl hg (by omega) G.len hb hn ?_
    refine h _ _ ⟨?_,.inr ⟨id,_,rfl,by omega,set_same _ _ _,hg0⟩,by rw [List.length_append,G.len,hl,Nat.add_mul]⟩
    intro j o hj
    have:j ≠ id:=by intro e; rw [e,hg0] at hj; cases hj
    rw [set_ne _ _ this]
    exact G.sub j o hj
end
section
variable {P:Program} {σ:AS} {t t' e:TypeId} {v:AV} {ys:List PV}
end
attribute [go_sem] wrap64 someEx
end Go.AD
