/- Texts put together. No statement is proved here. -/
import Derived.Test.YtoeidpmjifjplaaGreatProg
import Derived.RangeFuncSeq
import Derived.Test.YtoeidpmjifjplaaGreatZ3
set_option linter.all false
set_option maxRecDepth 10000
set_option maxHeartbeats 8000000
namespace Go.Proofs.YtoeidpmjifjplaaGreat
open Go.RowKit
section
set_option maxRecDepth 100000
theorem ti2:Ag Tryz.prog 2=some ⟨false,1,[Go.Value.int Go.IntKind.i64 0],.int Go.IntKind.i64⟩:=by kernel_rfl
theorem ti3:Ag Tryz.prog 3=some ⟨false,1,[Go.Value.int Go.IntKind.i64 0],.int Go.IntKind.i64⟩:=by kernel_rfl
theorem ti4:Ag Tryz.prog 4=some ⟨false,1,[Go.Value.bool false],.bool⟩:=by kernel_rfl
theorem ti5:Ag Tryz.prog 5=some ⟨false,1,[Go.Value.int Go.IntKind.u8 0],.int Go.IntKind.u8⟩:=by kernel_rfl
theorem ti9:Ag Tryz.prog 9=some ⟨false,1,[Go.Value.string ⟨#[]⟩],.string⟩:=by kernel_rfl
theorem eJ:Ag Tryz.prog 22=some ⟨false,1,[Go.Value.slice none 0 0],.slice 136 3 64 [Go.Value.string ⟨#[]⟩,Go.Value.slice none 0 0,Go.Value.slice none 0 0]⟩:=by kernel_rfl
theorem eI:Ag Tryz.prog 23=some ⟨false,1,[Go.Value.slice none 0 0],.slice 34 4 72 [Go.Value.string ⟨#[]⟩,Go.Value.int Go.IntKind.i64 0,Go.Value.slice none 0 0,Go.Value.slice none 0 0]⟩:=by kernel_rfl
theorem eH:Ag Tryz.prog 24=some ⟨false,1,[Go.Value.slice none 0 0],.slice 43 5 56 [Go.Value.int Go.IntKind.i64 0,Go.Value.int Go.IntKind.i64 0,Go.Value.int Go.IntKind.i64 0,Go.Value.int Go.IntKind.i64 0,Go.Value.slice none 0 0]⟩:=by kernel_rfl
theorem eG:Ag Tryz.prog 25=some ⟨false,1,[Go.Value.slice none 0 0],.slice 30 4 56 [Go.Value.int Go.IntKind.i64 0,Go.Value.int Go.IntKind.i64 0,Go.Value.string ⟨#[]⟩,Go.Value.slice none 0 0]⟩:=by kernel_rfl
theorem eF:Ag Tryz.prog 30=some ⟨true,4,[Go.Value.int Go.IntKind.i64 0,Go.Value.int Go.IntKind.i64 0,Go.Value.string ⟨#[]⟩,Go.Value.slice none 0 0],.struct [(0,1,false),(1,1,false),(2,1,false),(3,1,false)]⟩:=by kernel_rfl
theorem eE:Ag Tryz.prog 31=some ⟨false,1,[Go.Value.slice none 0 0],.slice 39 3 40 [Go.Value.int Go.IntKind.i64 0,Go.Value.bool false,Go.Value.slice none 0 0]⟩:=by kernel_rfl
theorem eD:Ag Tryz.prog 32=some ⟨false,1,[Go.Value.slice none 0 0],.slice 139 5 56 [Go.Value.int Go.IntKind.i64 0,Go.Value.int Go.IntKind.i64 0,Go.Value.int Go.IntKind.i64 0,Go.Value.int Go.IntKind.i64 0,Go.Value.slice none 0 0]⟩:=by kernel_rfl
theorem eC:Ag Tryz.prog 34=some ⟨true,4,[Go.Value.string ⟨#[]⟩,Go.Value.int Go.IntKind.i64 0,Go.Value.slice none 0 0,Go.Value.slice none 0 0],.struct [(0,1,false),(1,1,false),(2,1,false),(3,1,false)]⟩:=by kernel_rfl
theorem eB:Ag Tryz.prog 37=some ⟨false,1,[Go.Value.slice none 0 0],.slice 76 7 80 [Go.Value.int Go.IntKind.i64 0,Go.Value.int Go.IntKind.i64 0,Go.Value.int Go.IntKind.i64 0,Go.Value.int Go.IntKind.i64 0,Go.Value.int Go.IntKind.i64 0,Go.Value.string ⟨#[]⟩,Go.Value.slice none 0 0]⟩:=by kernel_rfl
theorem eA:Ag Tryz.prog 39=some ⟨true,3,[Go.Value.int Go.IntKind.i64 0,Go.Value.bool false,Go.Value.slice none 0 0],.struct [(0,1,false),(1,1,false),(2,1,false)]⟩:=by kernel_rfl
theorem ey:Ag Tryz.prog 41=some ⟨true,2,[Go.Value.int Go.IntKind.i64 0,Go.Value.slice none 0 0],.struct [(0,1,false),(1,1,false)]⟩:=by kernel_rfl
theorem eu:Ag Tryz.prog 43=some ⟨true,5,[Go.Value.int Go.IntKind.i64 0,Go.Value.int Go.IntKind.i64 0,Go.Value.int Go.IntKind.i64 0,Go.Value.int Go.IntKind.i64 0,Go.Value.slice none 0 0],.struct [(0,1,false),(1,1,false),(2,1,false),(3,2,true)]⟩:=by kernel_rfl
theorem er:Ag Tryz.prog 48=some ⟨false,1,[Go.Value.slice none 0 0],.slice 52 2 32 [Go.Value.int Go.IntKind.i64 0,Go.Value.slice none 0 0]⟩:=by kernel_rfl
theorem ep:Ag Tryz.prog 50=some ⟨false,1,[Go.Value.slice none 0 0],.slice 3 1 8 [Go.Value.int Go.IntKind.i64 0]⟩:=by kernel_rfl
theorem eo:Ag Tryz.prog 52=some ⟨true,2,[Go.Value.int Go.IntKind.i64 0,Go.Value.slice none 0 0],.struct [(0,1,false),(1,1,false)]⟩:=by kernel_rfl
theorem ej:Ag Tryz.prog 58=some ⟨false,1,[Go.Value.slice none 0 0],.slice 66 7 72 [Go.Value.int Go.IntKind.i64 0,Go.Value.int Go.IntKind.i64 0,Go.Value.int Go.IntKind.i64 0,Go.Value.int Go.IntKind.i64 0,Go.Value.int Go.IntKind.i64 0,Go.Value.int Go.IntKind.i64 0,Go.Value.slice none 0 0]⟩:=by kernel_rfl
theorem ei:Ag Tryz.prog 60=some ⟨false,1,[Go.Value.pointer none],.pointer⟩:=by kernel_rfl
theorem eh:Ag Tryz.prog 66=some ⟨true,7,[Go.Value.int Go.IntKind.i64 0,Go.Value.int Go.IntKind.i64 0,Go.Value.int Go.IntKind.i64 0,Go.Value.int Go.IntKind.i64 0,Go.Value.int Go.IntKind.i64 0,Go.Value.int Go.IntKind.i64 0,Go.Value.slice none 0 0],.struct [(0,1,false),(1,1,false),(2,5,true)]⟩:=by kernel_rfl
theorem eg:Ag Tryz.prog 76=some ⟨true,7,[Go.Value.int Go.IntKind.i64 0,Go.Value.int Go.IntKind.i64 0,Go.Value.int Go.IntKind.i64 0,Go.Value.int Go.IntKind.i64 0,Go.Value.int Go.IntKind.i64 0,Go.Value.string ⟨#[]⟩,Go.Value.slice none 0 0],.struct [(0,1,false),(1,1,false),(2,1,false),(3,4,true)]⟩:=by kernel_rfl
theorem ef:Ag Tryz.prog 81=some ⟨false,1,[Go.Value.slice none 0 0],.slice 184 7 88 [Go.Value.string ⟨#[]⟩,Go.Value.int Go.IntKind.i64 0,Go.Value.bool false,Go.Value.int Go.IntKind.i64 0,Go.Value.int Go.IntKind.i64 0,Go.Value.string ⟨#[]⟩,Go.Value.slice none 0 0]⟩:=by kernel_rfl
theorem bJ:Ag Tryz.prog 100=some ⟨false,1,[Go.Value.slice none 0 0],.slice 106 1 8 [Go.Value.pointer none]⟩:=by kernel_rfl
theorem Fm:Ag Tryz.prog 101=some ⟨false,1,[Go.Value.map none],.other⟩:=by kernel_rfl
theorem bI:Ag Tryz.prog 103=some ⟨true,3,[Go.Value.map none,Go.Value.slice none 0 0,Go.Value.slice none 0 0],.struct [(0,1,false),(1,1,false),(2,1,false)]⟩:=by kernel_rfl
theorem bH:Ag Tryz.prog 105=some ⟨true,4,[Go.Value.slice none 0 0,Go.Value.map none,Go.Value.slice none 0 0,Go.Value.slice none 0 0],.struct [(0,1,false),(1,3,true)]⟩:=by kernel_rfl
theorem bG:Ag Tryz.prog 106=some ⟨false,1,[Go.Value.pointer none],.pointer⟩:=by kernel_rfl
theorem bF:Ag Tryz.prog 107=some ⟨false,1,[Go.Value.slice none 0 0],.slice 115 9 152 [Go.Value.int Go.IntKind.i64 0,Go.Value.bool false,Go.Value.slice none 0 0,Go.Value.map none,Go.Value.slice none 0 0,Go.Value.slice none 0 0,Go.Value.map none,Go.Value.slice none 0 0,Go.Value.slice none 0 0]⟩:=by kernel_rfl
theorem bE:Ag Tryz.prog 109=some ⟨true,1,[Go.Value.slice none 0 0],.struct [(0,1,false)]⟩:=by kernel_rfl
theorem Fl:Ag Tryz.prog 110=some ⟨false,1,[Go.Value.map none],.other⟩:=by kernel_rfl
theorem bD:Ag Tryz.prog 111=some ⟨false,1,[Go.Value.slice none 0 0],.slice 117 1 8 [Go.Value.pointer none]⟩:=by kernel_rfl
theorem bC:Ag Tryz.prog 113=some ⟨true,3,[Go.Value.map none,Go.Value.slice none 0 0,Go.Value.slice none 0 0],.struct [(0,1,false),(1,1,false),(2,1,false)]⟩:=by kernel_rfl
theorem bB:Ag Tryz.prog 115=some ⟨true,9,[Go.Value.int Go.IntKind.i64 0,Go.Value.bool false,Go.Value.slice none 0 0,Go.Value.map none,Go.Value.slice none 0 0,Go.Value.slice none 0 0,Go.Value.map none,Go.Value.slice none 0 0,Go.Value.slice none 0 0],.struct [(0,3,true),(3,3,true),(6,3,true)]⟩:=by kernel_rfl
theorem bA:Ag Tryz.prog 117=some ⟨false,1,[Go.Value.pointer none],.pointer⟩:=by kernel_rfl
theorem bz:Ag Tryz.prog 119=some ⟨true,8,[Go.Value.pointer none,Go.Value.int Go.IntKind.i64 0,Go.Value.int Go.IntKind.i64 0,Go.Value.slice none 0 0,Go.Value.map none,Go.Value.slice none 0 0,Go.Value.slice none 0 0,Go.Value.int Go.IntKind.i64 0],.struct [(0,1,false),(1,1,false),(2,1,false),(3,1,false),(4,3,true),(7,1,false)]⟩:=by kernel_rfl
theorem bu:Ag Tryz.prog 134=some ⟨false,1,[Go.Value.slice none 0 0],.slice 186 10 128 [Go.Value.int Go.IntKind.i64 0,Go.Value.int Go.IntKind.i64 0,Go.Value.string ⟨#[]⟩,Go.Value.int Go.IntKind.i64 0,Go.Value.bool false,Go.Value.int Go.IntKind.i64 0,Go.Value.int Go.IntKind.i64 0,Go.Value.string ⟨#[]⟩,Go.Value.slice none 0 0,Go.Value.slice none 0 0]⟩:=by kernel_rfl
theorem br:Ag Tryz.prog 136=some ⟨true,3,[Go.Value.string ⟨#[]⟩,Go.Value.slice none 0 0,Go.Value.slice none 0 0],.struct [(0,1,false),(1,1,false),(2,1,false)]⟩:=by kernel_rfl
theorem bq:Ag Tryz.prog 137=some ⟨false,1,[Go.Value.slice none 0 0],.slice 141 6 72 [Go.Value.bool false,Go.Value.int Go.IntKind.i64 0,Go.Value.int Go.IntKind.i64 0,Go.Value.int Go.IntKind.i64 0,Go.Value.string ⟨#[]⟩,Go.Value.slice none 0 0]⟩:=by kernel_rfl
theorem bp:Ag Tryz.prog 139=some ⟨true,5,[Go.Value.int Go.IntKind.i64 0,Go.Value.int Go.IntKind.i64 0,Go.Value.int Go.IntKind.i64 0,Go.Value.int Go.IntKind.i64 0,Go.Value.slice none 0 0],.struct [(0,1,false),(1,1,false),(2,1,false),(3,1,false),(4,1,false)]⟩:=by kernel_rfl
theorem bo:Ag Tryz.prog 141=some ⟨true,6,[Go.Value.bool false,Go.Value.int Go.IntKind.i64 0,Go.Value.int Go.IntKind.i64 0,Go.Value.int Go.IntKind.i64 0,Go.Value.string ⟨#[]⟩,Go.Value.slice none 0 0],.struct [(0,1,false),(1,1,false),(2,4,true)]⟩:=by kernel_rfl
theorem bl:Ag Tryz.prog 146=some ⟨true,2,[Go.Value.slice none 0 0,Go.Value.slice none 0 0],.struct [(0,1,false),(1,1,false)]⟩:=by kernel_rfl
theorem bj:Ag Tryz.prog 164=some ⟨false,1,[Go.Value.pointer none],.pointer⟩:=by kernel_rfl
theorem bh:Ag Tryz.prog 184=some ⟨true,7,[Go.Value.string ⟨#[]⟩,Go.Value.int Go.IntKind.i64 0,Go.Value.bool false,Go.Value.int Go.IntKind.i64 0,Go.Value.int Go.IntKind.i64 0,Go.Value.string ⟨#[]⟩,Go.Value.slice none 0 0],.struct [(0,1,false),(1,1,false),(2,1,false),(3,4,true)]⟩:=by kernel_rfl
theorem bf:Ag Tryz.prog 186=some ⟨true,10,[Go.Value.int Go.IntKind.i64 0,Go.Value.int Go.IntKind.i64 0,Go.Value.string ⟨#[]⟩,Go.Value.int Go.IntKind.i64 0,Go.Value.bool false,Go.Value.int Go.IntKind.i64 0,Go.Value.int Go.IntKind.i64 0,Go.Value.string ⟨#[]⟩,Go.Value.slice none 0 0,Go.Value.slice none 0 0],.struct [(0,1,false),(1,1,false),(2,7,true),(9,1,false)]⟩:=by kernel_rfl
theorem bc:Ag Tryz.prog 189=some ⟨false,1,[Go.Value.pointer none],.pointer⟩:=by kernel_rfl
theorem ba:Ag Tryz.prog 192=some ⟨true,6,[Go.Value.slice none 0 0,Go.Value.string ⟨#[]⟩,Go.Value.int Go.IntKind.i64 0,Go.Value.slice none 0 0,Go.Value.slice none 0 0,Go.Value.map none],.struct [(0,1,false),(1,4,true),(5,1,false)]⟩:=by kernel_rfl
theorem a8:Ag Tryz.prog 232=some ⟨true,6,[Go.Value.nilFunc,Go.Value.nilFunc,Go.Value.nilFunc,Go.Value.nilFunc,Go.Value.nilFunc,Go.Value.nilFunc],.array 6 1 false⟩:=by kernel_rfl
theorem a7:Ag Tryz.prog 238=some ⟨false,1,[Go.Value.slice none 0 0],.slice 5 1 1 [Go.Value.int Go.IntKind.u8 0]⟩:=by kernel_rfl
attribute [push_cast] ti2 ti3 ti4 ti5 ti9 eJ eI eH eG eF eE eD eC eB eA ey eu er ep eo ej ei eh eg ef bJ bI bH bG bF bE bD bC bB bA bz bu br bq bp bo bl bj bh bf bc ba a8 a7
abbrev CT:=CE Tryz.prog
instance : CT 12:=⟨Tryz.call12⟩
instance : CT 16:=⟨Tryz.call16⟩
instance : CT 17:=⟨Tryz.call17⟩
instance : CT 20:=⟨Tryz.call20⟩
instance : CT 22:=⟨Tryz.call22⟩
instance : CT 26:=⟨Tryz.call26⟩
instance : CT 30:=⟨Tryz.call30⟩
instance : CT 31:=⟨Tryz.call31⟩
instance : CT 32:=⟨Tryz.call32⟩
instance : CT 33:=⟨Tryz.call33⟩
instance : CT 35:=⟨Tryz.call35⟩
instance : CT 37:=⟨Tryz.call37⟩
instance : CT 40:=⟨Tryz.call40⟩
instance : CT 41:=⟨Tryz.call41⟩
instance : CT 43:=⟨Tryz.call43⟩
instance : CT 44:=⟨Tryz.call44⟩
instance : CT 45:=⟨Tryz.call45⟩
instance : CT 46:=⟨Tryz.call46⟩
instance : CT 47:=⟨Tryz.call47⟩
instance : CT 48:=⟨Tryz.call48⟩
instance : CT 49:=⟨Tryz.call49⟩
instance : CT 50:=⟨Tryz.call50⟩
instance : CT 51:=⟨Tryz.call51⟩
instance : CT 52:=⟨Tryz.call52⟩
instance : CT 53:=⟨Tryz.call53⟩
instance : CT 57:=⟨Tryz.call57⟩
instance : CT 62:=⟨Tryz.call62⟩
instance : CT 63:=⟨Tryz.call63⟩
instance : CT 64:=⟨Tryz.call64⟩
instance : CT 65:=⟨Tryz.call65⟩
instance : CT 66:=⟨Tryz.call66⟩
instance : CT 68:=⟨Tryz.call68⟩
instance : CT 69:=⟨Tryz.call69⟩
instance : CT 70:=⟨Tryz.call70⟩
instance : CT 71:=⟨Tryz.call71⟩
instance : CT 72:=⟨Tryz.call72⟩
instance : CT 73:=⟨Tryz.call73⟩
instance : CT 74:=⟨Tryz.call74⟩
instance : CT 75:=⟨Tryz.call75⟩
instance : CT 76:=⟨Tryz.call76⟩
instance : CT 77:=⟨Tryz.call77⟩
instance : CT 78:=⟨Tryz.call78⟩
instance : CT 79:=⟨Tryz.call79⟩
instance : CT 80:=⟨Tryz.call80⟩
instance : CT 81:=⟨Tryz.call81⟩
instance : CT 82:=⟨Tryz.call82⟩
instance : CT 83:=⟨Tryz.call83⟩
instance : CT 84:=⟨Tryz.call84⟩
instance : CT 85:=⟨Tryz.call85⟩
instance : CT 89:=⟨Tryz.call89⟩
instance : CT 94:=⟨Tryz.call94⟩
instance : CT 95:=⟨Tryz.call95⟩
instance : CT 96:=⟨Tryz.call96⟩
instance : CT 97:=⟨Tryz.call97⟩
instance : CT 98:=⟨Tryz.call98⟩
instance : CT 99:=⟨Tryz.call99⟩
instance : CT 100:=⟨Tryz.call100⟩
instance : CT 102:=⟨Tryz.call102⟩
instance : CT 104:=⟨Tryz.call104⟩
instance : CT 105:=⟨Tryz.call105⟩
instance : CT 106:=⟨Tryz.call106⟩
instance : CT 107:=⟨Tryz.call107⟩
instance : CT 108:=⟨Tryz.call108⟩
instance : CT 109:=⟨Tryz.call109⟩
instance : CT 110:=⟨Tryz.call110⟩
instance : CT 111:=⟨Tryz.call111⟩
instance : CT 112:=⟨Tryz.call112⟩
instance : CT 113:=⟨Tryz.call113⟩
instance : CT 114:=⟨Tryz.call114⟩
instance : CT 115:=⟨Tryz.call115⟩
instance : CT 116:=⟨Tryz.call116⟩
instance : CT 117:=⟨Tryz.call117⟩
instance : CT 118:=⟨Tryz.call118⟩
instance : CT 119:=⟨Tryz.call119⟩
instance : CT 120:=⟨Tryz.call120⟩
instance : CT 121:=⟨Tryz.call121⟩
instance : CT 122:=⟨Tryz.call122⟩
instance : CT 123:=⟨Tryz.call123⟩
instance : CT 124:=⟨Tryz.call124⟩
instance : CT 125:=⟨Tryz.call125⟩
instance : CT 126:=⟨Tryz.call126⟩
instance : CT 127:=⟨Tryz.call127⟩
instance : CT 139:=⟨Tryz.call139⟩
instance : CT 140:=⟨Tryz.call140⟩
instance : CT 141:=⟨Tryz.call141⟩
instance : CT 142:=⟨Tryz.call142⟩
instance : CT 143:=⟨Tryz.call143⟩
instance : CT 144:=⟨Tryz.call144⟩
instance : CT 146:=⟨Tryz.call146⟩
instance : CT 147:=⟨Tryz.call147⟩
instance : CT 148:=⟨Tryz.call148⟩
instance : CT 149:=⟨Tryz.call149⟩
instance : CT 150:=⟨Tryz.call150⟩
instance : CT 151:=⟨Tryz.call151⟩
instance : CT 152:=⟨Tryz.call152⟩
instance : CT 153:=⟨Tryz.call153⟩
instance : CT 154:=⟨Tryz.call154⟩
instance : CT 155:=⟨Tryz.call155⟩
instance : CT 156:=⟨Tryz.call156⟩
instance : CT 157:=⟨Tryz.call157⟩
instance : CT 158:=⟨Tryz.call158⟩
instance : CT 159:=⟨Tryz.call159⟩
instance : CT 160:=⟨Tryz.call160⟩
instance : CT 161:=⟨Tryz.call161⟩
instance : CT 162:=⟨Tryz.call162⟩
instance : CT 163:=⟨Tryz.call163⟩
instance : CT 164:=⟨Tryz.call164⟩
instance : CT 165:=⟨Tryz.call165⟩
instance : CT 166:=⟨Tryz.call166⟩
instance : CT 180:=⟨Tryz.call180⟩
instance : CT 181:=⟨Tryz.call181⟩
instance : CT 182:=⟨Tryz.call182⟩
instance : CT 183:=⟨Tryz.call183⟩
instance : CT 184:=⟨Tryz.call184⟩
instance : CT 185:=⟨Tryz.call185⟩
instance : CT 186:=⟨Tryz.call186⟩
instance : CT 187:=⟨Tryz.call187⟩
instance : CT 188:=⟨Tryz.call188⟩
instance : CT 189:=⟨Tryz.call189⟩
instance : CT 190:=⟨Tryz.call190⟩
instance : CT 191:=⟨Tryz.call191⟩
instance : CT 192:=⟨Tryz.call192⟩
instance : CT 193:=⟨Tryz.call193⟩
instance : CT 198:=⟨Tryz.call198⟩
instance : CT 199:=⟨Tryz.call199⟩
instance : CT 200:=⟨Tryz.call200⟩
instance : CT 201:=⟨Tryz.call201⟩
instance : CT 202:=⟨Tryz.call202⟩
instance : CT 203:=⟨Tryz.call203⟩
instance : CT 204:=⟨Tryz.call204⟩
instance : CT 205:=⟨Tryz.call205⟩
instance : CT 206:=⟨Tryz.call206⟩
instance : CT 208:=⟨Tryz.call208⟩
instance : CT 210:=⟨Tryz.call210⟩
instance : CT 211:=⟨Tryz.call211⟩
instance : CT 212:=⟨Tryz.call212⟩
instance : CT 213:=⟨Tryz.call213⟩
instance : CT 214:=⟨Tryz.call214⟩
instance : CT 215:=⟨Tryz.call215⟩
instance : CT 216:=⟨Tryz.call216⟩
instance : CT 217:=⟨Tryz.call217⟩
instance : CT 218:=⟨Tryz.call218⟩
instance : CT 219:=⟨Tryz.call219⟩
instance : CT 220:=⟨Tryz.call220⟩
instance : CT 221:=⟨Tryz.call221⟩
end
section
open Go.RowKit Go.ChangeShapes
inductive V where
|mk (k n:Int)(s:ByteArray)(l:List V)
namespace V
mutual
def cells:V→List D
|.mk k n s l=>[.i k,.i n,.str s,.sl .shared (MN l)]
def MN:List V→List (List D)
|[]=>[]
|x::l=>x.cells::MN l
end
theorem Kk:∀l:List V,MN l=l.map cells
|[]=>rfl
|x::l=>by rw[MN,Kk l];rfl
theorem cells_mk(k n:Int)(s:ByteArray)(l:List V):(V.mk k n s l).cells=[.i k,.i n,.str s,.sl .shared (l.map cells)]:=by rw[cells,Kk]
theorem cells_len(v:V):v.cells.length=4:=by cases v;rw[cells_mk];rfl
theorem cells_take(v:V):v.cells.take 4=v.cells:=List.take_of_length_le (by rw[cells_len];omega)
theorem cells_leaf(v:V):∀d∈v.cells,d.leaf=true:=by
 cases v
 rw[cells_mk]
 intro d hd
 simp only[List.mem_cons,List.not_mem_nil,or_false] at hd
 rcases hd with rfl|rfl|rfl|rfl<;>rfl
mutual
def nodes:V→Nat
|.mk _ _ _ l=>1+Be l
def Be:List V→Nat
|[]=>0
|x::l=>x.nodes+Be l
end
mutual
def deep:V→Nat
|.mk k _ _ l=>if k=5∨l≠[] then Gv l+1 else 0
def Gv:List V→Nat
|[]=>0
|x::l=>max x.deep (Gv l)
end
theorem nodes_pos(v:V):0<v.nodes:=by cases v;rw[nodes];omega
theorem Da{x:V}:∀{l:List V},x∈l→x.nodes≤Be l
|y::l,h=>by
  rw[Be]
  rcases List.mem_cons.1 h with rfl|h
  · omega
  · have:=Da h;omega
theorem Cq{k n:Int}{s:ByteArray}{l:List V}{x:V}(h:x∈l):x.nodes<(V.mk k n s l).nodes:=by
 have:=Da h
 rw[nodes];omega
theorem DR:∀l:List V,l.length≤Be l
|[]=>Nat.le_refl _
|x::l=>by have:=DR l;have:=x.nodes_pos;rw[Be,List.length_cons];omega
mutual
theorem MJ:∀v:V,v.deep≤v.nodes
|.mk k n s l=>by
  have:=Hv l
  rw[deep,nodes]
  split<;>omega
theorem Hv:∀l:List V,Gv l≤Be l
|[]=>Nat.le_refl _
|x::l=>by
  have:=MJ x
  have:=Hv l
  rw[Gv,Be];omega
end
theorem drop_cons{α:Type}{l:List α}{i:Nat}{x:α}(h:l[i]?=some x):l.drop i=x::l.drop (i+1):=by
 obtain⟨h1,rfl⟩:=List.getElem?_eq_some_iff.1 h
 exact List.drop_eq_getElem_cons h1
theorem DS{α:Type}{l:List α}{i:Nat}{x:α}(h:l[i]?=some x):x∈l:=List.mem_of_getElem? h
inductive Ok:V→Prop
|mk {k n:Int} {s:ByteArray} {l:List V} (hk : -9223372036854775808≤k∧k≤9223372036854775807) (hn : -9223372036854775808≤n∧n≤9223372036854775807) (hs:s.size≤maxLen) (hl:l.length≤maxLen) (h:∀x∈l,Ok x):Ok (.mk k n s l)
end V
theorem Ce{n:Int}(h:(Lit.int .i64 n).wf=true) : -9223372036854775808≤n∧n≤9223372036854775807:=by
 simpa [Lit.wf,IntKind.min,IntKind.max,IntKind.bits,IntKind.signed] using h
section
open V
theorem Jv:∀n,Km n Tryz.prog 30 V.cells V.Ok
|0=>fun H enc W fuel cs x hf h=>by
  obtain rfl:fuel=0:=by omega
  simp[DataW.trod] at h
|1=>fun H enc W fuel cs x hf h=>by
  obtain⟨xs,m,rfl, -,hl,hn,hx⟩:=DataW.trod_struct Tryz.underlying30 h
  obtain⟨a, -⟩:=Aa (i:=0) (n:=0) (f:=fun a:Int=>[D.i a]) hx hn rfl (k:=1) (by kernel_rfl) (Ay (k:=.i64) Tryz.underlying3 0) q_o
  have:=hx 0 _ rfl
  obtain rfl:m=0:=by omega
  rw[List.getElem?_eq_getElem (by rw[hn];exact Nat.le_of_ble_eq_true rfl)] at this
  simp[DataW.trod] at this
|n+2=>fun H enc W fuel cs x hf h=>by
  obtain⟨xs,m,rfl, -,hl,hn,hx⟩:=DataW.trod_struct Tryz.underlying30 h
  have hl4:cs.length=4:=hl.trans (by kernel_rfl)
  obtain⟨a,a1,a2⟩:=Aa (i:=0) (n:=n+1) (f:=fun a:Int=>[D.i a]) hx hn rfl (k:=1) (by kernel_rfl) (Ay (k:=.i64) Tryz.underlying3 _) q_o
  obtain⟨b,b1,b2⟩:=Aa (i:=1) (n:=n+1) (f:=fun a:Int=>[D.i a]) hx hn rfl (k:=1) (by kernel_rfl) (Ay (k:=.i64) Tryz.underlying2 _) q_o
  obtain⟨c,c1,c2⟩:=Aa (i:=2) (n:=n+1) (f:=fun a:ByteArray=>[D.str a]) hx hn rfl (k:=1) (by kernel_rfl) (Ds Tryz.underlying9 _) q_o
  obtain⟨d,d1,d2,d3⟩:=Aa (i:=3) (n:=n+1) (f:=fun l:List V=>[D.sl .shared (l.map V.cells)]) hx hn rfl (k:=1) (by kernel_rfl) (IB (sz:=4) Tryz.underlying25 (by kernel_rfl) q_o (Jv n) V.cells_len V.cells_leaf) q_o
  refine⟨.mk a b c d,?_,.mk (Ce a2) (Ce b2) c2 d3 d2⟩
  rw[V.cells_mk]
  have:=RepL.glue a1 (RepL.glue b1 (RepL.glue c1 (RepL.glue d1 (RepL.glue_end hl4))))
  exact this
theorem XH:BZ Tryz.prog 25 (fun l:List V=>[D.sl .shared (l.map V.cells)]) fun l=>(∀x∈l,V.Ok x)∧l.length≤maxLen :=
 AR (sz:=4) Tryz.underlying25 (by kernel_rfl) q_o Jv V.cells_len V.cells_leaf
end
end
section
attribute [local push_cast] Ad Ae V.cells_mk V.cells_take V.cells_len
namespace V
mutual
def cnt:V→Int→Int→Int
|.mk _ _ _ l,n,d=>if n - 1<0∨d<0 then -1 else FT l (n - 1) (d - 1)
def FT:List V→Int→Int→Int
|[],n,_=>n
|x::l,n,d=>if x.cnt n d<0 then -1 else FT l (x.cnt n d) d
end
mutual
theorem Wr:∀(v:V) (n d:Int), -1≤n → -1≤v.cnt n d∧v.cnt n d≤n
|.mk k m s l,n,d,h=>by
  rw[cnt]
  split
  · omega
  · have:=Rp l (n - 1) (d - 1) q_o
    omega
theorem Rp:∀(l:List V) (n d:Int), -1≤n → -1≤FT l n d∧FT l n d≤n
|[],n,d,h=>by rw[FT];omega
|x::l,n,d,h=>by
  rw[FT]
  have h1:=Wr x n d h
  split
  · omega
  · have:=Rp l (x.cnt n d) d q_o
    omega
end
end V
open V in
theorem Ic:∀(N:Nat) (v:V),v.nodes≤N→v.Ok→∀(n d:Int), -1≤n→n≤4611686018427387904 → -1≤d→d≤4611686018427387904→∀st,TrF Tryz.prog 50 [.agg v.cells,.i n,.i d] st fun x st'=>x=.i (v.cnt n d)∧st'=st
|0,v,h,_=>by have:=v.nodes_pos;omega
|N+1,.mk k n0 s l,hN,hok=>by
  intro n d h1 h2 h3 h4 st
  obtain⟨hk,hn,hs,hl,hall⟩:=hok
  unfold maxLen at hl
  have IH:=fun x (hx:x∈l)=>Ic N x (by have:=Cq (k:=k) (n:=n0) (s:=s) hx;omega) (hall x hx)
  clear hall hN
  rw[V.cells_mk]
  refine Qin [6] Tryz.func50 Tryz.results50 Tryz.ntmps50 ?_
  by_cases c1:n - 1<0
  · rw[cnt,if_pos (.inl c1)]
    clear IH
    exact WR
  by_cases c2:d<0
  · rw[cnt,if_pos (.inr c2)]
    clear IH
    exact WR
  rw[cnt,if_neg q_o]
  repeat' (first|refine QX ?_|(refine QB ?_;intro b)|(with_reducible refine QZ ?_<;>(try constructor)<;>intro hb<;>try intro hb1)|fail)
  refine Bq (ι:=Nat×Int) (fun i A st'=>i.1≤l.length∧0≤i.2∧i.2≤n∧Hid (FT (l.drop i.1) i.2 (d - 1)=FT l (n - 1) (d - 1))∧A.df=[]∧A.e 1=.i i.2∧A.e 2=.i d∧A.e 3=.ip [.i k,.i n0,.str s,.sl .shared (l.map V.cells)]∧A.e 7=.i i.1∧st'=st) (fun i=>l.length - i.1) (0,n - 1) ⟨Nat.zero_le _,by omega,by omega,rfl,rfl,Qf,Qf,Qf,Qf,rfl⟩ ?_
  rintro⟨i,m⟩ A st' ⟨hi,hm0,hmn,HT,hdf,h1',h2',h3',h7,rfl⟩
  dsimp only at hi hm0 hmn HT h1' h7 ⊢
  by_cases hlt:i<l.length
  · obtain⟨x,hx⟩:=gEx hlt
    have ih:=IH x (DS hx) m (d - 1) q_o q_o q_o q_o
    have hb:=Wr x m (d - 1) q_o
    have hlx:=V.cells_len x
    have HD:=HT.out
    rw[drop_cons hx,FT] at HD
    generalize x.cnt m (d - 1)=m' at *
    clear IH
    by_cases hm':m'<0
    · rw[if_pos hm'] at HD
      rw[←HD]
      clear HD HT
      repeat' (first|refine QX ?_|(refine QB ?_;intro b)|(with_reducible refine QZ ?_<;>(try constructor)<;>intro hb<;>try intro hb1)|refine Qc Tryz.call50 (ih _) ?_|fail)
      all_goals exact Ar
    · rw[if_neg hm'] at HD
      have HE:=Lib.hid HD
      clear HD HT
      repeat' (first|refine QX ?_|(refine QB ?_;intro b)|(with_reducible refine QZ ?_<;>(try constructor)<;>intro hb<;>try intro hb1)|refine Qc Tryz.call50 (ih _) ?_|fail)
      refine⟨(i+1,m'),⟨hlt,by omega,by dsimp only;omega,HE,?_,?_,?_,?_,?_,rfl⟩,?_⟩
      all_goals exact Qf
  · have HD:=HT.out
    rw[List.drop_eq_nil_of_le q_o,FT] at HD
    rw[←HD]
    clear HD HT IH
    exact WR
end
section
attribute [local push_cast] Ad Ae V.cells_mk V.cells_take V.cells_len
namespace V
mutual
theorem PV:∀(v:V) (n d:Int),0≤v.cnt n d→v.cnt n d=n - v.nodes
|.mk k m s l,n,d,h=>by
  rw[cnt] at h ⊢
  split at h
  · omega
  · rename_i hc
    rw[if_neg hc,nodes]
    have:=Rq l (n - 1) (d - 1) h
    omega
theorem Rq:∀(l:List V) (n d:Int),0≤FT l n d→FT l n d=n - Be l
|[],n,d,h=>by rw[FT,Be];omega
|x::l,n,d,h=>by
  rw[FT] at h ⊢
  split at h
  · omega
  · rename_i hc
    rw[if_neg hc,Be,Rq l _ d h]
    have:=PV x n d q_o
    omega
end
mutual
theorem cnt_all:∀(v:V) (n d:Int),(v.nodes:Int)≤n→(v.deep:Int)≤d→v.cnt n d=n - v.nodes
|.mk k m s l,n,d,h,hd=>by
  have hp:=(V.mk k m s l).nodes_pos
  rw[cnt,if_neg q_o,nodes] at *
  rw[deep] at hd
  have:=OF l (n - 1) (d - 1) q_o (by
   cases l with
   | nil=>exact .inl rfl
   | cons x l=>rw[if_pos (.inr (by simp))] at hd;exact .inr q_o)
  omega
theorem OF:∀(l:List V) (n d:Int),(Be l:Int)≤n→(l=[]∨(Gv l:Int)≤d)→FT l n d=n - Be l
|[],n,d,h,_=>by rw[FT,Be];omega
|x::l,n,d,h,hd=>by
  rw[Be] at h
  rcases hd with hd|hd
  · cases hd
  rw[Gv] at hd
  have h1:=cnt_all x n d q_o q_o
  rw[FT,if_neg q_o,h1,OF l _ d q_o (.inr q_o),Be]
  omega
end
def Iu:Int→List V→Int
|n,[]=>n
|n,x::l=>Iu (if (x.deep:Int) > n then x.deep else n) l
theorem VK(a b:Nat):((max a b:Nat):Int)=if (a:Int)≤b then(b:Int) else a:=by
 rw[Nat.max_def];split<;>split<;>omega
theorem MT:∀(l:List V) (n:Int),Iu n l=match l with|[]=>n|x::l=>max n (Gv (x::l))
|[],n=>rfl
|[x],n=>by
  show(if (x.deep:Int) > n then(x.deep:Int) else n)=max n ((max x.deep 0:Nat):Int)
  rw[VK];split<;>split<;>omega
|x::y::l,n=>by
  have h:=MT (y::l) (if (x.deep:Int) > n then x.deep else n)
  show Iu _ (y::l)=max n ((max x.deep (Gv (y::l)):Nat):Int)
  rw[h,VK]
  dsimp only
  split<;>split<;>omega
theorem Uf(k n:Int)(s:ByteArray)(l:List V):Iu (if k=5 then 0 else -1) l+1=(V.mk k n s l).deep:=by
 rw[MT,deep]
 cases l with
|nil =>
  by_cases h:k=5
  · simp[h,Gv]
  · simp[h]
|cons x l =>
  rw[if_pos (show k=5∨x::l≠[] from .inr (by simp))]
  dsimp only
  split<;>omega
theorem Qb(k n:Int)(s:ByteArray)(l:List V):(if k=5∨0<l.length then Iu 0 l+1 else Iu 0 l)=(V.mk k n s l).deep:=by
 rw[MT,deep]
 cases l with
|nil =>
  by_cases h:k=5
  · simp[h,Gv]
  · simp[h]
|cons x l =>
  rw[if_pos (show k=5∨x::l≠[] from .inr (by simp)),if_pos (show k=5∨0<(x::l).length from .inr (by simp))]
  dsimp only
  omega
end V
open V in
theorem Ju:∀(N:Nat) (v:V),v.nodes≤N→v.nodes≤4611686018427387904→∀st,TrF Tryz.prog 51 [.agg v.cells] st fun x st'=>x=.i v.deep∧st'=st
|0,v,h,_=>by have:=v.nodes_pos;omega
|N+1,.mk k n0 s l,hN,hB=>by
  intro st
  have IH:=fun x (hx:x∈l)=>Ju N x (by have:=Cq (k:=k) (n:=n0) (s:=s) hx;omega) (by have:=Cq (k:=k) (n:=n0) (s:=s) hx;omega)
  have hll:=DR l
  have hdl:=Hv l
  rw[nodes] at hN hB
  have hD:=Uf k n0 s l
  generalize (V.mk k n0 s l).deep=dd at *
  rw[V.cells_mk]
  clear hN
  refine Qin [2] Tryz.func51 Tryz.results51 Tryz.ntmps51 ?_
  obtain⟨a0,ha0⟩:∃a0:Int,(if k=5 then(0:Int) else -1)=a0:=⟨_,rfl⟩
  have hab : -1≤a0∧a0≤0:=by rw[←ha0];split<;>omega
  have HD:=Lib.hid hD
  rw[ha0] at HD
  clear hD
  by_cases hk:k=5
  all_goals
   simp only[hk,if_true,if_false] at ha0
   first | have hkb:(k == 5)=true:=by rw[hk];rfl
         | have hkb:(k == 5)=false:=by rw[beq_eq_false_iff_ne];exact hk
   clear hk
   subst ha0
   have IH:=Lib.hid IH
   repeat' (first|refine QX ?_|(refine QB ?_;intro b)|(with_reducible refine QZ ?_<;>(try constructor)<;>intro hb<;>try intro hb1)|fail)
   refine Bq (ι:=Nat×Int) (fun i A st'=>i.1≤l.length ∧ -1≤i.2∧i.2≤Be l∧Hid (Iu i.2 (l.drop i.1)+1=dd)∧A.df=[]∧A.e 1=.ip [.i k,.i n0,.str s,.sl .shared (l.map V.cells)]∧A.e 3=.i i.2∧A.e 4=.i i.1∧st'=st) (fun i=>l.length - i.1) (0,_) ⟨Nat.zero_le _,hab.1,by dsimp only;omega,HD.out,Qf,Qf,Qf,Qf,rfl⟩ ?_
   rintro⟨i,m⟩ A st' ⟨hi,hm0,hmn,HT,hdf,h1',h3',h4',rfl⟩
   dsimp only at hi hm0 hmn HT h3' h4' ⊢
   by_cases hlt:i<l.length
   · obtain⟨x,hx⟩:=gEx hlt
     have ih:=IH.out x (DS hx)
     have hdx:=MJ x
     have hnx:=Da (DS hx)
     have HE:=HT.out
     rw[drop_cons hx,Iu] at HE
     have HE:=Lib.hid HE
     generalize x.deep=dx at *
     by_cases hm':(dx:Int) > m
     · have he:=HE.out
       rw[if_pos hm'] at he
       have HE:=Lib.hid he
       clear he HT IH
       repeat' (first|refine QX ?_|(refine QB ?_;intro b)|(with_reducible refine QZ ?_<;>(try constructor)<;>intro hb<;>try intro hb1)|refine Qc Tryz.call51 (ih _) ?_|fail)
       refine⟨(i+1,dx),⟨hlt,by dsimp only;omega,by dsimp only;omega,HE,?_,?_,?_,?_,rfl⟩,?_⟩
       all_goals exact Qf
     · have he:=HE.out
       rw[if_neg hm'] at he
       have HE:=Lib.hid he
       clear he HT IH
       repeat' (first|refine QX ?_|(refine QB ?_;intro b)|(with_reducible refine QZ ?_<;>(try constructor)<;>intro hb<;>try intro hb1)|refine Qc Tryz.call51 (ih _) ?_|fail)
       refine⟨(i+1,m),⟨hlt,by dsimp only;omega,by dsimp only;omega,HE,?_,?_,?_,?_,rfl⟩,?_⟩
       all_goals exact Qf
   · have he:=HT.out
     rw[List.drop_eq_nil_of_le q_o,Iu] at he
     clear IH HT HD
     exact WR
end
section
attribute [local push_cast] Ad Ae V.cells_mk V.cells_take V.cells_len
open V in
theorem MY:∀(N:Nat) (v:V),v.nodes≤N→v.nodes≤4611686018427387904→∀st,TrF Tryz.prog 198 [.agg v.cells] st fun x st'=>x=.i v.deep∧st'=st
|0,v,h,_=>by have:=v.nodes_pos;omega
|N+1,.mk k n0 s l,hN,hB=>by
  intro st
  have IH:=fun x (hx:x∈l)=>MY N x (by have:=Cq (k:=k) (n:=n0) (s:=s) hx;omega) (by have:=Cq (k:=k) (n:=n0) (s:=s) hx;omega)
  have hll:=DR l
  have hdl:=Hv l
  rw[nodes] at hN hB
  have HD:=Lib.hid (Qb k n0 s l)
  generalize (V.mk k n0 s l).deep=dd at *
  rw[V.cells_mk]
  clear hN
  refine Qin [2] Tryz.func198 Tryz.results198 Tryz.ntmps198 ?_
  have IH:=Lib.hid IH
  repeat' (first|refine QX ?_|(refine QB ?_;intro b)|(with_reducible refine QZ ?_<;>(try constructor)<;>intro hb<;>try intro hb1)|fail)
  refine Aj (ι:=Nat×Int) (fun i A st'=>i.1≤l.length∧0≤i.2∧i.2≤Be l∧Hid (Iu i.2 (l.drop i.1)=Iu 0 l)∧A.df=[]∧A.e 1=.ip [.i k,.i n0,.str s,.sl .shared (l.map V.cells)]∧A.e 3=.i i.2∧A.e 7=.sl .shared (l.map V.cells)∧A.e 8=.i l.length∧A.e 9=.i i.1∧st'=st) (fun i=>l.length - i.1) (0,0) ⟨Nat.zero_le _,Int.le_refl _,by dsimp only;omega,rfl,Qf,Qf,Qf,Qf,Qf,Qf,rfl⟩ ?_
  rintro⟨i,m⟩ A st' ⟨hi,hm0,hmn,HT,hdf,h1',h3',h7',h8',h9',rfl⟩
  dsimp only at hi hm0 hmn HT h3' h9' ⊢
  by_cases hlt:i<l.length
  · obtain⟨x,hx⟩:=gEx hlt
    have ih:=fun st=>IH.out x (DS hx) st
    have hdx:=MJ x
    have hnx:=Da (DS hx)
    have HE:=HT.out
    rw[drop_cons hx,Iu] at HE
    have HE:=Lib.hid HE
    clear IH HT HD
    cases x with
    | mk k1 n1 s1 l1 =>
     simp only[V.cells_mk] at ih
     generalize (V.mk k1 n1 s1 l1).deep=dx at *
     repeat' (first|refine QX ?_|(refine QB ?_;intro b)|(with_reducible refine QZ ?_<;>(try constructor)<;>intro hb<;>try intro hb1)|refine Qc Tryz.call198 (ih _) ?_|fail)
     refine⟨(i+1,if (dx:Int) > m then dx else m),_,List.sublist_cons_self _ _,⟨hlt,?_,?_,HE,?_,?_,?_,?_,?_,?_,rfl⟩,?_⟩
     · dsimp only;split<;>omega
     · dsimp only;split<;>omega
     all_goals exact Qf
  · have he:=HT.out
    rw[List.drop_eq_nil_of_le q_o,Iu] at he
    have hd:=HD.out
    rw[←he] at hd
    clear IH HT HD he
    by_cases hk:k=5∨0<l.length
    · rw[if_pos hk] at hd
      rw[←hd]
      clear hd
      rcases hk with hk|hk
      · have hkb:(k == 5)=true:=by rw[hk];rfl
        clear hk
        exact WR
      · have hk:(0:Int)<l.length:=by omega
        by_cases hk5:k=5
        · have hkb:(k == 5)=true:=by rw[hk5];rfl
          clear hk5
          exact WR
        · have hkb:(k == 5)=false:=by rw[beq_eq_false_iff_ne];exact hk5
          clear hk5
          exact WR
    · rw[if_neg hk] at hd
      rw[←hd]
      have hkb:(k == 5)=false:=by rw[beq_eq_false_iff_ne];intro h;exact hk (.inl h)
      have hl0:¬(0:Int)<l.length:=fun h=>hk (.inr q_o)
      clear hk hd
      exact WR
open V in
theorem KB:∀(N:Nat) (v:V),v.nodes≤N→v.nodes≤4611686018427387904→∀st,TrF Tryz.prog 199 [.agg v.cells] st fun x st'=>x=.i v.nodes∧st'=st
|0,v,h,_=>by have:=v.nodes_pos;omega
|N+1,.mk k n0 s l,hN,hB=>by
  intro st
  have IH:=Lib.hid fun x (hx:x∈l)=>KB N x (by have:=Cq (k:=k) (n:=n0) (s:=s) hx;omega) (by have:=Cq (k:=k) (n:=n0) (s:=s) hx;omega)
  have hll:=DR l
  rw[nodes] at hN hB
  rw[V.cells_mk,show(V.mk k n0 s l).nodes=1+Be l from nodes.eq_1 ..]
  clear hN
  obtain⟨T,hT⟩:∃T,Be l=T:=⟨_,rfl⟩
  rw[hT] at hll hB ⊢
  have HT0:=Lib.hid hT
  clear hT
  refine Qin [2] Tryz.func199 Tryz.results199 Tryz.ntmps199 ?_
  repeat' (first|refine QX ?_|(refine QB ?_;intro b)|(with_reducible refine QZ ?_<;>(try constructor)<;>intro hb<;>try intro hb1)|fail)
  refine Aj (ι:=Nat×Nat) (fun i A st'=>i.1≤l.length∧Hid (i.2+Be (l.drop i.1)=1+T)∧i.2≤1+T∧A.df=[]∧A.e 1=.ip [.i k,.i n0,.str s,.sl .shared (l.map V.cells)]∧A.e 3=.i i.2∧A.e 7=.sl .shared (l.map V.cells)∧A.e 8=.i l.length∧A.e 9=.i i.1∧st'=st) (fun i=>l.length - i.1) (0,1) ⟨Nat.zero_le _,by show 1+Be l=1+T;rw[HT0.out],by dsimp only;omega,Qf,Qf,Qf,Qf,Qf,Qf,rfl⟩ ?_
  rintro⟨i,m⟩ A st' ⟨hi,HT,hm0,hdf,h1',h3',h7',h8',h9',rfl⟩
  dsimp only at hi HT h3' h9' hm0 ⊢
  by_cases hlt:i<l.length
  · obtain⟨x,hx⟩:=gEx hlt
    have ih:=fun st=>IH.out x (DS hx) st
    have HE:=HT.out
    rw[drop_cons hx,Be,←Nat.add_assoc] at HE
    have hle:m+x.nodes≤1+T:=by omega
    have HE:=Lib.hid HE
    clear IH HT
    cases x with
    | mk k1 n1 s1 l1 =>
     simp only[V.cells_mk] at ih
     generalize (V.mk k1 n1 s1 l1).nodes=dx at *
     repeat' (first|refine QX ?_|(refine QB ?_;intro b)|(with_reducible refine QZ ?_<;>(try constructor)<;>intro hb<;>try intro hb1)|refine Qc Tryz.call199 (ih _) ?_|fail)
     refine⟨(i+1,m+dx),_,List.sublist_cons_self _ _,⟨hlt,HE,hle,?_,?_,?_,?_,?_,?_,rfl⟩,?_⟩
     all_goals exact Qf
  · have he:=HT.out
    rw[List.drop_eq_nil_of_le q_o,Be,Nat.add_zero] at he
    rw[←he]
    clear IH HT HT0 he
    exact WR
end
section
attribute [local push_cast] Ad Ae V.cells_mk V.cells_take V.cells_len Es
namespace V
def isLetter (c:UInt8):Bool:=(decide (97≤(c.toNat:Int)) && decide ((c.toNat:Int)≤122)) || (decide (65≤(c.toNat:Int)) && decide ((c.toNat:Int)≤90))
def Eg (c:UInt8):Bool:=(decide (48≤(c.toNat:Int)) && decide ((c.toNat:Int)≤57)) || ((c.toNat:Int) == 95) || ((c.toNat:Int) == 45)
def Ca:Nat→List UInt8→Bool
|_,[]=>true
|i,c::t=>(isLetter c || (decide (i≠0) && Eg c)) && Ca (i+1) t
def isName (l:List UInt8):Bool:=decide (1≤l.length) && decide (l.length≤40) && Ca 0 l
end V
theorem Oi:∀n:Fin 256,(decide (97≤bits .or .u8 (n:Int) 32) && decide (bits .or .u8 (n:Int) 32≤122))=((decide (97≤(n:Int)) && decide ((n:Int)≤122)) || (decide (65≤(n:Int)) && decide ((n:Int)≤90))):=by decide +kernel
theorem Tn(c:UInt8):(decide (97≤bits .or .u8 (c.toNat:Int) 32) && decide (bits .or .u8 (c.toNat:Int) 32≤122))=V.isLetter c:=Oi ⟨c.toNat,c.toNat_lt⟩
theorem CS(c:UInt8)(st:St):TrF Tryz.prog 148 [.y c] st fun x st'=>x=.b (V.isLetter c)∧st'=st:=by
 have h:=Tn c
 generalize hq:bits .or .u8 (c.toNat:Int) 32=q at *
 rw[←h]
 clear h
 refine Qin [2] Tryz.func148 Tryz.results148 Tryz.ntmps148 ?_
 repeat' (first|refine QX ?_|(refine QB ?_;intro b)|(with_reducible refine QZ ?_<;>(try constructor)<;>intro hb<;>try intro hb1)|fail)
 all_goals(refine Ar (hd:=?_);(try simp(disch:=omega) only[push_cast,simprocAttr, *]);try(first|exact q_e|refine LE.of_eq ?_))
 all_goals exact Qf
namespace V
def Fs (c:UInt8):Bool:=isLetter c || Eg c
theorem Hi:∀(l:List UInt8) (i:Nat),0<i→Ca i l=l.all Fs
|[],i,_=>rfl
|c::t,i,h=>by
  rw[Ca,Hi t (i+1) q_o,List.all_cons,Fs,show decide (i≠0)=true from decide_eq_true q_o,Bool.true_and]
theorem PF{c:UInt8}{t:List UInt8}(h1:(c::t).length≤40)(h2:isLetter c=true):isName (c::t)=(c::t).all Fs:=by
 rw[isName,decide_eq_true h1,decide_eq_true (by simp),Ca,Hi t 1 q_o,List.all_cons,Fs,h2];simp
theorem PE{c:UInt8}{t:List UInt8}(h2:isLetter c=false):isName (c::t)=false:=by
 rw[isName,Ca,h2];simp
theorem Tf{c:UInt8}(h:Fs c=true)(hl:isLetter c=false):(48≤(c.toNat:Int)∧(c.toNat:Int)≤57)∨(c.toNat:Int)=95∨(c.toNat:Int)=45:=by
 rw[Fs,hl,Bool.false_or,Eg] at h
 simp only[Bool.or_eq_true,Bool.and_eq_true,decide_eq_true_eq,beq_iff_eq] at h
 omega
theorem VF{c:UInt8}(h:Fs c=false):isLetter c=false∧((c.toNat:Int)<48∨57<(c.toNat:Int))∧(c.toNat:Int)≠95∧(c.toNat:Int)≠45:=by
 rw[Fs,Bool.or_eq_false_iff,Eg] at h
 simp only[Bool.or_eq_false_iff,Bool.and_eq_false_iff,decide_eq_false_iff_not,beq_eq_false_iff_ne,ne_eq] at h
 exact⟨h.1,by omega,by omega,by omega⟩
end V
open V in
theorem DH(s:ByteArray)(st:St):TrF Tryz.prog 115 [.str s] st fun x st'=>x=.b (V.isName s.data.toList)∧st'=st:=by
 have hl:s.data.toList.length=s.size:=by simp
 refine Qin [2] Tryz.func115 Tryz.results115 Tryz.ntmps115 ?_
 by_cases h0:s.size=0
 · have:s.data.toList=[]:=List.eq_nil_of_length_eq_zero q_o
   rw[this]
   clear this
   exact WR
 by_cases h40:40<s.size
 · have:isName s.data.toList=false:=by rw[isName,decide_eq_false (show¬s.data.toList.length≤40 by omega)];simp
   rw[this]
   clear this
   exact WR
 obtain⟨c,t,hct⟩:∃c t,s.data.toList=c::t:=by
  cases h:s.data.toList with
  | nil=>rw[h] at hl;simp at hl;omega
  | cons c t=>exact⟨c,t,rfl⟩
 have hc0:s.data.toList[0]?=some c:=by rw[hct];rfl
 by_cases hc:isLetter c=true
 · have HN:=Lib.hid (PF (c:=c) (t:=t) (by rw[←hct];omega) hc)
   rw[←hct] at HN
   clear hct
   obtain⟨B,hB⟩:∃B,isName s.data.toList=B:=⟨_,rfl⟩
   rw[hB] at HN ⊢
   clear hB
   repeat' (first|refine QX ?_|(refine QB ?_;intro b)|(with_reducible refine QZ ?_<;>(try constructor)<;>intro hb<;>try intro hb1)|refine Qc Tryz.call148 (CS _ _) ?_|fail)
   refine Bq (ι:=Nat) (fun i A st'=>i≤s.size∧Hid (B=(s.data.toList.drop i).all Fs)∧A.df=[]∧A.e 0=.str s∧A.e 19=.i s.size∧A.e 20=.i i∧st'=st) (fun i=>s.size - i) 0 ⟨Nat.zero_le _,HN,Qf,Qf,Qf,Qf,rfl⟩ ?_
   rintro i A st' ⟨hi,HT,hdf,h1',h2',h3',rfl⟩
   clear HN hc0
   by_cases hlt:i<s.size
   · obtain⟨x,hx⟩:=gEx (l:=s.data.toList) (i:=i) q_o
     have HE:=HT.out
     rw[drop_cons hx,List.all_cons] at HE
     by_cases hnc:Fs x=true
     · rw[hnc,Bool.true_and] at HE
       have HE:=Lib.hid HE
       clear HT
       by_cases hL:isLetter x=true
       · clear hnc hc
         repeat' (first|refine QX ?_|(refine QB ?_;intro b)|(with_reducible refine QZ ?_<;>(try constructor)<;>intro hb<;>try intro hb1)|refine Qc Tryz.call148 (CS _ _) ?_|fail)
         refine⟨i+1,⟨hlt,HE,?_,?_,?_,?_,rfl⟩,?_⟩
         all_goals exact Qf
       · have hL':isLetter x=false:=by simpa using hL
         have hq:=Tf hnc hL'
         clear hnc hL hc
         repeat' (first|refine QX ?_|(refine QB ?_;intro b)|(with_reducible refine QZ ?_<;>(try constructor)<;>intro hb<;>try intro hb1)|refine Qc Tryz.call148 (CS _ _) ?_|fail)
         all_goals
          refine⟨i+1,⟨hlt,HE,?_,?_,?_,?_,rfl⟩,?_⟩
          all_goals exact Qf
     · obtain⟨hL,hq⟩:=VF (show Fs x=false by simpa using hnc)
       rw[show Fs x=false by simpa using hnc,Bool.false_and] at HE
       rw[HE]
       clear HE HT hnc hc
       repeat' (first|refine QX ?_|(refine QB ?_;intro b)|(with_reducible refine QZ ?_<;>(try constructor)<;>intro hb<;>try intro hb1)|refine Qc Tryz.call148 (CS _ _) ?_|fail)
       all_goals exact Ar
   · have HE:=HT.out
     rw[List.drop_eq_nil_of_le q_o] at HE
     rw[HE,List.all_nil]
     clear HE HT hc
     repeat' (first|refine QX ?_|(refine QB ?_;intro b)|(with_reducible refine QZ ?_<;>(try constructor)<;>intro hb<;>try intro hb1)|refine Qc Tryz.call148 (CS _ _) ?_|fail)
     all_goals exact Ar
 · have:isName s.data.toList=false:=by rw[hct];exact PE (by simpa using hc)
   have hc':isLetter c=false:=by simpa using hc
   rw[this]
   clear this hct hc
   repeat' (first|refine QX ?_|(refine QB ?_;intro b)|(with_reducible refine QZ ?_<;>(try constructor)<;>intro hb<;>try intro hb1)|refine Qc Tryz.call148 (CS _ _) ?_|fail)
   all_goals exact Ar
end
section
attribute [local push_cast] Ad Ae V.cells_mk V.cells_take V.cells_len Es
open V in
theorem Pi(s:ByteArray)(st:St):TrF Tryz.prog 160 [.str s] st fun x st'=>x=.b (V.isName s.data.toList)∧st'=st:=by
 have hl:s.data.toList.length=s.size:=by simp
 refine Qin [2] Tryz.func160 Tryz.results160 Tryz.ntmps160 ?_
 obtain⟨B,hB⟩:∃B,isName s.data.toList=B:=⟨_,rfl⟩
 have HB:=Lib.hid hB
 rw[hB]
 clear hB
 by_cases h0:s.size<1
 · have:=HB.out
   rw[isName,decide_eq_false (show¬1≤s.data.toList.length by omega)] at this
   rw[←this]
   clear this hl HB
   exact WR
 by_cases h40:40<s.size
 · have:=HB.out
   rw[isName,decide_eq_false (show¬s.data.toList.length≤40 by omega)] at this
   rw[←this,Bool.and_false,Bool.false_and]
   clear this hl HB
   exact WR
 have HN:Hid (B=Ca 0 (s.data.toList.drop 0)):=by
  show _=_
  rw[←HB.out,isName,decide_eq_true (show s.data.toList.length≤40 by omega),decide_eq_true (show 1≤s.data.toList.length by omega)];rfl
 clear HB
 repeat' (first|refine QX ?_|(refine QB ?_;intro b)|(with_reducible refine QZ ?_<;>(try constructor)<;>intro hb<;>try intro hb1)|fail)
 refine Bq (ι:=Nat) (fun i A st'=>i≤s.size∧Hid (B=Ca i (s.data.toList.drop i))∧A.df=[]∧A.e 0=.str s∧A.e 3=.i i∧st'=st) (fun i=>s.size - i) 0 ⟨Nat.zero_le _,HN,Qf,Qf,Qf,rfl⟩ ?_
 rintro i A st' ⟨hi,HT,hdf,h1',h3',rfl⟩
 clear HN
 by_cases hlt:i<s.size
 · obtain⟨x,hx⟩:=gEx (l:=s.data.toList) (i:=i) q_o
   have HE:=HT.out
   rw[drop_cons hx,Ca] at HE
   have hx2:=x.toNat_lt
   obtain⟨R,hR⟩:∃R,Ca (i+1) (List.drop (i+1) s.data.toList)=R:=⟨_,rfl⟩
   rw[hR] at HE
   have hR:=Lib.hid hR
   clear HT
   by_cases hL:(97≤(x.toNat:Int)∧(x.toNat:Int)≤122)∨(65≤(x.toNat:Int)∧(x.toNat:Int)≤90)
   · have hl2:isLetter x=true:=by unfold isLetter;simp only[Bool.or_eq_true,Bool.and_eq_true,decide_eq_true_eq];exact hL
     rw[hl2,Bool.true_or,Bool.true_and,←hR.out] at HE
     have HE:=Lib.hid HE
     clear hl2
     repeat' (first|refine QX ?_|(refine QB ?_;intro b)|(with_reducible refine QZ ?_<;>(try constructor)<;>intro hb<;>try intro hb1)|fail)
     all_goals
      refine⟨i+1,⟨hlt,HE,?_,?_,?_,rfl⟩,?_⟩
      all_goals exact Qf
   · have hl2:isLetter x=false:=by unfold isLetter;simp only[Bool.or_eq_false_iff,Bool.and_eq_false_iff,decide_eq_false_iff_not];omega
     rw[hl2,Bool.false_or] at HE
     clear hl2
     by_cases hO:i≠0∧((48≤(x.toNat:Int)∧(x.toNat:Int)≤57)∨(x.toNat:Int)=95∨(x.toNat:Int)=45)
     · have hO2:Eg x=true:=by unfold Eg;simp only[Bool.or_eq_true,Bool.and_eq_true,decide_eq_true_eq,beq_iff_eq];omega
       rw[hO2,decide_eq_true hO.1,Bool.true_and,Bool.true_and,←hR.out] at HE
       have HE:=Lib.hid HE
       clear hO2
       obtain⟨hi0,hO⟩:=hO
       have hi0':(0:Int)<i:=by omega
       repeat' (first|refine QX ?_|(refine QB ?_;intro b)|(with_reducible refine QZ ?_<;>(try constructor)<;>intro hb<;>try intro hb1)|fail)
       all_goals
        refine⟨i+1,⟨hlt,HE,?_,?_,?_,rfl⟩,?_⟩
        all_goals exact Qf
     · have hO2 : (decide (i ≠ 0) && Eg x) = false := by
        unfold Eg
        rw[Bool.and_eq_false_iff]
        by_cases hi0:i=0
        · exact .inl (decide_eq_false q_o)
        · refine .inr ?_
          simp only[Bool.or_eq_false_iff,Bool.and_eq_false_iff,decide_eq_false_iff_not,beq_eq_false_iff_ne,ne_eq];omega
       rw[hO2,Bool.false_and] at HE
       rw[HE]
       clear HE hO2 hR
       have hO':(i:Int)=0∨((x.toNat:Int)<48∨57<(x.toNat:Int))∧(x.toNat:Int)≠95∧(x.toNat:Int)≠45:=by omega
       clear hO
       exact WR
 · have HE:=HT.out
   rw[List.drop_eq_nil_of_le q_o,Ca] at HE
   rw[HE]
   clear HE HT
   exact WR
end
namespace UtfL
def u (n:Nat):UInt8:=UInt8.ofNat n
def CL (c:Nat):Bool:=decide (c≤1114111∧(c<55296∨57343<c))
def Cd (c:Int):Bool:=decide (0≤c) && CL c.toNat
def BL (c:Nat):Nat:=if c<128 then 1 else if c<2048 then 2 else if c<65536 then 3 else 4
def CY (c:Nat):List UInt8 :=
 if c<128 then[u c] else if c<2048 then[u (192+c / 64),u (128+c % 64)]
 else if c<65536 then[u (224+c / 4096),u (128+c / 64 % 64),u (128+c % 64)]
 else[u (240+c / 262144),u (128+c / 4096 % 64),u (128+c / 64 % 64),u (128+c % 64)]
def put (c:Int):List UInt8:=if Cd c then CY c.toNat else[]
def first (x:Nat):Nat×Nat :=
 if x<128 then(1,x) else if 192≤x∧x<224 then(2,x % 32) else if 224≤x∧x<240 then(3,x % 16) else if 240≤x∧x<248 then(4,x % 8) else(0,0)
def Cj:Nat→List UInt8→Option Nat
|c,[]=>some c
|c,x::r=>if x.toNat / 64=2 then Cj (c*64+x.toNat % 64) r else none
def Dn:List UInt8→Option (Nat×Nat)
|[]=>none
|x::r =>
  if (first x.toNat).1=0∨r.length+1<(first x.toNat).1 then none
  else match Cj (first x.toNat).2 (r.take ((first x.toNat).1 - 1)) with
   | none=>none
   | some c=>if CL c && BL c == (first x.toNat).1 then some (c,(first x.toNat).1) else none
def Ei (b:List UInt8)(at_:Int):Option (Nat×Nat):=if 0≤at_∧at_<b.length then Dn (b.drop at_.toNat) else none
theorem Ct{n:Nat}(h:n<256):(u n).toNat=n:=by rw[u,UInt8.toNat_ofNat'];omega
theorem Ko{n:Nat}{x:UInt8}(h:n=x.toNat):u n=x:=by
 apply UInt8.toNat_inj.1
 rw[h,Ct x.toNat_lt]
theorem Jy(c:Nat):(CY c).length=BL c:=by unfold CY BL;(repeat' split)<;>rfl
theorem Tl(c:Nat):1≤BL c∧BL c≤4:=by unfold BL;(repeat' split)<;>omega
theorem PI{c:Nat}(h:CL c=true)(r:List UInt8):Dn (CY c++r)=some (c,BL c):=by
 have hc:c≤1114111:=by simp only[CL,decide_eq_true_eq] at h;exact h.1
 by_cases c1:c<128
 · have e:CY c=[u c]:=by simp[CY,c1]
   have hf:first (u c).toNat=(1,c):=by rw[Ct q_o];simp[first,c1]
   have hl:BL c=1:=by simp[BL,c1]
   rw[e,List.singleton_append,Dn,hf]
   simp[Cj,h,hl]
 · by_cases c2:c<2048
   · have e:CY c=[u (192+c / 64),u (128+c % 64)]:=by simp[CY,c1,c2]
     have h0:=Ct (n:=192+c / 64) q_o
     have h1:=Ct (n:=128+c % 64) q_o
     have hf:first (u (192+c / 64)).toNat=(2,c / 64):=by
      rw[h0,first,if_neg q_o,if_pos q_o];congr 1;omega
     have hl:BL c=2:=by simp[BL,c1,c2]
     have hco:Cj (c / 64) [u (128+c % 64)]=some c:=by
      rw[Cj,h1,if_pos q_o,Cj];congr 1;omega
     rw[e]
     show Dn (u (192+c / 64)::(u (128+c % 64)::r))=_
     rw[Dn,hf]
     simp[hco,h,hl]
   · by_cases c3:c<65536
     · have e:CY c=[u (224+c / 4096),u (128+c / 64 % 64),u (128+c % 64)]:=by simp[CY,c1,c2,c3]
       have h0:=Ct (n:=224+c / 4096) q_o
       have h1:=Ct (n:=128+c / 64 % 64) q_o
       have h2:=Ct (n:=128+c % 64) q_o
       have hf:first (u (224+c / 4096)).toNat=(3,c / 4096):=by
        rw[h0,first,if_neg q_o,if_neg q_o,if_pos q_o];congr 1;omega
       have hl:BL c=3:=by simp[BL,c1,c2,c3]
       have hco:Cj (c / 4096) [u (128+c / 64 % 64),u (128+c % 64)]=some c:=by
        rw[Cj,h1,if_pos q_o,Cj,h2,if_pos q_o,Cj];congr 1;omega
       rw[e]
       show Dn (u (224+c / 4096)::(u (128+c / 64 % 64)::(u (128+c % 64)::r)))=_
       rw[Dn,hf]
       simp[hco,h,hl]
     · have e:CY c=[u (240+c / 262144),u (128+c / 4096 % 64),u (128+c / 64 % 64),u (128+c % 64)]:=by simp[CY,c1,c2,c3]
       have h0:=Ct (n:=240+c / 262144) q_o
       have h1:=Ct (n:=128+c / 4096 % 64) q_o
       have h2:=Ct (n:=128+c / 64 % 64) q_o
       have h3:=Ct (n:=128+c % 64) q_o
       have hf:first (u (240+c / 262144)).toNat=(4,c / 262144):=by
        rw[h0,first,if_neg q_o,if_neg q_o,if_neg q_o,if_pos q_o];congr 1;omega
       have hl:BL c=4:=by simp[BL,c1,c2,c3]
       have hco:Cj (c / 262144) [u (128+c / 4096 % 64),u (128+c / 64 % 64),u (128+c % 64)]=some c:=by
        rw[Cj,h1,if_pos q_o,Cj,h2,if_pos q_o,Cj,h3,if_pos q_o,Cj];congr 1;omega
       rw[e]
       show Dn (u (240+c / 262144)::(u (128+c / 4096 % 64)::(u (128+c / 64 % 64)::(u (128+c % 64)::r))))=_
       rw[Dn,hf]
       simp[hco,h,hl]
theorem GG{l:List UInt8}{c n:Nat}(h:Dn l=some (c,n)):CL c=true∧n=BL c∧∃r,l=CY c++r:=by
 cases l with
|nil=>cases h
|cons x r =>
  rw[Dn] at h
  split at h
  · cases h
  · rename_i hn
    cases hco:Cj (first x.toNat).2 (r.take ((first x.toNat).1 - 1)) with
    | none=>rw[hco] at h;cases h
    | some c' =>
     rw[hco] at h
     dsimp only at h
     split at h
     · rename_i hok
       simp only[Option.some.injEq,Prod.mk.injEq] at h
       obtain⟨rfl,rfl⟩:=h
       simp only[Bool.and_eq_true,beq_iff_eq] at hok
       obtain⟨hcode,hlong⟩:=hok
       refine⟨hcode,hlong.symm,?_⟩
       have hx:=x.toNat_lt
       have hF:(x.toNat<128∧first x.toNat=(1,x.toNat))∨((192≤x.toNat∧x.toNat<224)∧first x.toNat=(2,x.toNat % 32))∨((224≤x.toNat∧x.toNat<240)∧first x.toNat=(3,x.toNat % 16)) ∨
        ((240≤x.toNat∧x.toNat<248)∧first x.toNat=(4,x.toNat % 8))∨first x.toNat=(0,0):=by
        unfold first
        by_cases q1:x.toNat<128
        · exact .inl ⟨q1,by rw[if_pos q1]⟩
        · rw[if_neg q1]
          by_cases q2:192≤x.toNat∧x.toNat<224
          · exact .inr (.inl ⟨q2,by rw[if_pos q2]⟩)
          · rw[if_neg q2]
            by_cases q3:224≤x.toNat∧x.toNat<240
            · exact .inr (.inr (.inl ⟨q3,by rw[if_pos q3]⟩))
            · rw[if_neg q3]
              by_cases q4:240≤x.toNat∧x.toNat<248
              · exact .inr (.inr (.inr (.inl ⟨q4,by rw[if_pos q4]⟩)))
              · exact .inr (.inr (.inr (.inr (by rw[if_neg q4]))))
       rcases hF with⟨hr,hf⟩|⟨hr,hf⟩|⟨hr,hf⟩|⟨hr,hf⟩|hf
       all_goals rw[hf] at hn hco hlong;dsimp only at hn hco hlong
       · simp[Cj] at hco
         subst hco
         refine⟨r,?_⟩
         rw[CY,if_pos hr,Ko rfl];rfl
       · match r,hn with
         | y::r',_ =>
          have hy:=y.toNat_lt
          simp only[Nat.reduceSub,List.take_succ_cons,List.take_zero,Cj] at hco
          split at hco
          · rename_i g1
            injection hco with hco
            have c1:¬c'<128:=fun q=>by simp[BL,q] at hlong
            have c2:c'<2048:=by omega
            refine⟨r',?_⟩
            rw[CY,if_neg c1,if_pos c2,Ko (x:=x) q_o,Ko (x:=y) q_o];rfl
          · cases hco
         | [],hn=>exact absurd (by simp) hn
       · match r,hn with
         | y::z::r',_ =>
          have hy:=y.toNat_lt
          have hz:=z.toNat_lt
          simp only[Nat.reduceSub,List.take_succ_cons,List.take_zero,Cj] at hco
          split at hco
          · rename_i g1
            split at hco
            · rename_i g2
              injection hco with hco
              have c1:¬c'<128:=fun q=>by simp[BL,q] at hlong
              have c2:¬c'<2048:=fun q=>by simp[BL,c1,q] at hlong
              have c3:c'<65536:=by omega
              refine⟨r',?_⟩
              rw[CY,if_neg c1,if_neg c2,if_pos c3,Ko (x:=x) q_o,Ko (x:=y) q_o,Ko (x:=z) q_o];rfl
            · cases hco
          · cases hco
         | [_],hn=>exact absurd (by simp) hn
         | [],hn=>exact absurd (by simp) hn
       · match r,hn with
         | y::z::t::r',_ =>
          have hy:=y.toNat_lt
          have hz:=z.toNat_lt
          have ht:=t.toNat_lt
          simp only[Nat.reduceSub,List.take_succ_cons,List.take_zero,Cj] at hco
          split at hco
          · rename_i g1
            split at hco
            · rename_i g2
              split at hco
              · rename_i g3
                injection hco with hco
                have c1:¬c'<128:=fun q=>by simp[BL,q] at hlong
                have c2:¬c'<2048:=fun q=>by simp[BL,c1,q] at hlong
                have c3:¬c'<65536:=fun q=>by simp[BL,c1,c2,q] at hlong
                refine⟨r',?_⟩
                rw[CY,if_neg c1,if_neg c2,if_neg c3,Ko (x:=x) q_o,Ko (x:=y) q_o,Ko (x:=z) q_o,Ko (x:=t) q_o];rfl
              · cases hco
            · cases hco
          · cases hco
         | [_,_],hn=>exact absurd (by simp) hn
         | [_],hn=>exact absurd (by simp) hn
         | [],hn=>exact absurd (by simp) hn
       · exact absurd (.inl rfl) hn
     · cases h
theorem Ho{l:List UInt8}{c n:Nat}(h:Dn l=some (c,n)):1≤n∧n≤4∧n≤l.length:=by
 obtain⟨_,rfl,r,rfl⟩:=GG h
 have:=Tl c
 rw[List.length_append,Jy]
 omega
theorem Wa{l:List UInt8}{c n:Nat}(h:Dn l=some (c,n)):l.take n=CY c:=by
 obtain⟨_,rfl,r,rfl⟩:=GG h
 rw[←Jy,List.take_left]
end UtfL
section
attribute [local push_cast] Ad Ae
open Go.RowKit UtfL
def Lw (r:Option (Nat×Nat)):D:=match r with
|some (c,n)=>.tup [.i c,.i n,.b true]
|none=>.tup [.i 0,.i 0,.b false]
theorem Uq(c:Int)(st:St):TrF Tryz.prog 221 [.i c] st fun d st'=>d=.b (Cd c)∧st'=st:=by
 have hc:Cd c=decide ((0≤c∧c<55296)∨(57343<c∧c≤1114111)):=by
  unfold Cd CL
  rw[←Bool.decide_and]
  congr 1
  apply propext
  omega
 have H:c<0∨(0≤c∧c<55296)∨(55296≤c∧c≤57343)∨(57343<c∧c≤1114111)∨1114111<c:=by omega
 obtain⟨q,hq⟩:∃q,Cd c=q:=⟨_,rfl⟩
 rw[hq] at hc ⊢
 clear hq
 rcases H with h|⟨h1,h2⟩|⟨h1,h2⟩|⟨h1,h2⟩|h
 all_goals(
  first|replace hc:=hc.trans (decide_eq_false q_o)|replace hc:=hc.trans (decide_eq_true q_o)
  subst hc
  first|have d1:=decide_eq_false (show¬57343<c by omega)|have d1:=decide_eq_true (show 57343<c by omega)
  first|have d2:=decide_eq_false (show¬c<55296 by omega)|have d2:=decide_eq_true (show c<55296 by omega)
  first|have d3:=decide_eq_false (show¬c≤1114111 by omega)|have d3:=decide_eq_true (show c≤1114111 by omega)
  refine Qin [2] Tryz.func221 Tryz.results221 Tryz.ntmps221 ?_
  exact WR)
def MA (c:Int):Int:=if c<128 then 0 else if c<2048 then 192 else if c<65536 then 224 else 240
theorem Up(c:Int)(st:St):TrF Tryz.prog 220 [.i c] st fun d st'=>d=.tup [.i (BL c.toNat:Nat),.i (MA c)]∧st'=st:=by
 have H:∃(n:Nat) (h:Int),(BL c.toNat=n∧MA c=h)∧((c<128∧n=1∧h=0)∨(128≤c∧c<2048∧n=2∧h=192)∨(2048≤c∧c<65536∧n=3∧h=224)∨(65536≤c∧n=4∧h=240)):=by
  unfold BL MA
  (repeat' split)<;>first|exact⟨_,_,⟨rfl,rfl⟩,by omega⟩|(exfalso;omega)
 obtain⟨n,h,⟨hn,hh⟩,H⟩:=H
 rw[hn,hh]
 clear hn hh
 rcases H with⟨h,rfl,rfl⟩|⟨h1,h2,rfl,rfl⟩|⟨h1,h2,rfl,rfl⟩|⟨h,rfl,rfl⟩
 all_goals(
  refine Qin [2,3] Tryz.func220 Tryz.results220 Tryz.ntmps220 ?_
  exact WR)
theorem RM(x:UInt8)(st:St):TrF Tryz.prog 219 [.y x] st fun d st'=>d=.tup [.i (first x.toNat).1,.i (first x.toNat).2]∧st'=st:=by
 have hx:x.toNat<256:=x.toNat_lt
 have h1:bits .and .u8 (x.toNat:Int) 31=((x.toNat % 32:Nat):Int):=by rw[←Nat.and_two_pow_sub_one_eq_mod _ 5];exact u8_and_nat x.toNat 31 hx (by decide)
 have h2:bits .and .u8 (x.toNat:Int) 15=((x.toNat % 16:Nat):Int):=by rw[←Nat.and_two_pow_sub_one_eq_mod _ 4];exact u8_and_nat x.toNat 15 hx (by decide)
 have h3:bits .and .u8 (x.toNat:Int) 7=((x.toNat % 8:Nat):Int):=by rw[←Nat.and_two_pow_sub_one_eq_mod _ 3];exact u8_and_nat x.toNat 7 hx (by decide)
 have H:∃n c:Nat,first x.toNat=(n,c)∧((x.toNat<128∧n=1∧c=x.toNat)∨(192≤x.toNat∧x.toNat<224∧n=2∧c=x.toNat % 32)∨(224≤x.toNat∧x.toNat<240∧n=3∧c=x.toNat % 16)∨(240≤x.toNat∧x.toNat<248∧n=4∧c=x.toNat % 8)∨(128≤x.toNat∧x.toNat<192∧n=0∧c=0)∨(248≤x.toNat∧n=0∧c=0)):=by
  unfold first
  (repeat' split)<;>exact⟨_,_,rfl,by omega⟩
 obtain⟨n,c,hf,H⟩:=H
 rw[hf]
 clear hf
 unfold D.y
 generalize x.toNat=X at *
 rcases H with⟨h,rfl,rfl⟩|⟨h,h',rfl,rfl⟩|⟨h,h',rfl,rfl⟩|⟨h,h',rfl,rfl⟩|⟨h,h',rfl,rfl⟩|⟨h,rfl,rfl⟩
 all_goals(
  refine Qin [2,3] Tryz.func219 Tryz.results219 Tryz.ntmps219 ?_
  exact WR)
end
section
attribute [local push_cast] Lw Ad Ae
open Go.RowKit UtfL
namespace UtfL
theorem LI(x:UInt8):∀(c:Nat) (r:List UInt8),Cj c (r++[x])=(Cj c r).bind fun d=>if x.toNat / 64=2 then some (d*64+x.toNat % 64) else none
|c,[]=>by simp[Cj]
|c,y::r=>by
  rw[List.cons_append,Cj,Cj]
  split
  · exact LI x _ r
  · rfl
theorem OE(x:UInt8)(h:¬x.toNat / 64=2):∀(c:Nat) (r s:List UInt8),Cj c (r++x::s)=none
|c,[],s=>by simp[Cj,h]
|c,y::r,s=>by
  rw[List.cons_append,Cj]
  split
  · exact OE x h _ r s
  · rfl
theorem Wi{x n c:Nat}(h:first x=(n,c))(hx:x<256):n≤4∧(n=1→c<128)∧(2≤n→c<32):=by
 unfold first at h
 (repeat' split at h)<;>cases h<;>omega
theorem cd{x:Nat}(hx:x<256):bits BinOp.andNot IntKind.u8 (x:Int) 63=(((x / 64)*64:Nat):Int):=by
 have h:∀x:Fin 256,(x.1 &&& 192=x.1 / 64*64):=by decide +kernel
 rw[←h ⟨x,hx⟩]
 exact u8_andNot_nat x 63 hx (by decide)
end UtfL
theorem WV(o:Own)(b:List UInt8)(hb:b.length≤4611686018427387904)(at_:Int)(st:St):TrF Tryz.prog 218 [.sl o (b.map Ad),.i at_] st fun d st'=>d=Lw (Ei b at_)∧st'=st:=by
 have hm:(b.map Ad).length=b.length:=List.length_map ..
 have hc:Hid (∀(i:Nat) (x:UInt8),b[i]?=some x→(b.map Ad)[i]?=some [.y x]):=fun i x h=>by rw[List.getElem?_map,h];rfl
 by_cases hin:0≤at_∧at_<b.length
 case neg =>
  have hR:Ei b at_=none:=if_neg hin
  rw[hR]
  clear hc hR
  generalize b.map Ad=LB at *
  by_cases q:at_<0
  · refine Qin [4,5,6] Tryz.func218 Tryz.results218 Tryz.ntmps218 ?_
    exact WRa
  · have q2:(b.length:Int)≤at_:=by omega
    refine Qin [4,5,6] Tryz.func218 Tryz.results218 Tryz.ntmps218 ?_
    exact WRa
 case pos =>
 obtain⟨g1,g2⟩:=hin
 obtain⟨k,rfl⟩:=Int.eq_ofNat_of_zero_le g1
 have hk:k<b.length:=by omega
 obtain⟨x,hx⟩:=gEx hk
 have hx1:=hc.out k x hx
 have hd:b.drop k=x::b.drop (k+1):=by
  obtain⟨h2,rfl⟩:=List.getElem?_eq_some_iff.1 hx
  exact List.drop_eq_getElem_cons h2
 obtain⟨n,c0,hf⟩:∃n c,first x.toNat=(n,c):=⟨_,_,rfl⟩
 have hF:=RM x
 rw[hf] at hF
 have hbd:=Wi hf x.toNat_lt
 obtain⟨R,hR⟩:∃R,Ei b (k:Int)=R:=⟨_,rfl⟩
 rw[hR]
 rw[Ei,if_pos ⟨g1,g2⟩,Int.toNat_natCast,hd,Dn,hf] at hR
 dsimp only at hR
 have hdl:(b.drop (k+1)).length=b.length - (k+1):=List.length_drop
 rw[hdl] at hR
 clear hd hf hx
 dsimp only at hF
 replace hF:=Lib.hid hF
 by_cases hn:n=0∨b.length - (k+1)+1<n
 · rw[if_pos hn] at hR
   subst hR
   clear hc hdl
   generalize b.map Ad=LB at *
   rcases hn with rfl|hn
   · refine Qin [4,5,6] Tryz.func218 Tryz.results218 Tryz.ntmps218 ?_
     exact WRa
   · have h2:¬n=0:=by omega
     have h3:((n:Int) == 0)=false:=beq_eq_false_iff_ne.2 q_o
     have h4:(b.length:Int) - k<n:=by omega
     refine Qin [4,5,6] Tryz.func218 Tryz.results218 Tryz.ntmps218 ?_
     exact WRa
 rw[if_neg hn] at hR
 obtain⟨m,rfl⟩:∃m,n=m+1:=⟨n - 1,by omega⟩
 rw[Nat.add_sub_cancel] at hR
 have hfit:k+1+m≤b.length:=by omega
 have h3:(((m+1:Nat):Int) == 0)=false:=beq_eq_false_iff_ne.2 q_o
 have h4:¬(b.length:Int) - k<(m+1:Nat):=by omega
 obtain⟨rest,hrest⟩:∃rest,(b.drop (k+1)).take m=rest:=⟨_,rfl⟩
 rw[hrest] at hR
 have hrl:rest.length=m:=by rw[←hrest,List.length_take,List.length_drop];omega
 have hsl:((b.map Ad).drop (k+1)).take m=rest.map Ad:=by rw[←hrest,List.map_take,List.map_drop]
 have hrc:Hid (∀(i:Nat) (x:UInt8),rest[i]?=some x→(rest.map Ad)[i]?=some [.y x]):=fun i x h=>by rw[List.getElem?_map,h];rfl
 have hrm:(rest.map Ad).length=rest.length:=List.length_map ..
 have hall:((b.map Ad).all fun e=>e.length == 1)=true:=by
  rw[List.all_eq_true]
  intro e he
  obtain⟨x, -,rfl⟩:=List.mem_map.1 he
  rfl
 have t1:((k:Int)+1).toNat=k+1:=by omega
 have t2:((k:Int)+((m:Int)+1)).toNat=k+(m+1):=by omega
 rw[show m=k+(m+1) - (k+1) by omega] at hsl
 have t3:0≤(k:Int)+1:=by omega
 have t4:(k:Int)+1≤(k:Int)+((m:Int)+1):=by omega
 have t5:(k:Int)+((m:Int)+1)≤b.length:=by omega
 clear hc hdl hn
 generalize b.map Ad=LB at *
 refine Qin [4,5,6] Tryz.func218 Tryz.results218 Tryz.ntmps218 ?_
 repeat' (first|refine QX ?_|(refine QB ?_;intro b)|(refine QP ?_;intro o' ho')|(with_reducible refine QZ ?_<;>(try constructor)<;>intro hb<;>try intro hb1)|fail)
 refine Aj (ι:=Nat) (fun j A st'=>j≤m∧A.df=[]∧A.e 7=.i (m+1:Nat)∧A.e 45=.sl .shared (rest.map Ad)∧A.e 46=.i m∧A.e 47=.i j∧(∃d:Nat,A.e 8=.i d∧Hid (Cj c0 (rest.take j)=some d)∧Hid (d<128*64 ^ j))∧st=st') (fun j=>m - j) 0 ⟨Nat.zero_le _,Qf,Qf,Qf,Qf,Qf,⟨c0,Qf,Lib.hid (by rw[List.take_zero];rfl),Lib.hid (by rw[Nat.pow_zero];omega)⟩,rfl⟩ ?_
 rintro j A st' ⟨hj,hdf,e7,e45,e46,e47,⟨d,e8,hco,hdb⟩,rfl⟩
 clear hF hx1 hall hsl t1 t2 t3 t4 t5 h3 h4
 have hd2:d<33554432:=by
  have h1:=hdb.out
  have h2:64 ^ j≤64 ^ 3:=Nat.pow_le_pow_right (by decide) q_o
  have h3:128*64 ^ j≤128*64 ^ 3:=Nat.mul_le_mul_left _ h2
  omega
 by_cases hlt:j<m
 · obtain⟨y,hy⟩:=gEx (l:=rest) (i:=j) q_o
   have g1:=hrc.out j y hy
   have hy2:y.toNat<256:=y.toNat_lt
   have hnot:=cd hy2
   have hand:bits .and .u8 (y.toNat:Int) 63=((y.toNat % 64:Nat):Int):=by rw[←Nat.and_two_pow_sub_one_eq_mod _ 6];exact u8_and_nat y.toNat 63 hy2 (by decide)
   have hor:bits .or .i64 ((d:Int)*64) ((y.toNat:Int) % 64)=((d*64+y.toNat % 64:Nat):Int):=by
    have:=PH (d*64) (y.toNat % 64) q_o q_o
    rw[nat_join 6 (d*64) (y.toNat % 64) q_o q_o] at this
    exact this
   have hts:rest.take (j+1)=rest.take j++[y]:=by rw[List.take_add_one,hy,Option.toList_some]
   by_cases hg:y.toNat / 64=2
   · have hY:((((y.toNat / 64*64:Nat):Int)) != 128)=false:=by rw[bne_eq_false_iff_eq];omega
     have hN:Hid (Cj c0 (rest.take (j+1))=some (d*64+y.toNat % 64)):=Lib.hid (by rw[hts,LI,hco.out];simp[hg])
     have hB:Hid (d*64+y.toNat % 64<128*64 ^ (j+1)):=Lib.hid (by
      have:=hdb.out
      rw[Nat.pow_succ]
      omega)
     clear hy hrc hts hco hdb hg hR hbd
     unfold D.y at g1
     generalize y.toNat / 64*64=Y at *
     generalize y.toNat=X at *
     repeat' (first|refine QX ?_|(refine QB ?_;intro b)|(refine QP ?_;intro o' ho')|(with_reducible refine QZ ?_<;>(try constructor)<;>intro hb<;>try intro hb1)|fail)
     refine⟨j+1,st,q_u,⟨hlt,?_,?_,?_,?_,?_,⟨_,?_,hN,hB⟩,rfl⟩,by omega⟩
     all_goals exact Qf
   · have hY:((((y.toNat / 64*64:Nat):Int)) != 128)=true:=by rw[bne_iff_ne];omega
     have hr0:R=none:=by
      have e:rest=rest.take j++y::rest.drop (j+1):=by
       obtain⟨h2,rfl⟩:=List.getElem?_eq_some_iff.1 hy
       rw[List.getElem_cons_drop,List.take_append_drop]
      rw[←hR,e,OE y hg]
     subst hr0
     clear hy hrc hts hco hdb hg hR hbd hor
     unfold D.y at g1
     generalize y.toNat / 64*64=Y at *
     generalize y.toNat=X at *
     exact WRa
 · obtain rfl:j=m:=by omega
   have hc:=hco.out
   rw[List.take_of_length_le q_o] at hc
   rw[hc] at hR
   dsimp only at hR
   have hCo:=Uq d
   have hLo:=Up d
   have hcd:Cd (d:Int)=CL d:=by simp[Cd]
   rw[hcd] at hCo
   rw[Int.toNat_natCast] at hLo
   clear hc hco hdb hrc hcd hbd
   generalize MA d=hd at *
   generalize CL d=ic at *
   generalize BL d=ln at *
   replace hCo:=Lib.hid hCo
   replace hLo:=Lib.hid hLo
   cases ic with
   | false =>
    obtain rfl:R=none:=by rw[←hR];rfl
    clear hR
    exact WRa
   | true =>
    by_cases hl:ln=j+1
    · have hl2:((ln:Int) != (j+1:Nat))=false:=by rw[bne_eq_false_iff_eq];omega
      obtain rfl:R=some (d,j+1):=by rw[←hR,hl];simp
      clear hR
      subst hl
      exact WRa
    · have hl2:((ln:Int) != (j+1:Nat))=true:=by rw[bne_iff_ne];omega
      obtain rfl:R=none:=by rw[←hR];simp[hl]
      clear hR
      exact WRa
end
namespace UtfL
def Dr (p:Nat)(l:List UInt8):List (Nat×Nat) :=
 match _h:Dn l with
|none=>[]
|some (c,n)=>(p+n,c)::Dr (p+n) (l.drop n)
termination_by l.length
decreasing_by
 have:=Ho _h
 rw[List.length_drop];omega
theorem HI{p:Nat}{l:List UInt8}(h:Dn l=none):Dr p l=[]:=by
 rw[Dr];split
 · rfl
 · rename_i e;rw[h] at e;cases e
theorem KN{p:Nat}{l:List UInt8}{c n:Nat}(h:Dn l=some (c,n)):Dr p l=(p+n,c)::Dr (p+n) (l.drop n):=by
 rw[Dr];split
 · rename_i e;rw[h] at e;cases e
 · rename_i e;rw[h] at e;cases e;rfl
def Ch (p:Nat)(l:List (Nat×Nat)):Nat:=l.foldl (fun _ x=>x.1) p
theorem Hl(p:Nat)(l:List (Nat×Nat))(x:Nat×Nat):Ch p (l++[x])=x.1:=by simp[Ch]
def Cx (b:List UInt8):List Nat:=(Dr 0 b).map (·.2)
def Ft (b:List UInt8):Nat:=Ch 0 (Dr 0 b)
def At (b:List UInt8)(pre:List (Nat×Nat))(p:Nat):Prop:=p≤b.length∧Dr 0 b=pre++Dr p (b.drop p)∧p=Ch 0 pre
theorem At.start(b:List UInt8):At b [] 0:=⟨Nat.zero_le _,by simp,rfl⟩
theorem JO{b:List UInt8}{p:Nat}(hp:p≤b.length):Ei b (p:Int)=Dn (b.drop p):=by
 rw[Ei]
 by_cases h:p<b.length
 · rw[if_pos ⟨by omega,by omega⟩];rfl
 · rw[if_neg q_o]
   have:p=b.length:=by omega
   rw[this,List.drop_length];rfl
theorem At.next{b:List UInt8}{pre:List (Nat×Nat)}{p c n:Nat}(h:At b pre p)(hg:Ei b (p:Int)=some (c,n)):At b (pre++[(p+n,c)]) (p+n)∧1≤n∧n≤4:=by
 obtain⟨h1,h2,h3⟩:=h
 rw[JO h1] at hg
 have hl:=Ho hg
 rw[List.length_drop] at hl
 refine⟨⟨by omega,?_,(by rw[Hl])⟩,hl.1,hl.2.1⟩
 rw[h2,KN hg,List.drop_drop,List.append_assoc];rfl
theorem At.done{b:List UInt8}{pre:List (Nat×Nat)}{p:Nat}(h:At b pre p)(hg:Ei b (p:Int)=none):Dr 0 b=pre:=by
 obtain⟨h1,h2,h3⟩:=h
 rw[JO h1] at hg
 rw[h2,HI hg,List.append_nil]
theorem At.full{b:List UInt8}{pre:List (Nat×Nat)}(h:At b pre b.length):Dr 0 b=pre:=by
 refine h.done ?_
 rw[Ei,if_neg q_o]
theorem GZ:∀(k p:Nat) (l:List UInt8),l.length≤k→(Dr p l).length≤l.length∧p≤Ch p (Dr p l)∧Ch p (Dr p l)≤p+l.length
|0,p,l,h=>by
  have:l=[]:=List.eq_nil_of_length_eq_zero q_o
  subst this
  rw[HI rfl];simp[Ch]
|k+1,p,l,h=>by
  cases hg:Dn l with
  | none=>rw[HI hg];simp[Ch]
  | some q =>
   obtain⟨c,n⟩:=q
   have hl:=Ho hg
   have:=GZ k (p+n) (l.drop n) (by rw[List.length_drop];omega)
   rw[KN hg]
   rw[List.length_drop] at this
   simp only[List.length_cons]
   have e:Ch p ((p+n,c)::Dr (p+n) (l.drop n))=Ch (p+n) (Dr (p+n) (l.drop n)):=rfl
   rw[e]
   omega
end UtfL
section
def RoundC (P:Program)(l:Nat)(args:List D)(st:St)(R:D→St→Prop):Prop :=
 ∀(vs:Array Value) w,RepL (OwnS st) w vs.toList args→Holds st w→YieldAt (FR none) 0 P l vs w fun e w'=>∃v,e=.returned v∧PostV st w R v w'
theorem OO{F:Fence}{m:Nat}{P:Program}{l:Nat}{args:Array Value}{W:World}{R R':Ending→World→Prop}(h:YieldAt F m P l args W R)(hr:∀e w,R e w→R' e w):YieldAt F m P l args W R':=by
 obtain⟨fn,t,a,b,h1,h2⟩:=h
 exact⟨fn,t,a,b,h1,h2.mono hr⟩
theorem RoundC.perm{P:Program}{l:Nat}{args:List D}{st st1:St}{R R':D→St→Prop}(hp:st.Perm st1)(h:RoundC P l args st1 R)(hR:∀d s,R d s→∃s',s'.Perm s∧R' d s'):RoundC P l args st R':=by
 intro vs w h1 h2
 have e:=OwnS.perm hp
 refine OO (h vs w (by rw[←e];exact h1) (h2.perm hp)) fun _ _ ⟨v,ev,d,s,k1,k2,k3,k4⟩=>?_
 obtain⟨s',q1,q2⟩:=hR d s k4
 have e':=OwnS.perm q1
 exact⟨v,ev,d,s',by rw[e'];exact k1,k2.perm q1.symm,by rw[e,e'];exact k3,q2⟩
theorem RoundC.le{P:Program}{l:Nat}{args args':List D}{st:St}{R:D→St→Prop}(h:RoundC P l args' st R)(hl:LEL args args'):RoundC P l args st R:=fun vs w h1 h2=>h vs w (hl.repL h1) h2
def Qi (P:Program)(l:Nat){X:Type}(args:X→List D)(L:List X)(J Jx:Nat→St→Prop):Prop :=
 (∀(i:Nat) (x:X) (C:St),L[i]?=some x→J i C→(∃C',J (i+1) C')∨∃C',Jx (i+1) C')∧∀(i:Nat) (x:X) (C K:St),L[i]?=some x→J i C→RoundC P l (args x) (C++K) fun d st'=>∃C',st'=C'++K∧((d=.s (.bool true)∧J (i+1) C')∨(d=.s (.bool false)∧Jx (i+1) C'))
def RG (P:Program)(g:FuncId)(caps:List D){X:Type}(args:X→List D)(L:List X)(K0:St)(Kend:St→Prop)(Kstop:Nat→St→Prop):Prop :=
 ∀(l:Nat) (C:St) (J Jx:Nat→St→Prop),Qi P l args L J Jx→J 0 C→TrF P g (.fn (.yield l) [] []::caps) (K0++C) fun _ st'=>∃K1 C',st'=K1++C'∧((Kend K1∧J L.length C')∨∃i,Kstop i K1∧Jx i C')
theorem Jg:∀C:St,C=[]++C:=fun _=>rfl
theorem GQ{f:St→St}{K:St}{x:Res}(h:∀C,f C=K++C):∀C,x::f C=(x::K)++C:=fun C=>by rw[h];rfl
section
variable {P:Program} {N:Nat} {r:Option Nat} {A:AA} {st:St} {w:World} {Q:Exit→AA→St→Prop} {m:Option Ro} {k:D→St→Prop} {dst:Option Tmp} {ty:TypeId} {pos:String} {aft:Array Edge} {gd:Option (Nat×Bool)} {o:Oper}
theorem Ih{c:Call}{e:Nat→D}{g:Operand}{l:Nat}{ds:List D}{K:D→St→Prop}(ho:o.op=.call c)(hc:c.callee=.value g)(hg:ev e g=some (.fn (.yield l) [] []))
 (hargs:evL e c.args.toList=some ds)(h:RoundC P l ds st K):OpC P r o e st K:=by
 intro ρ w h1 h2
 rw[ho] at h1
 have hfn:=h1 g (by simp[Op.operands,Call.operands,hc]) _ hg
 have hds:=Gj h1 (fun x hx=>by simp only[Op.operands,Call.operands,Array.mem_append];exact .inr (by simpa using hx)) hargs
 rw[Oper.semAt_eq r ρ o (by rw[ho];intro c hc;cases hc)]
 unfold execOp
 rw[ho]
 simp only[resolve,hc]
 generalize ρ g=gv at hfn
 cases hfn with
|fn _ us1 us2 _ _ l1 l2 r1 r2 =>
  obtain rfl:us1=[]:=List.eq_nil_of_length_eq_zero l1
  obtain⟨fn,tmps,assign,body,hy,hr⟩:=h (c.args.map ρ) w (by simpa using hds) h2
  have hy':(Instr.yield l (#[]++c.args.map ρ)).run P w=.ok (.round l fn tmps assign body) w:=by simpa using hy
  simp only[Deferred.ofValue,Sem.run_bind,Sem.run_pure,Result.andThen_ok,invoke,hy']
  exact hr.mono fun ev w' ⟨v,e,hp⟩=>⟨v,e,hp⟩
theorem Ml{l:Nat}{X:Type}{args:X→List D}{L:List X}{J Jx:Nat→St→Prop}{f:St→St}{K C:St}{i:Nat}{x:X}{g:Operand}{oas:Array Operand}{tys:Array TypeId}{ds:List D}
 (hY:Qi P l args L J Jx)(hJ:J i C)(hx:L[i]?=some x)(hg:ev A.e g=some (.fn (.yield l) [] []))(ha:evL A.e oas.toList=some ds)(hle:LEL ds (args x))(hf:∀C,f C=K++C)
 (hk1:∀C',J (i+1) C'→AE m (f C')∧k (.s (.bool true)) (f C'))(hk0:∀C',Jx (i+1) C'→AE m (f C')∧k (.s (.bool false)) (f C')):S P r m ⟨dst,.call ⟨.value g,oas,tys⟩,ty,pos,aft,gd⟩ A (f C) k:=by
 refine Bk (R:=fun d st'=>∃C',st'=f C'∧((d=.s (.bool true)∧J (i+1) C')∨(d=.s (.bool false)∧Jx (i+1) C'))) rfl (Ih rfl rfl hg ha ?_) ?_ ?_
 · refine(RoundC.perm (by rw[hf];exact List.perm_append_comm) (hY.2 i x C K hx hJ) ?_).le hle
   rintro d s ⟨C',rfl,hc⟩
   exact⟨f C',by rw[hf];exact List.perm_append_comm,C',rfl,hc⟩
 · rcases hY.1 i x C hx hJ with⟨C',hC⟩|⟨C',hC⟩
   · exact⟨_,_,C',rfl,.inl ⟨rfl,hC⟩⟩
   · exact⟨_,_,C',rfl,.inr ⟨rfl,hC⟩⟩
 · rintro d st' ⟨C',rfl,⟨rfl,h⟩|⟨rfl,h⟩⟩
   · exact hk1 C' h
   · exact hk0 C' h
theorem Holds.know(h:Holds st w){f:Nat→Value}{e:Nat→D}(hk:∀t,Rep (OwnS st) w (f t) (e t)):Holds (.know f e::st) w∧Ext (OwnS st) w (OwnS (.know f e::st)) w:=by
 have he:Ext (OwnS st) w (OwnS (.know f e::st)) w:=(Ext.refl _ w).less fun b off ho=>(OwnS.cons_iff.1 ho).elim (fun x=>by cases x.1) id
 exact⟨h.push he (fun _ _ _ _=>rfl) (fun t=>(hk t).ext he) (fun x _ b e=>by cases e),he⟩
theorem IU{b:Nat}{o o':Obj}(h:Holds (.raw b o::st) w)(hn:∀c E fr,o≠.cells c E fr):Holds (.raw b o'::st) (w.putObj b o')∧Ext (OwnS (.raw b o::st)) w (OwnS (.raw b o'::st)) (w.putObj b o'):=by
 have hb:w.heap[b]?=some o:=h.2 _ (List.mem_cons_self ..)
 have hlt:=(Array.getElem?_eq_some_iff.1 hb).1
 have hown:∀c off,OwnS (.raw b o'::st) c off→OwnS (.raw b o::st) c off:=fun c off ho=>OwnS.cons_iff.2 ((OwnS.cons_iff.1 ho).imp id id)
 have he:Ext (OwnS (.raw b o::st)) w (OwnS (.raw b o'::st)) (w.putObj b o'):=by
  refine⟨Nat.le_refl _,rfl,rfl,rfl,by simp,fun c off _ ho=>hown c off ho,fun c hc hno=>World.putObj_heap_other fun e=>hno 0 (OwnS.cons_iff.2 (.inl ⟨by rw[e];rfl,Nat.zero_le _⟩)),fun c cs E fr hc=>⟨cs,fr,?_,rfl,fun _ _=>rfl⟩⟩
  refine(World.putObj_heap_other fun e=>?_).trans hc
  subst e
  rw[hb] at hc
  cases hc
  exact hn _ _ _ rfl
 refine⟨h.put he (fun x hx c hc=>World.putObj_heap_other fun e=>(List.pairwise_cons.1 h.1).1 x hx b rfl (e▸hc)) (World.putObj_heap_same hlt) fun x hx c hc hc'=>(List.pairwise_cons.1 h.1).1 x hx c hc hc',he⟩
theorem Dj{C T:St}{b:Nat}{o o':Obj}(h:Holds (C++.raw b o::T) w)(hn:∀c E fr,o≠.cells c E fr):Holds (C++.raw b o'::T) (w.putObj b o')∧Ext (OwnS (C++.raw b o::T)) w (OwnS (C++.raw b o'::T)) (w.putObj b o'):=by
 have h1:=IU (o':=o') (h.perm List.perm_middle) hn
 exact⟨h1.1.perm List.perm_middle.symm,h1.2.perm List.perm_middle List.perm_middle⟩
def Mj:AA→List Tmp→List D→AA
|A,p::ps,d::ds=>Mj (A.put (some p) d) ps ds
|A,_,_=>A
theorem GX{O:Nat→Nat→Prop}:∀(ps:List Tmp) (vs:List Value) (ds:List D) (tm:Array Value) (A:AA),(∀p∈ps,p<N)→RelA N O w ⟨tm,[]⟩ A→RepL O w vs ds→RelA N O w ⟨(ps.zip vs).foldl (fun t (p,v)=>t.setIfInBounds p v) tm,[]⟩ (Mj A ps ds)
|[],vs,ds,tm,A,_,h,_=>by cases vs<;>exact h
|p::ps,[],ds,tm,A,_,h,hv=>by
  obtain rfl:ds=[]:=List.eq_nil_of_length_eq_zero hv.1.symm
  exact h
|p::ps,v::vs,[],tm,A,_,h,hv=>by have:=hv.1;simp at this
|p::ps,v::vs,d::ds,tm,A,hp,h,hv=>by
  obtain⟨u,t,e,h1,h2⟩:=hv.inv_cons
  cases e
  exact GX ps vs ds _ _ (fun q hq=>hp q (List.mem_cons_of_mem _ hq)) (h.put (dst:=some p) (by simp[EM,hp p (List.mem_cons_self ..)]) h1) h2
def Mr (K:St)(i:Nat)(J:Nat→St→Prop)(Jx:Code→Nat→St→Prop):Exit→AA→St→Prop
|.normal,_,st'=>∃C',(C'++K).Sublist st'∧J i C'
|.ret,_,st'=>∃C',(C'++K).Sublist st'∧Jx .ret i C'
|.exit id,_,st'=>∃C',(C'++K).Sublist st'∧Jx (.exit id) i C'
|.goto t,_,st'=>∃C',(C'++K).Sublist st'∧Jx (.goto t) i C'
|_,_,_=>False
abbrev Mz (fn:FuncId)(tmps:Array Value)(ps:Array Tmp)(assign body:Code)(d:Nat)(s:LoopState)(pe:Option Code):Loop:={state:=s,pending:=pe,fn,tmps,params:=ps,assign,body,defers:=d}
theorem Ie{K C:St}{x y z:Res}:(z::x::y::(K++C)).Perm (K++(C++[x,y,z])):=by
 rw[←List.append_assoc]
 refine List.Perm.trans ?_ List.perm_append_comm
 exact(List.Perm.swap _ _ _).trans (.cons _ (.swap _ _ _))
theorem KD{X:Type}{g:Operand}{ps:Array Tmp}{assign body:Code}{gf:FuncId}{caps:List D}{args:X→List D}{L:List X}{K0 C:St}{Kend:St→Prop}{Kstop:Nat→St→Prop}
 (hit:RG P gf caps args L K0 Kend Kstop)(hent:∀args w,(callFunc gf args).run P w=.ok (.enter gf args) w)(hg:ev A.e g=some (.fn (.func gf) [] caps))(hps:∀x,(args x).length=ps.size)(hpN:ps.toList.all (fun t=>decide (t<N))=true)
 (J:Nat→St→Prop)(Jx:Code→Nat→St→Prop)(h0:J 0 C)(hne:∀(i:Nat) (x:X) (C:St),L[i]?=some x→J i C→(∃C',J (i+1) C')∨∃c C',Jx c (i+1) C')
 (hround:∀l i x C K,L[i]?=some x→J i C→Tr P N (some l) assign (Mj ⟨A.e,[]⟩ ps.toList (args x)) (C++K) (DI (fun A' st'=>∃C1,(C1++K).Sublist st'∧∀K',Tr P N (some l) body A' (C1++K') (Mr K' (i+1) J Jx)) (fun _ _ _=>False)))
 (hdone:∀d K1 C',Kend K1→J L.length C'→Q .normal ⟨A.e,BV d::A.df⟩ (Al d::(K1++C')))
 (hstop:∀c d i K1 C',Kstop i K1→Jx c i C'→Tr P N none c ⟨A.e,BV d::A.df⟩ (Al d::(K1++C')) Q) :
 Tr P N none (.rangeFunc g ps assign body) A (K0++C) Q:=by
 intro a w h1 h2
 have hr:=JZ h1 hg
 generalize hgv:a.eval g=gv at hr
 cases hr with
|fn _ us1 us2 _ _ l1 l2 r1 r2 =>
 obtain rfl:us1=[]:=List.eq_nil_of_length_eq_zero l1
 refine wpIn_rangeFunc fun fn hfn=>?_
 obtain⟨d,hd⟩:∃d,d=w.heap.size:=⟨_,rfl⟩
 obtain⟨rec,hrec⟩:∃rec,rec=Mz fn a.tmps ps assign body d:=⟨_,rfl⟩
 have n1:=Dt h2 (Res.raw d (.deferred (some []))) (fun b e=>by cases e;exact hd) (.deferred (some [])) (fun _=>by rw[hd];exact heap_alloc_new w _)
 obtain⟨w1,hw1⟩:∃w1,w1=w.alloc (.deferred (some [])):=⟨_,rfl⟩
 rw[←hw1] at n1
 have hs1:w1.heap.size=d+1:=by rw[hw1,hd];simp
 have n2:=Dt n1.1 (Res.raw (d+1) (.loop (rec .ready none))) (fun b e=>by cases e;exact hs1.symm) (.loop (rec .ready none)) (fun _=>by rw[←hs1];exact heap_alloc_new w1 _)
 obtain⟨W1,hW1⟩:∃W1,W1=w1.alloc (.loop (rec .ready none)):=⟨_,rfl⟩
 rw[←hW1] at n2
 obtain⟨tm,htm⟩:∃tm:Nat→Value,tm=fun t=>a.tmps.getD t undef:=⟨_,rfl⟩
 have n3:=n2.1.know (f:=tm) (e:=A.e) (fun t=>by rw[htm];exact((h1.ext n1.2).ext n2.2).2.2 t)
 obtain⟨B,hB⟩:∃B:LoopState→Option Code→St,B=fun s pe=>[Res.raw (d+1) (.loop (rec s pe)),Res.raw d (.deferred (some [])),Res.know tm A.e]:=⟨_,rfl⟩
 have hp:(Res.know tm A.e::Res.raw (d+1) (.loop (rec .ready none))::Res.raw d (.deferred (some []))::(K0++C)).Perm (K0++(C++B .ready none)):=by rw[hB];exact Ie
 have E3:Ext (OwnS (K0++C)) w (OwnS (K0++(C++B .ready none))) W1:=by rw[←OwnS.perm hp];exact n1.2.trans (n2.2.trans n3.2)
 have H3:=n3.1.perm hp
 have hnl:∀(x:Loop) c E fr,Obj.loop x≠.cells c E fr:=fun _ _ _ _ e=>by cases e
 have hY:Qi P (d+1) args L (fun i C'=>∃C,C'=C++B .ready none∧J i C) (fun i C'=>∃c C,C'=C++B .done (some c)∧Jx c i C):=by
  refine⟨fun i x C' hx ⟨C,_,hJ⟩=>(hne i x C hx hJ).elim (fun⟨C1,h⟩=>.inl ⟨_,C1,rfl,h⟩) fun⟨c,C1,h⟩=>.inr ⟨_,c,C1,rfl,h⟩,?_⟩
  rintro i x C' K hx ⟨Cn,rfl,hJ⟩ vs w2 hv hh
  rw[List.append_assoc] at hv hh
  have hl:w2.heap[d+1]?=some (.loop (rec .ready none)):=hh.2 (Res.raw (d+1) (.loop (rec .ready none))) (by rw[hB];simp)
  have hkn:∀t,Rep (OwnS (Cn++(B .ready none++K))) w2 (tm t) (A.e t):=hh.2 (Res.know tm A.e) (by rw[hB];simp)
  have hy:=run_yield (P:=P) (args:=vs) hl (by rw[hrec,←Array.length_toList,hv.1];exact hps x)
  rw[hrec] at hy
  refine⟨fn,_,assign,body,hy,roundIn_of_wpIn hfn ?_⟩
  clear hy
  have hz:(ps.zip vs).foldl (fun tmps (t,a)=>tmps.setIfInBounds t a) a.tmps=(ps.toList.zip vs.toList).foldl (fun t (p,v)=>t.setIfInBounds p v) a.tmps:=by
   rw[←Array.foldl_toList,Array.toList_zip]
  have hrel:RelA N (OwnS (Cn++(B .ready none++K))) w2 ⟨(ps.zip vs).foldl (fun tmps (t,a)=>tmps.setIfInBounds t a) a.tmps,[]⟩ (Mj ⟨A.e,[]⟩ ps.toList (args x)):=by
   rw[hz]
   refine GX _ _ _ _ _ (fun p hp=>by simpa using List.all_eq_true.1 hpN p hp) ⟨h1.1,rfl,fun t=>?_⟩ hv
   have:=hkn t
   rw[htm] at this
   exact this
  refine wpIn_mono (hround (d+1) i x Cn (B .ready none++K) hx hJ _ w2 hrel hh) ?_
  rintro e a3 w3 ⟨A3,st3,k1,k2,k3,k4⟩
  cases e with
  | normal =>
   obtain⟨C1,hsub,hbody⟩:=k4
   have e3:=Ext.drop (fun _ h=>hsub.subset h) w3
   have H4:=k2.sub hsub
   have hl3:w3.heap[d+1]?=some (.loop (rec .ready none)):=H4.2 (Res.raw (d+1) (.loop (rec .ready none))) (by rw[hB];simp)
   refine⟨_,run_beginRound hl3 (by rw[hrec]),?_⟩
   have q:=Dj (C:=C1) (T:=[Res.raw d (.deferred (some [])),Res.know tm A.e]++K) (o':=.loop {rec .ready none with state:=.busy}) (by rw[hB] at H4;exact H4) (hnl _)
   have hbz:C1++(Res.raw (d+1) (.loop {rec .ready none with state:=.busy})::([Res.raw d (.deferred (some [])),Res.know tm A.e]++K))=C1++(B .busy none++K):=by rw[hB,hrec];rfl
   have hbr:C1++(Res.raw (d+1) (.loop (rec .ready none))::([Res.raw d (.deferred (some [])),Res.know tm A.e]++K))=C1++(B .ready none++K):=by rw[hB];rfl
   rw[hbz] at q
   rw[hbr] at q
   have E4:=(k3.trans e3).trans q.2
   refine wpIn_mono (hbody (B .busy none++K) _ _ ((k1.ext e3).ext q.2) q.1) ?_
   have fin:∀(jump:Option Code) (C5 st5:St) (w5:World),(C5++(B .busy none++K)).Sublist st5→Holds st5 w5→Ext (OwnS (C1++(B .busy none++K))) (w3.putObj (d+1) (.loop {rec .ready none with state:=.busy})) (OwnS st5) w5 →
    (Instr.endRound (d+1) jump).run P w5=.ok (.bool jump.isNone) (w5.putObj (d+1) (.loop (rec (if jump.isNone then .ready else .done) jump))) ∧
    Holds (C5++B (if jump.isNone then .ready else .done) jump++K) (w5.putObj (d+1) (.loop (rec (if jump.isNone then .ready else .done) jump))) ∧
    Ext (OwnS (Cn++B .ready none++K)) w2 (OwnS (C5++B (if jump.isNone then .ready else .done) jump++K)) (w5.putObj (d+1) (.loop (rec (if jump.isNone then .ready else .done) jump))):=fun jump C5 st5 w5 hs5 hh5 he5=>by
    have e5:=Ext.drop (fun _ h=>hs5.subset h) w5
    have H6:=hh5.sub hs5
    have hl5:w5.heap[d+1]?=some (.loop (rec .busy none)):=H6.2 (Res.raw (d+1) (.loop (rec .busy none))) (by rw[hB];simp)
    have hr5:=run_endRound (P:=P) jump hl5
    rw[hrec] at hr5 ⊢
    have q5:=Dj (C:=C5) (T:=[Res.raw d (.deferred (some [])),Res.know tm A.e]++K) (o':=.loop (Mz fn a.tmps ps assign body d (if jump.isNone then .ready else .done) jump)) (by rw[hB] at H6;exact H6) (hnl _)
    have hbz5:C5++(Res.raw (d+1) (.loop (Mz fn a.tmps ps assign body d (if jump.isNone then .ready else .done) jump))::([Res.raw d (.deferred (some [])),Res.know tm A.e]++K))=C5++B (if jump.isNone then .ready else .done) jump++K:=by rw[hB,hrec,List.append_assoc];rfl
    have hbr5:C5++(Res.raw (d+1) (.loop (rec .busy none))::([Res.raw d (.deferred (some [])),Res.know tm A.e]++K))=C5++(B .busy none++K):=by rw[hB];rfl
    rw[hbz5] at q5
    rw[hbr5] at q5
    refine⟨hr5,q5.1,?_⟩
    rw[show Cn++B .ready none++K=Cn++(B .ready none++K) by rw[List.append_assoc]]
    exact(E4.trans (he5.trans e5)).trans q5.2
   rintro e a5 w5 ⟨A5,st5,m1,m2,m3,m4⟩
   cases e with
   | normal =>
    obtain⟨C5,hs5,hJ5⟩:=m4
    obtain⟨f1,f2,f3⟩:=fin none C5 st5 w5 hs5 m2 m3
    exact⟨_,_,f1,_,rfl,.s (.bool true),_,.s _ rfl,f2,f3,_,rfl,.inl ⟨rfl,C5,rfl,hJ5⟩⟩
   | ret =>
    obtain⟨C5,hs5,hJ5⟩:=m4
    obtain⟨f1,f2,f3⟩:=fin (some .ret) C5 st5 w5 hs5 m2 m3
    exact⟨_,_,f1,_,rfl,.s (.bool false),_,.s _ rfl,f2,f3,_,rfl,.inr ⟨rfl,.ret,C5,rfl,hJ5⟩⟩
   | exit id =>
    obtain⟨C5,hs5,hJ5⟩:=m4
    obtain⟨f1,f2,f3⟩:=fin (some (.exit id)) C5 st5 w5 hs5 m2 m3
    exact⟨_,_,f1,_,rfl,.s (.bool false),_,.s _ rfl,f2,f3,_,rfl,.inr ⟨rfl,.exit id,C5,rfl,hJ5⟩⟩
   | goto t =>
    obtain⟨C5,hs5,hJ5⟩:=m4
    obtain⟨f1,f2,f3⟩:=fin (some (.goto t)) C5 st5 w5 hs5 m2 m3
    exact⟨_,_,f1,_,rfl,.s (.bool false),_,.s _ rfl,f2,f3,_,rfl,.inr ⟨rfl,.goto t,C5,rfl,hJ5⟩⟩
   | panic c=>exact m4.elim
   | outgrown=>exact m4.elim
  | exit id=>exact k4.elim
  | goto t=>exact k4.elim
  | ret=>exact k4.elim
  | panic c=>exact k4.elim
  | outgrown=>exact k4.elim
 refine⟨d+1,[BV d],W1,{target:=.fn (.func gf) us2.toArray,args:=#[.func (.yield (d+1)) #[] #[]]},W1,gf,#[.func (.yield (d+1)) #[] #[]]++us2.toArray,W1,?_,?_,fun _ _=>trivial,?_,(fun h=>by cases h),?_⟩
 · rw[hW1,hrec,hw1,hd]
   exact run_enterLoop_outer _ _ _ _ _
 · simp only[resolve,hgv]
   simp[go_sem]
 · simp[invoke,go_sem,hent]
 · have hcall := hit (d + 1) (C ++ B .ready none) _ _ hY ⟨C, rfl, h0⟩ (#[.func (.yield (d + 1)) #[] #[]] ++ us2.toArray) W1 (by
    have hvs:(#[Value.func (.yield (d+1)) #[] #[]]++us2.toArray).toList=Value.func (.yield (d+1)) #[] #[]::us2:=by simp
    rw[hvs]
    refine RepL.cons ?_ ?_
    · exact .fn (.yield (d+1)) [] [] [] [] rfl rfl (fun i h=>absurd h (Nat.not_lt_zero _)) (fun i h=>absurd h (Nat.not_lt_zero _))
    · exact⟨l2,fun i h h'=>(r2 i h h').ext E3⟩) H3
   refine(callsIn_wide.2 hcall).mono ?_
   rintro e w2 ⟨v,rfl,dd,st2, -,q2,q3,K1,C2,rfl,⟨hk,Cn,rfl,hJ⟩|⟨i,hk,c,Cn,rfl,hJ⟩⟩
   · have hl:w2.heap[d+1]?=some (.loop (rec .ready none)):=q2.2 (Res.raw (d+1) (.loop (rec .ready none))) (by rw[hB];simp)
     have hend:(Instr.endLoop (d+1)).run P w2=.ok none (w2.putObj (d+1) (.loop {rec .ready none with state:=.exhausted})):=by
      subst hrec;exact run_endLoop (P:=P) hl (by simp)
     have q2':Holds ((K1++Cn)++Res.raw (d+1) (.loop (rec .ready none))::[Res.raw d (.deferred (some [])),Res.know tm A.e]) w2:=by rw[hB,←List.append_assoc] at q2;exact q2
     have q:=Dj (o':=.loop {rec .ready none with state:=.exhausted}) q2' (hnl _)
     have hsub:(Al d::(K1++Cn)).Sublist (Al d::(K1++Cn++[Res.raw (d+1) (.loop {rec .ready none with state:=.exhausted}),Res.know tm A.e])):=(List.sublist_append_left _ _).cons_cons _
     have hpm:(K1++Cn++Res.raw (d+1) (.loop {rec .ready none with state:=.exhausted})::[Res.raw d (.deferred (some [])),Res.know tm A.e]).Perm (Al d::(K1++Cn++[Res.raw (d+1) (.loop {rec .ready none with state:=.exhausted}),Res.know tm A.e])):=by
      refine(List.Perm.append_left _ (.swap _ _ _)).trans ?_
      exact List.perm_middle
     have hq3:Ext (OwnS (K0++C)) w (OwnS ((K1++Cn)++Res.raw (d+1) (.loop (rec .ready none))::[Res.raw d (.deferred (some [])),Res.know tm A.e])) w2:=by
      have:=E3.trans q3
      rw[hB,←List.append_assoc] at this
      exact this
     have Ef:Ext (OwnS (K0++C)) w (OwnS (Al d::(K1++Cn))) (w2.putObj (d+1) (.loop {rec .ready none with state:=.exhausted})):=by
      refine((hq3.trans q.2).trans ?_)
      rw[OwnS.perm hpm]
      exact Ext.drop (fun _ h=>hsub.subset h) _
     exact⟨none,_,hend,⟨A.e,BV d::A.df⟩,_,⟨h1.1,by show BV d::a.defers=BV d::A.df;rw[h1.2.1],fun t=>(h1.2.2 t).ext Ef⟩,(q.1.perm hpm).sub hsub,Ef,hdone d K1 Cn hk hJ⟩
   · have hl:w2.heap[d+1]?=some (.loop (rec .done (some c))):=q2.2 (Res.raw (d+1) (.loop (rec .done (some c)))) (by rw[hB];simp)
     have hend:(Instr.endLoop (d+1)).run P w2=.ok (some c) (w2.putObj (d+1) (.loop {rec .done (some c) with state:=.exhausted})):=by
      subst hrec;exact run_endLoop (P:=P) hl (by simp)
     have q2':Holds ((K1++Cn)++Res.raw (d+1) (.loop (rec .done (some c)))::[Res.raw d (.deferred (some [])),Res.know tm A.e]) w2:=by rw[hB,←List.append_assoc] at q2;exact q2
     have q:=Dj (o':=.loop {rec .done (some c) with state:=.exhausted}) q2' (hnl _)
     have hsub:(Al d::(K1++Cn)).Sublist (Al d::(K1++Cn++[Res.raw (d+1) (.loop {rec .done (some c) with state:=.exhausted}),Res.know tm A.e])):=(List.sublist_append_left _ _).cons_cons _
     have hpm:(K1++Cn++Res.raw (d+1) (.loop {rec .done (some c) with state:=.exhausted})::[Res.raw d (.deferred (some [])),Res.know tm A.e]).Perm (Al d::(K1++Cn++[Res.raw (d+1) (.loop {rec .done (some c) with state:=.exhausted}),Res.know tm A.e])):=by
      refine(List.Perm.append_left _ (.swap _ _ _)).trans ?_
      exact List.perm_middle
     have hq3:Ext (OwnS (K0++C)) w (OwnS ((K1++Cn)++Res.raw (d+1) (.loop (rec .done (some c)))::[Res.raw d (.deferred (some [])),Res.know tm A.e])) w2:=by
      have:=E3.trans q3
      rw[hB,←List.append_assoc] at this
      exact this
     have Ef:Ext (OwnS (K0++C)) w (OwnS (Al d::(K1++Cn))) (w2.putObj (d+1) (.loop {rec .done (some c) with state:=.exhausted})):=by
      refine((hq3.trans q.2).trans ?_)
      rw[OwnS.perm hpm]
      exact Ext.drop (fun _ h=>hsub.subset h) _
     exact⟨some c,_,hend,wpIn_mono (hstop c d i K1 Cn hk hJ _ _ ⟨h1.1,by show BV d::a.defers=BV d::A.df;rw[h1.2.1],fun t=>(h1.2.2 t).ext Ef⟩ ((q.1.perm hpm).sub hsub)) fun _ _ _=>PostA.ext Ef⟩
theorem Na{X:Type}{g:Operand}{ps:Array Tmp}{assign body:Code}{gf:FuncId}{caps:List D}{args:X→List D}{L:List X}{K0 C:St}{Kend:St→Prop}{Kstop:Nat→St→Prop}
 (hit:RG P gf caps args L K0 Kend Kstop)(hent:∀args w,(callFunc gf args).run P w=.ok (.enter gf args) w)(hg:ev A.e g=some (.fn (.func gf) [] caps))(hps:∀x,(args x).length=ps.size)(hpN:ps.toList.all (fun t=>decide (t<N))=true)
 (J:Nat→St→Prop)(Jx:Code→Nat→St→Prop)(h0:J 0 C)(hne:∀i,i≤L.length→∃C,J i C)
 (hround:∀l i x C K,L[i]?=some x→J i C→Tr P N (some l) assign (Mj ⟨A.e,[]⟩ ps.toList (args x)) (C++K) (DI (fun A' st'=>∃C1,(C1++K).Sublist st'∧∀K',Tr P N (some l) body A' (C1++K') (Mr K' (i+1) J Jx)) (fun _ _ _=>False)))
 (hdone:∀d K1 C',Kend K1→J L.length C'→Q .normal ⟨A.e,BV d::A.df⟩ (Al d::(K1++C')))
 (hstop:∀c d i K1 C',Kstop i K1→Jx c i C'→Tr P N none c ⟨A.e,BV d::A.df⟩ (Al d::(K1++C')) Q) :
 Tr P N none (.rangeFunc g ps assign body) A (K0++C) Q :=
 KD hit hent hg hps hpN J Jx h0 (fun i x C hx _=>.inl (hne (i+1) (List.getElem?_eq_some_iff.1 hx).1)) hround hdone hstop
end
theorem Ba{r:Res}{s:St}:(r::s).Perm (r::s):=.refl _
theorem AG{r x:Res}{s s2:St}(h:s.Perm (r::s2)):(x::s).Perm (r::x::s2):=(h.cons _).trans (.swap _ _ _)
theorem Bn{ts:List Tmp}{R:D→St→Prop}{ex:Exit}{A:AA}{X:D}{st st0 s2:St}{d:Nat}(hex:ex=.normal∨ex=.ret)(hdf:A.df=[BV d])(hp:st.Perm (Al d::s2))(hs:st0.Sublist s2)(hd:LE (Jr ts A.e) X)(hR:R X st0):Nw ts R ex A st:=by
 rcases hex with rfl|rfl<;>exact⟨[d],X,s2,st0,hdf,hp,hs,hd,hR⟩
theorem Aw{b:Nat}{ty:TypeId}{cs:List D}{ro:Ro}{st:St}(h:Res.box b ty cs∈st)(k:AE (some ro) st):AE (some ((b,cs)::ro)) st:=fun b' cs' hl=>by
 rw[List.lookup_cons] at hl
 split at hl
 · rename_i he
   cases hl
   have:b'=b:=eq_of_beq he
   subst this
   exact⟨ty,h⟩
 · exact k b' cs' hl
theorem q_k{p:Prop}(h:p:=by(repeat(first|exact An|refine Aw q_m ?_));first|done|fail):p:=h
inductive At2 (a b a' b':Res):St→St→Prop
|here {s:St}:At2 a b a' b' (a::b::s) (a'::b'::s)
|there {x:Res} {s s':St} (h:At2 a b a' b' s s'):At2 a b a' b' (x::s) (x::s')
theorem At2.perm{a b a' b':Res}{s s':St}(h:At2 a b a' b' s s'):∃s0,s.Perm (a::b::s0)∧s'.Perm (a'::b'::s0):=by
 induction h with
|here=>exact⟨_,.refl _,.refl _⟩
|there h ih =>
  obtain⟨s0,h1,h2⟩:=ih
  exact⟨_,(h1.cons _).trans ((List.Perm.swap _ _ _).trans (.cons _ (.swap _ _ _))),(h2.cons _).trans ((List.Perm.swap _ _ _).trans (.cons _ (.swap _ _ _)))⟩
theorem AM{r:Res}{st s s':St}(h:st.Perm (r::s))(k:s.Perm s'):st.Perm (r::s'):=h.trans (k.cons _)
end
section
section
variable {P:Program} {r:Option Nat} {ro:Ro} {st:St}
structure SameOp (o1 o2:Oper):Prop where
 dst:o1.dst=o2.dst
 op:o1.op=o2.op
 type:o1.type=o2.type
 pos:o1.pos=o2.pos
 guard:o1.guard=o2.guard
theorem SameOp.refl(o:Oper):SameOp o o:=⟨rfl,rfl,rfl,rfl,rfl⟩
theorem SameOp.symm{o1 o2:Oper}(h:SameOp o1 o2):SameOp o2 o1:=⟨h.dst.symm,h.op.symm,h.type.symm,h.pos.symm,h.guard.symm⟩
theorem SameOp.free{o1 o2:Oper}(h:SameOp o1 o2):AO o1=AO o2:=by unfold AO;rw[h.op]
theorem SameOp.wanted{ops1 ops2:Array Oper}{o1 o2:Oper}(h:SameOp o1 o2)(hd:∀j:Nat,(ops1[j]?).bind (fun o:Oper=>o.dst)=(ops2[j]?).bind (fun o:Oper=>o.dst))(e:Nat→D):Au ops1 o1 e=Au ops2 o2 e:=by
 unfold Au
 rw[h.guard]
 cases o2.guard with
|none=>rfl
|some q=>obtain⟨j,b⟩:=q;dsimp only;rw[hd j]
theorem SameOp.frC{o1 o2:Oper}(h:SameOp o1 o2)(e:Nat→D):frC P ro o1 e=frC P ro o2 e:=by
 obtain⟨d1,p1,t1,s1,a1,g1⟩:=o1
 obtain⟨d2,p2,t2,s2,a2,g2⟩:=o2
 obtain⟨e1,e2,e3,e4,e5⟩:=h
 dsimp only at e1 e2 e3 e4 e5
 subst e1 e2 e3 e4 e5
 rfl
theorem SameOp.opC{o1 o2:Oper}(h:SameOp o1 o2){e:Nat→D}{K:D→St→Prop}(hh:OpC P r o1 e st K):OpC P r o2 e st K:=by
 obtain⟨d1,p1,t1,s1,a1,g1⟩:=o1
 obtain⟨d2,p2,t2,s2,a2,g2⟩:=o2
 obtain⟨e1,e2,e3,e4,e5⟩:=h
 dsimp only at e1 e2 e3 e4 e5
 subst e1 e2 e3 e4 e5
 exact hh
theorem AW{ops1 ops2:Array Oper}{f f':Bool}{o1 o2:Oper}(hs:SameOp o1 o2)(hd:∀j:Nat,(ops1[j]?).bind (fun o:Oper=>o.dst)=(ops2[j]?).bind (fun o:Oper=>o.dst))(hf:f=true→f'=true){K K':AA→St→Prop}(hK:∀A st,K A st→K' A st){A:AA}
 (h:AD P r ro f ops1 o1 K A st):AD P r ro f' ops2 o2 K' A st:=by
 unfold AD at h ⊢
 rw[hs.wanted hd,hs.free,hs.frC,hs.dst] at h
 split
 · rename_i hw
   rw[if_pos hw] at h
   split
   · rename_i hfr
     rw[if_pos hfr] at h
     obtain⟨d,h1,h2⟩:=h
     exact⟨d,h1,hK _ _ h2⟩
   · rename_i hfr
     rw[if_neg hfr] at h
     obtain⟨h1,d,st',h2,h3⟩:=h
     exact⟨hs.opC (h1.mono fun d st' hk=>⟨hk.1.imp hf id,hK _ _ hk.2⟩),d,st',h2.imp hf id,hK _ _ h3⟩
 · rename_i hw
   rw[if_neg hw] at h
   exact hK _ _ h
theorem Of{ops:Array Oper}{f f':Bool}{o:Oper}(hfr:AO o=true){K1 K2:AA→St→Prop}{A:AA}(h1:AD P r ro f ops o K1 A st)(h2:AD P r ro f' ops o K2 A st):AD P r ro f ops o (fun A st=>K1 A st∧K2 A st) A st:=by
 unfold AD at h1 h2 ⊢
 split
 · rename_i hw
   rw[if_pos hw,if_pos hfr] at h1 h2
   obtain⟨d,a1,b1⟩:=h1
   obtain⟨d',a2,b2⟩:=h2
   rw[a1] at a2
   cases a2
   exact⟨d,a1,b1,b2⟩
 · rename_i hw
   rw[if_neg hw] at h1 h2
   exact⟨h1,h2⟩
def BD:List Oper→Nat→Nat→List Oper
|[],_,_=>[]
|o::l,0,j=>{o with after:=o.after.push ⟨j,.data⟩}::l
|o::l,i+1,j=>o::BD l i j
theorem FV:∀(l:List Oper) (i j k:Nat),(BD l i j)[k]?=if k=i then(l[k]?).map (fun o=>{o with after:=o.after.push ⟨j,.data⟩}) else l[k]?
|[],i,j,k=>by simp[BD]
|o::l,0,j,k=>by cases k<;>simp[BD]
|o::l,i+1,j,k=>by
  cases k with
  | zero=>simp[BD]
  | succ k=>simp[BD,FV l i j k]
theorem EP:∀(l:List Oper) (i j:Nat),(BD l i j).length=l.length
|[],_,_=>rfl
|_::_,0,_=>rfl
|_::l,i+1,j=>by simp[BD,EP l i j]
theorem Db{l:List Oper}{x y i:Nat}{o:Oper}(h:l[i]?=some o):∃o1,(BD l x y)[i]?=some o1∧SameOp o1 o:=by
 rw[FV,h]
 split
 · exact⟨_,rfl,⟨rfl,rfl,rfl,rfl,rfl⟩⟩
 · exact⟨_,rfl,.refl _⟩
theorem BN(l:List Oper)(x y j:Nat):((BD l x y).toArray[j]?).bind (fun o:Oper=>o.dst)=(l.toArray[j]?).bind (fun o:Oper=>o.dst):=by
 simp only[List.getElem?_toArray,FV]
 split
 · cases l[j]?<;>rfl
 · rfl
theorem AI{l:List Oper}{x y i:Nat}{listed:Array Bool}:i∈Region.ready .any (BD l x y).toArray listed↔i∈Region.ready .any l.toArray listed∧(i=x→listed.getD y false=true):=by
 rw[mem_ready,mem_ready]
 simp only[List.getElem?_toArray,FV]
 constructor
 · rintro⟨h1,o,ho,h2⟩
   split at ho
   · rename_i hix
     cases hl:l[i]? with
     | none=>rw[hl] at ho;cases ho
     | some o' =>
      rw[hl] at ho
      cases ho
      exact⟨⟨h1,o',rfl,fun e he hb=>h2 e (by simp[he]) hb⟩,fun _=>h2 ⟨y,.data⟩ (by simp) rfl⟩
   · rename_i hix
     exact⟨⟨h1,o,ho,h2⟩,fun e=>absurd e hix⟩
 · rintro⟨⟨h1,o,ho,h2⟩,h3⟩
   refine⟨h1,?_⟩
   split
   · rename_i hix
     rw[ho]
     refine⟨_,rfl,fun e he hb=>?_⟩
     rcases Array.mem_push.1 he with h|h
     · exact h2 e h hb
     · subst h;exact h3 hix
   · exact⟨o,ho,h2⟩
theorem Ci{l:List Oper}{x y i:Nat}(hl:Ai (BD l x y).toArray=true→Ai l.toArray=true)(h:(decide (i+1=(BD l x y).toArray.size) && Ai (BD l x y).toArray)=true):(decide (i+1=l.toArray.size) && Ai l.toArray)=true:=by
 simp only[Bool.and_eq_true,decide_eq_true_eq,List.size_toArray,EP] at h ⊢
 exact⟨h.1,hl h.2⟩
theorem DW{l:List Oper}{x y:Nat}{Q:AA→St→Prop}(hl:Ai (BD l x y).toArray=true→Ai l.toArray=true):∀(fuel:Nat) (listed:Array Bool) (A:AA) (st:St),listed.getD y false=true →
 AJ P r ro .any (BD l x y).toArray Q fuel listed A st→AJ P r ro .any l.toArray Q fuel listed A st
|0,listed,A,st,hy,h=>by
  refine⟨List.eq_nil_iff_forall_not_mem.2 fun i hi=>?_,h.2⟩
  have:=(AI (l:=l) (x:=x) (y:=y)).2 ⟨hi,fun _=>hy⟩
  rw[h.1] at this;cases this
|fuel+1,listed,A,st,hy,h=>by
  refine⟨fun h0=>h.1 (List.eq_nil_iff_forall_not_mem.2 fun i hi=>?_),fun i hi o ho=>?_⟩
  · have:=(AI.1 hi).1
    rw[h0] at this;cases this
  · obtain⟨o1,ho1,hs⟩:=Db (x:=x) (y:=y) (by simpa using ho)
    exact AW hs (BN l x y) (Ci hl) (fun A st=>DW hl fuel _ A st (getD_set_true hy)) (h.2 i (AI.2 ⟨hi,fun _=>hy⟩) o1 (by simpa using ho1))
theorem Fg{md:Region.Mode}{ops:Array Oper}{listed:Array Bool}{i:Nat}(h:i∈Region.ready md ops listed):(listed.setIfInBounds i true).getD i false=true:=by
 have h1:=(mem_ready.1 h).1
 rw[Array.getD_eq_getD_getElem?] at h1 ⊢
 rcases Nat.lt_or_ge i listed.size with h2|h2
 · rw[Array.getElem?_setIfInBounds_self_of_lt h2];rfl
 · rw[Array.getElem?_eq_none h2] at h1;cases h1
def Zl (l:List Oper)(a c:Nat):Bool:=(List.range l.length).all fun i=>i == a || i == c || match l[i]? with
|some o=>AO o || o.after.any (fun e=>Region.binds .any e && (e.on == a || e.on == c))
|none=>true
theorem Rz{l:List Oper}{a c:Nat}{Q:AA→St→Prop}(hac:a≠c)(hfree:Zl l a c=true)(hl1:Ai (BD l a c).toArray=true→Ai l.toArray=true)(hl2:Ai (BD l c a).toArray=true→Ai l.toArray=true):∀(fuel:Nat) (listed:Array Bool) (A:AA) (st:St),listed.getD a false=false→listed.getD c false=false →
 AJ P r ro .any (BD l a c).toArray Q fuel listed A st→AJ P r ro .any (BD l c a).toArray Q fuel listed A st→AJ P r ro .any l.toArray Q fuel listed A st
|0,listed,A,st,ha,hc,h1,h2=>by
  refine⟨List.eq_nil_iff_forall_not_mem.2 fun i hi=>?_,h1.2⟩
  by_cases hia:i=a
  · have:=(AI (l:=l) (x:=c) (y:=a)).2 ⟨hi,fun e=>absurd (hia.symm.trans e) hac⟩
    rw[h2.1] at this;cases this
  · have:=(AI (l:=l) (x:=a) (y:=c)).2 ⟨hi,fun e=>absurd e hia⟩
    rw[h1.1] at this;cases this
|fuel+1,listed,A,st,ha,hc,h1,h2=>by
  refine⟨fun h0=>h1.1 (List.eq_nil_iff_forall_not_mem.2 fun i hi=>?_),fun i hi o ho=>?_⟩
  · have:=(AI.1 hi).1
    rw[h0] at this;cases this
  · have ho':l[i]?=some o:=by simpa using ho
    obtain⟨o1,ho1,hs1⟩:=Db (x:=a) (y:=c) ho'
    obtain⟨o2,ho2,hs2⟩:=Db (x:=c) (y:=a) ho'
    by_cases hia:i=a
    · subst hia
      exact AW hs2 (BN l c i) (Ci hl2) (fun A st=>DW hl2 fuel _ A st (Fg hi)) (h2.2 i (AI.2 ⟨hi,fun e=>absurd e hac⟩) o2 (by simpa using ho2))
    · by_cases hic:i=c
      · subst hic
        exact AW hs1 (BN l a i) (Ci hl1) (fun A st=>DW hl1 fuel _ A st (Fg hi)) (h1.2 i (AI.2 ⟨hi,fun e=>absurd e hia⟩) o1 (by simpa using ho1))
      · have hfo : AO o = true := by
         have hlt:=(List.getElem?_eq_some_iff.1 ho').1
         have:=List.all_eq_true.1 hfree i (List.mem_range.2 hlt)
         rw[ho'] at this
         simp only[Bool.or_eq_true,beq_iff_eq,hia,hic,false_or,Array.any_eq_true,Bool.and_eq_true] at this
         rcases this with h|⟨q,hq,hb,he⟩
         · exact h
         · exfalso
           obtain⟨-,o',hoo,hall⟩:=mem_ready.1 hi
           rw[ho] at hoo
           cases hoo
           have:=hall _ (Array.getElem_mem hq) hb
           rcases he with he|he
           · rw[he,ha] at this;cases this
           · rw[he,hc] at this;cases this
        have k1:=AW (f':=(decide (i+1=l.toArray.size) && Ai l.toArray)) hs1 (BN l a c) (Ci hl1) (fun _ _ h=>h) (h1.2 i (AI.2 ⟨hi,fun e=>absurd e hia⟩) o1 (by simpa using ho1))
        have k2:=AW (f':=(decide (i+1=l.toArray.size) && Ai l.toArray)) hs2 (BN l c a) (Ci hl2) (fun _ _ h=>h) (h2.2 i (AI.2 ⟨hi,fun e=>absurd e hic⟩) o2 (by simpa using ho2))
        refine AW (.refl o) (fun _=>rfl) id (fun A st h=>?_) (Of hfo k1 k2)
        exact Rz hac hfree hl1 hl2 fuel _ A st (by rw[getD_set_ne false hia];exact ha) (by rw[getD_set_ne false hic];exact hc) h.1 h.2
def Gx (P:Program)(r:Option Nat)(ro:Ro)(ops:Array Oper)(Q:AA→St→Prop):List Nat→AA→St→Prop
|[],A,st=>Q A st
|k::ks,A,st=>∀o,ops[k]?=some o→AD P r ro (ks.isEmpty && Ai ops) ops o (Gx P r ro ops Q ks) A st
def Cv (ms:List Nat)(ops:Array Oper):List Nat→Array Bool→Bool
|[],listed=>(Region.ready .any ops listed).isEmpty
|k::ks,listed=>(Region.ready .any ops listed).contains k && FI ms ops listed k && (!ks.isEmpty || k+1 == ops.size) && Cv ms ops ks (listed.setIfInBounds k true)
theorem DG{ops:Array Oper}{ms:List Nat}(hms:MOk .any ops.toList ms)(hL:Fu ms ops){Q:AA→St→Prop}:∀(ks:List Nat) (listed:Array Bool) (A:AA) (st:St),AL ro st→DC .any ops listed →
 Cv ms ops ks listed=true→Gx P r ro ops Q ks A st→AJ P r ro .any ops Q ks.length listed A st
|[],_,_,_,_,_,hB,h=>⟨by simpa [Cv] using hB,h⟩
|k::ks,listed,A,st,hw,hdc,hB,h=>by
  simp only[Cv,Bool.and_eq_true] at hB
  obtain⟨⟨⟨hr,hf⟩,hlst⟩,hB'⟩:=hB
  have hr':k∈Region.ready .any ops listed:=by simpa using hr
  obtain⟨-,o,h0, -⟩:=mem_ready.1 hr'
  refine ER hms hL h0 ks.length listed A st hw hdc (Bx h0 hf) hr' ?_
  have h:=h o h0
  cases ks with
  | nil =>
   have hk:k+1=ops.size:=by simpa using hlst
   refine AW (.refl o) (fun _=>rfl) (f:=true && Ai ops) (fun q=>by rw[decide_eq_true hk];exact q) (fun A st hk=>?_) h
   exact⟨by simpa [Cv] using hB',hk⟩
  | cons k' ks =>
   refine AW (.refl o) (fun _=>rfl) (f:=false) (fun q=>by cases q) (fun _ _ h=>h) (Bs hw (fun v w' hc hk=>?_) h)
   exact DG hms hL (k'::ks) _ _ _ (hc.resolve_left (by simp)) (hdc.step hr') hB' hk
theorem CZ{l:List Oper}{ops:Array Oper}(hs:∀(i:Nat) (o:Oper),ops[i]?=some o→∃o',l[i]?=some o'∧SameOp o' o)(hd:∀j:Nat,(l.toArray[j]?).bind (fun o:Oper=>o.dst)=(ops[j]?).bind (fun o:Oper=>o.dst))(hl:Ai l.toArray=true→Ai ops=true){Q:AA→St→Prop}:∀(ks:List Nat) (A:AA) (st:St),(∀k∈ks,k<l.length) →
 BI P r ro l.toArray Q (ks.filterMap fun k=>l[k]?) A st→Gx P r ro ops Q ks A st
|[],A,st,_,h=>h
|k::ks,A,st,hk,h=>fun o ho=>by
  obtain⟨o',ho',hso⟩:=hs k o ho
  rw[List.filterMap_cons,ho'] at h
  have he:(ks.filterMap fun k=>l[k]?).isEmpty=true→ks.isEmpty=true:=fun h0=>by
   cases ks with
   | nil=>rfl
   | cons k' ks =>
    have hlt:=hk k' (by simp)
    rw[List.filterMap_cons,List.getElem?_eq_getElem hlt] at h0
    simp at h0
  refine AW hso hd (fun q=>?_) (fun A st=>CZ hs hd hl ks A st fun k' hk'=>hk k' (List.mem_cons_of_mem _ hk')) h
  rw[Bool.and_eq_true] at q ⊢
  exact⟨he q.1,hl q.2⟩
def ixs:Nat→Nat→Option Nat→List Nat
|0,_,_=>[]
|n+1,k,some 0=>ixs n (k+1) none
|n+1,k,some (a+1)=>k::ixs n (k+1) (some a)
|n+1,k,none=>k::ixs n (k+1) none
theorem JJ{α:Type}:∀(l pre:List α),(ixs l.length pre.length none).filterMap (fun k=>(pre++l)[k]?)=l
|[],pre=>rfl
|x::l,pre=>by
  have h:=JJ l (pre++[x])
  simp only[List.length_append,List.length_cons,List.length_nil,List.append_assoc,List.cons_append,List.nil_append] at h
  simp only[List.length_cons,ixs,List.filterMap_cons]
  rw[List.getElem?_append_right (Nat.le_refl _),Nat.sub_self,List.getElem?_cons_zero]
  dsimp only
  rw[h]
theorem Om{α:Type}:∀(l pre:List α) (a:Nat),(ixs l.length pre.length (some a)).filterMap (fun k=>(pre++l)[k]?)=l.eraseIdx a
|[],pre,a=>by cases a<;>rfl
|x::l,pre,0=>by
  have h:=JJ l (pre++[x])
  simp only[List.length_append,List.length_cons,List.length_nil,List.append_assoc,List.cons_append,List.nil_append] at h
  simp only[List.length_cons,ixs,List.eraseIdx_cons_zero]
  exact h
|x::l,pre,a+1=>by
  have h:=Om l (pre++[x]) a
  simp only[List.length_append,List.length_cons,List.length_nil,List.append_assoc,List.cons_append,List.nil_append] at h
  simp only[List.length_cons,ixs,List.filterMap_cons,List.eraseIdx_cons_succ]
  rw[List.getElem?_append_right (Nat.le_refl _),Nat.sub_self,List.getElem?_cons_zero]
  dsimp only
  rw[h]
theorem JK:∀(n k:Nat) (a:Option Nat),∀i∈ixs n k a,i<k+n
|0,_,_,_,h=>by cases h
|n+1,k,some 0,i,h=>by have:=JK n (k+1) none i h;omega
|n+1,k,some (a+1),i,h=>by
  rcases List.mem_cons.1 h with rfl|h
  · omega
  · have:=JK n (k+1) (some a) i h;omega
|n+1,k,none,i,h=>by
  rcases List.mem_cons.1 h with rfl|h
  · omega
  · have:=JK n (k+1) none i h;omega
def ZB (l:List Oper)(a c:Nat):Bool :=
 a != c && Zl l a c && decide (a<l.length) && (Ai (BD l a c).toArray == Ai l.toArray) && (Ai (BD l c a).toArray == Ai l.toArray) &&
 Cv (BE .any (BD l a c) []) (BD l a c).toArray (ixs l.length 0 none) (Array.replicate l.length false) &&
 Cv (BE .any (BD l c a) []) (BD l c a).toArray (a::ixs l.length 0 (some a)) (Array.replicate l.length false)
theorem MB:∀(n k:Nat),(ixs n k none).length=n
|0,_=>rfl
|n+1,k=>by simp[ixs,MB n]
theorem Oo:∀(n k a:Nat),a<n→(ixs n k (some a)).length+1=n
|0,_,_,h=>by omega
|n+1,k,0,_=>by simp[ixs,MB]
|n+1,k,a+1,h=>by simp[ixs,Oo n (k+1) a q_o]
theorem Uv{N:Nat}{id:Nat}{l t:List Oper}{o:Oper}{A:AA}{Q:Exit→AA→St→Prop}(ro:Ro)(a c:Nat)(hm:P.follows .mixedOrders=true)(hB:ZB l a c=true)(hok:CP N l=true)(hC:AL ro st)
 (ha:l[a]?=some o)(ht:l.eraseIdx a=t)(h1:BI P r ro l.toArray (Q .normal) l A st)(h2:BI P r ro l.toArray (Q .normal) (o::t) A st):Tr P N r (.region id l.toArray true) A st Q:=by
 intro ac w hr hh
 subst ht
 simp only[ZB,Bool.and_eq_true,bne_iff_ne,ne_eq,beq_iff_eq,decide_eq_true_eq] at hB
 obtain⟨⟨⟨⟨⟨⟨hac,hfree⟩,halt⟩,hl1⟩,hl2⟩,hB1⟩,hB2⟩:=hB
 have hok':∀(i:Nat) (o:Oper),l.toArray[i]?=some o→EM N o.dst=true∧Cw N l.toArray o=true:=fun i o ho=>by
  have:=List.all_eq_true.1 hok o (by simp at ho;exact List.mem_of_getElem? ho)
  simpa using this
 have he:=Ext.drew (OwnS st) w
 have lw:∀(l:List Oper),Fu (BE .any l []) l.toArray:=fun l h j i hj hi hne=>by
  unfold Ai at h
  have:=List.all_eq_true.1 h i (List.mem_range.2 q_o)
  rw[show l.toArray.size - 1=j by omega] at this
  exact this
 have mk:∀(l:List Oper),MOk .any l.toArray.toList (BE .any l []):=fun l=>Df (md:=.any) l l [] (by simp) (fun k i h=>by simp at h)
 have dc:∀(l':List Oper) (n:Nat),DC .any l'.toArray (Array.replicate n false):=fun l' n k o _ hl=>absurd hl (by rw[DU];exact Bool.false_ne_true)
 have hs:∀x y,∀(i:Nat) (o:Oper),(BD l x y).toArray[i]?=some o→∃o',l[i]?=some o'∧SameOp o' o:=fun x y i o ho=>by
  have hi:i<l.length:=by
   have:=(Array.getElem?_eq_some_iff.1 ho).1
   simpa [EP] using this
  obtain⟨o1,ho1,hso⟩:=Db (x:=x) (y:=y) (List.getElem?_eq_getElem hi)
  rw[List.getElem?_toArray,ho1] at ho
  cases ho
  exact⟨_,List.getElem?_eq_getElem hi,hso.symm⟩
 have n1:=DG (P:=P) (r:=r) (ro:=ro) (mk (BD l a c)) (lw (BD l a c)) (Q:=Q .normal) (ixs l.length 0 none) (Array.replicate l.length false) A st hC (dc _ _) hB1
  (CZ (hs a c) (fun j=>(BN l a c j).symm) (fun h=>by rw[hl1];exact h) _ A st (fun k hk=>by have:=JK _ _ _ k hk;omega) (by have:=JJ l [];simp only[List.length_nil,List.nil_append] at this;rw[this];exact h1))
 have n2:=DG (P:=P) (r:=r) (ro:=ro) (mk (BD l c a)) (lw (BD l c a)) (Q:=Q .normal) (a::ixs l.length 0 (some a)) (Array.replicate l.length false) A st hC (dc _ _) hB2
  (CZ (hs c a) (fun j=>(BN l c a j).symm) (fun h=>by rw[hl2];exact h) _ A st (fun k hk=>by
   rcases List.mem_cons.1 hk with rfl|hk
   · exact halt
   · have:=JK _ _ _ k hk;omega) (by have:=Om l [] a;simp only[List.length_nil,List.nil_append] at this;rw[List.filterMap_cons,ha];dsimp only;rw[this];exact h2))
 rw[MB] at n1
 rw[List.length_cons,Oo _ _ _ halt] at n2
 have hany:=Rz (P:=P) (r:=r) (ro:=ro) hac hfree (fun h=>by rw[←hl1];exact h) (fun h=>by rw[←hl2];exact h) l.length (Array.replicate l.length false) A st (DU _ _) (DU _ _) n1 n2
 refine wpIn_region_any hm ?_
 have hsz:l.toArray.size=l.length:=by simp
 rw[hsz]
 exact BP (mk l) (lw l) hok' _ _ A st ac w.drew _ (.inl hC) (dc _ _) (hr.ext he) (hh.drewN 1) hany fun A' st' a' w' q1 q2 q3 q5=>⟨A',st',q1,q2,he.trans q3,q5⟩
theorem IP{N:Nat}{id:Nat}{l t:List Oper}{o:Oper}{A:AA}{Q:Exit→AA→St→Prop}(ro:Ro)(a c:Nat)(hm:P.follows .mixedOrders=true)(hB:ZB l a c=true)(hok:CP N l=true)(hC:AL ro st)
 (ha:l[a]?=some o)(ht:l.eraseIdx a=t)(h1:W P r (some ro) l.toArray (Q .normal) l A st)(h2:W P r (some ro) l.toArray (Q .normal) (o::t) A st):Tr P N r (.region id l.toArray true) A st Q:=Uv ro a c hm hB hok hC ha ht h1 h2
end
end
end Go.Proofs.YtoeidpmjifjplaaGreat
