/- Texts put together. No statement is proved here. -/
import Derived.Test.YtoeidpmjifjplaaGreatProg
import Derived.RangeFuncSeq
import Derived.Test.YtoeidpmjifjplaaGreatZ3
set_option linter.all false
set_option maxRecDepth 10000
set_option maxHeartbeats 8000000
namespace Go.Proofs.YtoeidpmjifjplaaGreat
open Go.RowKit Tryz
section
set_option maxRecDepth 100000
theorem ti2:Bt prog 2=some ⟨false,1,[Go.Value.int Go.IntKind.i64 0],.int Go.IntKind.i64⟩:=by kernel_rfl
theorem ti3:Bt prog 3=some ⟨false,1,[Go.Value.int Go.IntKind.i64 0],.int Go.IntKind.i64⟩:=by kernel_rfl
theorem ti4:Bt prog 4=some ⟨false,1,[Go.Value.bool false],.bool⟩:=by kernel_rfl
theorem ti5:Bt prog 5=some ⟨false,1,[Go.Value.int Go.IntKind.u8 0],.int Go.IntKind.u8⟩:=by kernel_rfl
theorem ti9:Bt prog 9=some ⟨false,1,[Go.Value.string ⟨#[]⟩],.string⟩:=by kernel_rfl
theorem m6:Bt prog 22=some ⟨false,1,[Go.Value.slice none 0 0],.slice 136 3 64 [Go.Value.string ⟨#[]⟩,Go.Value.slice none 0 0,Go.Value.slice none 0 0]⟩:=by kernel_rfl
theorem m5:Bt prog 23=some ⟨false,1,[Go.Value.slice none 0 0],.slice 34 4 72 [Go.Value.string ⟨#[]⟩,Go.Value.int Go.IntKind.i64 0,Go.Value.slice none 0 0,Go.Value.slice none 0 0]⟩:=by kernel_rfl
theorem mZ:Bt prog 24=some ⟨false,1,[Go.Value.slice none 0 0],.slice 43 5 56 [Go.Value.int Go.IntKind.i64 0,Go.Value.int Go.IntKind.i64 0,Go.Value.int Go.IntKind.i64 0,Go.Value.int Go.IntKind.i64 0,Go.Value.slice none 0 0]⟩:=by kernel_rfl
theorem mY:Bt prog 25=some ⟨false,1,[Go.Value.slice none 0 0],.slice 30 4 56 [Go.Value.int Go.IntKind.i64 0,Go.Value.int Go.IntKind.i64 0,Go.Value.string ⟨#[]⟩,Go.Value.slice none 0 0]⟩:=by kernel_rfl
theorem mX:Bt prog 30=some ⟨true,4,[Go.Value.int Go.IntKind.i64 0,Go.Value.int Go.IntKind.i64 0,Go.Value.string ⟨#[]⟩,Go.Value.slice none 0 0],.struct [(0,1,false),(1,1,false),(2,1,false),(3,1,false)]⟩:=by kernel_rfl
theorem mW:Bt prog 31=some ⟨false,1,[Go.Value.slice none 0 0],.slice 39 3 40 [Go.Value.int Go.IntKind.i64 0,Go.Value.bool false,Go.Value.slice none 0 0]⟩:=by kernel_rfl
theorem mV:Bt prog 32=some ⟨false,1,[Go.Value.slice none 0 0],.slice 139 5 56 [Go.Value.int Go.IntKind.i64 0,Go.Value.int Go.IntKind.i64 0,Go.Value.int Go.IntKind.i64 0,Go.Value.int Go.IntKind.i64 0,Go.Value.slice none 0 0]⟩:=by kernel_rfl
theorem mU:Bt prog 34=some ⟨true,4,[Go.Value.string ⟨#[]⟩,Go.Value.int Go.IntKind.i64 0,Go.Value.slice none 0 0,Go.Value.slice none 0 0],.struct [(0,1,false),(1,1,false),(2,1,false),(3,1,false)]⟩:=by kernel_rfl
theorem mS:Bt prog 37=some ⟨false,1,[Go.Value.slice none 0 0],.slice 76 7 80 [Go.Value.int Go.IntKind.i64 0,Go.Value.int Go.IntKind.i64 0,Go.Value.int Go.IntKind.i64 0,Go.Value.int Go.IntKind.i64 0,Go.Value.int Go.IntKind.i64 0,Go.Value.string ⟨#[]⟩,Go.Value.slice none 0 0]⟩:=by kernel_rfl
theorem mR:Bt prog 39=some ⟨true,3,[Go.Value.int Go.IntKind.i64 0,Go.Value.bool false,Go.Value.slice none 0 0],.struct [(0,1,false),(1,1,false),(2,1,false)]⟩:=by kernel_rfl
theorem mQ:Bt prog 41=some ⟨true,2,[Go.Value.int Go.IntKind.i64 0,Go.Value.slice none 0 0],.struct [(0,1,false),(1,1,false)]⟩:=by kernel_rfl
theorem mP:Bt prog 43=some ⟨true,5,[Go.Value.int Go.IntKind.i64 0,Go.Value.int Go.IntKind.i64 0,Go.Value.int Go.IntKind.i64 0,Go.Value.int Go.IntKind.i64 0,Go.Value.slice none 0 0],.struct [(0,1,false),(1,1,false),(2,1,false),(3,2,true)]⟩:=by kernel_rfl
theorem mO:Bt prog 48=some ⟨false,1,[Go.Value.slice none 0 0],.slice 52 2 32 [Go.Value.int Go.IntKind.i64 0,Go.Value.slice none 0 0]⟩:=by kernel_rfl
theorem mN:Bt prog 50=some ⟨false,1,[Go.Value.slice none 0 0],.slice 3 1 8 [Go.Value.int Go.IntKind.i64 0]⟩:=by kernel_rfl
theorem mM:Bt prog 52=some ⟨true,2,[Go.Value.int Go.IntKind.i64 0,Go.Value.slice none 0 0],.struct [(0,1,false),(1,1,false)]⟩:=by kernel_rfl
theorem mL:Bt prog 58=some ⟨false,1,[Go.Value.slice none 0 0],.slice 66 7 72 [Go.Value.int Go.IntKind.i64 0,Go.Value.int Go.IntKind.i64 0,Go.Value.int Go.IntKind.i64 0,Go.Value.int Go.IntKind.i64 0,Go.Value.int Go.IntKind.i64 0,Go.Value.int Go.IntKind.i64 0,Go.Value.slice none 0 0]⟩:=by kernel_rfl
theorem mK:Bt prog 60=some ⟨false,1,[Go.Value.pointer none],.pointer⟩:=by kernel_rfl
theorem mJ:Bt prog 64=some ⟨true,2,[Go.Value.slice none 0 0,Go.Value.slice none 0 0],.struct [(0,1,false),(1,1,false)]⟩:=by kernel_rfl
theorem mI:Bt prog 66=some ⟨true,7,[Go.Value.int Go.IntKind.i64 0,Go.Value.int Go.IntKind.i64 0,Go.Value.int Go.IntKind.i64 0,Go.Value.int Go.IntKind.i64 0,Go.Value.int Go.IntKind.i64 0,Go.Value.int Go.IntKind.i64 0,Go.Value.slice none 0 0],.struct [(0,1,false),(1,1,false),(2,5,true)]⟩:=by kernel_rfl
theorem mH:Bt prog 76=some ⟨true,7,[Go.Value.int Go.IntKind.i64 0,Go.Value.int Go.IntKind.i64 0,Go.Value.int Go.IntKind.i64 0,Go.Value.int Go.IntKind.i64 0,Go.Value.int Go.IntKind.i64 0,Go.Value.string ⟨#[]⟩,Go.Value.slice none 0 0],.struct [(0,1,false),(1,1,false),(2,1,false),(3,4,true)]⟩:=by kernel_rfl
theorem mG:Bt prog 81=some ⟨false,1,[Go.Value.slice none 0 0],.slice 184 7 88 [Go.Value.string ⟨#[]⟩,Go.Value.int Go.IntKind.i64 0,Go.Value.bool false,Go.Value.int Go.IntKind.i64 0,Go.Value.int Go.IntKind.i64 0,Go.Value.string ⟨#[]⟩,Go.Value.slice none 0 0]⟩:=by kernel_rfl
theorem mF:Bt prog 95=some ⟨false,1,[Go.Value.slice none 0 0],.slice 50 1 24 [Go.Value.slice none 0 0]⟩:=by kernel_rfl
theorem kj:Bt prog 100=some ⟨false,1,[Go.Value.slice none 0 0],.slice 106 1 8 [Go.Value.pointer none]⟩:=by kernel_rfl
theorem Kg:Bt prog 101=some ⟨false,1,[Go.Value.map none],.other⟩:=by kernel_rfl
theorem ki:Bt prog 103=some ⟨true,3,[Go.Value.map none,Go.Value.slice none 0 0,Go.Value.slice none 0 0],.struct [(0,1,false),(1,1,false),(2,1,false)]⟩:=by kernel_rfl
theorem kg:Bt prog 105=some ⟨true,4,[Go.Value.slice none 0 0,Go.Value.map none,Go.Value.slice none 0 0,Go.Value.slice none 0 0],.struct [(0,1,false),(1,3,true)]⟩:=by kernel_rfl
theorem kf:Bt prog 106=some ⟨false,1,[Go.Value.pointer none],.pointer⟩:=by kernel_rfl
theorem ke:Bt prog 107=some ⟨false,1,[Go.Value.slice none 0 0],.slice 115 9 152 [Go.Value.int Go.IntKind.i64 0,Go.Value.bool false,Go.Value.slice none 0 0,Go.Value.map none,Go.Value.slice none 0 0,Go.Value.slice none 0 0,Go.Value.map none,Go.Value.slice none 0 0,Go.Value.slice none 0 0]⟩:=by kernel_rfl
theorem ka:Bt prog 109=some ⟨true,1,[Go.Value.slice none 0 0],.struct [(0,1,false)]⟩:=by kernel_rfl
theorem Kf:Bt prog 110=some ⟨false,1,[Go.Value.map none],.other⟩:=by kernel_rfl
theorem j9:Bt prog 111=some ⟨false,1,[Go.Value.slice none 0 0],.slice 117 1 8 [Go.Value.pointer none]⟩:=by kernel_rfl
theorem j8:Bt prog 113=some ⟨true,3,[Go.Value.map none,Go.Value.slice none 0 0,Go.Value.slice none 0 0],.struct [(0,1,false),(1,1,false),(2,1,false)]⟩:=by kernel_rfl
theorem j7:Bt prog 115=some ⟨true,9,[Go.Value.int Go.IntKind.i64 0,Go.Value.bool false,Go.Value.slice none 0 0,Go.Value.map none,Go.Value.slice none 0 0,Go.Value.slice none 0 0,Go.Value.map none,Go.Value.slice none 0 0,Go.Value.slice none 0 0],.struct [(0,3,true),(3,3,true),(6,3,true)]⟩:=by kernel_rfl
theorem j6:Bt prog 117=some ⟨false,1,[Go.Value.pointer none],.pointer⟩:=by kernel_rfl
theorem j5:Bt prog 119=some ⟨true,8,[Go.Value.pointer none,Go.Value.int Go.IntKind.i64 0,Go.Value.int Go.IntKind.i64 0,Go.Value.slice none 0 0,Go.Value.map none,Go.Value.slice none 0 0,Go.Value.slice none 0 0,Go.Value.int Go.IntKind.i64 0],.struct [(0,1,false),(1,1,false),(2,1,false),(3,1,false),(4,3,true),(7,1,false)]⟩:=by kernel_rfl
theorem j4:Bt prog 134=some ⟨false,1,[Go.Value.slice none 0 0],.slice 186 10 128 [Go.Value.int Go.IntKind.i64 0,Go.Value.int Go.IntKind.i64 0,Go.Value.string ⟨#[]⟩,Go.Value.int Go.IntKind.i64 0,Go.Value.bool false,Go.Value.int Go.IntKind.i64 0,Go.Value.int Go.IntKind.i64 0,Go.Value.string ⟨#[]⟩,Go.Value.slice none 0 0,Go.Value.slice none 0 0]⟩:=by kernel_rfl
theorem j3:Bt prog 136=some ⟨true,3,[Go.Value.string ⟨#[]⟩,Go.Value.slice none 0 0,Go.Value.slice none 0 0],.struct [(0,1,false),(1,1,false),(2,1,false)]⟩:=by kernel_rfl
theorem j2:Bt prog 137=some ⟨false,1,[Go.Value.slice none 0 0],.slice 141 6 72 [Go.Value.bool false,Go.Value.int Go.IntKind.i64 0,Go.Value.int Go.IntKind.i64 0,Go.Value.int Go.IntKind.i64 0,Go.Value.string ⟨#[]⟩,Go.Value.slice none 0 0]⟩:=by kernel_rfl
theorem j1:Bt prog 139=some ⟨true,5,[Go.Value.int Go.IntKind.i64 0,Go.Value.int Go.IntKind.i64 0,Go.Value.int Go.IntKind.i64 0,Go.Value.int Go.IntKind.i64 0,Go.Value.slice none 0 0],.struct [(0,1,false),(1,1,false),(2,1,false),(3,1,false),(4,1,false)]⟩:=by kernel_rfl
theorem j0:Bt prog 141=some ⟨true,6,[Go.Value.bool false,Go.Value.int Go.IntKind.i64 0,Go.Value.int Go.IntKind.i64 0,Go.Value.int Go.IntKind.i64 0,Go.Value.string ⟨#[]⟩,Go.Value.slice none 0 0],.struct [(0,1,false),(1,1,false),(2,4,true)]⟩:=by kernel_rfl
theorem jZ:Bt prog 146=some ⟨true,2,[Go.Value.slice none 0 0,Go.Value.slice none 0 0],.struct [(0,1,false),(1,1,false)]⟩:=by kernel_rfl
theorem jY:Bt prog 164=some ⟨false,1,[Go.Value.pointer none],.pointer⟩:=by kernel_rfl
theorem jX:Bt prog 184=some ⟨true,7,[Go.Value.string ⟨#[]⟩,Go.Value.int Go.IntKind.i64 0,Go.Value.bool false,Go.Value.int Go.IntKind.i64 0,Go.Value.int Go.IntKind.i64 0,Go.Value.string ⟨#[]⟩,Go.Value.slice none 0 0],.struct [(0,1,false),(1,1,false),(2,1,false),(3,4,true)]⟩:=by kernel_rfl
theorem jW:Bt prog 186=some ⟨true,10,[Go.Value.int Go.IntKind.i64 0,Go.Value.int Go.IntKind.i64 0,Go.Value.string ⟨#[]⟩,Go.Value.int Go.IntKind.i64 0,Go.Value.bool false,Go.Value.int Go.IntKind.i64 0,Go.Value.int Go.IntKind.i64 0,Go.Value.string ⟨#[]⟩,Go.Value.slice none 0 0,Go.Value.slice none 0 0],.struct [(0,1,false),(1,1,false),(2,7,true),(9,1,false)]⟩:=by kernel_rfl
theorem jV:Bt prog 189=some ⟨false,1,[Go.Value.pointer none],.pointer⟩:=by kernel_rfl
theorem jU:Bt prog 192=some ⟨true,6,[Go.Value.slice none 0 0,Go.Value.string ⟨#[]⟩,Go.Value.int Go.IntKind.i64 0,Go.Value.slice none 0 0,Go.Value.slice none 0 0,Go.Value.map none],.struct [(0,1,false),(1,4,true),(5,1,false)]⟩:=by kernel_rfl
theorem jT:Bt prog 232=some ⟨true,6,[Go.Value.nilFunc,Go.Value.nilFunc,Go.Value.nilFunc,Go.Value.nilFunc,Go.Value.nilFunc,Go.Value.nilFunc],.array 6 1 false⟩:=by kernel_rfl
theorem jS:Bt prog 238=some ⟨false,1,[Go.Value.slice none 0 0],.slice 5 1 1 [Go.Value.int Go.IntKind.u8 0]⟩:=by kernel_rfl
attribute [push_cast] ti2 ti3 ti4 ti5 ti9 m6 m5 mZ mY mX mW mV mU mS mR mQ mP mO mN mM mL mK mJ mI mH mG mF kj ki kg kf ke ka j9 j8 j7 j6 j5 j4 j3 j2 j1 j0 jZ jY jX jW jV jU jT jS
abbrev CT:=CE prog
instance : CT 10:=⟨call10⟩
instance : CT 16:=⟨call16⟩
instance : CT 17:=⟨call17⟩
instance : CT 18:=⟨call18⟩
instance : CT 19:=⟨call19⟩
instance : CT 20:=⟨call20⟩
instance : CT 21:=⟨call21⟩
instance : CT 24:=⟨call24⟩
instance : CT 26:=⟨call26⟩
instance : CT 28:=⟨call28⟩
instance : CT 30:=⟨call30⟩
instance : CT 31:=⟨call31⟩
instance : CT 32:=⟨call32⟩
instance : CT 33:=⟨call33⟩
instance : CT 34:=⟨call34⟩
instance : CT 35:=⟨call35⟩
instance : CT 36:=⟨call36⟩
instance : CT 37:=⟨call37⟩
instance : CT 38:=⟨call38⟩
instance : CT 40:=⟨call40⟩
instance : CT 41:=⟨call41⟩
instance : CT 43:=⟨call43⟩
instance : CT 44:=⟨call44⟩
instance : CT 45:=⟨call45⟩
instance : CT 46:=⟨call46⟩
instance : CT 47:=⟨call47⟩
instance : CT 48:=⟨call48⟩
instance : CT 49:=⟨call49⟩
instance : CT 50:=⟨call50⟩
instance : CT 51:=⟨call51⟩
instance : CT 52:=⟨call52⟩
instance : CT 53:=⟨call53⟩
instance : CT 54:=⟨call54⟩
instance : CT 55:=⟨call55⟩
instance : CT 57:=⟨call57⟩
instance : CT 59:=⟨call59⟩
instance : CT 61:=⟨call61⟩
instance : CT 62:=⟨call62⟩
instance : CT 63:=⟨call63⟩
instance : CT 64:=⟨call64⟩
instance : CT 65:=⟨call65⟩
instance : CT 66:=⟨call66⟩
instance : CT 67:=⟨call67⟩
instance : CT 68:=⟨call68⟩
instance : CT 69:=⟨call69⟩
instance : CT 70:=⟨call70⟩
instance : CT 71:=⟨call71⟩
instance : CT 72:=⟨call72⟩
instance : CT 73:=⟨call73⟩
instance : CT 74:=⟨call74⟩
instance : CT 75:=⟨call75⟩
instance : CT 76:=⟨call76⟩
instance : CT 77:=⟨call77⟩
instance : CT 78:=⟨call78⟩
instance : CT 79:=⟨call79⟩
instance : CT 80:=⟨call80⟩
instance : CT 81:=⟨call81⟩
instance : CT 82:=⟨call82⟩
instance : CT 83:=⟨call83⟩
instance : CT 84:=⟨call84⟩
instance : CT 85:=⟨call85⟩
instance : CT 86:=⟨call86⟩
instance : CT 89:=⟨call89⟩
instance : CT 94:=⟨call94⟩
instance : CT 95:=⟨call95⟩
instance : CT 96:=⟨call96⟩
instance : CT 97:=⟨call97⟩
instance : CT 98:=⟨call98⟩
instance : CT 99:=⟨call99⟩
instance : CT 100:=⟨call100⟩
instance : CT 102:=⟨call102⟩
instance : CT 104:=⟨call104⟩
instance : CT 105:=⟨call105⟩
instance : CT 106:=⟨call106⟩
instance : CT 107:=⟨call107⟩
instance : CT 108:=⟨call108⟩
instance : CT 109:=⟨call109⟩
instance : CT 110:=⟨call110⟩
instance : CT 111:=⟨call111⟩
instance : CT 112:=⟨call112⟩
instance : CT 113:=⟨call113⟩
instance : CT 114:=⟨call114⟩
instance : CT 115:=⟨call115⟩
instance : CT 116:=⟨call116⟩
instance : CT 117:=⟨call117⟩
instance : CT 118:=⟨call118⟩
instance : CT 119:=⟨call119⟩
instance : CT 120:=⟨call120⟩
instance : CT 121:=⟨call121⟩
instance : CT 122:=⟨call122⟩
instance : CT 123:=⟨call123⟩
instance : CT 124:=⟨call124⟩
instance : CT 125:=⟨call125⟩
instance : CT 126:=⟨call126⟩
instance : CT 127:=⟨call127⟩
instance : CT 139:=⟨call139⟩
instance : CT 140:=⟨call140⟩
instance : CT 141:=⟨call141⟩
instance : CT 142:=⟨call142⟩
instance : CT 143:=⟨call143⟩
instance : CT 144:=⟨call144⟩
instance : CT 146:=⟨call146⟩
instance : CT 147:=⟨call147⟩
instance : CT 148:=⟨call148⟩
instance : CT 149:=⟨call149⟩
instance : CT 150:=⟨call150⟩
instance : CT 151:=⟨call151⟩
instance : CT 152:=⟨call152⟩
instance : CT 153:=⟨call153⟩
instance : CT 154:=⟨call154⟩
instance : CT 155:=⟨call155⟩
instance : CT 156:=⟨call156⟩
instance : CT 157:=⟨call157⟩
instance : CT 158:=⟨call158⟩
instance : CT 159:=⟨call159⟩
instance : CT 160:=⟨call160⟩
instance : CT 161:=⟨call161⟩
instance : CT 162:=⟨call162⟩
instance : CT 163:=⟨call163⟩
instance : CT 164:=⟨call164⟩
instance : CT 165:=⟨call165⟩
instance : CT 166:=⟨call166⟩
instance : CT 180:=⟨call180⟩
instance : CT 181:=⟨call181⟩
instance : CT 182:=⟨call182⟩
instance : CT 183:=⟨call183⟩
instance : CT 184:=⟨call184⟩
instance : CT 185:=⟨call185⟩
instance : CT 186:=⟨call186⟩
instance : CT 187:=⟨call187⟩
instance : CT 188:=⟨call188⟩
instance : CT 189:=⟨call189⟩
instance : CT 190:=⟨call190⟩
instance : CT 191:=⟨call191⟩
instance : CT 192:=⟨call192⟩
instance : CT 193:=⟨call193⟩
instance : CT 198:=⟨call198⟩
instance : CT 199:=⟨call199⟩
instance : CT 200:=⟨call200⟩
instance : CT 201:=⟨call201⟩
instance : CT 202:=⟨call202⟩
instance : CT 203:=⟨call203⟩
instance : CT 204:=⟨call204⟩
instance : CT 205:=⟨call205⟩
instance : CT 206:=⟨call206⟩
instance : CT 208:=⟨call208⟩
instance : CT 210:=⟨call210⟩
instance : CT 211:=⟨call211⟩
instance : CT 212:=⟨call212⟩
instance : CT 213:=⟨call213⟩
instance : CT 214:=⟨call214⟩
instance : CT 215:=⟨call215⟩
instance : CT 216:=⟨call216⟩
instance : CT 217:=⟨call217⟩
instance : CT 218:=⟨call218⟩
instance : CT 219:=⟨call219⟩
instance : CT 220:=⟨call220⟩
instance : CT 221:=⟨call221⟩
end
section
open Go.RowKit Go.ChangeShapes
inductive V where
|mk (k n:Int)(s:ByteArray)(l:List V)
namespace V
mutual
def cells:V->List D
|.mk k n s l=>[.i k,.i n,.str s,.sl .shared (TA l)]
def TA:List V->List (List D)
|[]=>[]
|x::l=>x.cells::TA l
end
theorem PY:∀l:List V,TA l=l.map cells
|[]=>rfl
|x::l=>by rw[TA,PY l];rfl
theorem cells_mk(k n:Int)(s:ByteArray)(l:List V):(V.mk k n s l).cells=[.i k,.i n,.str s,.sl .shared (l.map cells)]:=by rw[cells,PY]
theorem cells_len(v:V):v.cells.length=4:=by cases v;rw[cells_mk];rfl
theorem cells_take(v:V):v.cells.take 4=v.cells:=Bj (by rw[cells_len];omega)
theorem cells_leaf(v:V):∀d∈v.cells,d.leaf=true:=by
 cases v
 rw[cells_mk]
 intro d hd
 simp only[Ax,AP,or_false]at hd
 rcases hd with rfl|rfl|rfl|rfl<;>rfl
mutual
def nodes:V->Nat
|.mk _ _ _ l=>1+Ea l
def Ea:List V->Nat
|[]=>0
|x::l=>x.nodes+Ea l
end
mutual
def deep:V->Nat
|.mk k _ _ l=>if k=5\/l≠[]then LL l+1 else 0
def LL:List V->Nat
|[]=>0
|x::l=>max x.deep (LL l)
end
theorem nodes_pos(v:V):0<v.nodes:=by cases v;rw[nodes];omega
theorem Hd{x:V}:∀{l:List V},x∈l->x.nodes<=Ea l
|y::l,h=>by
  rw[Ea]
  rcases Ax.1 h with rfl|h
  . omega
  . have:=Hd h;omega
theorem FO{k n:Int}{s:ByteArray}{l:List V}{x:V}(h:x∈l):x.nodes<(V.mk k n s l).nodes:=by
 have:=Hd h
 rw[nodes];omega
theorem IU:∀l:List V,l.length<=Ea l
|[]=>Ap _
|x::l=>by have:=IU l;have:=x.nodes_pos;rw[Ea,An];omega
mutual
theorem Ty:∀v:V,v.deep<=v.nodes
|.mk k n s l=>by
  have:=MV l
  rw[deep,nodes]
  split<;>omega
theorem MV:∀l:List V,LL l<=Ea l
|[]=>Ap _
|x::l=>by
  have:=Ty x
  have:=MV l
  rw[LL,Ea];omega
end
theorem drop_cons{α:Type}{l:List α}{i:Nat}{x:α}(h:l[i]?=some x):l.drop i=x::l.drop (i+1):=by
 obtain⟨h1,rfl⟩:=Af.1 h
 exact BM h1
theorem Ib{α:Type}{l:List α}{i:Nat}{x:α}(h:l[i]?=some x):x∈l:=Ah h
inductive Ok:V->Prop
|mk {k n:Int} {s:ByteArray} {l:List V} (hk : -9223372036854775808<=k/\k<=9223372036854775807) (hn : -9223372036854775808<=n/\n<=9223372036854775807) (hs:s.size<=maxLen) (hl:l.length<=maxLen) (h:∀x∈l,Ok x):Ok (.mk k n s l)
end V
theorem EM{n:Int}(h:(Lit.int .i64 n).wf=true) : -9223372036854775808<=n/\n<=9223372036854775807:=by
 simpa [Lit.wf,IntKind.min,IntKind.max,IntKind.bits,IntKind.signed]using h
section
open V
theorem Pd:∀n,Qb n prog 30 V.cells V.Ok
|0=>fun H enc W fuel cs x hf h=>by
  obtain rfl:fuel=0:=by omega
  simp[DataW.trod]at h
|1=>fun H enc W fuel cs x hf h=>by
  obtain⟨xs,m,rfl, -,hl,hn,hx⟩:=Cy Tryz.underlying30 h
  obtain⟨a, -⟩:=AZ (i:=0) (n:=0) (f:=λa:Int=>[D.i a]) hx hn rfl (k:=1) (by kernel_rfl) (Cw (k:=.i64) Tryz.underlying3 0) q_o
  have:=hx 0 _ rfl
  obtain rfl:m=0:=by omega
  rw[Al (by rw[hn];exact BD rfl)]at this
  simp[DataW.trod]at this
|n+2=>fun H enc W fuel cs x hf h=>by
  obtain⟨xs,m,rfl, -,hl,hn,hx⟩:=Cy Tryz.underlying30 h
  have hl4:cs.length=4:=hl.trans (by kernel_rfl)
  obtain⟨a,a1,a2⟩:=AZ (i:=0) (n:=n+1) (f:=λa:Int=>[D.i a]) hx hn rfl (k:=1) (by kernel_rfl) (Cw (k:=.i64) Tryz.underlying3 _) q_o
  obtain⟨b,b1,b2⟩:=AZ (i:=1) (n:=n+1) (f:=λa:Int=>[D.i a]) hx hn rfl (k:=1) (by kernel_rfl) (Cw (k:=.i64) Tryz.underlying2 _) q_o
  obtain⟨c,c1,c2⟩:=AZ (i:=2) (n:=n+1) (f:=λa:ByteArray=>[D.str a]) hx hn rfl (k:=1) (by kernel_rfl) (Im Tryz.underlying9 _) q_o
  obtain⟨d,d1,d2,d3⟩:=AZ (i:=3) (n:=n+1) (f:=λl:List V=>[D.sl .shared (l.map V.cells)]) hx hn rfl (k:=1) (by kernel_rfl) (NZ (sz:=4) Tryz.underlying25 (by kernel_rfl) q_o (Pd n) V.cells_len V.cells_leaf) q_o
  refine⟨.mk a b c d,?_,.mk (EM a2) (EM b2) c2 d3 d2⟩
  rw[V.cells_mk]
  have:=RepL.glue a1 (RepL.glue b1 (RepL.glue c1 (RepL.glue d1 (RepL.glue_end hl4))))
  exact this
theorem ft:Fm prog 25 (λl:List V=>[D.sl .shared (l.map V.cells)]) λl=>(∀x∈l,V.Ok x)/\l.length<=maxLen :=
 Dp (sz:=4) Tryz.underlying25 (by kernel_rfl) q_o Pd V.cells_len V.cells_leaf
end
end
section
attribute [local push_cast] Br Bl V.cells_mk V.cells_take V.cells_len
namespace V
mutual
def cnt:V->Int->Int->Int
|.mk _ _ _ l,n,d=>if n - 1<0\/d<0 then -1 else KV l (n - 1) (d - 1)
def KV:List V->Int->Int->Int
|[],n,_=>n
|x::l,n,d=>if x.cnt n d<0 then -1 else KV l (x.cnt n d) d
end
mutual
theorem dB:∀(v:V) (n d:Int), -1<=n -> -1<=v.cnt n d/\v.cnt n d<=n
|.mk k m s l,n,d,h=>by
  rw[cnt]
  split
  . omega
  . have:=Yo l (n - 1) (d - 1) q_o
    omega
theorem Yo:∀(l:List V) (n d:Int), -1<=n -> -1<=KV l n d/\KV l n d<=n
|[],n,d,h=>by rw[KV];omega
|x::l,n,d,h=>by
  rw[KV]
  have h1:=dB x n d h
  split
  . omega
  . have:=Yo l (x.cnt n d) d q_o
    omega
end
end V
open V in
theorem Nr:∀(N:Nat) (v:V),v.nodes<=N->v.Ok->∀(n d:Int), -1<=n->n<=4611686018427387904 -> -1<=d->d<=4611686018427387904->∀st,TrF prog 50 [.agg v.cells,.i n,.i d] st λx st'=>x=.i (v.cnt n d)/\st'=st
|0,v,h,_=>by have:=v.nodes_pos;omega
|N+1,.mk k n0 s l,hN,hok=>by
  intro n d h1 h2 h3 h4 st
  obtain⟨hk,hn,hs,hl,hall⟩:=hok
  unfold maxLen at hl
  have IH:=λx (hx:x∈l)=>Nr N x (by have:=FO (k:=k) (n:=n0) (s:=s) hx;omega) (hall x hx)
  clear hall hN
  rw[V.cells_mk]
  refine Qin [6] func50 results50 ntmps50 ?_
  by_cases c1:n - 1<0
  . rw[cnt,if_pos (.inl c1)]
    clear IH
    exact WR
  by_cases c2:d<0
  . rw[cnt,if_pos (.inr c2)]
    clear IH
    exact WR
  rw[cnt,if_neg q_o]
  repeat' (first|refine QX ?_|refine QB ?_;intro b|with_reducible refine QZ ?_<;>(try constructor)<;>intro hb<;>try intro hb1|fail)
  refine DN (ι:=Nat×Int) (λi A st'=>i.1<=l.length/\0<=i.2/\i.2<=n/\Hid (KV (l.drop i.1) i.2 (d - 1)=KV l (n - 1) (d - 1))/\A.df=[]/\A.e 1=.i i.2/\A.e 2=.i d/\A.e 3=.ip [.i k,.i n0,.str s,.sl .shared (l.map V.cells)]/\A.e 7=.i i.1/\st'=st) (λi=>l.length - i.1) (0,n - 1) ⟨Ao _,by omega,by omega,rfl,rfl,Qf,Qf,Qf,Qf,rfl⟩ ?_
  rintro⟨i,m⟩ A st' ⟨hi,hm0,hmn,HT,hdf,h1',h2',h3',h7,rfl⟩
  dsimp only at hi hm0 hmn HT h1' h7 |-
  by_cases hlt:i<l.length
  . obtain⟨x,hx⟩:=gEx hlt
    have ih:=IH x (Ib hx) m (d - 1) q_o q_o q_o q_o
    have hb:=dB x m (d - 1) q_o
    have hlx:=V.cells_len x
    have HD:=HT.out
    rw[drop_cons hx,KV]at HD
    generalize x.cnt m (d - 1)=m' at *
    clear IH
    by_cases hm':m'<0
    . rw[if_pos hm']at HD
      rw[<-HD]
      clear HD HT
      repeat' (first|refine QX ?_|refine QB ?_;intro b|with_reducible refine QZ ?_<;>(try constructor)<;>intro hb<;>try intro hb1|refine Qc call50 (ih _) ?_|fail)
      all_goals exact BZ
    . rw[if_neg hm']at HD
      have HE:=Aa HD
      clear HD HT
      repeat' (first|refine QX ?_|refine QB ?_;intro b|with_reducible refine QZ ?_<;>(try constructor)<;>intro hb<;>try intro hb1|refine Qc call50 (ih _) ?_|fail)
      refine⟨(i+1,m'),⟨hlt,by omega,by dsimp only;omega,HE,?_,?_,?_,?_,?_,rfl⟩,?_⟩
      all_goals exact Qf
  . have HD:=HT.out
    rw[CO q_o,KV]at HD
    rw[<-HD]
    clear HD HT IH
    exact WR
end
section
attribute [local push_cast] Br Bl V.cells_mk V.cells_take V.cells_len
namespace V
mutual
theorem Xb:∀(v:V) (n d:Int),0<=v.cnt n d->v.cnt n d=n - v.nodes
|.mk k m s l,n,d,h=>by
  rw[cnt]at h |-
  split at h
  . omega
  . rename_i hc
    rw[if_neg hc,nodes]
    have:=Yp l (n - 1) (d - 1) h
    omega
theorem Yp:∀(l:List V) (n d:Int),0<=KV l n d->KV l n d=n - Ea l
|[],n,d,h=>by rw[KV,Ea];omega
|x::l,n,d,h=>by
  rw[KV]at h |-
  split at h
  . omega
  . rename_i hc
    rw[if_neg hc,Ea,Yp l _ d h]
    have:=Xb x n d q_o
    omega
end
mutual
theorem cnt_all:∀(v:V) (n d:Int),(v.nodes:Int)<=n->(v.deep:Int)<=d->v.cnt n d=n - v.nodes
|.mk k m s l,n,d,h,hd=>by
  have hp:=(V.mk k m s l).nodes_pos
  rw[cnt,if_neg q_o,nodes]at *
  rw[deep]at hd
  have:=VE l (n - 1) (d - 1) q_o (by
   cases l with
   | nil=>exact .inl rfl
   | cons x l=>rw[if_pos (.inr (by simp))]at hd;exact .inr q_o)
  omega
theorem VE:∀(l:List V) (n d:Int),(Ea l:Int)<=n->(l=[]\/(LL l:Int)<=d)->KV l n d=n - Ea l
|[],n,d,h,_=>by rw[KV,Ea];omega
|x::l,n,d,h,hd=>by
  rw[Ea]at h
  rcases hd with hd|hd
  . cases hd
  rw[LL]at hd
  have h1:=cnt_all x n d q_o q_o
  rw[KV,if_neg q_o,h1,VE l _ d q_o (.inr q_o),Ea]
  omega
end
def NL:Int->List V->Int
|n,[]=>n
|n,x::l=>NL (if (x.deep:Int) > n then x.deep else n) l
theorem cH(a b:Nat):((max a b:Nat):Int)=if (a:Int)<=b then(b:Int)else a:=by
 rw[Nat.max_def];split<;>split<;>omega
theorem TJ:∀(l:List V) (n:Int),NL n l=match l with|[]=>n|x::l=>max n (LL (x::l))
|[],n=>rfl
|[x],n=>by
  show(if (x.deep:Int) > n then(x.deep:Int)else n)=max n ((max x.deep 0:Nat):Int)
  rw[cH];split<;>split<;>omega
|x::y::l,n=>by
  have h:=TJ (y::l) (if (x.deep:Int) > n then x.deep else n)
  show NL _ (y::l)=max n ((max x.deep (LL (y::l)):Nat):Int)
  rw[h,cH]
  dsimp only
  split<;>split<;>omega
theorem aC(k n:Int)(s:ByteArray)(l:List V):NL (if k=5 then 0 else -1) l+1=(V.mk k n s l).deep:=by
 rw[TJ,deep]
 cases l with
|nil =>
  by_cases h:k=5
  . simp[h,LL]
  . simp[h]
|cons x l =>
  rw[if_pos (show k=5\/x::l≠[]from .inr (by simp))]
  dsimp only
  split<;>omega
theorem Xi(k n:Int)(s:ByteArray)(l:List V):(if k=5\/0<l.length then NL 0 l+1 else NL 0 l)=(V.mk k n s l).deep:=by
 rw[TJ,deep]
 cases l with
|nil =>
  by_cases h:k=5
  . simp[h,LL]
  . simp[h]
|cons x l =>
  rw[if_pos (show k=5\/x::l≠[]from .inr (by simp)),if_pos (show k=5\/0<(x::l).length from .inr (by simp))]
  dsimp only
  omega
end V
open V in
theorem Pc:∀(N:Nat) (v:V),v.nodes<=N->v.nodes<=4611686018427387904->∀st,TrF prog 51 [.agg v.cells] st λx st'=>x=.i v.deep/\st'=st
|0,v,h,_=>by have:=v.nodes_pos;omega
|N+1,.mk k n0 s l,hN,hB=>by
  intro st
  have IH:=λx (hx:x∈l)=>Pc N x (by have:=FO (k:=k) (n:=n0) (s:=s) hx;omega) (by have:=FO (k:=k) (n:=n0) (s:=s) hx;omega)
  have hll:=IU l
  have hdl:=MV l
  rw[nodes]at hN hB
  have hD:=aC k n0 s l
  generalize (V.mk k n0 s l).deep=dd at *
  rw[V.cells_mk]
  clear hN
  refine Qin [2] func51 results51 ntmps51 ?_
  obtain⟨a0,ha0⟩:∃a0:Int,(if k=5 then(0:Int)else -1)=a0:=⟨_,rfl⟩
  have hab : -1<=a0/\a0<=0:=by rw[<-ha0];split<;>omega
  have HD:=Aa hD
  rw[ha0]at HD
  clear hD
  by_cases hk:k=5
  all_goals
   simp only[hk,if_true,if_false]at ha0
   first | have hkb:(k == 5)=true:=by rw[hk];rfl
         | have hkb:(k == 5)=false:=by rw[beq_eq_false_iff_ne];exact hk
   clear hk
   subst ha0
   have IH:=Aa IH
   repeat' (first|refine QX ?_|refine QB ?_;intro b|with_reducible refine QZ ?_<;>(try constructor)<;>intro hb<;>try intro hb1|fail)
   refine DN (ι:=Nat×Int) (λi A st'=>i.1<=l.length /\ -1<=i.2/\i.2<=Ea l/\Hid (NL i.2 (l.drop i.1)+1=dd)/\A.df=[]/\A.e 1=.ip [.i k,.i n0,.str s,.sl .shared (l.map V.cells)]/\A.e 3=.i i.2/\A.e 4=.i i.1/\st'=st) (λi=>l.length - i.1) (0,_) ⟨Ao _,hab.1,by dsimp only;omega,HD.out,Qf,Qf,Qf,Qf,rfl⟩ ?_
   rintro⟨i,m⟩ A st' ⟨hi,hm0,hmn,HT,hdf,h1',h3',h4',rfl⟩
   dsimp only at hi hm0 hmn HT h3' h4' |-
   by_cases hlt:i<l.length
   . obtain⟨x,hx⟩:=gEx hlt
     have ih:=IH.out x (Ib hx)
     have hdx:=Ty x
     have hnx:=Hd (Ib hx)
     have HE:=HT.out
     rw[drop_cons hx,NL]at HE
     have HE:=Aa HE
     generalize x.deep=dx at *
     by_cases hm':(dx:Int) > m
     . have he:=HE.out
       rw[if_pos hm']at he
       have HE:=Aa he
       clear he HT IH
       repeat' (first|refine QX ?_|refine QB ?_;intro b|with_reducible refine QZ ?_<;>(try constructor)<;>intro hb<;>try intro hb1|refine Qc call51 (ih _) ?_|fail)
       refine⟨(i+1,dx),⟨hlt,by dsimp only;omega,by dsimp only;omega,HE,?_,?_,?_,?_,rfl⟩,?_⟩
       all_goals exact Qf
     . have he:=HE.out
       rw[if_neg hm']at he
       have HE:=Aa he
       clear he HT IH
       repeat' (first|refine QX ?_|refine QB ?_;intro b|with_reducible refine QZ ?_<;>(try constructor)<;>intro hb<;>try intro hb1|refine Qc call51 (ih _) ?_|fail)
       refine⟨(i+1,m),⟨hlt,by dsimp only;omega,by dsimp only;omega,HE,?_,?_,?_,?_,rfl⟩,?_⟩
       all_goals exact Qf
   . have he:=HT.out
     rw[CO q_o,NL]at he
     clear IH HT HD
     exact WR
end
section
attribute [local push_cast] Br Bl V.cells_mk V.cells_take V.cells_len
open V in
theorem TW:∀(N:Nat) (v:V),v.nodes<=N->v.nodes<=4611686018427387904->∀st,TrF prog 198 [.agg v.cells] st λx st'=>x=.i v.deep/\st'=st
|0,v,h,_=>by have:=v.nodes_pos;omega
|N+1,.mk k n0 s l,hN,hB=>by
  intro st
  have IH:=λx (hx:x∈l)=>TW N x (by have:=FO (k:=k) (n:=n0) (s:=s) hx;omega) (by have:=FO (k:=k) (n:=n0) (s:=s) hx;omega)
  have hll:=IU l
  have hdl:=MV l
  rw[nodes]at hN hB
  have HD:=Aa (Xi k n0 s l)
  generalize (V.mk k n0 s l).deep=dd at *
  rw[V.cells_mk]
  clear hN
  refine Qin [2] func198 results198 ntmps198 ?_
  have IH:=Aa IH
  repeat' (first|refine QX ?_|refine QB ?_;intro b|with_reducible refine QZ ?_<;>(try constructor)<;>intro hb<;>try intro hb1|fail)
  refine Bs (ι:=Nat×Int) (λi A st'=>i.1<=l.length/\0<=i.2/\i.2<=Ea l/\Hid (NL i.2 (l.drop i.1)=NL 0 l)/\A.df=[]/\A.e 1=.ip [.i k,.i n0,.str s,.sl .shared (l.map V.cells)]/\A.e 3=.i i.2/\A.e 7=.sl .shared (l.map V.cells)/\A.e 8=.i l.length/\A.e 9=.i i.1/\st'=st) (λi=>l.length - i.1) (0,0) ⟨Ao _,TP _,by dsimp only;omega,rfl,Qf,Qf,Qf,Qf,Qf,Qf,rfl⟩ ?_
  rintro⟨i,m⟩ A st' ⟨hi,hm0,hmn,HT,hdf,h1',h3',h7',h8',h9',rfl⟩
  dsimp only at hi hm0 hmn HT h3' h9' |-
  by_cases hlt:i<l.length
  . obtain⟨x,hx⟩:=gEx hlt
    have ih:=λst=>IH.out x (Ib hx) st
    have hdx:=Ty x
    have hnx:=Hd (Ib hx)
    have HE:=HT.out
    rw[drop_cons hx,NL]at HE
    have HE:=Aa HE
    clear IH HT HD
    cases x with
    | mk k1 n1 s1 l1 =>
     simp only[V.cells_mk]at ih
     generalize (V.mk k1 n1 s1 l1).deep=dx at *
     repeat' (first|refine QX ?_|refine QB ?_;intro b|with_reducible refine QZ ?_<;>(try constructor)<;>intro hb<;>try intro hb1|refine Qc call198 (ih _) ?_|fail)
     refine⟨(i+1,if (dx:Int) > m then dx else m),_,AK _ _,⟨hlt,?_,?_,HE,?_,?_,?_,?_,?_,?_,rfl⟩,?_⟩
     . dsimp only;split<;>omega
     . dsimp only;split<;>omega
     all_goals exact Qf
  . have he:=HT.out
    rw[CO q_o,NL]at he
    have hd:=HD.out
    rw[<-he]at hd
    clear IH HT HD he
    by_cases hk:k=5\/0<l.length
    . rw[if_pos hk]at hd
      rw[<-hd]
      clear hd
      rcases hk with hk|hk
      . have hkb:(k == 5)=true:=by rw[hk];rfl
        clear hk
        exact WR
      . have hk:(0:Int)<l.length:=by omega
        by_cases hk5:k=5
        . have hkb:(k == 5)=true:=by rw[hk5];rfl
          clear hk5
          exact WR
        . have hkb:(k == 5)=false:=by rw[beq_eq_false_iff_ne];exact hk5
          clear hk5
          exact WR
    . rw[if_neg hk]at hd
      rw[<-hd]
      have hkb:(k == 5)=false:=by rw[beq_eq_false_iff_ne];intro h;exact hk (.inl h)
      have hl0:¬(0:Int)<l.length:=λh=>hk (.inr q_o)
      clear hk hd
      exact WR
open V in
theorem QK:∀(N:Nat) (v:V),v.nodes<=N->v.nodes<=4611686018427387904->∀st,TrF prog 199 [.agg v.cells] st λx st'=>x=.i v.nodes/\st'=st
|0,v,h,_=>by have:=v.nodes_pos;omega
|N+1,.mk k n0 s l,hN,hB=>by
  intro st
  have IH:=Aa λx (hx:x∈l)=>QK N x (by have:=FO (k:=k) (n:=n0) (s:=s) hx;omega) (by have:=FO (k:=k) (n:=n0) (s:=s) hx;omega)
  have hll:=IU l
  rw[nodes]at hN hB
  rw[V.cells_mk,show(V.mk k n0 s l).nodes=1+Ea l from nodes.eq_1 ..]
  clear hN
  obtain⟨T,hT⟩:∃T,Ea l=T:=⟨_,rfl⟩
  rw[hT]at hll hB |-
  have HT0:=Aa hT
  clear hT
  refine Qin [2] func199 results199 ntmps199 ?_
  repeat' (first|refine QX ?_|refine QB ?_;intro b|with_reducible refine QZ ?_<;>(try constructor)<;>intro hb<;>try intro hb1|fail)
  refine Bs (ι:=Nat×Nat) (λi A st'=>i.1<=l.length/\Hid (i.2+Ea (l.drop i.1)=1+T)/\i.2<=1+T/\A.df=[]/\A.e 1=.ip [.i k,.i n0,.str s,.sl .shared (l.map V.cells)]/\A.e 3=.i i.2/\A.e 7=.sl .shared (l.map V.cells)/\A.e 8=.i l.length/\A.e 9=.i i.1/\st'=st) (λi=>l.length - i.1) (0,1) ⟨Ao _,by show 1+Ea l=1+T;rw[HT0.out],by dsimp only;omega,Qf,Qf,Qf,Qf,Qf,Qf,rfl⟩ ?_
  rintro⟨i,m⟩ A st' ⟨hi,HT,hm0,hdf,h1',h3',h7',h8',h9',rfl⟩
  dsimp only at hi HT h3' h9' hm0 |-
  by_cases hlt:i<l.length
  . obtain⟨x,hx⟩:=gEx hlt
    have ih:=λst=>IH.out x (Ib hx) st
    have HE:=HT.out
    rw[drop_cons hx,Ea,<-FU]at HE
    have hle:m+x.nodes<=1+T:=by omega
    have HE:=Aa HE
    clear IH HT
    cases x with
    | mk k1 n1 s1 l1 =>
     simp only[V.cells_mk]at ih
     generalize (V.mk k1 n1 s1 l1).nodes=dx at *
     repeat' (first|refine QX ?_|refine QB ?_;intro b|with_reducible refine QZ ?_<;>(try constructor)<;>intro hb<;>try intro hb1|refine Qc call199 (ih _) ?_|fail)
     refine⟨(i+1,m+dx),_,AK _ _,⟨hlt,HE,hle,?_,?_,?_,?_,?_,?_,rfl⟩,?_⟩
     all_goals exact Qf
  . have he:=HT.out
    rw[CO q_o,Ea,Ed]at he
    rw[<-he]
    clear IH HT HT0 he
    exact WR
end
section
attribute [local push_cast] Br Bl V.cells_mk V.cells_take V.cells_len Jr
namespace V
def isLetter (c:UInt8):Bool:=(decide (97<=(c.toNat:Int)) && decide ((c.toNat:Int)<=122)) || (decide (65<=(c.toNat:Int)) && decide ((c.toNat:Int)<=90))
def Ji (c:UInt8):Bool:=(decide (48<=(c.toNat:Int)) && decide ((c.toNat:Int)<=57)) || ((c.toNat:Int) == 95) || ((c.toNat:Int) == 45)
def FP:Nat->List UInt8->Bool
|_,[]=>true
|i,c::t=>(isLetter c || (decide (i≠0) && Ji c)) && FP (i+1) t
def isName (l:List UInt8):Bool:=decide (1<=l.length) && decide (l.length<=40) && FP 0 l
end V
theorem Vg:∀n:Fin 256,(decide (97<=bits .or .u8 (n:Int) 32) && decide (bits .or .u8 (n:Int) 32<=122))=((decide (97<=(n:Int)) && decide ((n:Int)<=122)) || (decide (65<=(n:Int)) && decide ((n:Int)<=90))):=by decide +kernel
theorem ZL(c:UInt8):(decide (97<=bits .or .u8 (c.toNat:Int) 32) && decide (bits .or .u8 (c.toNat:Int) 32<=122))=V.isLetter c:=Vg ⟨c.toNat,c.toNat_lt⟩
theorem GV(c:UInt8)(st:St):TrF prog 148 [.y c] st λx st'=>x=.b (V.isLetter c)/\st'=st:=by
 have h:=ZL c
 generalize hq:bits .or .u8 (c.toNat:Int) 32=q at *
 rw[<-h]
 clear h
 refine Qin [2] func148 results148 ntmps148 ?_
 repeat' (first|refine QX ?_|refine QB ?_;intro b|with_reducible refine QZ ?_<;>(try constructor)<;>intro hb<;>try intro hb1|fail)
 all_goals(refine BZ (hd:=?_);(try simp(disch:=omega) only[push_cast,simprocAttr, *]);try(first|exact q_e|refine LE.of_eq ?_))
 all_goals exact Qf
namespace V
def Ko (c:UInt8):Bool:=isLetter c || Ji c
theorem MH:∀(l:List UInt8) (i:Nat),0<i->FP i l=l.all Ko
|[],i,_=>rfl
|c::t,i,h=>by
  rw[FP,MH t (i+1) q_o,Kq,Ko,show decide (i≠0)=true from decide_eq_true q_o,AH]
theorem WM{c:UInt8}{t:List UInt8}(h1:(c::t).length<=40)(h2:isLetter c=true):isName (c::t)=(c::t).all Ko:=by
 rw[isName,decide_eq_true h1,decide_eq_true (by simp),FP,MH t 1 q_o,Kq,Ko,h2];simp
theorem WL{c:UInt8}{t:List UInt8}(h2:isLetter c=false):isName (c::t)=false:=by
 rw[isName,FP,h2];simp
theorem ZF{c:UInt8}(h:Ko c=true)(hl:isLetter c=false):(48<=(c.toNat:Int)/\(c.toNat:Int)<=57)\/(c.toNat:Int)=95\/(c.toNat:Int)=45:=by
 rw[Ko,hl,Bu,Ji]at h
 simp only[Co,AF,decide_eq_true_eq,beq_iff_eq]at h
 omega
theorem cD{c:UInt8}(h:Ko c=false):isLetter c=false/\((c.toNat:Int)<48\/57<(c.toNat:Int))/\(c.toNat:Int)≠95/\(c.toNat:Int)≠45:=by
 rw[Ko,BU,Ji]at h
 simp only[BU,JL,decide_eq_false_iff_not,beq_eq_false_iff_ne,ne_eq]at h
 exact⟨h.1,by omega,by omega,by omega⟩
end V
open V in
theorem II(s:ByteArray)(st:St):TrF prog 115 [.str s] st λx st'=>x=.b (V.isName s.data.toList)/\st'=st:=by
 have hl:s.data.toList.length=s.size:=by simp
 refine Qin [2] func115 results115 ntmps115 ?_
 by_cases h0:s.size=0
 . have:s.data.toList=[]:=Ay q_o
   rw[this]
   clear this
   exact WR
 by_cases h40:40<s.size
 . have:isName s.data.toList=false:=by rw[isName,decide_eq_false (show¬s.data.toList.length<=40 by omega)];simp
   rw[this]
   clear this
   exact WR
 obtain⟨c,t,hct⟩:∃c t,s.data.toList=c::t:=by
  cases h:s.data.toList with
  | nil=>rw[h]at hl;simp at hl;omega
  | cons c t=>exact⟨c,t,rfl⟩
 have hc0:s.data.toList[0]?=some c:=by rw[hct];rfl
 by_cases hc:isLetter c=true
 . have HN:=Aa (WM (c:=c) (t:=t) (by rw[<-hct];omega) hc)
   rw[<-hct]at HN
   clear hct
   obtain⟨B,hB⟩:∃B,isName s.data.toList=B:=⟨_,rfl⟩
   rw[hB]at HN |-
   clear hB
   repeat' (first|refine QX ?_|refine QB ?_;intro b|with_reducible refine QZ ?_<;>(try constructor)<;>intro hb<;>try intro hb1|refine Qc call148 (GV _ _) ?_|fail)
   refine DN (ι:=Nat) (λi A st'=>i<=s.size/\Hid (B=(s.data.toList.drop i).all Ko)/\A.df=[]/\A.e 0=.str s/\A.e 19=.i s.size/\A.e 20=.i i/\st'=st) (λi=>s.size - i) 0 ⟨Ao _,HN,Qf,Qf,Qf,Qf,rfl⟩ ?_
   rintro i A st' ⟨hi,HT,hdf,h1',h2',h3',rfl⟩
   clear HN hc0
   by_cases hlt:i<s.size
   . obtain⟨x,hx⟩:=gEx (l:=s.data.toList) (i:=i) q_o
     have HE:=HT.out
     rw[drop_cons hx,Kq]at HE
     by_cases hnc:Ko x=true
     . rw[hnc,AH]at HE
       have HE:=Aa HE
       clear HT
       by_cases hL:isLetter x=true
       . clear hnc hc
         repeat' (first|refine QX ?_|refine QB ?_;intro b|with_reducible refine QZ ?_<;>(try constructor)<;>intro hb<;>try intro hb1|refine Qc call148 (GV _ _) ?_|fail)
         refine⟨i+1,⟨hlt,HE,?_,?_,?_,?_,rfl⟩,?_⟩
         all_goals exact Qf
       . have hL':isLetter x=false:=by simpa using hL
         have hq:=ZF hnc hL'
         clear hnc hL hc
         repeat' (first|refine QX ?_|refine QB ?_;intro b|with_reducible refine QZ ?_<;>(try constructor)<;>intro hb<;>try intro hb1|refine Qc call148 (GV _ _) ?_|fail)
         all_goals
          refine⟨i+1,⟨hlt,HE,?_,?_,?_,?_,rfl⟩,?_⟩
          all_goals exact Qf
     . obtain⟨hL,hq⟩:=cD (show Ko x=false by simpa using hnc)
       rw[show Ko x=false by simpa using hnc,Aw]at HE
       rw[HE]
       clear HE HT hnc hc
       repeat' (first|refine QX ?_|refine QB ?_;intro b|with_reducible refine QZ ?_<;>(try constructor)<;>intro hb<;>try intro hb1|refine Qc call148 (GV _ _) ?_|fail)
       all_goals exact BZ
   . have HE:=HT.out
     rw[CO q_o]at HE
     rw[HE,List.all_nil]
     clear HE HT hc
     repeat' (first|refine QX ?_|refine QB ?_;intro b|with_reducible refine QZ ?_<;>(try constructor)<;>intro hb<;>try intro hb1|refine Qc call148 (GV _ _) ?_|fail)
     all_goals exact BZ
 . have:isName s.data.toList=false:=by rw[hct];exact WL (by simpa using hc)
   have hc':isLetter c=false:=by simpa using hc
   rw[this]
   clear this hct hc
   repeat' (first|refine QX ?_|refine QB ?_;intro b|with_reducible refine QZ ?_<;>(try constructor)<;>intro hb<;>try intro hb1|refine Qc call148 (GV _ _) ?_|fail)
   all_goals exact BZ
end
section
attribute [local push_cast] Br Bl V.cells_mk V.cells_take V.cells_len Jr
open V in
theorem Wp(s:ByteArray)(st:St):TrF prog 160 [.str s] st λx st'=>x=.b (V.isName s.data.toList)/\st'=st:=by
 have hl:s.data.toList.length=s.size:=by simp
 refine Qin [2] func160 results160 ntmps160 ?_
 obtain⟨B,hB⟩:∃B,isName s.data.toList=B:=⟨_,rfl⟩
 have HB:=Aa hB
 rw[hB]
 clear hB
 by_cases h0:s.size<1
 . have:=HB.out
   rw[isName,decide_eq_false (show¬1<=s.data.toList.length by omega)]at this
   rw[<-this]
   clear this hl HB
   exact WR
 by_cases h40:40<s.size
 . have:=HB.out
   rw[isName,decide_eq_false (show¬s.data.toList.length<=40 by omega)]at this
   rw[<-this,CD,Aw]
   clear this hl HB
   exact WR
 have HN:Hid (B=FP 0 (s.data.toList.drop 0)):=by
  show _=_
  rw[<-HB.out,isName,decide_eq_true (show s.data.toList.length<=40 by omega),decide_eq_true (show 1<=s.data.toList.length by omega)];rfl
 clear HB
 repeat' (first|refine QX ?_|refine QB ?_;intro b|with_reducible refine QZ ?_<;>(try constructor)<;>intro hb<;>try intro hb1|fail)
 refine DN (ι:=Nat) (λi A st'=>i<=s.size/\Hid (B=FP i (s.data.toList.drop i))/\A.df=[]/\A.e 0=.str s/\A.e 3=.i i/\st'=st) (λi=>s.size - i) 0 ⟨Ao _,HN,Qf,Qf,Qf,rfl⟩ ?_
 rintro i A st' ⟨hi,HT,hdf,h1',h3',rfl⟩
 clear HN
 by_cases hlt:i<s.size
 . obtain⟨x,hx⟩:=gEx (l:=s.data.toList) (i:=i) q_o
   have HE:=HT.out
   rw[drop_cons hx,FP]at HE
   have hx2:=x.toNat_lt
   obtain⟨R,hR⟩:∃R,FP (i+1) (List.drop (i+1) s.data.toList)=R:=⟨_,rfl⟩
   rw[hR]at HE
   have hR:=Aa hR
   clear HT
   by_cases hL:(97<=(x.toNat:Int)/\(x.toNat:Int)<=122)\/(65<=(x.toNat:Int)/\(x.toNat:Int)<=90)
   . have hl2:isLetter x=true:=by unfold isLetter;simp only[Co,AF,decide_eq_true_eq];exact hL
     rw[hl2,BQ,AH,<-hR.out]at HE
     have HE:=Aa HE
     clear hl2
     repeat' (first|refine QX ?_|refine QB ?_;intro b|with_reducible refine QZ ?_<;>(try constructor)<;>intro hb<;>try intro hb1|fail)
     all_goals
      refine⟨i+1,⟨hlt,HE,?_,?_,?_,rfl⟩,?_⟩
      all_goals exact Qf
   . have hl2:isLetter x=false:=by unfold isLetter;simp only[BU,JL,decide_eq_false_iff_not];omega
     rw[hl2,Bu]at HE
     clear hl2
     by_cases hO:i≠0/\((48<=(x.toNat:Int)/\(x.toNat:Int)<=57)\/(x.toNat:Int)=95\/(x.toNat:Int)=45)
     . have hO2:Ji x=true:=by unfold Ji;simp only[Co,AF,decide_eq_true_eq,beq_iff_eq];omega
       rw[hO2,decide_eq_true hO.1,AH,AH,<-hR.out]at HE
       have HE:=Aa HE
       clear hO2
       obtain⟨hi0,hO⟩:=hO
       have hi0':(0:Int)<i:=by omega
       repeat' (first|refine QX ?_|refine QB ?_;intro b|with_reducible refine QZ ?_<;>(try constructor)<;>intro hb<;>try intro hb1|fail)
       all_goals
        refine⟨i+1,⟨hlt,HE,?_,?_,?_,rfl⟩,?_⟩
        all_goals exact Qf
     . have hO2 : (decide (i ≠ 0) && Ji x) = false := by
        unfold Ji
        rw[JL]
        by_cases hi0:i=0
        . exact .inl (decide_eq_false q_o)
        . refine .inr ?_
          simp only[BU,JL,decide_eq_false_iff_not,beq_eq_false_iff_ne,ne_eq];omega
       rw[hO2,Aw]at HE
       rw[HE]
       clear HE hO2 hR
       have hO':(i:Int)=0\/((x.toNat:Int)<48\/57<(x.toNat:Int))/\(x.toNat:Int)≠95/\(x.toNat:Int)≠45:=by omega
       clear hO
       exact WR
 . have HE:=HT.out
   rw[CO q_o,FP]at HE
   rw[HE]
   clear HE HT
   exact WR
end
namespace UtfL
def u (n:Nat):UInt8:=UInt8.ofNat n
def GK (c:Nat):Bool:=decide (c<=1114111/\(c<55296\/57343<c))
def FT (c:Int):Bool:=decide (0<=c) && GK c.toNat
def EZ (c:Nat):Nat:=if c<128 then 1 else if c<2048 then 2 else if c<65536 then 3 else 4
def Hb (c:Nat):List UInt8 :=
 if c<128 then[u c]else if c<2048 then[u (192+c / 64),u (128+c % 64)]
 else if c<65536 then[u (224+c / 4096),u (128+c / 64 % 64),u (128+c % 64)]
 else[u (240+c / 262144),u (128+c / 4096 % 64),u (128+c / 64 % 64),u (128+c % 64)]
def put (c:Int):List UInt8:=if FT c then Hb c.toNat else[]
def first (x:Nat):Nat×Nat :=
 if x<128 then(1,x)else if 192<=x/\x<224 then(2,x % 32)else if 224<=x/\x<240 then(3,x % 16)else if 240<=x/\x<248 then(4,x % 8)else(0,0)
def FZ:Nat->List UInt8->Option Nat
|c,[]=>some c
|c,x::r=>if x.toNat / 64=2 then FZ (c*64+x.toNat % 64) r else none
def Ie:List UInt8->Option (Nat×Nat)
|[]=>none
|x::r =>
  if (first x.toNat).1=0\/r.length+1<(first x.toNat).1 then none
  else match FZ (first x.toNat).2 (r.take ((first x.toNat).1 - 1))with
   | none=>none
   | some c=>if GK c && EZ c == (first x.toNat).1 then some (c,(first x.toNat).1)else none
def Jk (b:List UInt8)(at_:Int):Option (Nat×Nat):=if 0<=at_/\at_<b.length then Ie (b.drop at_.toNat)else none
theorem Gp{n:Nat}(h:n<256):(u n).toNat=n:=by rw[u,UInt8.toNat_ofNat'];omega
theorem Qn{n:Nat}{x:UInt8}(h:n=x.toNat):u n=x:=by
 apply gU.1
 rw[h,Gp x.toNat_lt]
theorem Pg(c:Nat):(Hb c).length=EZ c:=by unfold Hb EZ;(repeat' split)<;>rfl
theorem ZK(c:Nat):1<=EZ c/\EZ c<=4:=by unfold EZ;(repeat' split)<;>omega
theorem WP{c:Nat}(h:GK c=true)(r:List UInt8):Ie (Hb c++r)=some (c,EZ c):=by
 have hc:c<=1114111:=by simp only[GK,decide_eq_true_eq]at h;exact h.1
 by_cases c1:c<128
 . have e:Hb c=[u c]:=by simp[Hb,c1]
   have hf:first (u c).toNat=(1,c):=by rw[Gp q_o];simp[first,c1]
   have hl:EZ c=1:=by simp[EZ,c1]
   rw[e,List.singleton_append,Ie,hf]
   simp[FZ,h,hl]
 . by_cases c2:c<2048
   . have e:Hb c=[u (192+c / 64),u (128+c % 64)]:=by simp[Hb,c1,c2]
     have h0:=Gp (n:=192+c / 64) q_o
     have h1:=Gp (n:=128+c % 64) q_o
     have hf:first (u (192+c / 64)).toNat=(2,c / 64):=by
      rw[h0,first,if_neg q_o,if_pos q_o];congr 1;omega
     have hl:EZ c=2:=by simp[EZ,c1,c2]
     have hco:FZ (c / 64) [u (128+c % 64)]=some c:=by
      rw[FZ,h1,if_pos q_o,FZ];congr 1;omega
     rw[e]
     show Ie (u (192+c / 64)::(u (128+c % 64)::r))=_
     rw[Ie,hf]
     simp[hco,h,hl]
   . by_cases c3:c<65536
     . have e:Hb c=[u (224+c / 4096),u (128+c / 64 % 64),u (128+c % 64)]:=by simp[Hb,c1,c2,c3]
       have h0:=Gp (n:=224+c / 4096) q_o
       have h1:=Gp (n:=128+c / 64 % 64) q_o
       have h2:=Gp (n:=128+c % 64) q_o
       have hf:first (u (224+c / 4096)).toNat=(3,c / 4096):=by
        rw[h0,first,if_neg q_o,if_neg q_o,if_pos q_o];congr 1;omega
       have hl:EZ c=3:=by simp[EZ,c1,c2,c3]
       have hco:FZ (c / 4096) [u (128+c / 64 % 64),u (128+c % 64)]=some c:=by
        rw[FZ,h1,if_pos q_o,FZ,h2,if_pos q_o,FZ];congr 1;omega
       rw[e]
       show Ie (u (224+c / 4096)::(u (128+c / 64 % 64)::(u (128+c % 64)::r)))=_
       rw[Ie,hf]
       simp[hco,h,hl]
     . have e:Hb c=[u (240+c / 262144),u (128+c / 4096 % 64),u (128+c / 64 % 64),u (128+c % 64)]:=by simp[Hb,c1,c2,c3]
       have h0:=Gp (n:=240+c / 262144) q_o
       have h1:=Gp (n:=128+c / 4096 % 64) q_o
       have h2:=Gp (n:=128+c / 64 % 64) q_o
       have h3:=Gp (n:=128+c % 64) q_o
       have hf:first (u (240+c / 262144)).toNat=(4,c / 262144):=by
        rw[h0,first,if_neg q_o,if_neg q_o,if_neg q_o,if_pos q_o];congr 1;omega
       have hl:EZ c=4:=by simp[EZ,c1,c2,c3]
       have hco:FZ (c / 262144) [u (128+c / 4096 % 64),u (128+c / 64 % 64),u (128+c % 64)]=some c:=by
        rw[FZ,h1,if_pos q_o,FZ,h2,if_pos q_o,FZ,h3,if_pos q_o,FZ];congr 1;omega
       rw[e]
       show Ie (u (240+c / 262144)::(u (128+c / 4096 % 64)::(u (128+c / 64 % 64)::(u (128+c % 64)::r))))=_
       rw[Ie,hf]
       simp[hco,h,hl]
theorem LZ{l:List UInt8}{c n:Nat}(h:Ie l=some (c,n)):GK c=true/\n=EZ c/\∃r,l=Hb c++r:=by
 cases l with
|nil=>cases h
|cons x r =>
  rw[Ie]at h
  split at h
  . cases h
  . rename_i hn
    cases hco:FZ (first x.toNat).2 (r.take ((first x.toNat).1 - 1))with
    | none=>rw[hco]at h;cases h
    | some c' =>
     rw[hco]at h
     dsimp only at h
     split at h
     . rename_i hok
       simp only[Ci,DM]at h
       obtain⟨rfl,rfl⟩:=h
       simp only[AF,beq_iff_eq]at hok
       obtain⟨hcode,hlong⟩:=hok
       refine⟨hcode,hlong.symm,?_⟩
       have hx:=x.toNat_lt
       have hF:(x.toNat<128/\first x.toNat=(1,x.toNat))\/((192<=x.toNat/\x.toNat<224)/\first x.toNat=(2,x.toNat % 32))\/((224<=x.toNat/\x.toNat<240)/\first x.toNat=(3,x.toNat % 16)) \/
        ((240<=x.toNat/\x.toNat<248)/\first x.toNat=(4,x.toNat % 8))\/first x.toNat=(0,0):=by
        unfold first
        by_cases q1:x.toNat<128
        . exact .inl ⟨q1,by rw[if_pos q1]⟩
        . rw[if_neg q1]
          by_cases q2:192<=x.toNat/\x.toNat<224
          . exact .inr (.inl ⟨q2,by rw[if_pos q2]⟩)
          . rw[if_neg q2]
            by_cases q3:224<=x.toNat/\x.toNat<240
            . exact .inr (.inr (.inl ⟨q3,by rw[if_pos q3]⟩))
            . rw[if_neg q3]
              by_cases q4:240<=x.toNat/\x.toNat<248
              . exact .inr (.inr (.inr (.inl ⟨q4,by rw[if_pos q4]⟩)))
              . exact .inr (.inr (.inr (.inr (by rw[if_neg q4]))))
       rcases hF with⟨hr,hf⟩|⟨hr,hf⟩|⟨hr,hf⟩|⟨hr,hf⟩|hf
       all_goals rw[hf]at hn hco hlong;dsimp only at hn hco hlong
       . simp[FZ]at hco
         subst hco
         refine⟨r,?_⟩
         rw[Hb,if_pos hr,Qn rfl];rfl
       . match r,hn with
         | y::r',_ =>
          have hy:=y.toNat_lt
          simp only[Nat.reduceSub,Eg,CX,FZ]at hco
          split at hco
          . rename_i g1
            injection hco with hco
            have c1:¬c'<128:=λq=>by simp[EZ,q]at hlong
            have c2:c'<2048:=by omega
            refine⟨r',?_⟩
            rw[Hb,if_neg c1,if_pos c2,Qn (x:=x) q_o,Qn (x:=y) q_o];rfl
          . cases hco
         | [],hn=>exact absurd (by simp) hn
       . match r,hn with
         | y::z::r',_ =>
          have hy:=y.toNat_lt
          have hz:=z.toNat_lt
          simp only[Nat.reduceSub,Eg,CX,FZ]at hco
          split at hco
          . rename_i g1
            split at hco
            . rename_i g2
              injection hco with hco
              have c1:¬c'<128:=λq=>by simp[EZ,q]at hlong
              have c2:¬c'<2048:=λq=>by simp[EZ,c1,q]at hlong
              have c3:c'<65536:=by omega
              refine⟨r',?_⟩
              rw[Hb,if_neg c1,if_neg c2,if_pos c3,Qn (x:=x) q_o,Qn (x:=y) q_o,Qn (x:=z) q_o];rfl
            . cases hco
          . cases hco
         | [_],hn=>exact absurd (by simp) hn
         | [],hn=>exact absurd (by simp) hn
       . match r,hn with
         | y::z::t::r',_ =>
          have hy:=y.toNat_lt
          have hz:=z.toNat_lt
          have ht:=t.toNat_lt
          simp only[Nat.reduceSub,Eg,CX,FZ]at hco
          split at hco
          . rename_i g1
            split at hco
            . rename_i g2
              split at hco
              . rename_i g3
                injection hco with hco
                have c1:¬c'<128:=λq=>by simp[EZ,q]at hlong
                have c2:¬c'<2048:=λq=>by simp[EZ,c1,q]at hlong
                have c3:¬c'<65536:=λq=>by simp[EZ,c1,c2,q]at hlong
                refine⟨r',?_⟩
                rw[Hb,if_neg c1,if_neg c2,if_neg c3,Qn (x:=x) q_o,Qn (x:=y) q_o,Qn (x:=z) q_o,Qn (x:=t) q_o];rfl
              . cases hco
            . cases hco
          . cases hco
         | [_,_],hn=>exact absurd (by simp) hn
         | [_],hn=>exact absurd (by simp) hn
         | [],hn=>exact absurd (by simp) hn
       . exact absurd (.inl rfl) hn
     . cases h
theorem MO{l:List UInt8}{c n:Nat}(h:Ie l=some (c,n)):1<=n/\n<=4/\n<=l.length:=by
 obtain⟨_,rfl,r,rfl⟩:=LZ h
 have:=ZK c
 rw[Ad,Pg]
 omega
theorem cV{l:List UInt8}{c n:Nat}(h:Ie l=some (c,n)):l.take n=Hb c:=by
 obtain⟨_,rfl,r,rfl⟩:=LZ h
 rw[<-Pg,Ju]
end UtfL
section
attribute [local push_cast] Br Bl
open Go.RowKit UtfL
def RV (r:Option (Nat×Nat)):D:=match r with
|some (c,n)=>.tup [.i c,.i n,.b true]
|none=>.tup [.i 0,.i 0,.b false]
theorem aU(c:Int)(st:St):TrF prog 221 [.i c] st λd st'=>d=.b (FT c)/\st'=st:=by
 have hc:FT c=decide ((0<=c/\c<55296)\/(57343<c/\c<=1114111)):=by
  unfold FT GK
  rw[<-Bool.decide_and]
  congr 1
  apply propext
  omega
 have H:c<0\/(0<=c/\c<55296)\/(55296<=c/\c<=57343)\/(57343<c/\c<=1114111)\/1114111<c:=by omega
 obtain⟨q,hq⟩:∃q,FT c=q:=⟨_,rfl⟩
 rw[hq]at hc |-
 clear hq
 rcases H with h|⟨h1,h2⟩|⟨h1,h2⟩|⟨h1,h2⟩|h
 all_goals(
  first|replace hc:=hc.trans (decide_eq_false q_o)|replace hc:=hc.trans (decide_eq_true q_o)
  subst hc
  first|have d1:=decide_eq_false (show¬57343<c by omega)|have d1:=decide_eq_true (show 57343<c by omega)
  first|have d2:=decide_eq_false (show¬c<55296 by omega)|have d2:=decide_eq_true (show c<55296 by omega)
  first|have d3:=decide_eq_false (show¬c<=1114111 by omega)|have d3:=decide_eq_true (show c<=1114111 by omega)
  refine Qin [2] func221 results221 ntmps221 ?_
  exact WR)
def Tn (c:Int):Int:=if c<128 then 0 else if c<2048 then 192 else if c<65536 then 224 else 240
theorem aQ(c:Int)(st:St):TrF prog 220 [.i c] st λd st'=>d=.tup [.i (EZ c.toNat:Nat),.i (Tn c)]/\st'=st:=by
 have H:∃(n:Nat) (h:Int),(EZ c.toNat=n/\Tn c=h)/\((c<128/\n=1/\h=0)\/(128<=c/\c<2048/\n=2/\h=192)\/(2048<=c/\c<65536/\n=3/\h=224)\/(65536<=c/\n=4/\h=240)):=by
  unfold EZ Tn
  (repeat' split)<;>first|exact⟨_,_,⟨rfl,rfl⟩,by omega⟩|(exfalso;omega)
 obtain⟨n,h,⟨hn,hh⟩,H⟩:=H
 rw[hn,hh]
 clear hn hh
 rcases H with⟨h,rfl,rfl⟩|⟨h1,h2,rfl,rfl⟩|⟨h1,h2,rfl,rfl⟩|⟨h,rfl,rfl⟩
 all_goals(
  refine Qin [2,3] func220 results220 ntmps220 ?_
  exact WR)
theorem YG(x:UInt8)(st:St):TrF prog 219 [.y x] st λd st'=>d=.tup [.i (first x.toNat).1,.i (first x.toNat).2]/\st'=st:=by
 have hx:x.toNat<256:=x.toNat_lt
 have h1:bits .and .u8 (x.toNat:Int) 31=((x.toNat % 32:Nat):Int):=by rw[<-Gf _ 5];exact u8_and_nat x.toNat 31 hx (by decide)
 have h2:bits .and .u8 (x.toNat:Int) 15=((x.toNat % 16:Nat):Int):=by rw[<-Gf _ 4];exact u8_and_nat x.toNat 15 hx (by decide)
 have h3:bits .and .u8 (x.toNat:Int) 7=((x.toNat % 8:Nat):Int):=by rw[<-Gf _ 3];exact u8_and_nat x.toNat 7 hx (by decide)
 have H:∃n c:Nat,first x.toNat=(n,c)/\((x.toNat<128/\n=1/\c=x.toNat)\/(192<=x.toNat/\x.toNat<224/\n=2/\c=x.toNat % 32)\/(224<=x.toNat/\x.toNat<240/\n=3/\c=x.toNat % 16)\/(240<=x.toNat/\x.toNat<248/\n=4/\c=x.toNat % 8)\/(128<=x.toNat/\x.toNat<192/\n=0/\c=0)\/(248<=x.toNat/\n=0/\c=0)):=by
  unfold first
  (repeat' split)<;>exact⟨_,_,rfl,by omega⟩
 obtain⟨n,c,hf,H⟩:=H
 rw[hf]
 clear hf
 unfold D.y
 generalize x.toNat=X at *
 rcases H with⟨h,rfl,rfl⟩|⟨h,h',rfl,rfl⟩|⟨h,h',rfl,rfl⟩|⟨h,h',rfl,rfl⟩|⟨h,h',rfl,rfl⟩|⟨h,rfl,rfl⟩
 all_goals(
  refine Qin [2,3] func219 results219 ntmps219 ?_
  exact WR)
end
section
attribute [local push_cast] RV Br Bl
open Go.RowKit UtfL
namespace UtfL
theorem Sh(x:UInt8):∀(c:Nat) (r:List UInt8),FZ c (r++[x])=(FZ c r).bind λd=>if x.toNat / 64=2 then some (d*64+x.toNat % 64)else none
|c,[]=>by simp[FZ]
|c,y::r=>by
  rw[AI,FZ,FZ]
  split
  . exact Sh x _ r
  . rfl
theorem VD(x:UInt8)(h:¬x.toNat / 64=2):∀(c:Nat) (r s:List UInt8),FZ c (r++x::s)=none
|c,[],s=>by simp[FZ,h]
|c,y::r,s=>by
  rw[AI,FZ]
  split
  . exact VD x h _ r s
  . rfl
theorem dh{x n c:Nat}(h:first x=(n,c))(hx:x<256):n<=4/\(n=1->c<128)/\(2<=n->c<32):=by
 unfold first at h
 (repeat' split at h)<;>cases h<;>omega
theorem kF{x:Nat}(hx:x<256):bits BinOp.andNot IntKind.u8 (x:Int) 63=(((x / 64)*64:Nat):Int):=by
 have h:∀x:Fin 256,(x.1 &&& 192=x.1 / 64*64):=by decide +kernel
 rw[<-h ⟨x,hx⟩]
 exact u8_andNot_nat x 63 hx (by decide)
end UtfL
theorem ep(o:Own)(b:List UInt8)(hb:b.length<=4611686018427387904)(at_:Int)(st:St):TrF prog 218 [.sl o (b.map Br),.i at_] st λd st'=>d=RV (Jk b at_)/\st'=st:=by
 have hm:(b.map Br).length=b.length:=Ab ..
 have hc:Hid (∀(i:Nat) (x:UInt8),b[i]?=some x->(b.map Br)[i]?=some [.y x]):=λi x h=>by rw[Aq,h];rfl
 by_cases hin:0<=at_/\at_<b.length
 case neg =>
  have hR:Jk b at_=none:=if_neg hin
  rw[hR]
  clear hc hR
  generalize b.map Br=LB at *
  by_cases q:at_<0
  . refine Qin [4,5,6] func218 results218 ntmps218 ?_
    exact WRa
  . have q2:(b.length:Int)<=at_:=by omega
    refine Qin [4,5,6] func218 results218 ntmps218 ?_
    exact WRa
 case pos =>
 obtain⟨g1,g2⟩:=hin
 obtain⟨k,rfl⟩:=DZ g1
 have hk:k<b.length:=by omega
 obtain⟨x,hx⟩:=gEx hk
 have hx1:=hc.out k x hx
 have hd:b.drop k=x::b.drop (k+1):=by
  obtain⟨h2,rfl⟩:=Af.1 hx
  exact BM h2
 obtain⟨n,c0,hf⟩:∃n c,first x.toNat=(n,c):=⟨_,_,rfl⟩
 have hF:=YG x
 rw[hf]at hF
 have hbd:=dh hf x.toNat_lt
 obtain⟨R,hR⟩:∃R,Jk b (k:Int)=R:=⟨_,rfl⟩
 rw[hR]
 rw[Jk,if_pos ⟨g1,g2⟩,BR,hd,Ie,hf]at hR
 dsimp only at hR
 have hdl:(b.drop (k+1)).length=b.length - (k+1):=AO
 rw[hdl]at hR
 clear hd hf hx
 dsimp only at hF
 replace hF:=Aa hF
 by_cases hn:n=0\/b.length - (k+1)+1<n
 . rw[if_pos hn]at hR
   subst hR
   clear hc hdl
   generalize b.map Br=LB at *
   rcases hn with rfl|hn
   . refine Qin [4,5,6] func218 results218 ntmps218 ?_
     exact WRa
   . have h2:¬n=0:=by omega
     have h3:((n:Int) == 0)=false:=beq_eq_false_iff_ne.2 q_o
     have h4:(b.length:Int) - k<n:=by omega
     refine Qin [4,5,6] func218 results218 ntmps218 ?_
     exact WRa
 rw[if_neg hn]at hR
 obtain⟨m,rfl⟩:∃m,n=m+1:=⟨n - 1,by omega⟩
 rw[Mf]at hR
 have hfit:k+1+m<=b.length:=by omega
 have h3:(((m+1:Nat):Int) == 0)=false:=beq_eq_false_iff_ne.2 q_o
 have h4:¬(b.length:Int) - k<(m+1:Nat):=by omega
 obtain⟨rest,hrest⟩:∃rest,(b.drop (k+1)).take m=rest:=⟨_,rfl⟩
 rw[hrest]at hR
 have hrl:rest.length=m:=by rw[<-hrest,AQ,AO];omega
 have hsl:((b.map Br).drop (k+1)).take m=rest.map Br:=by rw[<-hrest,NU,lI]
 have hrc:Hid (∀(i:Nat) (x:UInt8),rest[i]?=some x->(rest.map Br)[i]?=some [.y x]):=λi x h=>by rw[Aq,h];rfl
 have hrm:(rest.map Br).length=rest.length:=Ab ..
 have hall:((b.map Br).all λe=>e.length == 1)=true:=by
  rw[AU]
  intro e he
  obtain⟨x, -,rfl⟩:=Av.1 he
  rfl
 have t1:((k:Int)+1).toNat=k+1:=by omega
 have t2:((k:Int)+((m:Int)+1)).toNat=k+(m+1):=by omega
 rw[show m=k+(m+1) - (k+1) by omega]at hsl
 have t3:0<=(k:Int)+1:=by omega
 have t4:(k:Int)+1<=(k:Int)+((m:Int)+1):=by omega
 have t5:(k:Int)+((m:Int)+1)<=b.length:=by omega
 clear hc hdl hn
 generalize b.map Br=LB at *
 refine Qin [4,5,6] func218 results218 ntmps218 ?_
 repeat' (first|refine QX ?_|(refine QB ?_;intro b)|refine QP ?_;intro o' ho'|(with_reducible refine QZ ?_<;>(try constructor)<;>intro hb<;>try intro hb1)|fail)
 refine Bs (ι:=Nat) (λj A st'=>j<=m/\A.df=[]/\A.e 7=.i (m+1:Nat)/\A.e 45=.sl .shared (rest.map Br)/\A.e 46=.i m/\A.e 47=.i j/\(∃d:Nat,A.e 8=.i d/\Hid (FZ c0 (rest.take j)=some d)/\Hid (d<128*64 ^ j))/\st=st') (λj=>m - j) 0 ⟨Ao _,Qf,Qf,Qf,Qf,Qf,⟨c0,Qf,Aa (by rw[CX];rfl),Aa (by rw[Nat.pow_zero];omega)⟩,rfl⟩ ?_
 rintro j A st' ⟨hj,hdf,e7,e45,e46,e47,⟨d,e8,hco,hdb⟩,rfl⟩
 clear hF hx1 hall hsl t1 t2 t3 t4 t5 h3 h4
 have hd2:d<33554432:=by
  have h1:=hdb.out
  have h2:64 ^ j<=64 ^ 3:=DW (by decide) q_o
  have h3:128*64 ^ j<=128*64 ^ 3:=Nat.mul_le_mul_left _ h2
  omega
 by_cases hlt:j<m
 . obtain⟨y,hy⟩:=gEx (l:=rest) (i:=j) q_o
   have g1:=hrc.out j y hy
   have hy2:y.toNat<256:=y.toNat_lt
   have hnot:=kF hy2
   have hand:bits .and .u8 (y.toNat:Int) 63=((y.toNat % 64:Nat):Int):=by rw[<-Gf _ 6];exact u8_and_nat y.toNat 63 hy2 (by decide)
   have hor:bits .or .i64 ((d:Int)*64) ((y.toNat:Int) % 64)=((d*64+y.toNat % 64:Nat):Int):=by
    have:=WO (d*64) (y.toNat % 64) q_o q_o
    rw[nat_join 6 (d*64) (y.toNat % 64) q_o q_o]at this
    exact this
   have hts:rest.take (j+1)=rest.take j++[y]:=by rw[Bk,hy,Bw]
   by_cases hg:y.toNat / 64=2
   . have hY:((((y.toNat / 64*64:Nat):Int)) != 128)=false:=by rw[bne_eq_false_iff_eq];omega
     have hN:Hid (FZ c0 (rest.take (j+1))=some (d*64+y.toNat % 64)):=Aa (by rw[hts,Sh,hco.out];simp[hg])
     have hB:Hid (d*64+y.toNat % 64<128*64 ^ (j+1)):=Aa (by
      have:=hdb.out
      rw[Qe]
      omega)
     clear hy hrc hts hco hdb hg hR hbd
     unfold D.y at g1
     generalize y.toNat / 64*64=Y at *
     generalize y.toNat=X at *
     repeat' (first|refine QX ?_|(refine QB ?_;intro b)|refine QP ?_;intro o' ho'|(with_reducible refine QZ ?_<;>(try constructor)<;>intro hb<;>try intro hb1)|fail)
     refine⟨j+1,st,q_u,⟨hlt,?_,?_,?_,?_,?_,⟨_,?_,hN,hB⟩,rfl⟩,by omega⟩
     all_goals exact Qf
   . have hY:((((y.toNat / 64*64:Nat):Int)) != 128)=true:=by rw[bne_iff_ne];omega
     have hr0:R=none:=by
      have e:rest=rest.take j++y::rest.drop (j+1):=by
       obtain⟨h2,rfl⟩:=Af.1 hy
       rw[nP,Bv]
      rw[<-hR,e,VD y hg]
     subst hr0
     clear hy hrc hts hco hdb hg hR hbd hor
     unfold D.y at g1
     generalize y.toNat / 64*64=Y at *
     generalize y.toNat=X at *
     exact WRa
 . obtain rfl:j=m:=by omega
   have hc:=hco.out
   rw[Bj q_o]at hc
   rw[hc]at hR
   dsimp only at hR
   have hCo:=aU d
   have hLo:=aQ d
   have hcd:FT (d:Int)=GK d:=by simp[FT]
   rw[hcd]at hCo
   rw[BR]at hLo
   clear hc hco hdb hrc hcd hbd
   generalize Tn d=hd at *
   generalize GK d=ic at *
   generalize EZ d=ln at *
   replace hCo:=Aa hCo
   replace hLo:=Aa hLo
   cases ic with
   | false =>
    obtain rfl:R=none:=by rw[<-hR];rfl
    clear hR
    exact WRa
   | true =>
    by_cases hl:ln=j+1
    . have hl2:((ln:Int) != (j+1:Nat))=false:=by rw[bne_eq_false_iff_eq];omega
      obtain rfl:R=some (d,j+1):=by rw[<-hR,hl];simp
      clear hR
      subst hl
      exact WRa
    . have hl2:((ln:Int) != (j+1:Nat))=true:=by rw[bne_iff_ne];omega
      obtain rfl:R=none:=by rw[<-hR];simp[hl]
      clear hR
      exact WRa
end
namespace UtfL
def Il (p:Nat)(l:List UInt8):List (Nat×Nat) :=
 match _h:Ie l with
|none=>[]
|some (c,n)=>(p+n,c)::Il (p+n) (l.drop n)
termination_by l.length
decreasing_by
 have:=MO _h
 rw[AO];omega
theorem Nn{p:Nat}{l:List UInt8}(h:Ie l=none):Il p l=[]:=by
 rw[Il];split
 . rfl
 . rename_i e;rw[h]at e;cases e
theorem Ra{p:Nat}{l:List UInt8}{c n:Nat}(h:Ie l=some (c,n)):Il p l=(p+n,c)::Il (p+n) (l.drop n):=by
 rw[Il];split
 . rename_i e;rw[h]at e;cases e
 . rename_i e;rw[h]at e;cases e;rfl
def FX (p:Nat)(l:List (Nat×Nat)):Nat:=l.foldl (λ_ x=>x.1) p
theorem ML(p:Nat)(l:List (Nat×Nat))(x:Nat×Nat):FX p (l++[x])=x.1:=by simp[FX]
def Gs (b:List UInt8):List Nat:=(Il 0 b).map (·.2)
def Kp (b:List UInt8):Nat:=FX 0 (Il 0 b)
def At (b:List UInt8)(pre:List (Nat×Nat))(p:Nat):Prop:=p<=b.length/\Il 0 b=pre++Il p (b.drop p)/\p=FX 0 pre
theorem At.start(b:List UInt8):At b [] 0:=⟨Ao _,by simp,rfl⟩
theorem Px{b:List UInt8}{p:Nat}(hp:p<=b.length):Jk b (p:Int)=Ie (b.drop p):=by
 rw[Jk]
 by_cases h:p<b.length
 . rw[if_pos ⟨by omega,by omega⟩];rfl
 . rw[if_neg q_o]
   have:p=b.length:=by omega
   rw[this,Hv];rfl
theorem At.next{b:List UInt8}{pre:List (Nat×Nat)}{p c n:Nat}(h:At b pre p)(hg:Jk b (p:Int)=some (c,n)):At b (pre++[(p+n,c)]) (p+n)/\1<=n/\n<=4:=by
 obtain⟨h1,h2,h3⟩:=h
 rw[Px h1]at hg
 have hl:=MO hg
 rw[AO]at hl
 refine⟨⟨by omega,?_,(by rw[ML])⟩,hl.1,hl.2.1⟩
 rw[h2,Ra hg,CY,Ai];rfl
theorem At.done{b:List UInt8}{pre:List (Nat×Nat)}{p:Nat}(h:At b pre p)(hg:Jk b (p:Int)=none):Il 0 b=pre:=by
 obtain⟨h1,h2,h3⟩:=h
 rw[Px h1]at hg
 rw[h2,Nn hg,AY]
theorem At.full{b:List UInt8}{pre:List (Nat×Nat)}(h:At b pre b.length):Il 0 b=pre:=by
 refine h.done ?_
 rw[Jk,if_neg q_o]
theorem Mw:∀(k p:Nat) (l:List UInt8),l.length<=k->(Il p l).length<=l.length/\p<=FX p (Il p l)/\FX p (Il p l)<=p+l.length
|0,p,l,h=>by
  have:l=[]:=Ay q_o
  subst this
  rw[Nn rfl];simp[FX]
|k+1,p,l,h=>by
  cases hg:Ie l with
  | none=>rw[Nn hg];simp[FX]
  | some q =>
   obtain⟨c,n⟩:=q
   have hl:=MO hg
   have:=Mw k (p+n) (l.drop n) (by rw[AO];omega)
   rw[Ra hg]
   rw[AO]at this
   simp only[An]
   have e:FX p ((p+n,c)::Il (p+n) (l.drop n))=FX (p+n) (Il (p+n) (l.drop n)):=rfl
   rw[e]
   omega
end UtfL
section
def RoundC (P:Program)(l:Nat)(args:List D)(st:St)(R:D->St->Prop):Prop :=
 ∀(vs:Array Value) w,RepL (OwnS st) w vs.toList args->Holds st w->YieldAt (FR none) 0 P l vs w λe w'=>∃v,e=.returned v/\PostV st w R v w'
theorem VX{F:Fence}{m:Nat}{P:Program}{l:Nat}{args:Array Value}{W:World}{R R':Ending->World->Prop}(h:YieldAt F m P l args W R)(hr:∀e w,R e w->R' e w):YieldAt F m P l args W R':=by
 obtain⟨fn,t,a,b,h1,h2⟩:=h
 exact⟨fn,t,a,b,h1,h2.mono hr⟩
theorem RoundC.perm{P:Program}{l:Nat}{args:List D}{st st1:St}{R R':D->St->Prop}(hp:st.Perm st1)(h:RoundC P l args st1 R)(hR:∀d s,R d s->∃s',s'.Perm s/\R' d s'):RoundC P l args st R':=by
 intro vs w h1 h2
 have e:=OwnS.perm hp
 refine VX (h vs w (by rw[<-e];exact h1) (h2.perm hp)) λ_ _ ⟨v,ev,d,s,k1,k2,k3,k4⟩=>?_
 obtain⟨s',q1,q2⟩:=hR d s k4
 have e':=OwnS.perm q1
 exact⟨v,ev,d,s',by rw[e'];exact k1,k2.perm q1.symm,by rw[e,e'];exact k3,q2⟩
theorem RoundC.le{P:Program}{l:Nat}{args args':List D}{st:St}{R:D->St->Prop}(h:RoundC P l args' st R)(hl:LEL args args'):RoundC P l args st R:=λvs w h1 h2=>h vs w (hl.repL h1) h2
def Xn (P:Program)(l:Nat){X:Type}(args:X->List D)(L:List X)(J Jx:Nat->St->Prop):Prop :=
 (∀(i:Nat) (x:X) (C:St),L[i]?=some x->J i C->(∃C',J (i+1) C')\/∃C',Jx (i+1) C')/\∀(i:Nat) (x:X) (C K:St),L[i]?=some x->J i C->RoundC P l (args x) (C++K) λd st'=>∃C',st'=C'++K/\((d=.s (.bool true)/\J (i+1) C')\/(d=.s (.bool false)/\Jx (i+1) C'))
def YE (P:Program)(g:FuncId)(caps:List D){X:Type}(args:X->List D)(L:List X)(K0:St)(Kend:St->Prop)(Kstop:Nat->St->Prop):Prop :=
 ∀(l:Nat) (C:St) (J Jx:Nat->St->Prop),Xn P l args L J Jx->J 0 C->TrF P g (.fn (.yield l) [] []::caps) (K0++C) λ_ st'=>∃K1 C',st'=K1++C'/\((Kend K1/\J L.length C')\/∃i,Kstop i K1/\Jx i C')
theorem OJ:∀C:St,C=[]++C:=fun _=>rfl
theorem Mo{f:St->St}{K:St}{x:Res}(h:∀C,f C=K++C):∀C,x::f C=(x::K)++C:=λC=>by rw[h];rfl
section
variable {P:Program} {N:Nat} {r:Option Nat} {A:AA} {st:St} {w:World} {Q:Exit->AA->St->Prop} {m:Option Ro} {k:D->St->Prop} {dst:Option Tmp} {ty:TypeId} {pos:String} {aft:Array Edge} {gd:Option (Nat×Bool)} {o:Oper}
theorem Nw{c:Call}{e:Nat->D}{g:Operand}{l:Nat}{ds:List D}{K:D->St->Prop}(ho:o.op=.call c)(hc:c.callee=.value g)(hg:ev e g=some (.fn (.yield l) [] []))
 (hargs:evL e c.args.toList=some ds)(h:RoundC P l ds st K):OpC P r o e st K:=by
 intro ρ w h1 h2
 rw[ho]at h1
 have hfn:=h1 g (by simp[Op.operands,Call.operands,hc]) _ hg
 have hds:=Lm h1 (λx hx=>by simp only[Op.operands,Call.operands,Oq];exact .inr (by simpa using hx)) hargs
 rw[VU r ρ o (by rw[ho];intro c hc;cases hc)]
 unfold execOp
 rw[ho]
 simp only[resolve,hc]
 generalize ρ g=gv at hfn
 cases hfn with
|fn _ us1 us2 _ _ l1 l2 r1 r2 =>
  obtain rfl:us1=[]:=Ay l1
  obtain⟨fn,tmps,assign,body,hy,hr⟩:=h (c.args.map ρ) w (by simpa using hds) h2
  have hy':(Instr.yield l (#[]++c.args.map ρ)).run P w=.ok (.round l fn tmps assign body) w:=by simpa using hy
  simp only[Deferred.ofValue,AG,AN,Am,invoke,hy']
  exact hr.mono λev w' ⟨v,e,hp⟩=>⟨v,e,hp⟩
theorem SU{l:Nat}{X:Type}{args:X->List D}{L:List X}{J Jx:Nat->St->Prop}{f:St->St}{K C:St}{i:Nat}{x:X}{g:Operand}{oas:Array Operand}{tys:Array TypeId}{ds:List D}
 (hY:Xn P l args L J Jx)(hJ:J i C)(hx:L[i]?=some x)(hg:ev A.e g=some (.fn (.yield l) [] []))(ha:evL A.e oas.toList=some ds)(hle:LEL ds (args x))(hf:∀C,f C=K++C)
 (hk1:∀C',J (i+1) C'->CZ m (f C')/\k (.s (.bool true)) (f C'))(hk0:∀C',Jx (i+1) C'->CZ m (f C')/\k (.s (.bool false)) (f C')):S P r m ⟨dst,.call ⟨.value g,oas,tys⟩,ty,pos,aft,gd⟩ A (f C) k:=by
 refine Ek (R:=λd st'=>∃C',st'=f C'/\((d=.s (.bool true)/\J (i+1) C')\/(d=.s (.bool false)/\Jx (i+1) C'))) rfl (Nw rfl rfl hg ha ?_) ?_ ?_
 . refine(RoundC.perm (by rw[hf];exact Bm) (hY.2 i x C K hx hJ) ?_).le hle
   rintro d s ⟨C',rfl,hc⟩
   exact⟨f C',by rw[hf];exact Bm,C',rfl,hc⟩
 . rcases hY.1 i x C hx hJ with⟨C',hC⟩|⟨C',hC⟩
   . exact⟨_,_,C',rfl,.inl ⟨rfl,hC⟩⟩
   . exact⟨_,_,C',rfl,.inr ⟨rfl,hC⟩⟩
 . rintro d st' ⟨C',rfl,⟨rfl,h⟩|⟨rfl,h⟩⟩
   . exact hk1 C' h
   . exact hk0 C' h
theorem Holds.know(h:Holds st w){f:Nat->Value}{e:Nat->D}(hk:∀t,Rep (OwnS st) w (f t) (e t)):Holds (.know f e::st) w/\Ext (OwnS st) w (OwnS (.know f e::st)) w:=by
 have he:Ext (OwnS st) w (OwnS (.know f e::st)) w:=(Ext.refl _ w).less λb off ho=>(OwnS.cons_iff.1 ho).elim (λx=>by cases x.1) id
 exact⟨h.push he (λ_ _ _ _=>rfl) (λt=>(hk t).ext he) (λx _ b e=>by cases e),he⟩
theorem Ox{b:Nat}{o o':Obj}(h:Holds (.raw b o::st) w)(hn:∀c E fr,o≠.cells c E fr):Holds (.raw b o'::st) (w.putObj b o')/\Ext (OwnS (.raw b o::st)) w (OwnS (.raw b o'::st)) (w.putObj b o'):=by
 have hb:w.heap[b]?=some o:=h.2 _ (Ag ..)
 have hlt:=(AE.1 hb).1
 have hown:∀c off,OwnS (.raw b o'::st) c off->OwnS (.raw b o::st) c off:=λc off ho=>OwnS.cons_iff.2 ((OwnS.cons_iff.1 ho).imp id id)
 have he:Ext (OwnS (.raw b o::st)) w (OwnS (.raw b o'::st)) (w.putObj b o'):=by
  refine⟨Ap _,rfl,rfl,rfl,by simp,λc off _ ho=>hown c off ho,λc hc hno=>DV λe=>hno 0 (OwnS.cons_iff.2 (.inl ⟨by rw[e];rfl,Ao _⟩)),λc cs E fr hc=>⟨cs,fr,?_,rfl,λ_ _=>rfl⟩⟩
  refine(DV λe=>?_).trans hc
  subst e
  rw[hb]at hc
  cases hc
  exact hn _ _ _ rfl
 refine⟨h.put he (λx hx c hc=>DV λe=>(AX.1 h.1).1 x hx b rfl (e▸hc)) (World.putObj_heap_same hlt) λx hx c hc hc'=>(AX.1 h.1).1 x hx c hc hc',he⟩
theorem Ia{C T:St}{b:Nat}{o o':Obj}(h:Holds (C++.raw b o::T) w)(hn:∀c E fr,o≠.cells c E fr):Holds (C++.raw b o'::T) (w.putObj b o')/\Ext (OwnS (C++.raw b o::T)) w (OwnS (C++.raw b o'::T)) (w.putObj b o'):=by
 have h1:=Ox (o':=o') (h.perm AD) hn
 exact⟨h1.1.perm AD.symm,h1.2.perm AD AD⟩
def SQ:AA->List Tmp->List D->AA
|A,p::ps,d::ds=>SQ (A.put (some p) d) ps ds
|A,_,_=>A
theorem Mu{O:Nat->Nat->Prop}:∀(ps:List Tmp) (vs:List Value) (ds:List D) (tm:Array Value) (A:AA),(∀p∈ps,p<N)->RelA N O w ⟨tm,[]⟩ A->RepL O w vs ds->RelA N O w ⟨(ps.zip vs).foldl (λt (p,v)=>t.setIfInBounds p v) tm,[]⟩ (SQ A ps ds)
|[],vs,ds,tm,A,_,h,_=>by cases vs<;>exact h
|p::ps,[],ds,tm,A,_,h,hv=>by
  obtain rfl:ds=[]:=Ay hv.1.symm
  exact h
|p::ps,v::vs,[],tm,A,_,h,hv=>by have:=hv.1;simp at this
|p::ps,v::vs,d::ds,tm,A,hp,h,hv=>by
  obtain⟨u,t,e,h1,h2⟩:=hv.inv_cons
  cases e
  exact Mu ps vs ds _ _ (λq hq=>hp q (Ae _ hq)) (h.put (dst:=some p) (by simp[JH,hp p (Ag ..)]) h1) h2
def Ta (K:St)(i:Nat)(J:Nat->St->Prop)(Jx:Code->Nat->St->Prop):Exit->AA->St->Prop
|.normal,_,st'=>∃C',(C'++K).Sublist st'/\J i C'
|.ret,_,st'=>∃C',(C'++K).Sublist st'/\Jx .ret i C'
|.exit id,_,st'=>∃C',(C'++K).Sublist st'/\Jx (.exit id) i C'
|.goto t,_,st'=>∃C',(C'++K).Sublist st'/\Jx (.goto t) i C'
|_,_,_=>False
abbrev Tl (fn:FuncId)(tmps:Array Value)(ps:Array Tmp)(assign body:Code)(d:Nat)(s:LoopState)(pe:Option Code):Loop:={state:=s,pending:=pe,fn,tmps,params:=ps,assign,body,defers:=d}
theorem Nu{K C:St}{x y z:Res}:(z::x::y::(K++C)).Perm (K++(C++[x,y,z])):=by
 rw[<-Ai]
 refine List.Perm.trans ?_ Bm
 exact(List.Perm.swap _ _ _).trans (.cons _ (.swap _ _ _))
theorem QM{X:Type}{g:Operand}{ps:Array Tmp}{assign body:Code}{gf:FuncId}{caps:List D}{args:X->List D}{L:List X}{K0 C:St}{Kend:St->Prop}{Kstop:Nat->St->Prop}
 (hit:YE P gf caps args L K0 Kend Kstop)(hent:∀args w,(callFunc gf args).run P w=.ok (.enter gf args) w)(hg:ev A.e g=some (.fn (.func gf) [] caps))(hps:∀x,(args x).length=ps.size)(hpN:ps.toList.all (λt=>decide (t<N))=true)
 (J:Nat->St->Prop)(Jx:Code->Nat->St->Prop)(h0:J 0 C)(hne:∀(i:Nat) (x:X) (C:St),L[i]?=some x->J i C->(∃C',J (i+1) C')\/∃c C',Jx c (i+1) C')
 (hround:∀l i x C K,L[i]?=some x->J i C->Tr P N (some l) assign (SQ ⟨A.e,[]⟩ ps.toList (args x)) (C++K) (IK (λA' st'=>∃C1,(C1++K).Sublist st'/\∀K',Tr P N (some l) body A' (C1++K') (Ta K' (i+1) J Jx)) (λ_ _ _=>False)))
 (hdone:∀d K1 C',Kend K1->J L.length C'->Q .normal ⟨A.e,Fx d::A.df⟩ (BK d::(K1++C')))
 (hstop:∀c d i K1 C',Kstop i K1->Jx c i C'->Tr P N none c ⟨A.e,Fx d::A.df⟩ (BK d::(K1++C')) Q) :
 Tr P N none (.rangeFunc g ps assign body) A (K0++C) Q:=by
 intro a w h1 h2
 have hr:=PJ h1 hg
 generalize hgv:a.eval g=gv at hr
 cases hr with
|fn _ us1 us2 _ _ l1 l2 r1 r2 =>
 obtain rfl:us1=[]:=Ay l1
 refine wpIn_rangeFunc λfn hfn=>?_
 obtain⟨d,hd⟩:∃d,d=w.heap.size:=⟨_,rfl⟩
 obtain⟨rec,hrec⟩:∃rec,rec=Tl fn a.tmps ps assign body d:=⟨_,rfl⟩
 have n1:=Io h2 (Res.raw d (.deferred (some []))) (λb e=>by cases e;exact hd) (.deferred (some [])) (λ_=>by rw[hd];exact heap_alloc_new w _)
 obtain⟨w1,hw1⟩:∃w1,w1=w.alloc (.deferred (some [])):=⟨_,rfl⟩
 rw[<-hw1]at n1
 have hs1:w1.heap.size=d+1:=by rw[hw1,hd];simp
 have n2:=Io n1.1 (Res.raw (d+1) (.loop (rec .ready none))) (λb e=>by cases e;exact hs1.symm) (.loop (rec .ready none)) (λ_=>by rw[<-hs1];exact heap_alloc_new w1 _)
 obtain⟨W1,hW1⟩:∃W1,W1=w1.alloc (.loop (rec .ready none)):=⟨_,rfl⟩
 rw[<-hW1]at n2
 obtain⟨tm,htm⟩:∃tm:Nat->Value,tm=λt=>a.tmps.getD t undef:=⟨_,rfl⟩
 have n3:=n2.1.know (f:=tm) (e:=A.e) (λt=>by rw[htm];exact((h1.ext n1.2).ext n2.2).2.2 t)
 obtain⟨B,hB⟩:∃B:LoopState->Option Code->St,B=λs pe=>[Res.raw (d+1) (.loop (rec s pe)),Res.raw d (.deferred (some [])),Res.know tm A.e]:=⟨_,rfl⟩
 have hp:(Res.know tm A.e::Res.raw (d+1) (.loop (rec .ready none))::Res.raw d (.deferred (some []))::(K0++C)).Perm (K0++(C++B .ready none)):=by rw[hB];exact Nu
 have E3:Ext (OwnS (K0++C)) w (OwnS (K0++(C++B .ready none))) W1:=by rw[<-OwnS.perm hp];exact n1.2.trans (n2.2.trans n3.2)
 have H3:=n3.1.perm hp
 have hnl:∀(x:Loop) c E fr,Obj.loop x≠.cells c E fr:=λ_ _ _ _ e=>by cases e
 have hY:Xn P (d+1) args L (λi C'=>∃C,C'=C++B .ready none/\J i C) (λi C'=>∃c C,C'=C++B .done (some c)/\Jx c i C):=by
  refine⟨λi x C' hx ⟨C,_,hJ⟩=>(hne i x C hx hJ).elim (λ⟨C1,h⟩=>.inl ⟨_,C1,rfl,h⟩) λ⟨c,C1,h⟩=>.inr ⟨_,c,C1,rfl,h⟩,?_⟩
  rintro i x C' K hx ⟨Cn,rfl,hJ⟩ vs w2 hv hh
  rw[Ai]at hv hh
  have hl:w2.heap[d+1]?=some (.loop (rec .ready none)):=hh.2 (Res.raw (d+1) (.loop (rec .ready none))) (by rw[hB];simp)
  have hkn:∀t,Rep (OwnS (Cn++(B .ready none++K))) w2 (tm t) (A.e t):=hh.2 (Res.know tm A.e) (by rw[hB];simp)
  have hy:=run_yield (P:=P) (args:=vs) hl (by rw[hrec,<-AR,hv.1];exact hps x)
  rw[hrec]at hy
  refine⟨fn,_,assign,body,hy,roundIn_of_wpIn hfn ?_⟩
  clear hy
  have hz:(ps.zip vs).foldl (λtmps (t,a)=>tmps.setIfInBounds t a) a.tmps=(ps.toList.zip vs.toList).foldl (λt (p,v)=>t.setIfInBounds p v) a.tmps:=by
   rw[<-Mj,d6]
  have hrel:RelA N (OwnS (Cn++(B .ready none++K))) w2 ⟨(ps.zip vs).foldl (λtmps (t,a)=>tmps.setIfInBounds t a) a.tmps,[]⟩ (SQ ⟨A.e,[]⟩ ps.toList (args x)):=by
   rw[hz]
   refine Mu _ _ _ _ _ (λp hp=>by simpa using AU.1 hpN p hp) ⟨h1.1,rfl,λt=>?_⟩ hv
   have:=hkn t
   rw[htm]at this
   exact this
  refine wpIn_mono (hround (d+1) i x Cn (B .ready none++K) hx hJ _ w2 hrel hh) ?_
  rintro e a3 w3 ⟨A3,st3,k1,k2,k3,k4⟩
  cases e with
  | normal =>
   obtain⟨C1,hsub,hbody⟩:=k4
   have e3:=Ext.drop (λ_ h=>hsub.subset h) w3
   have H4:=k2.sub hsub
   have hl3:w3.heap[d+1]?=some (.loop (rec .ready none)):=H4.2 (Res.raw (d+1) (.loop (rec .ready none))) (by rw[hB];simp)
   refine⟨_,run_beginRound hl3 (by rw[hrec]),?_⟩
   have q:=Ia (C:=C1) (T:=[Res.raw d (.deferred (some [])),Res.know tm A.e]++K) (o':=.loop {rec .ready none with state:=.busy}) (by rw[hB]at H4;exact H4) (hnl _)
   have hbz:C1++(Res.raw (d+1) (.loop {rec .ready none with state:=.busy})::([Res.raw d (.deferred (some [])),Res.know tm A.e]++K))=C1++(B .busy none++K):=by rw[hB,hrec];rfl
   have hbr:C1++(Res.raw (d+1) (.loop (rec .ready none))::([Res.raw d (.deferred (some [])),Res.know tm A.e]++K))=C1++(B .ready none++K):=by rw[hB];rfl
   rw[hbz]at q
   rw[hbr]at q
   have E4:=(k3.trans e3).trans q.2
   refine wpIn_mono (hbody (B .busy none++K) _ _ ((k1.ext e3).ext q.2) q.1) ?_
   have fin:∀(jump:Option Code) (C5 st5:St) (w5:World),(C5++(B .busy none++K)).Sublist st5->Holds st5 w5->Ext (OwnS (C1++(B .busy none++K))) (w3.putObj (d+1) (.loop {rec .ready none with state:=.busy})) (OwnS st5) w5 ->
    (Instr.endRound (d+1) jump).run P w5=.ok (.bool jump.isNone) (w5.putObj (d+1) (.loop (rec (if jump.isNone then .ready else .done) jump))) /\
    Holds (C5++B (if jump.isNone then .ready else .done) jump++K) (w5.putObj (d+1) (.loop (rec (if jump.isNone then .ready else .done) jump))) /\
    Ext (OwnS (Cn++B .ready none++K)) w2 (OwnS (C5++B (if jump.isNone then .ready else .done) jump++K)) (w5.putObj (d+1) (.loop (rec (if jump.isNone then .ready else .done) jump))):=λjump C5 st5 w5 hs5 hh5 he5=>by
    have e5:=Ext.drop (λ_ h=>hs5.subset h) w5
    have H6:=hh5.sub hs5
    have hl5:w5.heap[d+1]?=some (.loop (rec .busy none)):=H6.2 (Res.raw (d+1) (.loop (rec .busy none))) (by rw[hB];simp)
    have hr5:=run_endRound (P:=P) jump hl5
    rw[hrec]at hr5 |-
    have q5:=Ia (C:=C5) (T:=[Res.raw d (.deferred (some [])),Res.know tm A.e]++K) (o':=.loop (Tl fn a.tmps ps assign body d (if jump.isNone then .ready else .done) jump)) (by rw[hB]at H6;exact H6) (hnl _)
    have hbz5:C5++(Res.raw (d+1) (.loop (Tl fn a.tmps ps assign body d (if jump.isNone then .ready else .done) jump))::([Res.raw d (.deferred (some [])),Res.know tm A.e]++K))=C5++B (if jump.isNone then .ready else .done) jump++K:=by rw[hB,hrec,Ai];rfl
    have hbr5:C5++(Res.raw (d+1) (.loop (rec .busy none))::([Res.raw d (.deferred (some [])),Res.know tm A.e]++K))=C5++(B .busy none++K):=by rw[hB];rfl
    rw[hbz5]at q5
    rw[hbr5]at q5
    refine⟨hr5,q5.1,?_⟩
    rw[show Cn++B .ready none++K=Cn++(B .ready none++K) by rw[Ai]]
    exact(E4.trans (he5.trans e5)).trans q5.2
   rintro e a5 w5 ⟨A5,st5,m1,m2,m3,m4⟩
   cases e with
   | normal =>
    obtain⟨C5,hs5,hJ5⟩:=m4
    obtain⟨f1,f2,f3⟩:=fin none C5 st5 w5 hs5 m2 m3
    exact⟨_,_,f1,_,rfl,.s (.bool true),_,.s _ rfl,f2,f3,_,rfl,.inl ⟨rfl,C5,rfl,hJ5⟩⟩
   | ret =>
    obtain⟨C5,hs5,hJ5⟩:=m4
    obtain⟨f1,f2,f3⟩:=fin (some .ret) C5 st5 w5 hs5 m2 m3
    exact⟨_,_,f1,_,rfl,.s (.bool false),_,.s _ rfl,f2,f3,_,rfl,.inr ⟨rfl,.ret,C5,rfl,hJ5⟩⟩
   | exit id =>
    obtain⟨C5,hs5,hJ5⟩:=m4
    obtain⟨f1,f2,f3⟩:=fin (some (.exit id)) C5 st5 w5 hs5 m2 m3
    exact⟨_,_,f1,_,rfl,.s (.bool false),_,.s _ rfl,f2,f3,_,rfl,.inr ⟨rfl,.exit id,C5,rfl,hJ5⟩⟩
   | goto t =>
    obtain⟨C5,hs5,hJ5⟩:=m4
    obtain⟨f1,f2,f3⟩:=fin (some (.goto t)) C5 st5 w5 hs5 m2 m3
    exact⟨_,_,f1,_,rfl,.s (.bool false),_,.s _ rfl,f2,f3,_,rfl,.inr ⟨rfl,.goto t,C5,rfl,hJ5⟩⟩
   | panic c=>exact m4.elim
   | outgrown=>exact m4.elim
  | exit id=>exact k4.elim
  | goto t=>exact k4.elim
  | ret=>exact k4.elim
  | panic c=>exact k4.elim
  | outgrown=>exact k4.elim
 refine⟨d+1,[Fx d],W1,{target:=.fn (.func gf) us2.toArray,args:=#[.func (.yield (d+1)) #[] #[]]},W1,gf,#[.func (.yield (d+1)) #[] #[]]++us2.toArray,W1,?_,?_,λ_ _=>trivial,?_,(λh=>by cases h),?_⟩
 . rw[hW1,hrec,hw1,hd]
   exact run_enterLoop_outer _ _ _ _ _
 . simp only[resolve,hgv]
   simp[go_sem]
 . simp[invoke,go_sem,hent]
 . have hcall := hit (d + 1) (C ++ B .ready none) _ _ hY ⟨C, rfl, h0⟩ (#[.func (.yield (d + 1)) #[] #[]] ++ us2.toArray) W1 (by
    have hvs:(#[Value.func (.yield (d+1)) #[] #[]]++us2.toArray).toList=Value.func (.yield (d+1)) #[] #[]::us2:=by simp
    rw[hvs]
    refine RepL.cons ?_ ?_
    . exact .fn (.yield (d+1)) [] [] [] [] rfl rfl (λi h=>absurd h (BL _)) (λi h=>absurd h (BL _))
    . exact⟨l2,λi h h'=>(r2 i h h').ext E3⟩) H3
   refine(callsIn_wide.2 hcall).mono ?_
   rintro e w2 ⟨v,rfl,dd,st2, -,q2,q3,K1,C2,rfl,⟨hk,Cn,rfl,hJ⟩|⟨i,hk,c,Cn,rfl,hJ⟩⟩
   . have hl:w2.heap[d+1]?=some (.loop (rec .ready none)):=q2.2 (Res.raw (d+1) (.loop (rec .ready none))) (by rw[hB];simp)
     have hend:(Instr.endLoop (d+1)).run P w2=.ok none (w2.putObj (d+1) (.loop {rec .ready none with state:=.exhausted})):=by
      subst hrec;exact run_endLoop (P:=P) hl (by simp)
     have q2':Holds ((K1++Cn)++Res.raw (d+1) (.loop (rec .ready none))::[Res.raw d (.deferred (some [])),Res.know tm A.e]) w2:=by rw[hB,<-Ai]at q2;exact q2
     have q:=Ia (o':=.loop {rec .ready none with state:=.exhausted}) q2' (hnl _)
     have hsub:(BK d::(K1++Cn)).Sublist (BK d::(K1++Cn++[Res.raw (d+1) (.loop {rec .ready none with state:=.exhausted}),Res.know tm A.e])):=(Dd _ _).cons_cons _
     have hpm:(K1++Cn++Res.raw (d+1) (.loop {rec .ready none with state:=.exhausted})::[Res.raw d (.deferred (some [])),Res.know tm A.e]).Perm (BK d::(K1++Cn++[Res.raw (d+1) (.loop {rec .ready none with state:=.exhausted}),Res.know tm A.e])):=by
      refine(CU _ (.swap _ _ _)).trans ?_
      exact AD
     have hq3:Ext (OwnS (K0++C)) w (OwnS ((K1++Cn)++Res.raw (d+1) (.loop (rec .ready none))::[Res.raw d (.deferred (some [])),Res.know tm A.e])) w2:=by
      have:=E3.trans q3
      rw[hB,<-Ai]at this
      exact this
     have Ef:Ext (OwnS (K0++C)) w (OwnS (BK d::(K1++Cn))) (w2.putObj (d+1) (.loop {rec .ready none with state:=.exhausted})):=by
      refine((hq3.trans q.2).trans ?_)
      rw[OwnS.perm hpm]
      exact Ext.drop (λ_ h=>hsub.subset h) _
     exact⟨none,_,hend,⟨A.e,Fx d::A.df⟩,_,⟨h1.1,by show Fx d::a.defers=Fx d::A.df;rw[h1.2.1],λt=>(h1.2.2 t).ext Ef⟩,(q.1.perm hpm).sub hsub,Ef,hdone d K1 Cn hk hJ⟩
   . have hl:w2.heap[d+1]?=some (.loop (rec .done (some c))):=q2.2 (Res.raw (d+1) (.loop (rec .done (some c)))) (by rw[hB];simp)
     have hend:(Instr.endLoop (d+1)).run P w2=.ok (some c) (w2.putObj (d+1) (.loop {rec .done (some c)with state:=.exhausted})):=by
      subst hrec;exact run_endLoop (P:=P) hl (by simp)
     have q2':Holds ((K1++Cn)++Res.raw (d+1) (.loop (rec .done (some c)))::[Res.raw d (.deferred (some [])),Res.know tm A.e]) w2:=by rw[hB,<-Ai]at q2;exact q2
     have q:=Ia (o':=.loop {rec .done (some c)with state:=.exhausted}) q2' (hnl _)
     have hsub:(BK d::(K1++Cn)).Sublist (BK d::(K1++Cn++[Res.raw (d+1) (.loop {rec .done (some c)with state:=.exhausted}),Res.know tm A.e])):=(Dd _ _).cons_cons _
     have hpm:(K1++Cn++Res.raw (d+1) (.loop {rec .done (some c)with state:=.exhausted})::[Res.raw d (.deferred (some [])),Res.know tm A.e]).Perm (BK d::(K1++Cn++[Res.raw (d+1) (.loop {rec .done (some c)with state:=.exhausted}),Res.know tm A.e])):=by
      refine(CU _ (.swap _ _ _)).trans ?_
      exact AD
     have hq3:Ext (OwnS (K0++C)) w (OwnS ((K1++Cn)++Res.raw (d+1) (.loop (rec .done (some c)))::[Res.raw d (.deferred (some [])),Res.know tm A.e])) w2:=by
      have:=E3.trans q3
      rw[hB,<-Ai]at this
      exact this
     have Ef:Ext (OwnS (K0++C)) w (OwnS (BK d::(K1++Cn))) (w2.putObj (d+1) (.loop {rec .done (some c)with state:=.exhausted})):=by
      refine((hq3.trans q.2).trans ?_)
      rw[OwnS.perm hpm]
      exact Ext.drop (λ_ h=>hsub.subset h) _
     exact⟨some c,_,hend,wpIn_mono (hstop c d i K1 Cn hk hJ _ _ ⟨h1.1,by show Fx d::a.defers=Fx d::A.df;rw[h1.2.1],λt=>(h1.2.2 t).ext Ef⟩ ((q.1.perm hpm).sub hsub)) λ_ _ _=>PostA.ext Ef⟩
theorem TY{X:Type}{g:Operand}{ps:Array Tmp}{assign body:Code}{gf:FuncId}{caps:List D}{args:X->List D}{L:List X}{K0 C:St}{Kend:St->Prop}{Kstop:Nat->St->Prop}
 (hit:YE P gf caps args L K0 Kend Kstop)(hent:∀args w,(callFunc gf args).run P w=.ok (.enter gf args) w)(hg:ev A.e g=some (.fn (.func gf) [] caps))(hps:∀x,(args x).length=ps.size)(hpN:ps.toList.all (λt=>decide (t<N))=true)
 (J:Nat->St->Prop)(Jx:Code->Nat->St->Prop)(h0:J 0 C)(hne:∀i,i<=L.length->∃C,J i C)
 (hround:∀l i x C K,L[i]?=some x->J i C->Tr P N (some l) assign (SQ ⟨A.e,[]⟩ ps.toList (args x)) (C++K) (IK (λA' st'=>∃C1,(C1++K).Sublist st'/\∀K',Tr P N (some l) body A' (C1++K') (Ta K' (i+1) J Jx)) (λ_ _ _=>False)))
 (hdone:∀d K1 C',Kend K1->J L.length C'->Q .normal ⟨A.e,Fx d::A.df⟩ (BK d::(K1++C')))
 (hstop:∀c d i K1 C',Kstop i K1->Jx c i C'->Tr P N none c ⟨A.e,Fx d::A.df⟩ (BK d::(K1++C')) Q) :
 Tr P N none (.rangeFunc g ps assign body) A (K0++C) Q :=
 QM hit hent hg hps hpN J Jx h0 (λi x C hx _=>.inl (hne (i+1) (Af.1 hx).1)) hround hdone hstop
end
theorem DA{r:Res}{s:St}:(r::s).Perm (r::s):=.refl _
theorem CV{r x:Res}{s s2:St}(h:s.Perm (r::s2)):(x::s).Perm (r::x::s2):=(h.cons _).trans (.swap _ _ _)
theorem Em{ts:List Tmp}{R:D->St->Prop}{ex:Exit}{A:AA}{X:D}{st st0 s2:St}{d:Nat}(hex:ex=.normal\/ex=.ret)(hdf:A.df=[Fx d])(hp:st.Perm (BK d::s2))(hs:st0.Sublist s2)(hd:LE (OY ts A.e) X)(hR:R X st0):Ut ts R ex A st:=by
 rcases hex with rfl|rfl<;>exact⟨[d],X,s2,st0,hdf,hp,hs,hd,hR⟩
theorem BX{b:Nat}{ty:TypeId}{cs:List D}{ro:Ro}{st:St}(h:Res.box b ty cs∈st)(k:CZ (some ro) st):CZ (some ((b,cs)::ro)) st:=λb' cs' hl=>by
 rw[dZ]at hl
 split at hl
 . rename_i he
   cases hl
   have:b'=b:=eq_of_beq he
   subst this
   exact⟨ty,h⟩
 . exact k b' cs' hl
theorem q_k{p:Prop}(h:p:=by(repeat(first|exact BI|refine BX q_m ?_));first|done|fail):p:=h
inductive At2 (a b a' b':Res):St->St->Prop
|here {s:St}:At2 a b a' b' (a::b::s) (a'::b'::s)
|there {x:Res} {s s':St} (h:At2 a b a' b' s s'):At2 a b a' b' (x::s) (x::s')
theorem At2.perm{a b a' b':Res}{s s':St}(h:At2 a b a' b' s s'):∃s0,s.Perm (a::b::s0)/\s'.Perm (a'::b'::s0):=by
 induction h with
|here=>exact⟨_,.refl _,.refl _⟩
|there h ih =>
  obtain⟨s0,h1,h2⟩:=ih
  exact⟨_,(h1.cons _).trans ((List.Perm.swap _ _ _).trans (.cons _ (.swap _ _ _))),(h2.cons _).trans ((List.Perm.swap _ _ _).trans (.cons _ (.swap _ _ _)))⟩
theorem Dl{r:Res}{st s s':St}(h:st.Perm (r::s))(k:s.Perm s'):st.Perm (r::s'):=h.trans (k.cons _)
end
section
section
variable {P:Program} {r:Option Nat} {ro:Ro} {st:St}
structure SameOp (o1 o2:Oper):Prop where
 dst:o1.dst=o2.dst
 op:o1.op=o2.op
 type:o1.type=o2.type
 pos:o1.pos=o2.pos
 guard:o1.guard=o2.guard
theorem SameOp.refl(o:Oper):SameOp o o:=⟨rfl,rfl,rfl,rfl,rfl⟩
theorem SameOp.symm{o1 o2:Oper}(h:SameOp o1 o2):SameOp o2 o1:=⟨h.dst.symm,h.op.symm,h.type.symm,h.pos.symm,h.guard.symm⟩
theorem SameOp.free{o1 o2:Oper}(h:SameOp o1 o2):Dn o1=Dn o2:=by unfold Dn;rw[h.op]
theorem SameOp.wanted{ops1 ops2:Array Oper}{o1 o2:Oper}(h:SameOp o1 o2)(hd:∀j:Nat,(ops1[j]?).bind (λo:Oper=>o.dst)=(ops2[j]?).bind (λo:Oper=>o.dst))(e:Nat->D):Ct ops1 o1 e=Ct ops2 o2 e:=by
 unfold Ct
 rw[h.guard]
 cases o2.guard with
|none=>rfl
|some q=>obtain⟨j,b⟩:=q;dsimp only;rw[hd j]
theorem SameOp.frC{o1 o2:Oper}(h:SameOp o1 o2)(e:Nat->D):frC P ro o1 e=frC P ro o2 e:=by
 obtain⟨d1,p1,t1,s1,a1,g1⟩:=o1
 obtain⟨d2,p2,t2,s2,a2,g2⟩:=o2
 obtain⟨e1,e2,e3,e4,e5⟩:=h
 dsimp only at e1 e2 e3 e4 e5
 subst e1 e2 e3 e4 e5
 rfl
theorem SameOp.opC{o1 o2:Oper}(h:SameOp o1 o2){e:Nat->D}{K:D->St->Prop}(hh:OpC P r o1 e st K):OpC P r o2 e st K:=by
 obtain⟨d1,p1,t1,s1,a1,g1⟩:=o1
 obtain⟨d2,p2,t2,s2,a2,g2⟩:=o2
 obtain⟨e1,e2,e3,e4,e5⟩:=h
 dsimp only at e1 e2 e3 e4 e5
 subst e1 e2 e3 e4 e5
 exact hh
theorem DE{ops1 ops2:Array Oper}{f f':Bool}{o1 o2:Oper}(hs:SameOp o1 o2)(hd:∀j:Nat,(ops1[j]?).bind (λo:Oper=>o.dst)=(ops2[j]?).bind (λo:Oper=>o.dst))(hf:f=true->f'=true){K K':AA->St->Prop}(hK:∀A st,K A st->K' A st){A:AA}
 (h:CS P r ro f ops1 o1 K A st):CS P r ro f' ops2 o2 K' A st:=by
 unfold CS at h |-
 rw[hs.wanted hd,hs.free,hs.frC,hs.dst]at h
 split
 . rename_i hw
   rw[if_pos hw]at h
   split
   . rename_i hfr
     rw[if_pos hfr]at h
     obtain⟨d,h1,h2⟩:=h
     exact⟨d,h1,hK _ _ h2⟩
   . rename_i hfr
     rw[if_neg hfr]at h
     obtain⟨h1,d,st',h2,h3⟩:=h
     exact⟨hs.opC (h1.mono λd st' hk=>⟨hk.1.imp hf id,hK _ _ hk.2⟩),d,st',h2.imp hf id,hK _ _ h3⟩
 . rename_i hw
   rw[if_neg hw]at h
   exact hK _ _ h
theorem Vd{ops:Array Oper}{f f':Bool}{o:Oper}(hfr:Dn o=true){K1 K2:AA->St->Prop}{A:AA}(h1:CS P r ro f ops o K1 A st)(h2:CS P r ro f' ops o K2 A st):CS P r ro f ops o (λA st=>K1 A st/\K2 A st) A st:=by
 unfold CS at h1 h2 |-
 split
 . rename_i hw
   rw[if_pos hw,if_pos hfr]at h1 h2
   obtain⟨d,a1,b1⟩:=h1
   obtain⟨d',a2,b2⟩:=h2
   rw[a1]at a2
   cases a2
   exact⟨d,a1,b1,b2⟩
 . rename_i hw
   rw[if_neg hw]at h1 h2
   exact⟨h1,h2⟩
def EO:List Oper->Nat->Nat->List Oper
|[],_,_=>[]
|o::l,0,j=>{o with after:=o.after.push ⟨j,.data⟩}::l
|o::l,i+1,j=>o::EO l i j
theorem KX:∀(l:List Oper) (i j k:Nat),(EO l i j)[k]?=if k=i then(l[k]?).map (λo=>{o with after:=o.after.push ⟨j,.data⟩})else l[k]?
|[],i,j,k=>by simp[EO]
|o::l,0,j,k=>by cases k<;>simp[EO]
|o::l,i+1,j,k=>by
  cases k with
  | zero=>simp[EO]
  | succ k=>simp[EO,KX l i j k]
theorem JJ:∀(l:List Oper) (i j:Nat),(EO l i j).length=l.length
|[],_,_=>rfl
|_::_,0,_=>rfl
|_::l,i+1,j=>by simp[EO,JJ l i j]
theorem He{l:List Oper}{x y i:Nat}{o:Oper}(h:l[i]?=some o):∃o1,(EO l x y)[i]?=some o1/\SameOp o1 o:=by
 rw[KX,h]
 split
 . exact⟨_,rfl,⟨rfl,rfl,rfl,rfl,rfl⟩⟩
 . exact⟨_,rfl,.refl _⟩
theorem Fb(l:List Oper)(x y j:Nat):((EO l x y).toArray[j]?).bind (λo:Oper=>o.dst)=(l.toArray[j]?).bind (λo:Oper=>o.dst):=by
 simp only[Eo,KX]
 split
 . cases l[j]?<;>rfl
 . rfl
theorem Dc{l:List Oper}{x y i:Nat}{listed:Array Bool}:i∈Region.ready .any (EO l x y).toArray listed↔i∈Region.ready .any l.toArray listed/\(i=x->listed.getD y false=true):=by
 rw[mem_ready,mem_ready]
 simp only[Eo,KX]
 constructor
 . rintro⟨h1,o,ho,h2⟩
   split at ho
   . rename_i hix
     cases hl:l[i]? with
     | none=>rw[hl]at ho;cases ho
     | some o' =>
      rw[hl]at ho
      cases ho
      exact⟨⟨h1,o',rfl,λe he hb=>h2 e (by simp[he]) hb⟩,λ_=>h2 ⟨y,.data⟩ (by simp) rfl⟩
   . rename_i hix
     exact⟨⟨h1,o,ho,h2⟩,λe=>absurd e hix⟩
 . rintro⟨⟨h1,o,ho,h2⟩,h3⟩
   refine⟨h1,?_⟩
   split
   . rename_i hix
     rw[ho]
     refine⟨_,rfl,λe he hb=>?_⟩
     rcases Array.mem_push.1 he with h|h
     . exact h2 e h hb
     . subst h;exact h3 hix
   . exact⟨o,ho,h2⟩
theorem FY{l:List Oper}{x y i:Nat}(hl:Bx (EO l x y).toArray=true->Bx l.toArray=true)(h:(decide (i+1=(EO l x y).toArray.size) && Bx (EO l x y).toArray)=true):(decide (i+1=l.toArray.size) && Bx l.toArray)=true:=by
 simp only[AF,decide_eq_true_eq,Nj,JJ]at h |-
 exact⟨h.1,hl h.2⟩
theorem IX{l:List Oper}{x y:Nat}{Q:AA->St->Prop}(hl:Bx (EO l x y).toArray=true->Bx l.toArray=true):∀(fuel:Nat) (listed:Array Bool) (A:AA) (st:St),listed.getD y false=true ->
 Dg P r ro .any (EO l x y).toArray Q fuel listed A st->Dg P r ro .any l.toArray Q fuel listed A st
|0,listed,A,st,hy,h=>by
  refine⟨Cj.2 λi hi=>?_,h.2⟩
  have:=(Dc (l:=l) (x:=x) (y:=y)).2 ⟨hi,λ_=>hy⟩
  rw[h.1]at this;cases this
|fuel+1,listed,A,st,hy,h=>by
  refine⟨λh0=>h.1 (Cj.2 λi hi=>?_),λi hi o ho=>?_⟩
  . have:=(Dc.1 hi).1
    rw[h0]at this;cases this
  . obtain⟨o1,ho1,hs⟩:=He (x:=x) (y:=y) (by simpa using ho)
    exact DE hs (Fb l x y) (FY hl) (λA st=>IX hl fuel _ A st (getD_set_true hy)) (h.2 i (Dc.2 ⟨hi,λ_=>hy⟩) o1 (by simpa using ho1))
theorem JY{md:Region.Mode}{ops:Array Oper}{listed:Array Bool}{i:Nat}(h:i∈Region.ready md ops listed):(listed.setIfInBounds i true).getD i false=true:=by
 have h1:=(mem_ready.1 h).1
 rw[Cv]at h1 |-
 rcases Dv i listed.size with h2|h2
 . rw[SF h2];rfl
 . rw[Ee h2]at h1;cases h1
def im (l:List Oper)(a c:Nat):Bool:=(List.range l.length).all λi=>i == a || i == c || match l[i]? with
|some o=>Dn o || o.after.any (λe=>Region.binds .any e && (e.on == a || e.on == c))
|none=>true
theorem Yw{l:List Oper}{a c:Nat}{Q:AA->St->Prop}(hac:a≠c)(hfree:im l a c=true)(hl1:Bx (EO l a c).toArray=true->Bx l.toArray=true)(hl2:Bx (EO l c a).toArray=true->Bx l.toArray=true):∀(fuel:Nat) (listed:Array Bool) (A:AA) (st:St),listed.getD a false=false->listed.getD c false=false ->
 Dg P r ro .any (EO l a c).toArray Q fuel listed A st->Dg P r ro .any (EO l c a).toArray Q fuel listed A st->Dg P r ro .any l.toArray Q fuel listed A st
|0,listed,A,st,ha,hc,h1,h2=>by
  refine⟨Cj.2 λi hi=>?_,h1.2⟩
  by_cases hia:i=a
  . have:=(Dc (l:=l) (x:=c) (y:=a)).2 ⟨hi,λe=>absurd (hia.symm.trans e) hac⟩
    rw[h2.1]at this;cases this
  . have:=(Dc (l:=l) (x:=a) (y:=c)).2 ⟨hi,λe=>absurd e hia⟩
    rw[h1.1]at this;cases this
|fuel+1,listed,A,st,ha,hc,h1,h2=>by
  refine⟨λh0=>h1.1 (Cj.2 λi hi=>?_),λi hi o ho=>?_⟩
  . have:=(Dc.1 hi).1
    rw[h0]at this;cases this
  . have ho':l[i]?=some o:=by simpa using ho
    obtain⟨o1,ho1,hs1⟩:=He (x:=a) (y:=c) ho'
    obtain⟨o2,ho2,hs2⟩:=He (x:=c) (y:=a) ho'
    by_cases hia:i=a
    . subst hia
      exact DE hs2 (Fb l c i) (FY hl2) (λA st=>IX hl2 fuel _ A st (JY hi)) (h2.2 i (Dc.2 ⟨hi,λe=>absurd e hac⟩) o2 (by simpa using ho2))
    . by_cases hic:i=c
      . subst hic
        exact DE hs1 (Fb l a i) (FY hl1) (λA st=>IX hl1 fuel _ A st (JY hi)) (h1.2 i (Dc.2 ⟨hi,λe=>absurd e hia⟩) o1 (by simpa using ho1))
      . have hfo : Dn o = true := by
         have hlt:=(Af.1 ho').1
         have:=AU.1 hfree i (Fu.2 hlt)
         rw[ho']at this
         simp only[Co,beq_iff_eq,hia,hic,false_or,Array.any_eq_true,AF]at this
         rcases this with h|⟨q,hq,hb,he⟩
         . exact h
         . exfalso
           obtain⟨-,o',hoo,hall⟩:=mem_ready.1 hi
           rw[ho]at hoo
           cases hoo
           have:=hall _ (Array.getElem_mem hq) hb
           rcases he with he|he
           . rw[he,ha]at this;cases this
           . rw[he,hc]at this;cases this
        have k1:=DE (f':=(decide (i+1=l.toArray.size) && Bx l.toArray)) hs1 (Fb l a c) (FY hl1) (λ_ _ h=>h) (h1.2 i (Dc.2 ⟨hi,λe=>absurd e hia⟩) o1 (by simpa using ho1))
        have k2:=DE (f':=(decide (i+1=l.toArray.size) && Bx l.toArray)) hs2 (Fb l c a) (FY hl2) (λ_ _ h=>h) (h2.2 i (Dc.2 ⟨hi,λe=>absurd e hic⟩) o2 (by simpa using ho2))
        refine DE (.refl o) (λ_=>rfl) id (λA st h=>?_) (Vd hfo k1 k2)
        exact Yw hac hfree hl1 hl2 fuel _ A st (by rw[getD_set_ne false hia];exact ha) (by rw[getD_set_ne false hic];exact hc) h.1 h.2
def LN (P:Program)(r:Option Nat)(ro:Ro)(ops:Array Oper)(Q:AA->St->Prop):List Nat->AA->St->Prop
|[],A,st=>Q A st
|k::ks,A,st=>∀o,ops[k]?=some o->CS P r ro (ks.isEmpty && Bx ops) ops o (LN P r ro ops Q ks) A st
def Gq (ms:List Nat)(ops:Array Oper):List Nat->Array Bool->Bool
|[],listed=>(Region.ready .any ops listed).isEmpty
|k::ks,listed=>(Region.ready .any ops listed).contains k && KK ms ops listed k && (!ks.isEmpty || k+1 == ops.size) && Gq ms ops ks (listed.setIfInBounds k true)
theorem IG{ops:Array Oper}{ms:List Nat}(hms:MOk .any ops.toList ms)(hL:Kr ms ops){Q:AA->St->Prop}:∀(ks:List Nat) (listed:Array Bool) (A:AA) (st:St),Dj ro st->DC .any ops listed ->
 Gq ms ops ks listed=true->LN P r ro ops Q ks A st->Dg P r ro .any ops Q ks.length listed A st
|[],_,_,_,_,_,hB,h=>⟨by simpa [Gq]using hB,h⟩
|k::ks,listed,A,st,hw,hdc,hB,h=>by
  simp only[Gq,AF]at hB
  obtain⟨⟨⟨hr,hf⟩,hlst⟩,hB'⟩:=hB
  have hr':k∈Region.ready .any ops listed:=by simpa using hr
  obtain⟨-,o,h0, -⟩:=mem_ready.1 hr'
  refine JM hms hL h0 ks.length listed A st hw hdc (EI h0 hf) hr' ?_
  have h:=h o h0
  cases ks with
  | nil =>
   have hk:k+1=ops.size:=by simpa using hlst
   refine DE (.refl o) (λ_=>rfl) (f:=true && Bx ops) (λq=>by rw[decide_eq_true hk];exact q) (λA st hk=>?_) h
   exact⟨by simpa [Gq]using hB',hk⟩
  | cons k' ks =>
   refine DE (.refl o) (λ_=>rfl) (f:=false) (λq=>by cases q) (λ_ _ h=>h) (EB hw (λv w' hc hk=>?_) h)
   exact IG hms hL (k'::ks) _ _ _ (hc.resolve_left (by simp)) (hdc.step hr') hB' hk
theorem Hc{l:List Oper}{ops:Array Oper}(hs:∀(i:Nat) (o:Oper),ops[i]?=some o->∃o',l[i]?=some o'/\SameOp o' o)(hd:∀j:Nat,(l.toArray[j]?).bind (λo:Oper=>o.dst)=(ops[j]?).bind (λo:Oper=>o.dst))(hl:Bx l.toArray=true->Bx ops=true){Q:AA->St->Prop}:∀(ks:List Nat) (A:AA) (st:St),(∀k∈ks,k<l.length) ->
 EW P r ro l.toArray Q (ks.filterMap λk=>l[k]?) A st->LN P r ro ops Q ks A st
|[],A,st,_,h=>h
|k::ks,A,st,hk,h=>fun o ho=>by
  obtain⟨o',ho',hso⟩:=hs k o ho
  rw[DD,ho']at h
  have he:(ks.filterMap λk=>l[k]?).isEmpty=true->ks.isEmpty=true:=λh0=>by
   cases ks with
   | nil=>rfl
   | cons k' ks =>
    have hlt:=hk k' (by simp)
    rw[DD,Al hlt]at h0
    simp at h0
  refine DE hso hd (λq=>?_) (λA st=>Hc hs hd hl ks A st λk' hk'=>hk k' (Ae _ hk')) h
  rw[AF]at q |-
  exact⟨he q.1,hl q.2⟩
def ixs:Nat->Nat->Option Nat->List Nat
|0,_,_=>[]
|n+1,k,some 0=>ixs n (k+1) none
|n+1,k,some (a+1)=>k::ixs n (k+1) (some a)
|n+1,k,none=>k::ixs n (k+1) none
theorem Ps{α:Type}:∀(l pre:List α),(ixs l.length pre.length none).filterMap (λk=>(pre++l)[k]?)=l
|[],pre=>rfl
|x::l,pre=>by
  have h:=Ps l (pre++[x])
  simp only[Ad,An,Cd,Ai,AI,AM]at h
  simp only[An,ixs,DD]
  rw[BP (Ap _),Gu,BB]
  dsimp only
  rw[h]
theorem Vj{α:Type}:∀(l pre:List α) (a:Nat),(ixs l.length pre.length (some a)).filterMap (λk=>(pre++l)[k]?)=l.eraseIdx a
|[],pre,a=>by cases a<;>rfl
|x::l,pre,0=>by
  have h:=Ps l (pre++[x])
  simp only[Ad,An,Cd,Ai,AI,AM]at h
  simp only[An,ixs,Gh]
  exact h
|x::l,pre,a+1=>by
  have h:=Vj l (pre++[x]) a
  simp only[Ad,An,Cd,Ai,AI,AM]at h
  simp only[An,ixs,DD,DY]
  rw[BP (Ap _),Gu,BB]
  dsimp only
  rw[h]
theorem Pu:∀(n k:Nat) (a:Option Nat),∀i∈ixs n k a,i<k+n
|0,_,_,_,h=>by cases h
|n+1,k,some 0,i,h=>by have:=Pu n (k+1) none i h;omega
|n+1,k,some (a+1),i,h=>by
  rcases Ax.1 h with rfl|h
  . omega
  . have:=Pu n (k+1) (some a) i h;omega
|n+1,k,none,i,h=>by
  rcases Ax.1 h with rfl|h
  . omega
  . have:=Pu n (k+1) none i h;omega
def iI (l:List Oper)(a c:Nat):Bool :=
 a != c && im l a c && decide (a<l.length) && (Bx (EO l a c).toArray == Bx l.toArray) && (Bx (EO l c a).toArray == Bx l.toArray) &&
 Gq (ER .any (EO l a c) []) (EO l a c).toArray (ixs l.length 0 none) (Array.replicate l.length false) &&
 Gq (ER .any (EO l c a) []) (EO l c a).toArray (a::ixs l.length 0 (some a)) (Array.replicate l.length false)
theorem Tp:∀(n k:Nat),(ixs n k none).length=n
|0,_=>rfl
|n+1,k=>by simp[ixs,Tp n]
theorem Vk:∀(n k a:Nat),a<n->(ixs n k (some a)).length+1=n
|0,_,_,h=>by omega
|n+1,k,0,_=>by simp[ixs,Tp]
|n+1,k,a+1,h=>by simp[ixs,Vk n (k+1) a q_o]
theorem aZ{N:Nat}{id:Nat}{l t:List Oper}{o:Oper}{A:AA}{Q:Exit->AA->St->Prop}(ro:Ro)(a c:Nat)(hm:P.follows .mixedOrders=true)(hB:iI l a c=true)(hok:GR N l=true)(hC:Dj ro st)
 (ha:l[a]?=some o)(ht:l.eraseIdx a=t)(h1:EW P r ro l.toArray (Q .normal) l A st)(h2:EW P r ro l.toArray (Q .normal) (o::t) A st):Tr P N r (.region id l.toArray true) A st Q:=by
 intro ac w hr hh
 subst ht
 simp only[iI,AF,bne_iff_ne,ne_eq,beq_iff_eq,decide_eq_true_eq]at hB
 obtain⟨⟨⟨⟨⟨⟨hac,hfree⟩,halt⟩,hl1⟩,hl2⟩,hB1⟩,hB2⟩:=hB
 have hok':∀(i:Nat) (o:Oper),l.toArray[i]?=some o->JH N o.dst=true/\Gr N l.toArray o=true:=λi o ho=>by
  have:=AU.1 hok o (by simp at ho;exact Ah ho)
  simpa using this
 have he:=Ext.drew (OwnS st) w
 have lw:∀(l:List Oper),Kr (ER .any l []) l.toArray:=λl h j i hj hi hne=>by
  unfold Bx at h
  have:=AU.1 h i (Fu.2 q_o)
  rw[show l.toArray.size - 1=j by omega]at this
  exact this
 have mk:∀(l:List Oper),MOk .any l.toArray.toList (ER .any l []):=λl=>Ho (md:=.any) l l [] (by simp) (λk i h=>by simp at h)
 have dc:∀(l':List Oper) (n:Nat),DC .any l'.toArray (Array.replicate n false):=λl' n k o _ hl=>absurd hl (by rw[IW];exact AJ)
 have hs:∀x y,∀(i:Nat) (o:Oper),(EO l x y).toArray[i]?=some o->∃o',l[i]?=some o'/\SameOp o' o:=λx y i o ho=>by
  have hi:i<l.length:=by
   have:=(AE.1 ho).1
   simpa [JJ]using this
  obtain⟨o1,ho1,hso⟩:=He (x:=x) (y:=y) (Al hi)
  rw[Eo,ho1]at ho
  cases ho
  exact⟨_,Al hi,hso.symm⟩
 have n1:=IG (P:=P) (r:=r) (ro:=ro) (mk (EO l a c)) (lw (EO l a c)) (Q:=Q .normal) (ixs l.length 0 none) (Array.replicate l.length false) A st hC (dc _ _) hB1
  (Hc (hs a c) (λj=>(Fb l a c j).symm) (λh=>by rw[hl1];exact h) _ A st (λk hk=>by have:=Pu _ _ _ k hk;omega) (by have:=Ps l [];simp only[Cd,AM]at this;rw[this];exact h1))
 have n2:=IG (P:=P) (r:=r) (ro:=ro) (mk (EO l c a)) (lw (EO l c a)) (Q:=Q .normal) (a::ixs l.length 0 (some a)) (Array.replicate l.length false) A st hC (dc _ _) hB2
  (Hc (hs c a) (λj=>(Fb l c a j).symm) (λh=>by rw[hl2];exact h) _ A st (λk hk=>by
   rcases Ax.1 hk with rfl|hk
   . exact halt
   . have:=Pu _ _ _ k hk;omega) (by have:=Vj l [] a;simp only[Cd,AM]at this;rw[DD,ha];dsimp only;rw[this];exact h2))
 rw[Tp]at n1
 rw[An,Vk _ _ _ halt]at n2
 have hany:=Yw (P:=P) (r:=r) (ro:=ro) hac hfree (λh=>by rw[<-hl1];exact h) (λh=>by rw[<-hl2];exact h) l.length (Array.replicate l.length false) A st (IW _ _) (IW _ _) n1 n2
 refine wpIn_region_any hm ?_
 have hsz:l.toArray.size=l.length:=by simp
 rw[hsz]
 exact Fo (mk l) (lw l) hok' _ _ A st ac w.drew _ (.inl hC) (dc _ _) (hr.ext he) (hh.drewN 1) hany λA' st' a' w' q1 q2 q3 q5=>⟨A',st',q1,q2,he.trans q3,q5⟩
theorem Ot{N:Nat}{id:Nat}{l t:List Oper}{o:Oper}{A:AA}{Q:Exit->AA->St->Prop}(ro:Ro)(a c:Nat)(hm:P.follows .mixedOrders=true)(hB:iI l a c=true)(hok:GR N l=true)(hC:Dj ro st)
 (ha:l[a]?=some o)(ht:l.eraseIdx a=t)(h1:W P r (some ro) l.toArray (Q .normal) l A st)(h2:W P r (some ro) l.toArray (Q .normal) (o::t) A st):Tr P N r (.region id l.toArray true) A st Q:=aZ ro a c hm hB hok hC ha ht h1 h2
end
end
end Go.Proofs.YtoeidpmjifjplaaGreat
