/- Parts of the proof. -/
import Derived.Shelf.SlSortCmp.WholeK
import Derived.Test.YtabdoikbodjidaaGreatDoorMBO37
set_option maxHeartbeats 64000000
set_option maxRecDepth 100000
namespace Go.Proofs.Tg.Bk
open Go.Shelf
def aNh:Go.Shelf.Ren:=⟨λ|6=>33|15=>65|14=>64|28=>115|29=>116|20=>107|21=>108|22=>109|23=>110|24=>111|25=>112|26=>113|27=>114|46=>156|47=>157|48=>158|49=>159|50=>160|57=>186|n=>n,λ|22=>44|24=>45|25=>82|3=>3|39=>127|0=>0|53=>168|55=>170|4=>4|46=>162|45=>161|50=>104|5=>5|9=>9|66=>205|70=>209|76=>236|77=>237|n=>n,λ|n=>n⟩
theorem aNi:Go.Proofs.SlLaysF0.n6 Tryz.prog aNh:={
  mixed:=by kernel_rfl
  f6:=⟨Tryz.f33.name,by decide,Tryz.func33.trans (bK some (by kernel_rfl))⟩
  f14:=⟨Tryz.f64.name,by decide,Tryz.func64.trans (bK some (by kernel_rfl))⟩
  f15:=Tryz.func65.trans (bK some (by kernel_rfl))
  f20:=⟨Tryz.f107.name,by decide,Tryz.func107.trans (bK some (by kernel_rfl))⟩
  f21:=⟨Tryz.f108.name,by decide,Tryz.func108.trans (bK some (by kernel_rfl))⟩
  f22:=⟨Tryz.f109.name,by decide,Tryz.func109.trans (bK some (by kernel_rfl))⟩
  f23:=⟨Tryz.f110.name,by decide,Tryz.func110.trans (bK some (by kernel_rfl))⟩
  f24:=⟨Tryz.f111.name,by decide,Tryz.func111.trans (bK some (by kernel_rfl))⟩
  f25:=⟨Tryz.f112.name,by decide,Tryz.func112.trans (bK some (by kernel_rfl))⟩
  f26:=⟨Tryz.f113.name,by decide,Tryz.func113.trans (bK some (by kernel_rfl))⟩
  f27:=⟨Tryz.f114.name,by decide,Tryz.func114.trans (bK some (by kernel_rfl))⟩
  f28:=Tryz.func115.trans (bK some (by kernel_rfl))
  f29:=Tryz.func116.trans (bK some (by kernel_rfl))
  f46:=⟨Tryz.f156.name,by decide,Tryz.func156.trans (bK some (by kernel_rfl))⟩
  f47:=Tryz.func157.trans (bK some (by kernel_rfl))
  f48:=Tryz.func158.trans (bK some (by kernel_rfl))
  f49:=⟨Tryz.f159.name,by decide,Tryz.func159.trans (bK some (by kernel_rfl))⟩
  f50:=⟨Tryz.f160.name,by decide,Tryz.func160.trans (bK some (by kernel_rfl))⟩
  f57:=⟨Tryz.f186.name,by decide,Tryz.func186.trans (bK some (by kernel_rfl))⟩
  t0:=Tryz.underlying0
  a0:=Tryz.isAgg0
  z0:=Tryz.sizeOf0
  v0:=Tryz.zeroValue0
  t3:=Tryz.underlying3
  a3:=Tryz.isAgg3
  z3:=Tryz.sizeOf3
  v3:=Tryz.zeroValue3
  t4:=Tryz.underlying4
  a4:=Tryz.isAgg4
  z4:=Tryz.sizeOf4
  v4:=Tryz.zeroValue4
  t5:=Tryz.underlying5
  a5:=Tryz.isAgg5
  z5:=Tryz.sizeOf5
  v5:=Tryz.zeroValue5
  t9:=Tryz.underlying9
  a9:=Tryz.isAgg9
  z9:=Tryz.sizeOf9
  v9:=Tryz.zeroValue9
  t22:=Tryz.underlying44
  a22:=Tryz.isAgg44
  z22:=Tryz.sizeOf44
  v22:=Tryz.zeroValue44
  t25:=Tryz.underlying82
  a25:=Tryz.isAgg82
  z25:=Tryz.sizeOf82
  v25:=Tryz.zeroValue82
  t39:=Tryz.underlying127
  a39:=Tryz.isAgg127
  z39:=Tryz.sizeOf127
  v39:=Tryz.zeroValue127
  t45:=Tryz.underlying161
  a45:=Tryz.isAgg161
  z45:=Tryz.sizeOf161
  v45:=Tryz.zeroValue161
  t46:=Tryz.underlying162
  a46:=Tryz.isAgg162
  z46:=Tryz.sizeOf162
  v46:=Tryz.zeroValue162
  t50:=Tryz.underlying104
  a50:=Tryz.isAgg104
  z50:=Tryz.sizeOf104
  v50:=Tryz.zeroValue104
  t53:=Tryz.underlying168
  a53:=Tryz.isAgg168
  z53:=Tryz.sizeOf168
  v53:=Tryz.zeroValue168
  t55:=Tryz.underlying170
  a55:=Tryz.isAgg170
  z55:=Tryz.sizeOf170
  v55:=Tryz.zeroValue170
  t66:=Tryz.underlying205
  a66:=Tryz.isAgg205
  z66:=Tryz.sizeOf205
  v66:=Tryz.zeroValue205
  t70:=Tryz.underlying209
  a70:=Tryz.isAgg209
  z70:=Tryz.sizeOf209
  v70:=Tryz.zeroValue209
  t76:=Tryz.underlying236
  a76:=Tryz.isAgg236
  z76:=Tryz.sizeOf236
  v76:=Tryz.zeroValue236
  t77:=Tryz.underlying237
  a77:=Tryz.isAgg237
  z77:=Tryz.sizeOf237
  v77:=Tryz.zeroValue237}
end Go.Proofs.Tg.Bk
