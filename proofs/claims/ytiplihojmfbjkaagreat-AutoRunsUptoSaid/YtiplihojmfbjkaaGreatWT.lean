/- The program's types,as far as the walks need them. Printed by wip/gen/ty.py. -/
import Derived.Test.YtiplihojmfbjkaaGreatProg
import Derived.Test.YtiplihojmfbjkaaGreatWE
set_option maxRecDepth 100000
namespace Go.Proofs.YtiplihojmfbjkaaGreat
open Go.RowKit
def Ty0:TypeId→Option TyI
  | 1=>some ⟨false,1,8,[.nilFunc],0,[],none,0⟩
  | 2=>some ⟨false,1,8,[.int .i64 0],0,[],some .i64,0⟩
  | 3=>some ⟨false,1,8,[.int .i64 0],0,[],some .i64,0⟩
  | 4=>some ⟨false,1,1,[.bool false],0,[],none,5⟩
  | 5=>some ⟨false,1,1,[.int .u8 0],0,[],some .u8,0⟩
  | 6=>some ⟨false,1,1,[.int .u8 0],0,[],some .u8,0⟩
  | 7=>some ⟨true,4,24,[.int .i64 0,.int .i64 0,.bool false,.int .u8 0],0,[(0,1),(1,1),(2,1),(3,1)],none,1⟩
  | 8=>some ⟨true,4,24,[.int .i64 0,.int .i64 0,.bool false,.int .u8 0],0,[(0,1),(1,1),(2,1),(3,1)],none,1⟩
  | 9=>some ⟨false,1,16,[.string ⟨#[]⟩],0,[],none,3⟩
  | 10=>some ⟨false,1,16,[.string ⟨#[]⟩],0,[],none,3⟩
  | 11=>some ⟨false,1,16,[.string ⟨#[]⟩],0,[],none,3⟩
  | 12=>some ⟨false,1,8,[.int .u64 0],0,[],some .u64,0⟩
  | 13=>some ⟨true,2,24,[.string ⟨#[]⟩,.int .u64 0],0,[(0,1),(1,1)],none,1⟩
  | 14=>some ⟨true,2,24,[.string ⟨#[]⟩,.int .u64 0],0,[(0,1),(1,1)],none,1⟩
  | 15=>some ⟨false,1,8,[.pointer none],0,[],none,0⟩
  | 16=>some ⟨false,1,8,[.pointer none],0,[],none,0⟩
  | 17=>some ⟨false,1,8,[.pointer none],0,[],none,0⟩
  | 18=>some ⟨true,1,8,[.pointer none],0,[(0,1)],none,1⟩
  | 19=>some ⟨true,1,8,[.pointer none],0,[(0,1)],none,1⟩
  | 21=>some ⟨false,1,4,[.int .i32 0],0,[],some .i32,0⟩
  | 22=>some ⟨false,1,24,[.slice none 0 0],105,[],none,2⟩
  | 23=>some ⟨false,1,24,[.slice none 0 0],82,[],none,2⟩
  | 24=>some ⟨true,2,48,[.slice none 0 0,.slice none 0 0],0,[(0,1),(1,1)],none,1⟩
  | 25=>some ⟨true,2,48,[.slice none 0 0,.slice none 0 0],0,[(0,1),(1,1)],none,1⟩
  | 26=>some ⟨false,1,8,[.float .f64 0],0,[],none,0⟩
  | 27=>some ⟨true,4,40,[.int .i64 0,.int .i64 0,.float .f64 0,.string ⟨#[]⟩],0,[(0,1),(1,1),(2,1),(3,1)],none,1⟩
  | 28=>some ⟨true,4,40,[.int .i64 0,.int .i64 0,.float .f64 0,.string ⟨#[]⟩],0,[(0,1),(1,1),(2,1),(3,1)],none,1⟩
  | 29=>some ⟨false,1,24,[.slice none 0 0],31,[],none,2⟩
  | 30=>some ⟨true,7,88,[.int .i64 0,.string ⟨#[]⟩,.int .i64 0,.int .i64 0,.float .f64 0,.string ⟨#[]⟩,.slice none 0 0],0,[(0,1),(1,1),(2,4),(6,1)],none,1⟩
  | 31=>some ⟨true,7,88,[.int .i64 0,.string ⟨#[]⟩,.int .i64 0,.int .i64 0,.float .f64 0,.string ⟨#[]⟩,.slice none 0 0],0,[(0,1),(1,1),(2,4),(6,1)],none,1⟩
  | 32=>some ⟨false,1,24,[.slice none 0 0],34,[],none,2⟩
  | 33=>some ⟨true,20,248,[.int .i64 0,.string ⟨#[]⟩,.int .i64 0,.int .i64 0,.string ⟨#[]⟩,.int .i64 0,.int .i64 0,.float .f64 0,.string ⟨#[]⟩,.slice none 0 0,.int .i64 0,.string ⟨#[]⟩,.int .i64 0,.int .i64 0,.float .f64 0,.string ⟨#[]⟩,.slice none 0 0,.int .i64 0,.int .i64 0,.slice none 0 0],0,[(0,1),(1,1),(2,1),(3,7),(10,7),(17,1),(18,1),(19,1)],none,1⟩
  | 34=>some ⟨true,20,248,[.int .i64 0,.string ⟨#[]⟩,.int .i64 0,.int .i64 0,.string ⟨#[]⟩,.int .i64 0,.int .i64 0,.float .f64 0,.string ⟨#[]⟩,.slice none 0 0,.int .i64 0,.string ⟨#[]⟩,.int .i64 0,.int .i64 0,.float .f64 0,.string ⟨#[]⟩,.slice none 0 0,.int .i64 0,.int .i64 0,.slice none 0 0],0,[(0,1),(1,1),(2,1),(3,7),(10,7),(17,1),(18,1),(19,1)],none,1⟩
  | 35=>some ⟨false,1,8,[.nilFunc],0,[],none,0⟩
  | 36=>some ⟨false,1,8,[.nilFunc],0,[],none,0⟩
  | 37=>some ⟨false,1,8,[.nilFunc],0,[],none,0⟩
  | 38=>some ⟨false,1,24,[.slice none 0 0],71,[],none,2⟩
  | 39=>some ⟨false,1,8,[.int .i64 0],0,[],some .i64,0⟩
  | 41=>some ⟨false,1,8,[.nilFunc],0,[],none,0⟩
  | 42=>some ⟨false,1,8,[.pointer none],0,[],none,0⟩
  | 44=>some ⟨false,1,8,[.nilFunc],0,[],none,0⟩
  | 45=>some ⟨false,1,24,[.slice none 0 0],121,[],none,2⟩
  | 46=>some ⟨true,3,56,[.slice none 0 0,.slice none 0 0,.int .i64 0],0,[(0,1),(1,1),(2,1)],none,1⟩
  | 47=>some ⟨true,3,56,[.slice none 0 0,.slice none 0 0,.int .i64 0],0,[(0,1),(1,1),(2,1)],none,1⟩
  | 48=>some ⟨false,1,8,[.nilFunc],0,[],none,0⟩
  | 49=>some ⟨false,1,24,[.slice none 0 0],125,[],none,2⟩
  | 50=>some ⟨true,3,56,[.slice none 0 0,.slice none 0 0,.int .i64 0],0,[(0,1),(1,1),(2,1)],none,1⟩
  | 51=>some ⟨true,3,56,[.slice none 0 0,.slice none 0 0,.int .i64 0],0,[(0,1),(1,1),(2,1)],none,1⟩
  | 52=>some ⟨false,1,8,[.nilFunc],0,[],none,0⟩
  | 53=>some ⟨false,1,24,[.slice none 0 0],55,[],none,2⟩
  | 54=>some ⟨false,1,8,[.nilFunc],0,[],none,0⟩
  | 55=>some ⟨false,1,24,[.slice none 0 0],3,[],none,2⟩
  | 56=>some ⟨false,1,8,[.nilFunc],0,[],none,0⟩
  | 57=>some ⟨false,1,8,[.nilFunc],0,[],none,0⟩
  | 58=>some ⟨false,1,8,[.nilFunc],0,[],none,0⟩
  | 59=>some ⟨true,2,48,[.slice none 0 0,.slice none 0 0],0,[(0,1),(1,1)],none,1⟩
  | 60=>some ⟨true,2,48,[.slice none 0 0,.slice none 0 0],0,[(0,1),(1,1)],none,1⟩
  | 61=>some ⟨false,1,8,[.nilFunc],0,[],none,0⟩
  | 62=>some ⟨false,1,8,[.nilFunc],0,[],none,0⟩
  | 63=>some ⟨false,1,8,[.nilFunc],0,[],none,0⟩
  | 64=>some ⟨false,1,8,[.nilFunc],0,[],none,0⟩
  | 66=>some ⟨false,1,8,[.nilFunc],0,[],none,0⟩
  | 67=>some ⟨false,1,8,[.nilFunc],0,[],none,0⟩
  | 68=>some ⟨false,1,8,[.nilFunc],0,[],none,0⟩
  | 70=>some ⟨false,1,8,[.nilFunc],0,[],none,0⟩
  | 71=>some ⟨false,1,24,[.slice none 0 0],4,[],none,2⟩
  | 72=>some ⟨false,1,24,[.slice none 0 0],4,[],none,2⟩
  | 73=>some ⟨false,1,8,[.nilFunc],0,[],none,0⟩
  | 74=>some ⟨false,1,8,[.nilFunc],0,[],none,0⟩
  | 75=>some ⟨false,1,8,[.nilFunc],0,[],none,0⟩
  | 77=>some ⟨false,1,8,[.nilFunc],0,[],none,0⟩
  | 78=>some ⟨false,1,8,[.nilFunc],0,[],none,0⟩
  | 79=>some ⟨false,1,24,[.slice none 0 0],9,[],none,2⟩
  | 80=>some ⟨false,1,24,[.slice none 0 0],227,[],none,2⟩
  | 81=>some ⟨true,6,88,[.string ⟨#[]⟩,.int .i64 0,.int .i64 0,.bool false,.slice none 0 0,.slice none 0 0],0,[(0,1),(1,1),(2,1),(3,1),(4,1),(5,1)],none,1⟩
  | 82=>some ⟨true,6,88,[.string ⟨#[]⟩,.int .i64 0,.int .i64 0,.bool false,.slice none 0 0,.slice none 0 0],0,[(0,1),(1,1),(2,1),(3,1),(4,1),(5,1)],none,1⟩
  | 83=>some ⟨false,1,8,[.nilFunc],0,[],none,0⟩
  | 84=>some ⟨false,1,8,[.nilFunc],0,[],none,0⟩
  | 85=>some ⟨false,1,8,[.nilFunc],0,[],none,0⟩
  | 86=>some ⟨false,1,8,[.nilFunc],0,[],none,0⟩
  | 88=>some ⟨false,1,8,[.nilFunc],0,[],none,0⟩
  | 89=>some ⟨false,1,24,[.slice none 0 0],93,[],none,2⟩
  | 91=>some ⟨false,1,8,[.nilFunc],0,[],none,0⟩
  | 92=>some ⟨false,1,8,[.nilFunc],0,[],none,0⟩
  | 93=>some ⟨false,1,24,[.slice none 0 0],98,[],none,2⟩
  | 94=>some ⟨false,1,8,[.nilFunc],0,[],none,0⟩
  | 95=>some ⟨false,1,8,[.nilFunc],0,[],none,0⟩
  | 96=>some ⟨false,1,24,[.slice none 0 0],101,[],none,2⟩
  | 97=>some ⟨true,2,40,[.string ⟨#[]⟩,.slice none 0 0],0,[(0,1),(1,1)],none,1⟩
  | 98=>some ⟨true,2,40,[.string ⟨#[]⟩,.slice none 0 0],0,[(0,1),(1,1)],none,1⟩
  | 99=>some ⟨false,1,8,[.nilFunc],0,[],none,0⟩
  | 100=>some ⟨true,2,16,[.bool false,.int .i64 0],0,[(0,1),(1,1)],none,1⟩
  | 101=>some ⟨true,2,16,[.bool false,.int .i64 0],0,[(0,1),(1,1)],none,1⟩
  | 102=>some ⟨false,1,8,[.nilFunc],0,[],none,0⟩
  | 103=>some ⟨false,1,8,[.nilFunc],0,[],none,0⟩
  | 104=>some ⟨true,3,64,[.string ⟨#[]⟩,.slice none 0 0,.slice none 0 0],0,[(0,1),(1,1),(2,1)],none,1⟩
  | 105=>some ⟨true,3,64,[.string ⟨#[]⟩,.slice none 0 0,.slice none 0 0],0,[(0,1),(1,1),(2,1)],none,1⟩
  | 106=>some ⟨false,1,8,[.nilFunc],0,[],none,0⟩
  | 107=>some ⟨true,23,272,[.int .i64 0,.int .i64 0,.int .i64 0,.int .i64 0,.string ⟨#[]⟩,.int .i64 0,.int .i64 0,.string ⟨#[]⟩,.int .i64 0,.int .i64 0,.float .f64 0,.string ⟨#[]⟩,.slice none 0 0,.int .i64 0,.string ⟨#[]⟩,.int .i64 0,.int .i64 0,.float .f64 0,.string ⟨#[]⟩,.slice none 0 0,.int .i64 0,.int .i64 0,.slice none 0 0],0,[(0,1),(1,1),(2,1),(3,20)],none,1⟩
  | 108=>some ⟨true,23,272,[.int .i64 0,.int .i64 0,.int .i64 0,.int .i64 0,.string ⟨#[]⟩,.int .i64 0,.int .i64 0,.string ⟨#[]⟩,.int .i64 0,.int .i64 0,.float .f64 0,.string ⟨#[]⟩,.slice none 0 0,.int .i64 0,.string ⟨#[]⟩,.int .i64 0,.int .i64 0,.float .f64 0,.string ⟨#[]⟩,.slice none 0 0,.int .i64 0,.int .i64 0,.slice none 0 0],0,[(0,1),(1,1),(2,1),(3,20)],none,1⟩
  | _=>none
theorem zpr:∀ t i,Ty0 t=some i→TyOK Tryz.prog t i:=by
  intro t i h
  unfold Ty0 at h
  split at h<;>first
    | (cases h;done)
    | (injection h with h;subst h;exact ⟨by kernel_rfl,by kernel_rfl,by kernel_rfl,by kernel_rfl,by kernel_rfl,by kernel_rfl,by kernel_rfl,by kernel_rfl,rfl,rfl,by decide,by decide,fun h=>by first|rfl|cases h⟩)
def Ty1:TypeId→Option TyI
  | 109=>some ⟨false,1,8,[.nilFunc],0,[],none,0⟩
  | 110=>some ⟨false,1,8,[.nilFunc],0,[],none,0⟩
  | 112=>some ⟨false,1,8,[.nilFunc],0,[],none,0⟩
  | 113=>some ⟨false,1,8,[.pointer none],0,[],none,0⟩
  | 115=>some ⟨false,1,8,[.nilFunc],0,[],none,0⟩
  | 116=>some ⟨false,1,8,[.map none],0,[],none,4⟩
  | 117=>some ⟨false,1,8,[.map none],0,[],none,4⟩
  | 118=>some ⟨true,6,80,[.slice none 0 0,.slice none 0 0,.int .i64 0,.int .i64 0,.map none,.map none],0,[(0,3),(3,1),(4,1),(5,1)],none,1⟩
  | 119=>some ⟨true,6,80,[.slice none 0 0,.slice none 0 0,.int .i64 0,.int .i64 0,.map none,.map none],0,[(0,3),(3,1),(4,1),(5,1)],none,1⟩
  | 120=>some ⟨true,3,24,[.int .i64 0,.int .i64 0,.int .i64 0],0,[(0,1),(1,1),(2,1)],none,1⟩
  | 121=>some ⟨true,3,24,[.int .i64 0,.int .i64 0,.int .i64 0],0,[(0,1),(1,1),(2,1)],none,1⟩
  | 122=>some ⟨false,1,8,[.nilFunc],0,[],none,0⟩
  | 123=>some ⟨false,1,8,[.nilFunc],0,[],none,0⟩
  | 124=>some ⟨false,1,8,[.pointer none],0,[],none,0⟩
  | 125=>some ⟨true,3,24,[.int .i64 0,.int .i64 0,.int .i64 0],0,[(0,1),(1,1),(2,1)],none,1⟩
  | 127=>some ⟨false,1,8,[.map none],0,[],none,4⟩
  | 128=>some ⟨false,1,8,[.nilFunc],0,[],none,0⟩
  | 129=>some ⟨true,2,16,[.int .i64 0,.int .i64 0],0,[(0,1),(1,1)],none,1⟩
  | 130=>some ⟨true,2,16,[.int .i64 0,.int .i64 0],0,[(0,1),(1,1)],none,1⟩
  | 131=>some ⟨false,1,8,[.nilFunc],0,[],none,0⟩
  | 132=>some ⟨false,1,8,[.nilFunc],0,[],none,0⟩
  | 133=>some ⟨false,1,8,[.nilFunc],0,[],none,0⟩
  | 134=>some ⟨false,1,24,[.slice none 0 0],137,[],none,2⟩
  | 135=>some ⟨false,1,8,[.nilFunc],0,[],none,0⟩
  | 136=>some ⟨true,2,48,[.slice none 0 0,.slice none 0 0],0,[(0,1),(1,1)],none,1⟩
  | 137=>some ⟨true,2,48,[.slice none 0 0,.slice none 0 0],0,[(0,1),(1,1)],none,1⟩
  | 138=>some ⟨false,1,8,[.nilFunc],0,[],none,0⟩
  | 139=>some ⟨false,1,8,[.nilFunc],0,[],none,0⟩
  | 140=>some ⟨false,1,8,[.pointer none],0,[],none,0⟩
  | 141=>some ⟨false,1,8,[.map none],0,[],none,4⟩
  | 142=>some ⟨true,9,184,[.slice none 0 0,.slice none 0 0,.int .i64 0,.slice none 0 0,.slice none 0 0,.slice none 0 0,.slice none 0 0,.slice none 0 0,.map none],0,[(0,3),(3,2),(5,1),(6,2),(8,1)],none,1⟩
  | 143=>some ⟨true,9,184,[.slice none 0 0,.slice none 0 0,.int .i64 0,.slice none 0 0,.slice none 0 0,.slice none 0 0,.slice none 0 0,.slice none 0 0,.map none],0,[(0,3),(3,2),(5,1),(6,2),(8,1)],none,1⟩
  | 144=>some ⟨false,1,8,[.nilFunc],0,[],none,0⟩
  | 145=>some ⟨true,2,16,[.int .i64 0,.int .i64 0],0,[(0,1),(1,1)],none,1⟩
  | 146=>some ⟨true,2,16,[.int .i64 0,.int .i64 0],0,[(0,1),(1,1)],none,1⟩
  | 147=>some ⟨false,1,8,[.nilFunc],0,[],none,0⟩
  | 148=>some ⟨true,5,120,[.slice none 0 0,.slice none 0 0,.slice none 0 0,.slice none 0 0,.slice none 0 0],0,[(0,2),(2,2),(4,1)],none,1⟩
  | 149=>some ⟨true,5,120,[.slice none 0 0,.slice none 0 0,.slice none 0 0,.slice none 0 0,.slice none 0 0],0,[(0,2),(2,2),(4,1)],none,1⟩
  | 150=>some ⟨false,1,8,[.nilFunc],0,[],none,0⟩
  | 151=>some ⟨true,21,256,[.int .i64 0,.string ⟨#[]⟩,.int .i64 0,.int .i64 0,.string ⟨#[]⟩,.int .i64 0,.int .i64 0,.float .f64 0,.string ⟨#[]⟩,.slice none 0 0,.int .i64 0,.string ⟨#[]⟩,.int .i64 0,.int .i64 0,.float .f64 0,.string ⟨#[]⟩,.slice none 0 0,.int .i64 0,.int .i64 0,.slice none 0 0,.int .i64 0],0,[(0,20),(20,1)],none,1⟩
  | 152=>some ⟨true,21,256,[.int .i64 0,.string ⟨#[]⟩,.int .i64 0,.int .i64 0,.string ⟨#[]⟩,.int .i64 0,.int .i64 0,.float .f64 0,.string ⟨#[]⟩,.slice none 0 0,.int .i64 0,.string ⟨#[]⟩,.int .i64 0,.int .i64 0,.float .f64 0,.string ⟨#[]⟩,.slice none 0 0,.int .i64 0,.int .i64 0,.slice none 0 0,.int .i64 0],0,[(0,20),(20,1)],none,1⟩
  | 153=>some ⟨false,1,8,[.nilFunc],0,[],none,0⟩
  | 154=>some ⟨false,1,8,[.nilFunc],0,[],none,0⟩
  | 155=>some ⟨false,1,8,[.nilFunc],0,[],none,0⟩
  | 156=>some ⟨false,1,8,[.nilFunc],0,[],none,0⟩
  | 157=>some ⟨false,1,8,[.nilFunc],0,[],none,0⟩
  | 158=>some ⟨true,2,16,[.int .i64 0,.int .i64 0],0,[(0,1),(1,1)],none,1⟩
  | 159=>some ⟨true,2,16,[.int .i64 0,.int .i64 0],0,[(0,1),(1,1)],none,1⟩
  | 160=>some ⟨false,1,8,[.nilFunc],0,[],none,0⟩
  | 161=>some ⟨false,1,8,[.nilFunc],0,[],none,0⟩
  | 162=>some ⟨false,1,8,[.nilFunc],0,[],none,0⟩
  | 163=>some ⟨false,1,8,[.map none],0,[],none,4⟩
  | 164=>some ⟨false,1,24,[.slice none 0 0],199,[],none,2⟩
  | 165=>some ⟨true,5,88,[.slice none 0 0,.slice none 0 0,.map none,.map none,.slice none 0 0],0,[(0,2),(2,1),(3,1),(4,1)],none,1⟩
  | 166=>some ⟨true,5,88,[.slice none 0 0,.slice none 0 0,.map none,.map none,.slice none 0 0],0,[(0,2),(2,1),(3,1),(4,1)],none,1⟩
  | 167=>some ⟨false,1,8,[.nilFunc],0,[],none,0⟩
  | 168=>some ⟨false,1,8,[.nilFunc],0,[],none,0⟩
  | 169=>some ⟨false,1,8,[.nilFunc],0,[],none,0⟩
  | 170=>some ⟨true,5,120,[.slice none 0 0,.slice none 0 0,.slice none 0 0,.slice none 0 0,.slice none 0 0],0,[(0,2),(2,2),(4,1)],none,1⟩
  | 171=>some ⟨true,5,120,[.slice none 0 0,.slice none 0 0,.slice none 0 0,.slice none 0 0,.slice none 0 0],0,[(0,2),(2,2),(4,1)],none,1⟩
  | 172=>some ⟨false,1,8,[.nilFunc],0,[],none,0⟩
  | 173=>some ⟨false,1,24,[.slice none 0 0],175,[],none,2⟩
  | 174=>some ⟨false,1,8,[.nilFunc],0,[],none,0⟩
  | 175=>some ⟨false,1,24,[.slice none 0 0],236,[],none,2⟩
  | 176=>some ⟨false,1,8,[.nilFunc],0,[],none,0⟩
  | 177=>some ⟨false,1,8,[.nilFunc],0,[],none,0⟩
  | 178=>some ⟨false,1,8,[.nilFunc],0,[],none,0⟩
  | 179=>some ⟨false,1,8,[.nilFunc],0,[],none,0⟩
  | 180=>some ⟨false,1,24,[.slice none 0 0],183,[],none,2⟩
  | 181=>some ⟨false,1,8,[.nilFunc],0,[],none,0⟩
  | 182=>some ⟨true,2,32,[.int .i64 0,.slice none 0 0],0,[(0,1),(1,1)],none,1⟩
  | 183=>some ⟨true,2,32,[.int .i64 0,.slice none 0 0],0,[(0,1),(1,1)],none,1⟩
  | 184=>some ⟨false,1,8,[.nilFunc],0,[],none,0⟩
  | 185=>some ⟨false,1,8,[.nilFunc],0,[],none,0⟩
  | 186=>some ⟨false,1,8,[.nilFunc],0,[],none,0⟩
  | 187=>some ⟨false,1,8,[.nilFunc],0,[],none,0⟩
  | 188=>some ⟨false,1,8,[.nilFunc],0,[],none,0⟩
  | 189=>some ⟨false,1,8,[.nilFunc],0,[],none,0⟩
  | 190=>some ⟨false,1,8,[.nilFunc],0,[],none,0⟩
  | 191=>some ⟨false,1,8,[.nilFunc],0,[],none,0⟩
  | 192=>some ⟨false,1,8,[.nilFunc],0,[],none,0⟩
  | 193=>some ⟨false,1,8,[.nilFunc],0,[],none,0⟩
  | 194=>some ⟨false,1,8,[.nilFunc],0,[],none,0⟩
  | 195=>some ⟨true,2,16,[.int .i64 0,.int .i64 0],0,[(0,1),(1,1)],none,1⟩
  | 196=>some ⟨true,2,16,[.int .i64 0,.int .i64 0],0,[(0,1),(1,1)],none,1⟩
  | 197=>some ⟨true,3,24,[.int .i64 0,.int .i64 0,.int .i64 0],0,[(0,2),(2,1)],none,1⟩
  | 198=>some ⟨true,3,24,[.int .i64 0,.int .i64 0,.int .i64 0],0,[(0,2),(2,1)],none,1⟩
  | 199=>some ⟨false,1,24,[.slice none 0 0],198,[],none,2⟩
  | 200=>some ⟨false,1,24,[.slice none 0 0],202,[],none,2⟩
  | 201=>some ⟨true,3,24,[.int .i64 0,.int .i64 0,.int .i64 0],0,[(0,2),(2,1)],none,1⟩
  | 202=>some ⟨true,3,24,[.int .i64 0,.int .i64 0,.int .i64 0],0,[(0,2),(2,1)],none,1⟩
  | 203=>some ⟨false,1,8,[.nilFunc],0,[],none,0⟩
  | 204=>some ⟨false,1,24,[.slice none 0 0],196,[],none,2⟩
  | 205=>some ⟨false,1,8,[.nilFunc],0,[],none,0⟩
  | 206=>some ⟨false,1,8,[.pointer none],0,[],none,0⟩
  | 207=>some ⟨false,1,8,[.nilFunc],0,[],none,0⟩
  | 208=>some ⟨false,1,8,[.nilFunc],0,[],none,0⟩
  | 210=>some ⟨false,1,24,[.slice none 0 0],130,[],none,2⟩
  | 211=>some ⟨false,1,8,[.int .u64 0],0,[],some .u64,0⟩
  | 213=>some ⟨false,1,8,[.nilFunc],0,[],none,0⟩
  | _=>none
theorem zoT:∀ t i,Ty1 t=some i→TyOK Tryz.prog t i:=by
  intro t i h
  unfold Ty1 at h
  split at h<;>first
    | (cases h;done)
    | (injection h with h;subst h;exact ⟨by kernel_rfl,by kernel_rfl,by kernel_rfl,by kernel_rfl,by kernel_rfl,by kernel_rfl,by kernel_rfl,by kernel_rfl,rfl,rfl,by decide,by decide,fun h=>by first|rfl|cases h⟩)
def Ty2:TypeId→Option TyI
  | 215=>some ⟨false,1,8,[.nilFunc],0,[],none,0⟩
  | 216=>some ⟨false,1,8,[.int .i64 0],0,[],some .i64,0⟩
  | 218=>some ⟨false,1,8,[.nilFunc],0,[],none,0⟩
  | 219=>some ⟨false,1,8,[.nilFunc],0,[],none,0⟩
  | 220=>some ⟨false,1,8,[.nilFunc],0,[],none,0⟩
  | 221=>some ⟨false,1,24,[.slice none 0 0],152,[],none,2⟩
  | 222=>some ⟨false,1,8,[.nilFunc],0,[],none,0⟩
  | 223=>some ⟨false,1,8,[.nilFunc],0,[],none,0⟩
  | 224=>some ⟨false,1,8,[.nilFunc],0,[],none,0⟩
  | 225=>some ⟨false,1,8,[.nilFunc],0,[],none,0⟩
  | 226=>some ⟨true,5,56,[.string ⟨#[]⟩,.int .i64 0,.int .i64 0,.float .f64 0,.string ⟨#[]⟩],0,[(0,1),(1,4)],none,1⟩
  | 227=>some ⟨true,5,56,[.string ⟨#[]⟩,.int .i64 0,.int .i64 0,.float .f64 0,.string ⟨#[]⟩],0,[(0,1),(1,4)],none,1⟩
  | 228=>some ⟨false,1,8,[.nilFunc],0,[],none,0⟩
  | 229=>some ⟨false,1,8,[.nilFunc],0,[],none,0⟩
  | 230=>some ⟨false,1,8,[.nilFunc],0,[],none,0⟩
  | 231=>some ⟨false,1,8,[.nilFunc],0,[],none,0⟩
  | 232=>some ⟨false,1,8,[.nilFunc],0,[],none,0⟩
  | 233=>some ⟨false,1,8,[.nilFunc],0,[],none,0⟩
  | 234=>some ⟨false,1,8,[.nilFunc],0,[],none,0⟩
  | 235=>some ⟨true,3,32,[.string ⟨#[]⟩,.bool false,.int .i64 0],0,[(0,1),(1,2)],none,1⟩
  | 236=>some ⟨true,3,32,[.string ⟨#[]⟩,.bool false,.int .i64 0],0,[(0,1),(1,2)],none,1⟩
  | 237=>some ⟨false,1,8,[.nilFunc],0,[],none,0⟩
  | 238=>some ⟨false,1,8,[.nilFunc],0,[],none,0⟩
  | 239=>some ⟨false,1,8,[.nilFunc],0,[],none,0⟩
  | 240=>some ⟨false,1,8,[.nilFunc],0,[],none,0⟩
  | 241=>some ⟨false,1,8,[.nilFunc],0,[],none,0⟩
  | 242=>some ⟨false,1,8,[.nilFunc],0,[],none,0⟩
  | 243=>some ⟨false,1,8,[.nilFunc],0,[],none,0⟩
  | 244=>some ⟨false,1,8,[.nilFunc],0,[],none,0⟩
  | 245=>some ⟨false,1,8,[.nilFunc],0,[],none,0⟩
  | 246=>some ⟨false,1,8,[.nilFunc],0,[],none,0⟩
  | 247=>some ⟨false,1,8,[.nilFunc],0,[],none,0⟩
  | 248=>some ⟨false,1,8,[.nilFunc],0,[],none,0⟩
  | 249=>some ⟨false,1,8,[.nilFunc],0,[],none,0⟩
  | 250=>some ⟨false,1,8,[.nilFunc],0,[],none,0⟩
  | 251=>some ⟨false,1,8,[.nilFunc],0,[],none,0⟩
  | 252=>some ⟨false,1,8,[.nilFunc],0,[],none,0⟩
  | 253=>some ⟨false,1,8,[.nilFunc],0,[],none,0⟩
  | 254=>some ⟨false,1,8,[.nilFunc],0,[],none,0⟩
  | 255=>some ⟨false,1,4,[.int .u32 0],0,[],some .u32,0⟩
  | 257=>some ⟨false,1,8,[.nilFunc],0,[],none,0⟩
  | 258=>some ⟨false,1,8,[.int .u64 0],0,[],some .u64,0⟩
  | 260=>some ⟨false,1,8,[.nilFunc],0,[],none,0⟩
  | 261=>some ⟨false,1,8,[.nilFunc],0,[],none,0⟩
  | 262=>some ⟨true,3,24,[.int .i64 0,.bool false,.nilFunc],0,[(0,1),(1,1),(2,1)],none,1⟩
  | 263=>some ⟨true,3,24,[.int .i64 0,.bool false,.nilFunc],0,[(0,1),(1,1),(2,1)],none,1⟩
  | 264=>some ⟨false,1,8,[.map none],0,[],none,4⟩
  | 265=>some ⟨false,1,8,[.nilFunc],0,[],none,0⟩
  | 269=>some ⟨false,1,8,[.pointer none],0,[],none,0⟩
  | 270=>some ⟨true,2,32,[.slice none 0 0,.bool false],0,[(0,1),(1,1)],none,1⟩
  | 271=>some ⟨true,2,32,[.slice none 0 0,.bool false],0,[(0,1),(1,1)],none,1⟩
  | 272=>some ⟨false,1,8,[.nilFunc],0,[],none,0⟩
  | 273=>some ⟨false,1,8,[.nilFunc],0,[],none,0⟩
  | 274=>some ⟨false,1,8,[.nilFunc],0,[],none,0⟩
  | 275=>some ⟨false,1,8,[.nilFunc],0,[],none,0⟩
  | 276=>some ⟨false,1,8,[.nilFunc],0,[],none,0⟩
  | 277=>some ⟨false,1,8,[.nilFunc],0,[],none,0⟩
  | 278=>some ⟨false,1,8,[.nilFunc],0,[],none,0⟩
  | 279=>some ⟨false,1,8,[.int .i64 0],0,[],some .i64,0⟩
  | 281=>some ⟨false,1,8,[.nilFunc],0,[],none,0⟩
  | 282=>some ⟨false,1,8,[.nilFunc],0,[],none,0⟩
  | 283=>some ⟨false,1,8,[.nilFunc],0,[],none,0⟩
  | 284=>some ⟨false,1,8,[.nilFunc],0,[],none,0⟩
  | 285=>some ⟨false,1,8,[.nilFunc],0,[],none,0⟩
  | 286=>some ⟨false,1,8,[.nilFunc],0,[],none,0⟩
  | 287=>some ⟨false,1,8,[.nilFunc],0,[],none,0⟩
  | 288=>some ⟨false,1,8,[.nilFunc],0,[],none,0⟩
  | 289=>some ⟨false,1,8,[.nilFunc],0,[],none,0⟩
  | 290=>some ⟨false,1,8,[.nilFunc],0,[],none,0⟩
  | 291=>some ⟨false,1,8,[.nilFunc],0,[],none,0⟩
  | 292=>some ⟨false,1,8,[.nilFunc],0,[],none,0⟩
  | 293=>some ⟨false,1,8,[.nilFunc],0,[],none,0⟩
  | 294=>some ⟨false,1,8,[.nilFunc],0,[],none,0⟩
  | 295=>some ⟨false,1,8,[.pointer none],0,[],none,0⟩
  | 296=>some ⟨true,2,2,[.bool false,.bool false],0,[(0,1),(1,1)],none,1⟩
  | 297=>some ⟨true,2,2,[.bool false,.bool false],0,[(0,1),(1,1)],none,1⟩
  | 298=>some ⟨false,1,8,[.nilFunc],0,[],none,0⟩
  | 300=>some ⟨false,1,8,[.nilFunc],0,[],none,0⟩
  | 301=>some ⟨false,1,8,[.nilFunc],0,[],none,0⟩
  | 302=>some ⟨false,1,8,[.nilFunc],0,[],none,0⟩
  | 303=>some ⟨false,1,24,[.slice none 0 0],28,[],none,2⟩
  | 304=>some ⟨false,1,8,[.nilFunc],0,[],none,0⟩
  | 305=>some ⟨false,1,8,[.nilFunc],0,[],none,0⟩
  | 306=>some ⟨false,1,8,[.nilFunc],0,[],none,0⟩
  | 307=>some ⟨false,1,8,[.nilFunc],0,[],none,0⟩
  | 308=>some ⟨false,1,8,[.nilFunc],0,[],none,0⟩
  | 309=>some ⟨false,1,8,[.nilFunc],0,[],none,0⟩
  | 310=>some ⟨false,1,8,[.nilFunc],0,[],none,0⟩
  | 311=>some ⟨false,1,8,[.nilFunc],0,[],none,0⟩
  | 312=>some ⟨false,1,8,[.int .u64 0],0,[],some .u64,0⟩
  | 313=>some ⟨false,1,8,[.nilFunc],0,[],none,0⟩
  | 314=>some ⟨false,1,8,[.nilFunc],0,[],none,0⟩
  | 315=>some ⟨false,1,8,[.nilFunc],0,[],none,0⟩
  | 316=>some ⟨false,1,8,[.pointer none],0,[],none,0⟩
  | 317=>some ⟨false,1,8,[.nilFunc],0,[],none,0⟩
  | 318=>some ⟨false,1,8,[.nilFunc],0,[],none,0⟩
  | 319=>some ⟨false,1,8,[.nilFunc],0,[],none,0⟩
  | 320=>some ⟨false,1,8,[.nilFunc],0,[],none,0⟩
  | 321=>some ⟨false,1,8,[.nilFunc],0,[],none,0⟩
  | 322=>some ⟨false,1,8,[.nilFunc],0,[],none,0⟩
  | _=>none
theorem zpP:∀ t i,Ty2 t=some i→TyOK Tryz.prog t i:=by
  intro t i h
  unfold Ty2 at h
  split at h<;>first
    | (cases h;done)
    | (injection h with h;subst h;exact ⟨by kernel_rfl,by kernel_rfl,by kernel_rfl,by kernel_rfl,by kernel_rfl,by kernel_rfl,by kernel_rfl,by kernel_rfl,rfl,rfl,by decide,by decide,fun h=>by first|rfl|cases h⟩)
def Ty3:TypeId→Option TyI
  | 323=>some ⟨false,1,8,[.nilFunc],0,[],none,0⟩
  | 324=>some ⟨false,1,8,[.nilFunc],0,[],none,0⟩
  | 325=>some ⟨false,1,8,[.nilFunc],0,[],none,0⟩
  | 326=>some ⟨false,1,8,[.nilFunc],0,[],none,0⟩
  | 327=>some ⟨false,1,8,[.nilFunc],0,[],none,0⟩
  | 328=>some ⟨false,1,8,[.nilFunc],0,[],none,0⟩
  | 329=>some ⟨false,1,24,[.slice none 0 0],216,[],none,2⟩
  | 330=>some ⟨false,1,8,[.nilFunc],0,[],none,0⟩
  | 331=>some ⟨false,1,8,[.nilFunc],0,[],none,0⟩
  | 332=>some ⟨false,1,8,[.nilFunc],0,[],none,0⟩
  | 333=>some ⟨false,1,8,[.nilFunc],0,[],none,0⟩
  | 334=>some ⟨false,1,8,[.nilFunc],0,[],none,0⟩
  | 335=>some ⟨false,1,8,[.nilFunc],0,[],none,0⟩
  | 336=>some ⟨false,1,8,[.nilFunc],0,[],none,0⟩
  | 337=>some ⟨false,1,8,[.nilFunc],0,[],none,0⟩
  | 338=>some ⟨false,1,8,[.pointer none],0,[],none,0⟩
  | 339=>some ⟨false,1,8,[.nilFunc],0,[],none,0⟩
  | 340=>some ⟨false,1,8,[.nilFunc],0,[],none,0⟩
  | 342=>some ⟨false,1,8,[.nilFunc],0,[],none,0⟩
  | 344=>some ⟨false,1,8,[.nilFunc],0,[],none,0⟩
  | 345=>some ⟨false,1,8,[.nilFunc],0,[],none,0⟩
  | 346=>some ⟨false,1,8,[.nilFunc],0,[],none,0⟩
  | 347=>some ⟨false,1,8,[.nilFunc],0,[],none,0⟩
  | 349=>some ⟨false,1,8,[.map none],0,[],none,4⟩
  | 350=>some ⟨false,1,8,[.nilFunc],0,[],none,0⟩
  | 351=>some ⟨false,1,8,[.nilFunc],0,[],none,0⟩
  | 352=>some ⟨false,1,8,[.nilFunc],0,[],none,0⟩
  | 353=>some ⟨false,1,8,[.nilFunc],0,[],none,0⟩
  | 354=>some ⟨false,1,8,[.nilFunc],0,[],none,0⟩
  | 355=>some ⟨false,1,8,[.nilFunc],0,[],none,0⟩
  | 356=>some ⟨false,1,8,[.nilFunc],0,[],none,0⟩
  | 357=>some ⟨false,1,8,[.nilFunc],0,[],none,0⟩
  | 359=>some ⟨false,1,8,[.nilFunc],0,[],none,0⟩
  | 360=>some ⟨false,1,8,[.nilFunc],0,[],none,0⟩
  | 361=>some ⟨false,1,8,[.nilFunc],0,[],none,0⟩
  | 362=>some ⟨false,1,8,[.nilFunc],0,[],none,0⟩
  | 364=>some ⟨false,1,8,[.nilFunc],0,[],none,0⟩
  | 365=>some ⟨false,1,8,[.nilFunc],0,[],none,0⟩
  | 366=>some ⟨false,1,8,[.nilFunc],0,[],none,0⟩
  | 367=>some ⟨true,4,40,[.pointer none,.pointer none,.pointer none,.string ⟨#[]⟩],0,[(0,1),(1,1),(2,1),(3,1)],none,1⟩
  | 368=>some ⟨true,4,40,[.pointer none,.pointer none,.pointer none,.string ⟨#[]⟩],0,[(0,1),(1,1),(2,1),(3,1)],none,1⟩
  | 372=>some ⟨false,1,1,[.int .u8 0],0,[],some .u8,0⟩
  | 373=>some ⟨false,1,1,[.int .u8 0],0,[],some .u8,0⟩
  | 374=>some ⟨false,1,8,[.nilFunc],0,[],none,0⟩
  | 375=>some ⟨false,1,8,[.pointer none],0,[],none,0⟩
  | 376=>some ⟨false,1,4,[.int .i32 0],0,[],some .i32,0⟩
  | 377=>some ⟨false,1,4,[.int .i32 0],0,[],some .i32,0⟩
  | 378=>some ⟨true,11,48,[.int .u64 0,.int .u64 0,.int .u32 0,.int .u8 0,.int .u8 0,.int .u8 0,.int .u8 0,.nilFunc,.pointer none,.int .i32 0,.int .i32 0],0,[(0,1),(1,1),(2,1),(3,1),(4,1),(5,1),(6,1),(7,1),(8,1),(9,1),(10,1)],none,1⟩
  | 379=>some ⟨true,11,48,[.int .u64 0,.int .u64 0,.int .u32 0,.int .u8 0,.int .u8 0,.int .u8 0,.int .u8 0,.nilFunc,.pointer none,.int .i32 0,.int .i32 0],0,[(0,1),(1,1),(2,1),(3,1),(4,1),(5,1),(6,1),(7,1),(8,1),(9,1),(10,1)],none,1⟩
  | 380=>some ⟨false,1,8,[.nilFunc],0,[],none,0⟩
  | _=>none
theorem zpN:∀ t i,Ty3 t=some i→TyOK Tryz.prog t i:=by
  intro t i h
  unfold Ty3 at h
  split at h<;>first
    | (cases h;done)
    | (injection h with h;subst h;exact ⟨by kernel_rfl,by kernel_rfl,by kernel_rfl,by kernel_rfl,by kernel_rfl,by kernel_rfl,by kernel_rfl,by kernel_rfl,rfl,rfl,by decide,by decide,fun h=>by first|rfl|cases h⟩)
def Ty (t:TypeId):Option TyI:=match Ty0 t with|some i=>some i|none=>match Ty1 t with|some i=>some i|none=>match Ty2 t with|some i=>some i|none=>Ty3 t
theorem zad:∀ t i,Ty t=some i→TyOK Tryz.prog t i:=by
  intro t i h
  unfold Ty at h
  split at h
  · rename_i hk;injection h with h;subst h;exact zpr t _ hk
  split at h
  · rename_i hk;injection h with h;subst h;exact zoT t _ hk
  split at h
  · rename_i hk;injection h with h;subst h;exact zpP t _ hk
  exact zpN t i h
end Go.Proofs.YtiplihojmfbjkaaGreat
