/-
  ONE LAW OF A CHAPTER: its program side is run by an interpreter that is proved sound; what it computes is shown to be what the law says. No conditions. Part 6 of 7.
-/
import Derived.Test.YtbcdgfgacigaoaaGreatMRoe
import Derived.Test.YtbcdgfgacigaoaaGreatProg
import Derived.KernelRfl
import Derived.Test.YtbcdgfgacigaoaaGreatRows
import Derived.WalkKit
set_option linter.unusedSimpArgs false
set_option linter.unusedVariables false
set_option linter.unnecessarySimpa false
section
namespace Go.Proofs.YtbcdgfgacigaoaaGreat.Hn
open Go
def takeT:List (List Nat):=[[],[],[],[13,25,26,33],[37,47,49,67,71,76,81,88,91,95,102,110,132,135,138,140,141,147,148,151,152],[27,34,36,44,97,98,101,105,108],[15,25,26,37,68,73],[30,38,42,47,132,137,152,156],[22,28,36,42,43,46,47,54,55,62],[45,51,53,61,64,67,73,75,83,111,121,123,135,140,146,161],[24,30,36,44,50,51,54,55,62,66,76,79,88,92],[53,59,65,77,79,87,90,93,99,101,109,115,121,184,188,189,193],[11,16,21,30,33,35,40,55,64,68,72,76,84,88],[6],[15,34,74,78,87],[],[10],[49,50],[],[6],[13,28,32,37,41,42,47],[],[],[15,30,38,44,46,50,55,59],[13,21],[19,24,26,28,32,33],[],[22,25,30,32,34],[17],[11,19],[10,19],[5,10],[11,17,30],[5,10],[],[],[35,39],[20,48],[10,18,50,52],[78,80],[6],[],[],[18],[20,32],[],[],[],[],[],[33,35],[],[8,17],[11,26,27,41,42],[],[14,24,33,46],[8],[],[],[11],[6,13],[14,21,22,36,37],[13,20,33],[8],[],[],[10],[13],[],[],[],[],[],[9],[12,28],[],[],[],[38,54,73,83,93,95],[13],[6],[],[],[],[12],[26,29,36],[],[],[],[],[25],[51,55,56,59],[48,52,53,56],[33,37,38,41],[],[],[],[10,16],[37],[17,48,59],[],[],[],[],[],[9],[21],[],[5,10],[13],[48,58,64,77],[27,28,55,70],[],[26,45],[11],[34,60],[],[],[],[15,23,29,32],[20,21,24],[],[],[51,76,84],[9,17,18],[],[35],[],[18,44],[33,43,53,71],[15,22],[74],[37],[24,36,37,40],[],[66,91,92],[23],[],[29,39,40,43],[17,20],[30,38,62,64,68],[38,50,57,73],[],[16,17,21,29],[],[],[16,23,31,32,35],[],[],[],[17,20,33],[],[],[],[],[],[17],[8,12],[16],[21,31,37,44,45],[],[],[27],[16,18],[],[],[],[],[],[4],[],[],[56,57,67,74,80],[32,34,41],[],[23,29,30,33],[],[],[],[],[21,22,28],[16,23,31,32,35],[],[17],[25,26],[],[20,26],[],[],[19],[],[12],[17],[25,26],[15],[],[],[],[],[],[],[],[],[],[],[],[],[],[],[],[]]
def clearT:List (List (Nat × List Nat)):=[[],
 [],
 [],
 [],
 [],
 [],
 [],
 [(0,[13,14,15,16,17,60,61,62,63,64,65,66,67,68,69,70,71,72,73,74,75,76,77,78,79,80,81,82,83,84,85,86,87,88,89,90,91,92,93,94,95,96,97,98,99,100,101,102,103,104,105,106,107,108,109,110,111,112,113,114,115,116,117,118,119,120,121,122,123,124,125,126,127,128,129,130,131,132,133,134,135,136,137,138,139,140,141,142,143,144,145,146,147,148,149,150,151,152,153,154,155,156,157,158,159,160,161,162,163,164,165,166,167,168,169,170]),(2,[15,74,75,76,77,78,79,80,81,82,83,84,85,86,87,88,89,90,91,92,93,94,95,96,97,98,99,100,101,102,103,104,105,106,107,108,109,110,111,112,113,114,115,116,117,118,119,120,121,122,123,124,125,126,127,128])],
 [],
 [(0,[17,18,104,105,106,107,108,109,110,111,112,113,114,115,116,117,118,119,120,121,122,123,124,125,126,127,128,129,130,131,132,133,134,135,136]),(2,[17,22,23,155,156,157,158,159,160,161,162,163,164,165,166,167,168,169,170,171,172,173,174,175,176,177,178])],
 [],
 [(0,[22,23,130,131,132,133,134,135,136,137,138,139,140,141,142,143,144,145,146,147,148,149,150,151,152,153,154,155,156,157,158,159,160,161,162,163,164,165,166,167,168,169,170,171,172,173,174,175,176,177,178,179,180]),(2,[23,136,137,138,139,140,141,142,143,144,145,146,147,148,149,150,151,152,153,154,155,156,157,158,159,160,161,162,163,164,165,166,167,168,169,170,171,172,173,174,175,176,177,178,179,180])],
 [],
 [],
 [(0,[11,13,14,39,40,41,42,43,44,45,46,47,48,49,50,51,52,53,54,55])],
 [],
 [],
 [(0,[30,31,32,33,34,35,36,37,38,39,40,41,42,43,44,45,46,47,48])],
 [],
 [],
 [(0,[31,32,33,34,35,36,37,38,39,40,41,42,43,44,45,46])],
 [],
 [],
 [(0,[13,14,31,32,33,34,35,36,37,38,39,40,41,42,43,44,45,46,47,48,49,50,51,52,53,54,55,56,57,58,59])],
 [],
 [(0,[12,13,14,15,16,17,18,19,20,21,22,23,24,25,26,27,28,29,30,31,32])],
 [(0,[11,12,13,14,15,16,17,18,19,20,21,22,23,24,25,26])],
 [(0,[11,12,13,14,15,16,17,18,19,20,21,22,23,24,25,26,27,28,29,30,31,32,33,34])],
 [],
 [(0,[5,6,7,8,9,10,11,12,13,14,15,16,17,18])],
 [],
 [],
 [],
 [],
 [(0,[10,11,12,13,14,15,16,17,18,19,20,21])],
 [(0,[11,12,13,14,15,16,17,18,19,20,21,22,23,24,25])],
 [(0,[7,8,9,10,11,12,13,14,15,16,17,18,19,20,21,22,23,24,25,26,27,28,29,30,31,32,33,34,35,36,37,38]),(2,[15,16,17,18,19,20,21,22,23,24,25,26,27,28,29,30,31,32,33,34])],
 [(0,[14,15,16,17,18,19,20,21,22,23,24,25,26,27,28,29,30,31,32,33,34,35,36,37,38,39,40,41,42,43,44,45,46,47])],
 [],
 [(0,[8,27,28,29,30,31,32,33,34,35,36,37,38,39,40,41,42,43,44,45,46,47,48,49,50,51,52,53,54,55,56,57,58,59,60,61,62,63,64,65,66,67,68,69,70,71,72,73,74,75,76,77]),(2,[33,34,35,36,37,38,39,40,41,42,43,44,45,46,47,48,49,50,51,52,53,54,55,56,57,58,59,60,61,62,63,64,65,66,67,68,69,70,71,72,73,74,75,76,77])],
 [],
 [],
 [],
 [(0,[5,6,7,8,9,10,11,12,13,14,15,16,17])],
 [(0,[14,15,16,17,18,19,20,21,22,23,24,25,26,27,28,29,30,31])],
 [],
 [],
 [],
 [],
 [],
 [(0,[5,6,7,8,9,10,11,12,13,14,15,16,17,18,19,20,21,22,23,24,25,26,27,28,29,30,31,32,33,34]),(2,[13,14,15,16,17,18,19,20,21,22,23,24,25,26,27,28,29,30,31])],
 [],
 [],
 [],
 [],
 [],
 [],
 [],
 [],
 [],
 [],
 [],
 [],
 [],
 [],
 [],
 [],
 [],
 [],
 [(0,[5,10,11,12,13,14,15,16,17,18,19,20,21,22,23,24,25,26,27,28,29,30,31,32,33,34,35])],
 [],
 [],
 [],
 [],
 [(0,[16,17,18,19,20,21,22,23,24,25,26,27,28])],
 [],
 [(0,[11,12,13,14,15,16,17,18,19,20,21,22,23,24,25,26])],
 [(0,[10,11,12,13,14,15,16,17,18,19,20,21])],
 [(0,[7,8,9,10,48,49,50,51,52,53,54,55,56,57,58,59,60,61,62,63,64,65,66,67,68,69,70,71,72,73,74,75,76,77,78,79,80,81,82,83,84,85,86,87,88])],
 [(0,[4,8,9,10,11,12,13,14])],
 [],
 [],
 [],
 [],
 [],
 [(0,[8,9,15,16,17,18,19,20,21,22,23,24,25,26,27,28,29,30,31,32,33,34,35]),(2,[9,19,20,21,22,23,24,25,26,27,28,29,30,31,32,33,34])],
 [],
 [],
 [],
 [],
 [(0,[7,8,9,10,11,12,13,14,15,16,17,18,19,20,21,22,23,24])],
 [(0,[7,8,9,10,11,12,13,14,15,16,17,18,19,20,21,22,23,24,25,26,27,28,29,30,31,32,33,34,35,36,37,38,39,40,41,42,43,44,45,46,47,48,49,50,51,52,53,54,55,56,57,58]),(2,[9,10,19,20,21,22,23,24,25,26,27,28,29,30,31,32,33,34,35,36,37,38,39,40,41,42,43,44,45,46,47,48,49,50,51,52,53,54]),(4,[27,28,29,30,31,32,33,34,35,36,37,38,39,40,41,42,43,44,45,46,47,48,49,50])],
 [(0,[7,8,9,10,11,12,13,14,15,16,17,18,19,20,21,22,23,24,25,26,27,28,29,30,31,32,33,34,35,36,37,38,39,40,41,42,43,44,45,46,47,48,49,50,51,52,53,54,55]),(2,[9,10,17,18,19,20,21,22,23,24,25,26,27,28,29,30,31,32,33,34,35,36,37,38,39,40,41,42,43,44,45,46,47,48,49,50,51]),(4,[25,26,27,28,29,30,31,32,33,34,35,36,37,38,39,40,41,42,43,44,45,46,47])],
 [(0,[5,6,7,8,9,10,11,12,13,14,15,16,17,18,19,20,21,22,23,24,25,26,27,28,29,30,31,32,33,34,35,36,37,38,39,40]),(2,[7,14,15,16,17,18,19,20,21,22,23,24,25,26,27,28,29,30,31,32,33,34,35,36])],
 [],
 [],
 [],
 [],
 [(0,[9,10,18,19,20,21,22,23,24,25,26,27,28,29,30,31])],
 [(0,[7,8,9,10,14,15,16,17,18,19,20,21,22,23,24,25,26,27,28,29,30,31,32,33,34,35,36,37,38,39,40,41,42,43,44,45,46,47,48,49,50,51,52,53,54,55,56,57,58]),(2,[7,9,10,20,21,22,23,24,25,26,27,28,29,30,31,32,33,34,35,36,37,38,39,40,41,42,43,44,45,46,47])],
 [],
 [],
 [],
 [],
 [],
 [],
 [(0,[15,16,17,18,19,20,21,22,23,24,25,26,27,28,29,30,31,32])],
 [(0,[15,16,17,18,19,20,21,22,23,24,25,26,27])],
 [],
 [],
 [(0,[8,9,10,13,14,16,25,26,27,28,29,30,31,32,33,34,35,36,37,38]),(2,[9,13,14,15,16,45,46,47,48,49,50,51,52,53,54,55,56,57,58,59,60,61,62,63,64,65,66,67,68,69,70,71,72,73,74,75,76]),(4,[9,13,15,16,51,52,53,54,55,56,57,58,59,60,61,62,63])],
 [],
 [],
 [(0,[5,12,13,14,15,16,17,18,19,20,21,22,23,24,25,26,27,28,29,30,31,32,33,34,35,36,37,38,39,40,41,42,43,44,45]),(2,[27,28,29,30,31,32,33,34,35,36,37,38,39,40,41,42,43,44,45])],
 [],
 [(0,[11,22,23,24,25,26,27,28,29,30,31,32,33,34,35,36,37,38,39,40,41,42,43,44,45,46,47,48,49,50,51,52,53,54,55,56,57,58,59])],
 [],
 [],
 [],
 [(0,[4,5,6,7,11,12,13,14,15,16,17,18,19,20,21,22,23,24,25,26,27,28,29,30,31]),(2,[5,7,18,19,20,21,22,23,24,25,26,27])],
 [(0,[7,8,9,10,11,12,13,14,15,16,17,18,19,20,21,22,23])],
 [],
 [],
 [(0,[7,8,9,19,20,21,22,23,24,25,26,27,28,29,30,31,32,33,34,35,36,37,38,39,40,41,42,43,44,45,46,47,48,49,50,51,52,53,54,55,56,57,58,59,60,61,62,63,64,65,66,67,68,69,70,71,72,73,74,75,76,77,78]),(2,[9,26,27,28,29,30,31,32,33,34,35,36,37,38,39,40,41,42,43,44,45,46,47,48,49,50,51,52,53,54,55,56,57,58,59,60,61])],
 [(0,[7,8,9,10,11,12,13,14,15,16])],
 [],
 [],
 [],
 [(0,[7,9,10,15,16,17,18,19,20,21,22,23,24,25,26,27,28,29,30,31,32]),(2,[7,9,10,21,22,23,24,25,26,27,28,29,30,31])],
 [(0,[7,10,29,30,31,32,33,34,35,36,37,38,39,40]),(2,[7,10,12,50,51,52,53,54,55,56,57,58,59,60,61,62,63,64,65,66,67,68,69,70]),(4,[7,10,12,56,57,58,59,60,61,62,63,64,65,66,67,68,69])],
 [(0,[6,7,11,12,13,14,15,16,17,18,19,20,21,22,23])],
 [(0,[18,19,20,21,22,23,24,25,26,27,28,29,30]),(2,[8,33,34,35,36,37,38,39,40,41,42,43,44,45,46,47,48,49,50,51,52,53,54,55,56,57,58,59,60,61,62,63,64,65,66,67,68,69,70,71,72,73]),(4,[38,39,40,41,42,43,44,45,46,47,48,49,50,51,52,53,54,55,56,57,58,59,60,61,62,63,64,65,66,67,68,69,70,71,72,73])],
 [(0,[6,7,8,9,10,11,12,13,14,15,16,17,18,19,20,21,22,23,24,25,26,27,28,29,30,31,32,33,34,35,36,37]),(2,[13,14,15,16,17,18,19,20,21,22,23,24,25,26,27,28,29,30,31,32,33,34,35,36,37])],
 [(0,[7,8,9,10,11,12,13,14,15,16,17,18,19,20,21,22,23,24,25,26,27,28,29,30,31,32,33,34,35,36,37,38,39]),(2,[15,16,17,18,19,20,21,22,23,24,25,26,27,28,29,30,31,32,33,34,35])],
 [(0,[4,5,6,24,25,26,27,28,29,30,31,32,33,34,35,36,37,38,39,40,41,42,43,44,45,46,47,48,49,50,51,52,53,54,55,56,57,58,59,60,61,62,63,64,65,66,67,68,69,70,71,72,73,74,75,76,77,78,79,80,81,82,83]),(2,[64,65,66,67,68,69,70,71,72,73,74,75,76,77,78,79,80,81,82,83])],
 [(0,[7,10,13,14,15,16,17,18,19,20,21,22,23,24,25,26,27,28,29,30,31,32,33,34,35,36,37,38,39,40,41,42,43,44,45,46]),(2,[10,19,20,21,22,23,24,25,26,27,28,29,30,31,32,33,34,35,36,37,38,39,40,41,42,43,44,45,46]),(4,[10,11,51,52,53,54,55,56,57,58,59,60,61,62,63,64,65,66,67,68,69,70,71,72,73,74,75,76,77,78,79,80,81,82,83,84,85,86,87,88,89,90,91,92,93,94,95]),(6,[57,58,59,60,61,62,63,64,65,66,67,68,69,70,71,72,73,74,75,76,77,78,79,80,81,82,83,84,85,86,87,88,89])],
 [(0,[4,5,13,14,15,16,17,18,19,20,21,22,23,24,25,26,27,28,29,30,31,32])],
 [],
 [(0,[9,10,11,12,13,14,15,16,17,18,19,20,21,22,23,24,25,26,27,28,29,30,31,32,33,34,35,36,37,38,39,40,41,42]),(2,[20,21,22,23,24,25,26,27,28,29,30,31,32,33,34,35,36,37,38])],
 [],
 [(0,[5,6,7,12,13,14,15,16,17,18,19,20,21,22,23,24,25,26,27,28,29,30,31,32,33,34,35,36,37,38,39,40,41,42,43,44,45,46,47,48,49,50,51,52,53,54,55,56,57,58,59,60,61,62,63,64,65,66,67]),(2,[7,36,37,38,39,40,41,42,43,44,45,46,47,48,49,50,51,52,53,54,55,56,57,58,59,60,61])],
 [(0,[60,61,62,63,64,65,66,67,68,69,70,71,72])],
 [],
 [(0,[6,7,12,13,14,15,16,17,18,19,20,21,22,23,24,25,26,27,28])],
 [(0,[11,12,13,14,15,16,17,18,19,20,21,22,23,24,25])],
 [],
 [(0,[5,6,8,12,13,14,15,16,17,18,19,20,21,22]),(2,[5,8,28,29,30,31,32,33,34])],
 [],
 [],
 [],
 [(0,[8,9,13,14,15,16,17,18,19,20,21,22,23,24,25,26,27,28,29,30,31,32])],
 [(0,[5,9,10,11,12,13,14,15,16,17,18]),(2,[12,13,14,15,16,17])],
 [],
 [(0,[8,12,13,14,15,16,17,18,19,20,21,22,23,24,25])],
 [],
 [(0,[5,6,7,8,9,10])],
 [(0,[5,9,10,11,12,13,14,15,16,17,18])],
 [],
 [(0,[4,5,9,10,11,12,13,14,15,16,17,18,19,20,21,22])],
 [(0,[5,6,7,8,25,26,27,28,29,30,31,32,33,34,35,36,37,38,39,40,41,42,43,44,45,46])],
 [],
 [],
 [],
 [],
 [],
 [],
 [],
 [],
 [],
 [],
 [],
 [(0,[5,10,11,12,13,14,15,16,17,18,19,20,21])],
 [(0,[8,9,10,25,26,27,28,29,30,31,32,33,34,35,36,37,38,39,40,41,42,43,44,45,46,47,48,49,50,51,52,53,54,55,56,57,58,59,60,61,62,63,64,65,66,67,68,69,70,71]),(2,[10,38,39,40,41,42,43,44,45,46,47,48,49,50,51,52,53,54,55,56,57,58])],
 [(0,[8,9,10,11,12,13,14,15,16,17,18,19,20,21,22,23,24,25,26,27,28,29,30,31,32,33,34,35,36,37,38,39,40])],
 [(0,[19,20,21,22,23,24,25,26,27,28,29,30,31,32,33,34,35,36,37,38,39,40])],
 [(0,[8,9,10,11,12,13,14,15,16,17,18,19,20,21,22,23,24,25,26,27,28,29,30,31,32])],
 [],
 [(0,[5,14,15,16,17,18,19,20,21,22,23,24,25])],
 [],
 [],
 [(0,[6,18,19,20,21,22,23,24,25,26,27])],
 [(0,[5,6,8,12,13,14,15,16,17,18,19,20,21,22]),(2,[5,8,28,29,30,31,32,33,34])],
 [],
 [(0,[5,9,10,11,12,13,14,15,16,17,18])],
 [],
 [],
 [(0,[8,9,14,15,16,17,18,19,20,21,22,23,24,25,26,27,28,29,30,31,32,33])],
 [],
 [],
 [(0,[6,7,8,9,10,11,12,13,14,15,16,17])],
 [],
 [],
 [(0,[5,9,10,11,12,13,14,15,16,17,18])],
 [],
 [],
 [],
 [],
 [],
 [],
 [],
 [],
 [],
 [],
 [],
 [],
 [],
 [],
 [],
 [],
 [],
 []]
def linkT:List (List Nat):=[[],[],[],[],[],[],[],[],[],[133,136],[],[164,166,167,178],[],[],[],[],[],[],[],[],[],[],[],[],[],[],[],[],[],[],[],[],[],[],[],[],[],[],[],[39,41,42,77],[],[],[],[],[],[],[],[],[],[],[],[],[],[],[],[],[],[],[],[],[],[],[],[],[],[],[],[],[],[],[],[],[],[],[],[],[],[],[],[],[],[],[],[],[],[21,23,25,26,33],[],[],[],[],[],[],[],[],[],[],[],[],[22,30],[],[],[],[],[],[],[],[],[],[],[],[29,37],[],[],[],[],[],[],[],[],[],[15,19],[],[],[53,61,62,78],[],[],[],[],[],[],[],[],[],[],[],[],[],[],[],[],[],[],[],[],[],[],[],[],[],[],[],[],[],[],[],[],[],[],[],[],[],[],[],[],[],[],[],[],[],[],[],[],[59,62],[],[],[],[],[],[],[],[],[],[],[],[],[],[],[],[],[],[],[],[],[],[],[],[],[],[],[],[],[],[],[],[],[],[],[],[],[],[]]
def preciseT:List Nat:=[101,146,181,184,193]
def peekT:List Nat:=[85,161,185]
def mapsT:List Nat:=[]
def bornT:List Nat:=[]
def preT:List (Nat × List (Nat × List Nat)):=[]
def denilT:List Nat:=[157]
def turnF (f:Nat):Option (List Int->Option (List Int)):=none
def pairsT:List (List (Nat × List (Nat × Nat))):=[[],
 [],
 [],
 [(9,[(3,4),(3,6),(11,13)])],
 [(1,[(1,3)]),(6,[(0,7),(1,7),(3,7),(5,7)]),(7,[(0,7),(1,7),(3,7),(5,7)])],
 [(7,[(0,3),(1,3),(2,3)])],
 [(12,[(1,4),(2,4),(1,8),(2,8),(4,8),(5,8)])],
 [(23,[(3,10),(6,10),(3,12),(6,12),(10,12),(11,12)]),(26,[(3,6),(4,6),(11,14),(12,14)]),(28,[(0,5),(3,5),(4,5),(0,10),(3,10),(4,10),(5,10)]),(29,[(5,6),(5,12),(6,12),(7,12),(9,12),(10,12)])],
 [(6,[(0,2),(1,2)]),(13,[(3,4),(3,5)])],
 [(8,[(0,2),(1,2)]),(14,[(0,2),(1,2)]),(23,[(1,3),(1,6)])],
 [(7,[(1,2)]),(14,[(3,5)])],
 [(11,[(1,2)]),(17,[(1,2)]),(31,[(3,14),(7,14),(3,22),(7,22),(14,22),(18,22)]),(32,[(3,8),(3,11),(3,12),(8,12),(11,12),(3,13)])],
 [],
 [],
 [(9,[(2,6),(4,6),(2,8),(4,8),(2,9),(4,9)]),(16,[(2,12),(3,12),(5,12),(7,12),(10,12)])],
 [(1,[(1,4),(2,4)])],
 [],
 [(8,[(4,8),(4,9)]),(9,[(2,4)])],
 [],
 [],
 [],
 [(1,[(1,4),(2,4)])],
 [],
 [],
 [],
 [],
 [(6,[(3,7)])],
 [],
 [],
 [],
 [],
 [],
 [],
 [],
 [],
 [(6,[(3,7)])],
 [(9,[(0,4),(0,7),(0,11),(4,11),(7,11),(0,12)])],
 [(6,[(2,5),(2,10),(5,10),(2,14),(5,14),(10,14),(2,17),(5,17),(10,17),(14,17),(2,22),(5,22),(10,22),(14,22),(17,22)])],
 [(5,[(1,7),(3,7),(5,7),(1,10),(3,10),(5,10),(7,10),(1,15),(3,15),(5,15),(7,15),(10,15),(11,15),(1,17),(3,17),(5,17),(7,17),(10,17),(11,17),(15,17),(16,17),(1,18),(3,18),(5,18),(7,18),(10,18),(11,18),(15,18),(16,18),(17,18)])],
 [(11,[(3,8),(3,11),(3,14),(8,14),(11,14),(3,18),(8,18),(11,18),(14,18),(3,22),(8,22),(11,22),(14,22),(3,26),(8,26),(11,26),(14,26),(18,26),(22,26),(3,30),(8,30),(11,30),(14,30),(18,30),(22,30),(26,30),(3,34),(8,34),(11,34),(14,34),(18,34),(22,34),(26,34),(3,37)])],
 [],
 [],
 [],
 [],
 [(6,[(4,8)])],
 [(1,[(1,3),(1,6),(3,6),(4,6),(1,8),(3,8),(4,8),(6,8)])],
 [],
 [(1,[(1,3),(1,6),(3,6),(4,6),(1,8),(3,8),(4,8),(6,8),(1,12),(3,12),(4,12),(6,12),(8,12),(9,12),(10,12),(1,14),(3,14),(4,14),(6,14),(8,14),(9,14),(10,14),(12,14)])],
 [(1,[(1,3),(1,6),(3,6),(4,6),(1,8),(3,8),(4,8),(6,8)])],
 [],
 [],
 [],
 [(5,[(1,3),(1,6),(3,6),(4,6)])],
 [(6,[(1,3),(1,6),(3,6),(4,6),(1,8),(3,8),(4,8),(6,8)])],
 [(1,[(1,3),(1,4)])],
 [(4,[(0,2),(0,4)]),(7,[(1,3),(1,5),(3,5),(1,6)]),(8,[(2,4),(2,7),(4,7),(5,7)])],
 [],
 [],
 [(2,[(1,4),(1,6),(4,6)])],
 [],
 [(4,[(1,7),(1,8)])],
 [(7,[(2,8),(3,8),(6,8)])],
 [(7,[(2,7),(3,7)])],
 [],
 [(2,[(0,4),(1,4),(3,4)])],
 [(2,[(1,4),(1,5)])],
 [],
 [],
 [],
 [(7,[(2,8),(5,8),(2,9),(5,9),(2,11),(5,11),(8,11),(9,11),(10,11)])],
 [],
 [],
 [],
 [],
 [],
 [],
 [(6,[(3,7)])],
 [],
 [(1,[(6,9),(1,15),(6,15),(9,15),(13,15)]),(16,[(0,1),(0,2),(1,2),(0,5),(1,5),(1,6)])],
 [],
 [],
 [],
 [],
 [],
 [(2,[(1,2),(1,3)])],
 [(8,[(5,9)])],
 [],
 [],
 [],
 [(1,[(0,2),(0,4)])],
 [],
 [(13,[(0,4),(0,7),(0,11),(4,11),(7,11),(0,14),(4,14),(7,14),(0,15),(4,15),(7,15),(0,16)])],
 [(13,[(0,4),(0,7),(0,11),(4,11),(7,11),(0,14),(4,14),(7,14),(0,15)])],
 [],
 [],
 [],
 [],
 [(2,[(0,4),(0,6),(0,9),(4,9),(6,9),(0,11),(0,13)])],
 [(5,[(5,6)])],
 [(9,[(2,5),(2,12),(5,12),(2,18),(5,18),(12,18)])],
 [],
 [],
 [],
 [(1,[(1,3),(1,5),(3,5),(4,5)])],
 [],
 [],
 [(6,[(4,8)])],
 [],
 [],
 [],
 [(5,[(2,6)]),(16,[(0,1),(0,5),(1,5),(0,6)]),(18,[(3,7),(4,7)])],
 [(1,[(1,4),(2,4),(1,7),(2,7),(4,7),(5,7),(1,10),(2,10),(4,10),(5,10),(7,10)]),(6,[(6,8),(2,15),(6,15),(8,15),(10,15),(13,15),(2,17),(6,17),(8,17),(10,17),(13,17),(15,17),(2,26),(6,26),(8,26),(10,26),(13,26),(15,26),(17,26),(18,26),(21,26),(24,26)])],
 [],
 [],
 [],
 [(2,[(1,2),(1,5)]),(8,[(5,8),(5,16),(8,16),(11,16),(5,19),(8,19),(11,19),(16,19)])],
 [],
 [(1,[(0,2),(0,4)])],
 [(1,[(0,4),(3,4)])],
 [],
 [],
 [(1,[(1,4),(2,4)])],
 [],
 [(9,[(5,7),(5,10),(5,12),(7,12),(10,12),(5,15),(7,15),(10,15)]),(11,[(3,9),(3,13)])],
 [],
 [(2,[(0,2),(1,2)]),(4,[(0,1)]),(6,[(0,1),(0,3),(1,3),(2,3),(0,4),(1,4),(2,4),(3,4)])],
 [(6,[(1,3),(1,5),(3,5),(1,6)]),(11,[(1,3),(1,5),(3,5),(1,6)]),(12,[(1,3),(1,5),(3,5),(1,6)])],
 [],
 [(11,[(0,2),(0,4)])],
 [(1,[(1,5),(2,5),(3,5)])],
 [],
 [(19,[(2,11),(5,11),(9,11),(2,14),(5,14),(9,14),(2,18),(5,18),(9,18)])],
 [(7,[(3,10),(6,10),(3,13),(6,13)])],
 [(9,[(4,8),(7,8)])],
 [(8,[(1,6),(4,6),(1,9),(4,9)])],
 [(8,[(4,12),(8,12),(4,16),(8,16)]),(17,[(4,14),(8,14),(4,18),(8,18)])],
 [],
 [],
 [],
 [(5,[(2,5)])],
 [(5,[(3,6)]),(12,[(3,7),(3,12),(7,12),(3,18),(7,18),(12,18)])],
 [(3,[(6,9),(1,15),(6,15),(9,15),(13,15),(1,20),(6,20),(9,20),(13,20),(15,20),(18,20),(1,29),(6,29),(9,29),(13,29),(15,29),(18,29),(20,29),(21,29),(24,29),(25,29),(27,29),(1,31),(6,31),(9,31),(13,31),(15,31),(18,31),(20,31),(21,31),(24,31),(25,31),(27,31),(29,31)])],
 [],
 [],
 [(6,[(3,7)])],
 [],
 [],
 [],
 [(2,[(2,6),(3,6)])],
 [(1,[(0,5),(3,5),(4,5),(0,8),(3,8),(4,8),(5,8),(6,8),(7,8)])],
 [],
 [],
 [],
 [(5,[(0,1),(0,4),(0,5),(1,5),(4,5),(0,8),(0,9)])],
 [],
 [],
 [],
 [],
 [(3,[(1,2),(1,5)])],
 [],
 [],
 [(1,[(4,8),(4,12),(8,12),(4,17),(8,17),(12,17),(14,17),(4,22),(8,22),(12,22),(14,22),(17,22)])],
 [],
 [],
 [],
 [(1,[(0,4),(3,4)])],
 [],
 [(1,[(0,1),(0,2)])],
 [],
 [],
 [],
 [(1,[(0,2),(1,2)]),(3,[(0,1),(0,2),(1,2),(0,3),(0,4),(1,4),(2,4),(3,4),(0,5),(0,7),(1,7),(2,7),(3,7),(4,7),(5,7),(6,7)]),(4,[(0,1),(1,2)])],
 [(18,[(0,1)])],
 [],
 [(8,[(3,7)]),(10,[(3,7)])],
 [(6,[(3,6)])],
 [(1,[(0,8),(3,8),(7,8),(0,10),(3,10),(7,10),(8,10),(0,13),(3,13),(7,13),(8,13),(0,17),(3,17),(7,17),(8,17),(0,18),(3,18),(7,18),(8,18),(10,18),(13,18),(17,18)])],
 [(6,[(3,7)])],
 [],
 [],
 [],
 [],
 [],
 [],
 [],
 [],
 [(5,[(0,1),(0,4),(0,7),(0,11),(1,11),(4,11),(7,11),(0,12),(1,12),(4,12),(7,12),(0,13)])],
 [],
 [],
 [],
 [],
 [],
 [],
 [],
 [],
 [],
 [],
 [],
 [],
 [],
 [],
 [],
 [],
 [],
 [],
 [],
 [],
 [],
 [],
 [],
 []]
def lookP:List (Nat × List (Nat × Nat))->Nat->List (Nat × Nat)
 | [],_=>[]
 | (k,c) :: l,b=>if k = b then c else lookP l b
def look:List (Nat × List Nat)->Nat->List Nat
 | [],_=>[]
 | (k,c) :: l,b=>if k = b then c else look l b
def lookF:List (Nat × List (Nat × List Nat))->Nat->List (Nat × List Nat)
 | [],_=>[]
 | (k,c) :: l,b=>if k = b then c else lookF l b
def hints:Ab.Hints:={
 take:=λf t=>(takeT.getD f []).contains t
 clear:=λf b=>look (clearT.getD f []) b
 precise:=λf=>preciseT.contains f
 pairs:=λf b=>lookP (pairsT.getD f []) b
 link:=λf t=>(linkT.getD f []).contains t
 peek:=λf=>peekT.contains f
 mapT:=λt=>mapsT.contains t
 born:=λf=>bornT.contains f
 turn:=turnF
 denil:=λf=>denilT.contains f
 pre:=λf b=>look (lookF preT f) b }
end Go.Proofs.YtbcdgfgacigaoaaGreat.Hn
end
section
namespace Go.Ab
open Go
variable {P:Program}
def sameVal:Value->Value->Bool
 | .int k n,.int k' n'=>decide (k = k') && decide (n = n')
 | .bool b,.bool b'=>b == b'
 | .slice none 0 0,.slice none 0 0=>true
 | .string s,.string s'=>decide (s.data.toList = s'.data.toList)
 | _,_=>false
mutual
def V.same:V->V->Bool
 | .val a,.val b=>sameVal a b
 | .sl f c l,.sl f' c' l'=>decide (f = f') && c == c' && sameL l l'
 | .agg l,.agg l'=>sameL l l'
 | .tuple l,.tuple l'=>sameL l l'
 | _,_=>false
def sameL:List V->List V->Bool
 | [],[]=>true
 | x :: l,y :: l'=>x.same y && sameL l l'
 | _,_=>false
end
theorem sameVal_eq {a b:Value} (h:sameVal a b = true):a = b:=by
 unfold sameVal at h;split at h
 ·simp_all
 ·simp_all
 ·rfl
 ·rename_i s s';have h1:=of_decide_eq_true h;obtain ⟨⟨l⟩⟩:=s;obtain ⟨⟨l'⟩⟩:=s';simp only at h1;rw [h1]
 ·cases h
mutual
theorem same_eq:∀ (x y:V),x.same y = true->x = y
 | .val a,y,h=>by cases y <;> simp only [V.same] at h <;> first | (rw [sameVal_eq h]) | cases h
 | .sl f c l,y,h=>by
  cases y <;> simp only [V.same] at h <;> try (cases h; done)
  simp only [Bool.and_eq_true,decide_eq_true_eq,beq_iff_eq] at h;rw [h.1.1,h.1.2,sameL_eq _ _ h.2]
 | .agg l,y,h=>by
  cases y <;> simp only [V.same] at h <;> try (cases h; done)
  rw [sameL_eq _ _ h]
 | .tuple l,y,h=>by
  cases y <;> simp only [V.same] at h <;> try (cases h; done)
  rw [sameL_eq _ _ h]
 | .undef,y,h | .ptr ..,y,h | .cptr ..,y,h | .fn ..,y,h | .yld _,y,h | .mref _,y,h | .bsl ..,y,h | .mp _,y,h | .iface ..,y,h | .lp ..,y,h | .room ..,y,h=>by cases y <;> simp [V.same] at h
theorem sameL_eq:∀ (l m:List V),sameL l m = true->l = m
 | [],[],_=>rfl
 | [],y :: m,h=>by simp [sameL] at h
 | x :: l,[],h=>by simp [sameL] at h
 | x :: l,y :: m,h=>by
  simp only [sameL,Bool.and_eq_true] at h;rw [same_eq x y h.1,sameL_eq l m h.2]
end
structure Ran where
 g:FuncId
 args:List V
 r:V
def libOf (t:List Ran) (g:FuncId):Option (List V->Option V) :=
 if t.any (λe=>decide (e.g = g)) then some (λargs=>(t.find? λe=>decide (e.g = g) && sameL e.args args).map (·.r)) else none
theorem libOf_ok {t:List Ran} (h:∀ e ∈ t,CallOk P e.g e.args [] e.r []):∀ g f args r,libOf t g = some f->f args = some r->CallOk P g args [] r []:=by
 intro g f args r hf hr;unfold libOf at hf;split at hf
 ·cases hf;obtain ⟨e,he,rfl⟩:=Option.map_eq_some_iff.1 hr;have h1:=List.find?_some he;simp only [Bool.and_eq_true,decide_eq_true_eq] at h1;rw [<- h1.1,<- sameL_eq _ _ h1.2];exact h e (List.mem_of_find?_eq_some he)
 ·cases hf
theorem ran_ok {H:Hints} (hm:P.follows .mixedOrders = true) (hname:NameOk P H) {t:List Ran} (ht:∀ e ∈ t,CallOk P e.g e.args [] e.r []) (n:Nat) (e:Ran)
  (h:(match (orcN P H (libOf t) n).call e.g e.args [] with | some (r,[])=>r.same e.r | _=>false) = true):CallOk P e.g e.args [] e.r []:=by
 split at h
 ·rename_i r hr;rw [<- same_eq _ _ h];exact (orcN_ok hm hname (libOf_ok ht) n).call _ _ _ _ _ hr
 ·cases h
end Go.Ab
end
section
namespace Go.Proofs.YtbcdgfgacigaoaaGreat
open Go Go.Ab
theorem turns:TurnsOk Tryz.prog Hn.hints:=λg F h=>by simp only [Hn.hints,Hn.turnF] at h; cases h
theorem follows:Tryz.prog.follows .mixedOrders = true:=by kernel_rfl
theorem namesOk : (Tryz.prog.funcs.toList.all fun fn => !fn.body.isSome || !(fn.name == "runtime.NumGoroutine")) = true := by kernel_rfl
theorem hname:NameOk Tryz.prog Hn.hints:=⟨λg fn h hb=>by
 have:=List.all_eq_true.1 namesOk fn (by rw [Array.mem_toList_iff]; exact Array.mem_of_getElem? h);rw [hb] at this;simpa using this,turns⟩
def vi (n:Int):V:=.val (.int .i64 n)
def r0:Ran:=⟨59,[.sl .shared false [.sl .shared false [.agg [vi (1),vi (0)],.agg [vi (0),vi (1)]],.sl .shared false [.agg [vi (0),vi (0)],.agg [vi (2),vi (0)]]]],.tuple [.agg [vi (2),.sl .own false [.sl .own false [.agg [vi (2),vi (0)],.agg [vi (0),vi (-1)]],.sl .own false [.agg [vi (0),vi (0)],.agg [vi (1),vi (0)]]]],vi (0)]⟩
theorem r0_ok:CallOk Tryz.prog r0.g r0.args [] r0.r []:=ran_ok (t:=[]) (H:=Hn.hints) follows hname (by simp) 200 r0 (by kernel_rfl)
def r1:Ran:=⟨14,[.agg [.sl .shared false [.sl .shared false [.agg [vi (1),vi (0)]],.sl .shared false [.agg [vi (0),vi (1)]],.sl .shared false [.agg [vi (2),vi (0)]]],.sl .shared false [.sl .shared false [.agg [vi (2),vi (0)]],.sl .shared false [.agg [vi (0),vi (2)]],.sl .shared false [.agg [vi (5),vi (0)]]]],vi (0)],.tuple [.agg [vi (98),vi (99)],vi (0)]⟩
theorem r1_ok:CallOk Tryz.prog r1.g r1.args [] r1.r []:=ran_ok (t:=[]) (H:=Hn.hints) follows hname (by simp) 200 r1 (by kernel_rfl)
def r2:Ran:=⟨23,[.agg [.sl .shared false [.sl .shared false [.agg [vi (2),vi (0)]]],.sl .shared false [.sl .shared false [.agg [vi (1),vi (0)]]],vi (1),vi (2),vi (3)],.sl .shared false [.agg [vi (10),vi (0)]],.sl .shared false [.agg [vi (0),vi (0)]],vi (0)],.tuple [vi (2),vi (0)]⟩
theorem r2_ok:CallOk Tryz.prog r2.g r2.args [] r2.r []:=ran_ok (t:=[]) (H:=Hn.hints) follows hname (by simp) 200 r2 (by kernel_rfl)
def r3:Ran:=⟨73,[.sl .shared false [vi (2),vi (-2),vi (1)]],.tuple [.sl .own false [.sl .dull false [vi (2),vi (-2),vi (1)],.sl .dull false [vi (3),vi (-2)],.sl .own false [vi (1)]],vi (0)]⟩
theorem r3_ok:CallOk Tryz.prog r3.g r3.args [] r3.r []:=ran_ok (t:=[]) (H:=Hn.hints) follows hname (by simp) 200 r3 (by kernel_rfl)
def r4:Ran:=⟨74,[.agg [.sl .shared false [vi (4),vi (0),vi (0)],.sl .shared false [vi (0),vi (0),vi (1)],vi (1),vi (6)]],.tuple [vi (4),vi (0)]⟩
theorem r4_ok:CallOk Tryz.prog r4.g r4.args [] r4.r []:=ran_ok (t:=[]) (H:=Hn.hints) follows hname (by simp) 200 r4 (by kernel_rfl)
def rs:List Ran:=[r0,r1,r2,r3,r4]
theorem rs_ok:∀ e ∈ rs,CallOk Tryz.prog e.g e.args [] e.r []:=by
 intro e he;simp only [rs,List.mem_cons,List.mem_nil_iff,or_false] at he;rcases he with rfl | rfl | rfl | rfl | rfl
 ·exact r0_ok
 ·exact r1_ok
 ·exact r2_ok
 ·exact r3_ok
 ·exact r4_ok
def aw:Ran:=⟨12,[],.val (.bool true)⟩
theorem awake_ok:CallOk Tryz.prog 12 [] [] (.val (.bool true)) []:=ran_ok (H:=Hn.hints) follows hname rs_ok 200 aw (by kernel_rfl)
end Go.Proofs.YtbcdgfgacigaoaaGreat
end
section
namespace Go.Tx
open Go Go.Ab Go.RowKit Go.ChangeShapes Go.WideShapes Go.Deep
section
variable {H:Type} {enc:TypeId × Value->H} {P:Program}
theorem post_of_below {f:Func} {s:ChangeSpec} {apart fresh handsOn again:Bool} {W W':World} {args:Array Value} {v:Value} {ds gs:List (DataW H)} {before pa pv:List MemPlace}
  (hW:DataW.Whole enc P f.params.toList s.vars apart W args.toList ds gs before)
  (hres:∀ (b:Nat) (sp:Nat->Bool) (hd:Bool),DataW.TrodAll enc P W' b sp hd f.resultTypes.toList (v.resultList f.resultTypes.size) (s.fn H (ds ++ gs)).results [])
  (hargs:∀ sp:Nat->Bool,(∀ p ∈ before,sp p.block = true)->DataW.TrodAll enc P W' 0 sp true f.params.toList args.toList (s.fn H (ds ++ gs)).args pa)
  (hvars:∀ sp:Nat->Bool,(∀ p ∈ before,sp p.block = true)->DataW.TrodVars enc P W' sp s.vars (s.fn H (ds ++ gs)).vars pv)
  (hps:before = pa ++ pv) (hb:Below W.heap.size W W')
  (hok:∀ (j:Nat) (t:TypeId) (r:Value),f.resultTypes[j]? = some t->(v.resultList f.resultTypes.size)[j]? = some r->Value.okWide P W' .any 0 t r) :
  s.post enc P f apart fresh handsOn again W args v W':=by
 have hlt:∀ p ∈ before,p.block < W.heap.size:=λp hp=>hW.lt p hp;have hold:∀ p ∈ before,(λb=>decide (b < W.heap.size)) p.block = true:=λp hp=>by simpa using hlt p hp
 refine ⟨ds,gs,before,[],pa,pv,hW,hres _ _ _,hargs _ hold,hvars _ hold,World.keptBut_mono (λp hp=>⟨hp,?_⟩) (hb.frame (· ∈ before)),λ_=>?_⟩
 ·rw [hps,List.mem_append] at hp;exact Or.inr hp
 ·obtain ⟨_,_,_,_,_,hz,hn⟩:=hW;refine ⟨hok,_,_,([] ++ pa) ++ pv,⟨[] ++ pa,pv,trodAll_append (hargs _ (λ_ _=>rfl)) (hres _ _ _),hvars _ (λ_ _=>rfl),rfl,?_,?_⟩,?_⟩
  ·intro b off hp;have hin:MemPlace.cell b off ∈ before:=by rw [hps]; simpa using hp
   rw [hb.frozen (hlt _ hin)];exact hz b off hin
  ·intro ha;have:=hn ha;rw [hps] at this;simpa using this
  ·intro p hp _;rw [hps];simpa using hp
theorem trodAll_len:∀ {ts:List TypeId} {vs:List Value} {ds:List (DataW H)} {ps:List MemPlace} {w:World} {b:Nat} {sp:Nat->Bool} {hd:Bool},DataW.TrodAll enc P w b sp hd ts vs ds ps->ds.length = ts.length
 | [],[],[],_,_,_,_,_,_=>rfl
 | [],[],d :: ds,_,_,_,_,_,h=>h.elim
 | [],v :: vs,_,_,_,_,_,_,h=>by cases h
 | t :: ts,[],_,_,_,_,_,_,h=>by cases h
 | t :: ts,v :: vs,[],_,_,_,_,_,h=>by cases h
 | t :: ts,v :: vs,d :: ds,ps,w,b,sp,hd,⟨p,q,h1,h2,e⟩=>by simp [trodAll_len h2]
end
theorem sm_all {H:Type}:Sm (H:=H) maxLen (λ_=>True) where
 slice:=λes sp _ h=>⟨h,λ_ _=>trivial⟩
 agg:=λ_ _ _ _=>trivial
 str:=λ_ _ h=>h
theorem law_contract {P:Program} {H0:Hints} {lib:FuncId->Option (List V->Option V)} (hm:P.follows .mixedOrders = true) (hname:NameOk P H0)
  (hlib:∀ g h args r,lib g = some h->h args = some r->CallOk P g args [] r []) (hl:laidOutB P = true) {k:FuncId} {fn:Func} (hfn:P.funcs[k]? = some fn) (hbody:fn.body.isSome = true)
  {ts:List TypeId} {τs:List Ty} (hps:fn.params.toList = ts) (hts:ts.mapM (tyOf P) = some τs) (hok:ts.all (okT P 10) = true) (hrd:ts.all (λt=>P.readableRec t && decide (t < P.types.size)) = true)
  {tb:TypeId} (hres:fn.resultTypes = #[tb]) (htb:P.underlying tb = some .bool) {F:denP (τs.map .ty)->Option Bool}
  (he:EntryOk P H0 lib ⟨k,τs.map .ty,[(.bool,0)],F⟩) (hF:∀ x,RngP maxLen τs x->F x = some true)
  {s:ChangeSpec} (hv:s.vars = []) (hs:∀ (H:Type) (ds:List (DataW H)),ds.length = ts.length->s.fn H ds = { results:=[.lit (.bool true)],args:=ds })
  (H:Type) (enc:TypeId × Value->H) (W:World) (base:Nat) (args:Array Value) (ds gs:List (DataW H)) (before:List MemPlace)
  (hval:∀ (j:Nat) t v,fn.params[j]? = some t->args[j]? = some v->Value.okWide P W .any base t v)
  (hW:DataW.Whole enc P fn.params.toList s.vars false W args.toList ds gs before) :
  Calls P k args W λe W'=>∃ v,e = .returned v/\s.post enc P fn false true false false W args v W':=by
 have hW':=hW;have hlt:∀ p ∈ before,p.block < W.heap.size:=λp hp=>hW.lt p hp;obtain ⟨p,q,hA,hV,rfl,hfz,hnd⟩:=hW;rw [hv] at hV;obtain ⟨rfl,rfl⟩:=trodVars_none hV;rw [hps] at hA;have hlen:=trodAll_len hA;have hval':∀ (j:Nat) t v,ts[j]? = some t->args.toList[j]? = some v->Value.okWide P W .any base t v:=λj t v h1 h2 =>
  hval j t v (by rw [<- hps] at h1; simpa using h1) (by simpa using h2)
 refine (law_calls hm hname hlib hl sm_all hfn hbody hts hok he hF hval' hA (λ_ _=>trivial) (λx hx=>by simp [glob] at hx)).mono λe W' ⟨h1,hb⟩=>?_;subst h1;have hfs:s.fn H (ds ++ []) = { results:=[.lit (.bool true)],args:=ds }:=by rw [List.append_nil]; exact hs H ds hlen
 refine ⟨_,rfl,post_of_below (pa:=p) (pv:=[]) hW' ?_ ?_ ?_ rfl hb ?_⟩
 ·intro b sp hd;rw [hfs,hres];exact trodAll_mk1 (shut_bool htb true)
 ·intro sp hsp;rw [hfs,hps];exact trodAll_below hl hb hrd hA (λx hx=>hlt x (by simpa using hx)) sp (λx hx=>hsp x (by simpa using hx))
 ·intro sp _;rw [hfs,hv];rfl
 ·exact ok_one hres rfl (okWide_bool_mk htb true)
end Go.Tx
namespace Go.Proofs.YtbcdgfgacigaoaaGreat
open Go Go.Ab Go.Tx
theorem own:ownKnob Tryz.prog.godebug = none:=by kernel_rfl
theorem laid_out:laidOutB Tryz.prog = true:=by kernel_rfl
end Go.Proofs.YtbcdgfgacigaoaaGreat
end
section
namespace Go.Tx
open Go
theorem wrap_id {n:Int} (h1 : -9223372036854775808<=n) (h2:n<=9223372036854775807):IntKind.wrap .i64 n = n:=by
 rw [IntKind.wrap_i64]; omega
theorem idx_zero {α:Type} (l:List α):idx l 0 = l[0]?:=by simp [idx]
theorem idx_of {α:Type} {l:List α} {i:Nat} {a:α} (h:l[i]? = some a):idx l (i:Int) = some a:=by simp [idx,h]
theorem app_of {α:Type} {l l2:List α} (h:l.length + l2.length<=4294967296):app l l2 = some (l ++ l2):=by simp [app,h]
section
variable {σ ρ:Type} {f:σ->Option (σ ⊕ ρ)}
theorem loopN_mono:∀ {n m:Nat} {s:σ} {r:ρ},loopN f n s = some r->n<=m->loopN f m s = some r
 | 0,m,s,r,h,_=>by simp [loopN] at h
 | n + 1,0,s,r,h,hm=>by omega
 | n + 1,m + 1,s,r,h,hm=>by
  simp only [loopN] at h ⊢;cases hf:f s with
  | none=>rw [hf] at h; cases h
  | some x =>
   rw [hf] at h;cases x with
   | inl s'=>exact loopN_mono h (by omega)
   | inr r'=>exact h
theorem loopO_of {n:Nat} {s:σ} {r:ρ} (h:loopN f n s = some r):loopO f s = some r:=by
 have hex:∃ n r,loopN f n s = some r:=⟨n,r,h⟩
 cases hl:loopO f s with
 | none=>exfalso; unfold loopO at hl; rw [dif_pos hex] at hl; cases hl
 | some r' =>
  obtain ⟨m,hm⟩:=loopO_some hl;have h1:=loopN_mono h (Nat.le_max_left n m);have h2:=loopN_mono hm (Nat.le_max_right n m);rw [<- h1,<- h2]
theorem loopO_inl {s s':σ} (h:f s = some (.inl s')):loopO f s = loopO f s':=by
 cases hl:loopO f s' with
 | some r =>
  obtain ⟨n,hn⟩:=loopO_some hl;exact loopO_of (n:=n + 1) (by simp [loopN,h,hn])
 | none =>
  cases hl2:loopO f s with
  | none=>rfl
  | some r =>
   obtain ⟨n,hn⟩:=loopO_some hl2;cases n with
   | zero=>simp [loopN] at hn
   | succ n =>
    simp only [loopN,h] at hn;rw [loopO_of hn] at hl;cases hl
theorem loopO_inr {s:σ} {r:ρ} (h:f s = some (.inr r)):loopO f s = some r:=loopO_of (n:=1) (by simp [loopN,h])
theorem loop_inv (n:Nat) (I:Nat->σ->Prop) (Q:ρ->Prop)
  (hs:∀ i s,i<=n->I i s->(∃ s',f s = some (.inl s')/\i < n/\I (i + 1) s')\/(∃ r,f s = some (.inr r)/\Q r)) {s:σ} (h0:I 0 s):∃ r,loopO f s = some r/\Q r:=by
 have h:∀ k i s,n - i = k->i<=n->I i s->∃ r,loopO f s = some r/\Q r:=by
  intro k;induction k with
  | zero =>
   intro i s hk hi hI;rcases hs i s hi hI with ⟨s',_,h,_⟩ | ⟨r,h,hq⟩
   ·omega
   ·exact ⟨r,loopO_inr h,hq⟩
  | succ k ih =>
   intro i s hk hi hI;rcases hs i s hi hI with ⟨s',h,hlt,hI'⟩ | ⟨r,h,hq⟩
   ·obtain ⟨r,hr,hq⟩:=ih (i + 1) s' (by omega) (by omega) hI';exact ⟨r,by rw [loopO_inl h,hr],hq⟩
   ·exact ⟨r,loopO_inr h,hq⟩
 exact h n 0 s (by omega) (by omega) h0
end
def findI {α ρ:Type} (g:Nat->α->Option ρ):Nat->List α->Option ρ
 | _,[]=>none
 | k,a :: l=>match g k a with
  | some r=>some r
  | none=>findI g (k + 1) l
def toSum {ρ:Type}:Option ρ->Unit ⊕ ρ
 | some r=>.inr r
 | none=>.inl ()
def stp {ρ:Type} (i:Nat):Option ρ->Int ⊕ (Unit ⊕ ρ)
 | some r=>.inr (.inr r)
 | none=>.inl ((i:Int) + 1)
theorem loop_list {α ρ:Type} (l:List α) {f:Int->Option (Int ⊕ (Unit ⊕ ρ))} (g:Nat->α->Option ρ)
  (h:∀ (i:Nat) (a:α),l[i]? = some a->f i = some (stp i (g i a)))
  (he:f l.length = some (.inr (.inl ()))):loopO f 0 = some (toSum (findI g 0 l)):=by
 have key:∀ (l2 l1:List α),l1 ++ l2 = l->loopO f (l1.length:Nat) = some (toSum (findI g l1.length l2)):=by
  intro l2;induction l2 with
  | nil =>
   intro l1 e;have:l1 = l:=by simpa using e
   subst this;rw [loopO_inr he]; rfl
  | cons a l2 ih =>
   intro l1 e;have hi:l[l1.length]? = some a:=by rw [<- e]; simp
   have hf:=h _ _ hi;simp only [findI];cases hg:g l1.length a with
   | some r=>rw [hg] at hf; rw [loopO_inr hf]; rfl
   | none =>
    rw [hg] at hf;rw [loopO_inl hf];have:=ih (l1 ++ [a]) (by simp [e]);simpa using this
 simpa using key l [] rfl
end Go.Tx
end
section
namespace Go.Tx
open Go
def Ok {α:Type} (o:Option α) (Q:α->Prop):Prop:=∃ a,o = some a/\Q a
section
variable {α β σ ρ τ:Type}
theorem ok_some {a:α} {Q:α->Prop}:Ok (some a) Q ↔ Q a:=⟨λ⟨_,h,hq⟩=>by cases h; exact hq,λh=>⟨a,rfl,h⟩⟩
theorem ok_none {Q:α->Prop}:Ok (none:Option α) Q ↔ False:=⟨λ⟨_,h,_⟩=>(by cases h),λh=>h.elim⟩
theorem ok_eq {o:Option α} {a:α}:Ok o (λr=>r = a) ↔ o = some a:=⟨λ⟨_,h,hq⟩=>by rw [h,hq],λh=>⟨a,h,rfl⟩⟩
theorem Ok.eq {o:Option α} {a:α} (h:Ok o (λr=>r = a)):o = some a:=ok_eq.1 h
theorem Ok.mono {o:Option α} {P Q:α->Prop} (h:Ok o P) (hq:∀ a,P a->Q a):Ok o Q:=by obtain ⟨a,h1,h2⟩:=h; exact ⟨a,h1,hq a h2⟩
theorem Ok.bind {o:Option α} {k:α->Option β} {P:α->Prop} {Q:β->Prop} (h:Ok o P) (hk:∀ a,P a->Ok (k a) Q):Ok (o.bind k) Q:=by
 obtain ⟨a,h1,h2⟩:=h; rw [h1]; exact hk a h2
theorem ok_bind {o:Option α} {k:α->Option β} {Q:β->Prop}:Ok (o.bind k) Q ↔ Ok o λa=>Ok (k a) Q:=by
 cases o with
 | none=>simp [ok_none]
 | some a=>simp [ok_some]
theorem idx_in {l:List α} {n:Int} (d:α) (h0:0<=n) (h1:n < l.length):idx l n = some (l.getD n.toNat d):=by
 unfold idx;rw [if_pos h0];have:n.toNat < l.length:=by omega
 simp [this]
theorem app_in {l l2:List α} (h:l.length + l2.length<=4294967296):app l l2 = some (l ++ l2):=app_of h
theorem app_one {l:List α} {a:α} (h:l.length<=4294967295):app l [a] = some (l ++ [a]):=app_of (by simp; omega)
theorem app_nil {l2:List α} (h:l2.length<=4294967296):app [] l2 = some l2:=by rw [app_of (by simpa using h)]; rfl
theorem slc_in {l:List α} {a b:Int} (h:0<=a/\a<=b/\b<=l.length):slc l a b = some ((l.take b.toNat).drop a.toNat):=by unfold slc; rw [if_pos h]
theorem mkS_in {z:α} {n:Int} (h:0<=n/\n<=4294967296):mkS z n = some (List.replicate n.toNat z):=by unfold mkS; rw [if_pos h]
def Rnd (o:Option (σ ⊕ ρ)) (I:σ->Prop) (Q:ρ->Prop):Prop:=Ok o λx=>match x with
 | .inl s=>I s
 | .inr r=>Q r
theorem rnd_inl {s:σ} {I:σ->Prop} {Q:ρ->Prop}:Rnd (some (.inl s)) I Q ↔ I s:=ok_some
theorem rnd_inr {r:ρ} {I:σ->Prop} {Q:ρ->Prop}:Rnd (some (.inr r):Option (σ ⊕ ρ)) I Q ↔ Q r:=ok_some
theorem rnd_bind {o:Option α} {k:α->Option (σ ⊕ ρ)} {I:σ->Prop} {Q:ρ->Prop}:Rnd (o.bind k) I Q ↔ Ok o λa=>Rnd (k a) I Q:=ok_bind
theorem loop_up {f:σ->Option (σ ⊕ ρ)} (n:Nat) (I:Nat->σ->Prop) (Q:ρ->Prop) {s:σ} (h0:I 0 s)
  (hs:∀ i s,i<=n->I i s->Rnd (f s) (λs'=>i < n/\I (i + 1) s') Q):Ok (loopO f s) Q:=by
 obtain ⟨r,h1,h2⟩:=loop_inv n I Q (λi s hi hI=>by
  obtain ⟨x,hx,h⟩:=hs i s hi hI;cases x with
  | inl s'=>exact .inl ⟨s',hx,h⟩
  | inr r=>exact .inr ⟨r,hx,h⟩) h0
 exact ⟨r,h1,h2⟩
theorem ok_elim {o:Option (α ⊕ β)} {k:α->Option β} {Q:β->Prop}:Ok (o.bind (Sum.elim k some)) Q ↔ Ok o λx=>match x with
  | .inl a=>Ok (k a) Q
  | .inr b=>Q b:=by
 rw [ok_bind];cases o with
 | none=>simp [ok_none]
 | some x=>cases x <;> simp [ok_some]
end
theorem getD_at {α:Type} {l:List α} {i:Nat} {a d:α} (h:l[i]? = some a):l.getD i d = a:=by simp [h]
theorem take_next {α:Type} {l:List α} {i:Nat} (d:α) (h:i < l.length):l.take (i + 1) = l.take i ++ [l.getD i d]:=by
 rw [List.take_add_one]; simp [h]
end Go.Tx
end
section
namespace Go.Tx
open Go
section
variable {α β ρ τ:Type}
theorem len_lt {l:List α} {i:Nat} {a:α} (h:l[i]? = some a):i < l.length:=(List.getElem?_eq_some_iff.1 h).1
theorem for_find (l:List α) (K:Int->Option (Int ⊕ (Unit ⊕ ρ))) (g:Nat->α->Option ρ) (h:∀ (i:Nat) (a:α),l[i]? = some a->K i = some (stp i (g i a))) :
  loopO (λs=>bif decide (s < (l.length:Int)) then K s else some (.inr (.inl ()))) 0 = some (toSum (findI g 0 l)):=by
 refine loop_list l g (λi a hi=>?_) ?_
 ·have:=len_lt hi;have e:decide ((i:Int) < (l.length:Int)) = true:=by simp <;> omega
  simp only [e,cond_true];exact h i a hi
 ·simp
theorem elim_toSum {o:Option ρ} {k:Unit->Option ρ}:(some (toSum o)).bind (Sum.elim k some) = (match o with
  | some r=>some r
  | none=>k ()):=by cases o <;> rfl
theorem findI_none {g:Nat->α->Option ρ}:∀ {l:List α} {k:Nat},findI g k l = none ↔ ∀ i a,l[i]? = some a->g (k + i) a = none
 | [],k=>by simp [findI]
 | a :: l,k=>by
  simp only [findI];cases hg:g k a with
  | some r =>
   simp only [reduceCtorEq,false_iff];intro h;have:=h 0 a rfl;simp [hg] at this
  | none =>
   simp only
   rw [findI_none (l:=l) (k:=k + 1)];constructor
   ·intro h i b hb;cases i with
    | zero=>simp at hb; subst hb; simpa using hg
    | succ i=>have:=h i b (by simpa using hb); rw [<- this]; congr 1; omega
   ·intro h i b hb;have:=h (i + 1) b (by simpa using hb);rw [<- this]; congr 1; omega
theorem findI_some {g:Nat->α->Option ρ} {r:ρ}:∀ {l:List α} {k:Nat},findI g k l = some r->∃ i a,l[i]? = some a/\g (k + i) a = some r/\∀ j b,j < i->l[j]? = some b->g (k + j) b = none
 | [],k,h=>by simp [findI] at h
 | a :: l,k,h=>by
  simp only [findI] at h;cases hg:g k a with
  | some r' =>
   rw [hg] at h;simp only [Option.some.injEq] at h;subst h;exact ⟨0,a,rfl,by simpa using hg,λj b hj=>by omega⟩
  | none =>
   rw [hg] at h;obtain ⟨i,b,h1,h2,h3⟩:=findI_some (l:=l) (k:=k + 1) h;refine ⟨i + 1,b,by simpa using h1,by rw [<- h2]; congr 1; omega,λj c hj hc=>?_⟩;cases j with
   | zero=>simp at hc; subst hc; simpa using hg
   | succ j=>have:=h3 j c (by omega) (by simpa using hc); rw [<- this]; congr 1; omega
theorem for_any (l:List α) (pf:α->Option Bool) (p:α->Bool) (h:∀ x ∈ l,pf x = some (p x)) (hl:l.length<=1000000000) :
  ((loopO (λ(s2:Int) =>
   bif decide (s2 < (l.length:Int)) then
    (idx l s2).bind λx3 =>
    (pf x3).bind λx4 =>
    bif x4 then
     some (.inr (.inr s2))
    else
     some (.inl (IntKind.wrap .i64 (s2 + 1)))
   else
    some (.inr (.inl ()))) 0).bind (Sum.elim (λ(p5:Unit) =>
  some (-1)) some)).bind (λx1=>some (decide (x1>=0))) = some (l.any p):=by
 rw [for_find l _ (λi a=>if p a then some (i:Int) else none) (λi a hi=>by
  have:=len_lt hi;rw [idx_of hi];simp only [Option.bind_some];rw [h a (List.mem_of_getElem? hi)];simp only [Option.bind_some];cases hp:p a
  ·simp only [cond_false,Bool.false_eq_true,if_false,stp]; rw [wrap_id (by omega) (by omega)]
  ·simp [stp]),elim_toSum]
 cases hf:findI (λi a=>if p a then some (i:Int) else none) 0 l with
 | none =>
  rw [findI_none] at hf;have:l.any p = false:=by
   rw [List.any_eq_false];intro x hx;obtain ⟨i,hi⟩:=List.mem_iff_getElem?.1 hx;have:=hf i x hi;simpa using this
  rw [this]; rfl
 | some r =>
  obtain ⟨i,a,h1,h2,_⟩:=findI_some hf;have hp:p a = true:=by
   cases hp:p a
   ·simp [hp] at h2
   ·rfl
  have:l.any p = true:=List.any_eq_true.2 ⟨a,List.mem_of_getElem? h1,hp⟩;rw [this];simp only [hp,if_true,Option.some.injEq] at h2;simp only [Option.bind_some];have:decide (r>=0) = true:=by simp <;> omega
  rw [this]
def fst0:List Int->Int
 | []=>0
 | e :: l=>if e = 0 then fst0 l else e
theorem findI_fst0:∀ (l:List Int) (k:Nat),findI (λ_ e=>if e = 0 then none else some e) k l = if fst0 l = 0 then none else some (fst0 l)
 | [],k=>rfl
 | e :: l,k=>by
  simp only [findI,fst0];by_cases h:e = 0
  ·simp only [h,if_true]; exact findI_fst0 l (k + 1)
  ·simp [h]
theorem for_first (l:List Int) (hl:l.length<=1000000000) :
  (loopO (λ(s2:Int) =>
   bif decide (s2 < (l.length:Int)) then
    (idx l s2).bind λx3 =>
    bif !(decide (x3 = 0)) then
     some (.inr (.inr x3))
    else
     some (.inl (IntKind.wrap .i64 (s2 + 1)))
   else
    some (.inr (.inl ()))) 0).bind (Sum.elim (λ(p4:Unit)=>some 0) some) = some (fst0 l):=by
 rw [for_find l _ (λ_ e=>if e = 0 then none else some e) (λi a hi=>by
  have:=len_lt hi;rw [idx_of hi];simp only [Option.bind_some];by_cases h:a = 0
  ·simp only [h,decide_true,Bool.not_true,cond_false,if_true,stp]; rw [wrap_id (by omega) (by omega)]
  ·simp [h,stp]),elim_toSum,findI_fst0]
 by_cases h:fst0 l = 0
 ·simp [h]
 ·simp [h]
end
end Go.Tx
end
section
namespace Go.Tx
open Go
theorem euclid_loop {f:Int × Int->Option ((Int × Int) ⊕ Int)} (hf:∀ s,f s = if s.2 = 0 then some (.inr s.1) else some (.inl (s.2,s.1.tmod s.2))):∀ (n:Nat) (a b:Int),b.natAbs<=n->∃ r,loopO f (a,b) = some r/\r.natAbs = Int.gcd a b:=by
 intro n;induction n with
 | zero =>
  intro a b hb;have:b = 0:=by omega
  subst this;exact ⟨a,loopO_inr (by rw [hf]; simp),by simp⟩
 | succ n ih =>
  intro a b hb;by_cases h0:b = 0
  ·subst h0;exact ⟨a,loopO_inr (by rw [hf]; simp),by simp⟩
  ·have hlt:(a.tmod b).natAbs < b.natAbs:=by
    rw [Int.natAbs_tmod]; exact Nat.mod_lt _ (by omega)
   obtain ⟨r,h1,h2⟩:=ih b (a.tmod b) (by omega);refine ⟨r,by rw [loopO_inl (s':=(b,a.tmod b)) (by rw [hf]; simp [h0])]; exact h1,?_⟩;rw [h2];unfold Int.gcd;rw [Int.natAbs_tmod,Nat.gcd_comm,<- Nat.gcd_rec,Nat.gcd_comm]
def gcdF:Nat->List Int->Nat
 | g,[]=>g
 | g,n :: l=>gcdF (Nat.gcd g n.natAbs) l
def gcdL (l:List Int):Nat:=gcdF 0 l
theorem gcdF_snoc (g:Nat) (n:Int):∀ (l:List Int),gcdF g (l ++ [n]) = Nat.gcd (gcdF g l) n.natAbs:=by
 intro l;induction l generalizing g with
 | nil=>rfl
 | cons m l ih=>simp only [List.cons_append,gcdF]; exact ih _
theorem gcdL_two (a b:Int):gcdL [a,b] = Int.gcd a b:=by simp [gcdL,gcdF,Int.gcd]
theorem gcdL_three (a b c:Int):gcdL [a,b,c] = Nat.gcd (Int.gcd a b) c.natAbs:=by simp [gcdL,gcdF,Int.gcd]
theorem gcdF_le {B:Nat}:∀ {l:List Int} {g:Nat},g<=B->(∀ x ∈ l,x.natAbs<=B)->gcdF g l<=B
 | [],g,hg,_=>hg
 | n :: l,g,hg,h=>by
  simp only [gcdF];refine gcdF_le ?_ λx hx=>h x (by simp [hx]);have h1:=h n (by simp);by_cases hg0:g = 0
  ·subst hg0; simpa using h1
  ·exact Nat.le_trans (Nat.le_of_dvd (by omega) (Nat.gcd_dvd_left g n.natAbs)) hg
theorem gcdF_zero:∀ {l:List Int} {g:Nat},gcdF g l = 0 ↔ g = 0/\∀ x ∈ l,x = 0
 | [],g=>by simp [gcdF]
 | n :: l,g=>by
  simp only [gcdF,gcdF_zero (l:=l),Nat.gcd_eq_zero_iff,List.mem_cons,forall_eq_or_imp];constructor
  ·rintro ⟨⟨h1,h2⟩,h3⟩; exact ⟨h1,by omega,h3⟩
  ·rintro ⟨h1,h2,h3⟩; exact ⟨⟨h1,by omega⟩,h3⟩
theorem gcdF_dvd_start:∀ (l:List Int) (g:Nat),gcdF g l ∣ g
 | [],g=>Nat.dvd_refl g
 | n :: l,g=>Nat.dvd_trans (gcdF_dvd_start l _) (Nat.gcd_dvd_left ..)
theorem divisor_loop (l:List Int) (hl:l.length<=1000000000) (hb:∀ x ∈ l,x.natAbs<=4611686018427387904) :
  (loopO (λ(s2:(Int × Int)) =>
   bif decide (s2.2 < (l.length:Int)) then
    (idx l s2.2).bind λx3 =>
    (loopO (λ(s5:(Int × Int)) =>
      bif !(decide (s5.2 = 0)) then
       bif decide (s5.2 = 0) then
        none
       else
        some (.inl (s5.2,s5.1.tmod s5.2))
      else
       some (.inr s5.1)) (s2.1,x3)).bind λ(p6:Int) =>
    some (.inl (p6,IntKind.wrap .i64 (s2.2 + 1)))
   else
    some (.inr s2.1)) (0,0)).bind (λ(p7:Int)=>some (max p7 (IntKind.wrap .i64 (0 - p7)))) = some (gcdL l:Int):=by
 refine Ok.eq ?_;rw [ok_bind];refine (loop_up l.length (λi (s:Int × Int)=>s.2 = (i:Int)/\s.1.natAbs = gcdL (l.take i)) (λr:Int=>r.natAbs = gcdL l) ⟨rfl,rfl⟩ ?_).mono ?_
 ·rintro i ⟨g,s⟩ hi ⟨h1,h2⟩;simp only at h1 h2;subst h1;by_cases hlt:i < l.length
  ·have e0:decide ((i:Int) < (l.length:Int)) = true:=by simp <;> omega
   simp only [e0,cond_true];rw [idx_in 0 (by omega) (by omega)];simp only [Option.bind_some,Int.toNat_natCast];obtain ⟨r,h3,h4⟩:=euclid_loop (f:=λ(s5:(Int × Int))=>bif !(decide (s5.2 = 0)) then bif decide (s5.2 = 0) then none else some (.inl (s5.2,s5.1.tmod s5.2)) else some (.inr s5.1)) (λs=>by
    by_cases h:s.2 = 0 <;> simp [h]) (l.getD i 0).natAbs g (l.getD i 0) (Nat.le_refl _)
   rw [h3];simp only [Option.bind_some];rw [wrap_id (by omega) (by omega),rnd_inl];refine ⟨hlt,by simp,?_⟩;rw [h4,take_next 0 hlt];unfold gcdL at h2 ⊢;rw [gcdF_snoc,<- h2];rfl
  ·have:i = l.length:=by omega
   subst this;have e0:decide ((l.length:Int) < (l.length:Int)) = false:=by simp
   simp only [e0,cond_false];rw [rnd_inr];simpa using h2
 ·intro r hr;have hle:gcdL l<=4611686018427387904:=gcdF_le (by omega) hb;rw [wrap_id (by omega) (by omega),ok_some];omega
theorem Gcd_loop (a b:Int) (ha:a.natAbs<=4611686018427387904) (hb:b.natAbs<=4611686018427387904) :
  Ok (loopO (λ(s2:(Int × Int)) =>
   bif !(decide (s2.2 = 0)) then
    bif decide (s2.2 = 0) then
     none
    else
     some (.inl (s2.2,s2.1.tmod s2.2))
   else
    some (.inr s2.1)) (a,b)) λr=>r.natAbs = Int.gcd a b:=by
 obtain ⟨r,h1,h2⟩:=euclid_loop (f:=λ(s2:(Int × Int))=>bif !(decide (s2.2 = 0)) then bif decide (s2.2 = 0) then none else some (.inl (s2.2,s2.1.tmod s2.2)) else some (.inr s2.1)) (λs=>by
  by_cases h:s.2 = 0 <;> simp [h]) b.natAbs a b (Nat.le_refl _)
 exact ⟨r,h1,h2⟩
theorem gcd_le {a b:Int} {B:Nat} (ha:a.natAbs<=B) (hb:b.natAbs<=B):Int.gcd a b<=B:=by
 have:=gcdF_le (B:=B) (l:=[a,b]) (g:=0) (by omega) (by simp [ha,hb]);have e:=gcdL_two a b;unfold gcdL at e;omega
end Go.Tx
end
section
namespace Go.Tx
open Go
section
variable {α:Type}
theorem sq_nonneg (z:Int):0<=z * z:=by
 rcases Int.le_total 0 z with hz | hz
 ·exact Int.mul_nonneg hz hz
 ·have:=Int.mul_nonneg (show 0 <= -z by omega) (show 0 <= -z by omega); rwa [Int.neg_mul_neg] at this
theorem sq_zero {z:Int} (h:z * z = 0):z = 0:=by
 rcases Int.mul_eq_zero.1 h with h | h <;> exact h
theorem abs_mul_le {a b A B:Int} (h1 : -A<=a/\a<=A) (h2 : -B<=b/\b<=B) : -(A * B)<=a * b/\a * b<=A * B:=by
 have hA:0<=A:=by omega
 have hB:0<=B:=by omega
 have e:(a * b).natAbs = a.natAbs * b.natAbs:=Int.natAbs_mul a b;have h3:a.natAbs * b.natAbs<=A.natAbs * B.natAbs:=Nat.mul_le_mul (by omega) (by omega);have h4:((A.natAbs * B.natAbs:Nat):Int) = A * B:=by
  rw [Int.natCast_mul]; congr 1 <;> omega
 omega
end
end Go.Tx
end
section
namespace Go.Tx
open Go
section
variable {α β:Type}
def mkL (n:Nat) (f:Nat->α):List α:=(List.range n).map f
theorem mkL_len (n:Nat) (f:Nat->α):(mkL n f).length = n:=by simp [mkL]
theorem mkL_get {n:Nat} (f:Nat->α) {k:Nat} (h:k < n):(mkL n f)[k]? = some (f k):=by simp [mkL,h]
theorem mkL_getD {n:Nat} (f:Nat->α) {k:Nat} (d:α) (h:k < n):(mkL n f).getD k d = f k:=getD_at (mkL_get f h)
theorem mkL_zero (f:Nat->α):mkL 0 f = []:=rfl
theorem mkL_succ (n:Nat) (f:Nat->α):mkL (n + 1) f = mkL n f ++ [f n]:=by simp [mkL,List.range_succ]
theorem mkL_congr {n:Nat} {f g:Nat->α} (h:∀ k,k < n->f k = g k):mkL n f = mkL n g:=List.map_congr_left λk hk=>h k (by simpa using hk)
theorem mkL_mem {n:Nat} {f:Nat->α} {x:α} (h:x ∈ mkL n f):∃ k,k < n/\x = f k:=by
 obtain ⟨k,hk,rfl⟩:=List.mem_map.1 h;exact ⟨k,by simpa using hk,rfl⟩
theorem mem_mkL {n:Nat} {f:Nat->α} {k:Nat} (h:k < n):f k ∈ mkL n f:=List.mem_map.2 ⟨k,by simpa using h,rfl⟩
theorem list_mkL (l:List α) (d:α):l = mkL l.length λk=>l.getD k d:=by
 apply List.ext_getElem?;intro k;by_cases h:k < l.length
 ·rw [mkL_get _ h]; simp [h]
 ·rw [List.getElem?_eq_none (by omega),List.getElem?_eq_none (by rw [mkL_len]; omega)]
theorem mkL_of {l:List α} {n:Nat} {f:Nat->α} (hl:l.length = n) (h:∀ k,k < n->l[k]? = some (f k)):l = mkL n f:=by
 apply List.ext_getElem?;intro k;by_cases hk:k < n
 ·rw [mkL_get _ hk,h k hk]
 ·rw [List.getElem?_eq_none (by omega),List.getElem?_eq_none (by rw [mkL_len]; omega)]
theorem getD_mem {l:List α} {i:Nat} {d:α} (h:i < l.length):l.getD i d ∈ l:=by
 have:l[i]? = some (l.getD i d):=by simp [h]
 exact List.mem_of_getElem? this
theorem at_getD {l:List α} {i:Nat} (d:α) (h:i < l.length):l[i]? = some (l.getD i d):=by simp [h]
theorem for_mk {K:List β × Int->Option ((List β × Int) ⊕ List β)} (n:Nat) (f:Nat->β)
  (h:∀ i,i < n->K (mkL i f,(i:Int)) = some (.inl (mkL i f ++ [f i],(i:Int) + 1))) (he:K (mkL n f,(n:Int)) = some (.inr (mkL n f))):loopO K ([],0) = some (mkL n f):=by
 refine Ok.eq (loop_up n (λi (s:List β × Int)=>s = (mkL i f,(i:Int))) (λr=>r = mkL n f) rfl ?_);rintro i s hi rfl;by_cases hlt:i < n
 ·rw [h i hlt,rnd_inl];exact ⟨hlt,by rw [mkL_succ]; rfl⟩
 ·have:i = n:=by omega
  subst this;rw [he,rnd_inr]
theorem for_map {K:List β × Int->Option ((List β × Int) ⊕ List β)} (l:List α) (f:α->β)
  (h:∀ (i:Nat) a out,l[i]? = some a->out.length = i->K (out,(i:Int)) = some (.inl (out ++ [f a],(i:Int) + 1))) (he:∀ out,out.length = l.length->K (out,(l.length:Int)) = some (.inr out)):loopO K ([],0) = some (l.map f):=by
 refine Ok.eq (loop_up l.length (λi (s:List β × Int)=>s = ((l.take i).map f,(i:Int))) (λr=>r = l.map f) (by simp) ?_);rintro i s hi rfl;by_cases hlt:i < l.length
 ·have ha:l[i]? = some l[i]:=by simp [hlt]
  rw [h i _ _ ha (by simp; omega),rnd_inl];refine ⟨hlt,?_⟩;have e:(l.take (i + 1)).map f = (l.take i).map f ++ [f l[i]]:=by rw [List.take_add_one,ha]; simp only [List.map_append,Option.toList_some,List.map_cons,List.map_nil]
  rw [e]; rfl
 ·have:i = l.length:=by omega
  subst this;rw [he _ (by simp),rnd_inr];simp
theorem getD_ext {l m:List α} (d:α):(l.length = m.length/\∀ i,i < l.length->l.getD i d = m.getD i d) ↔ l = m:=by
 constructor
 ·rintro ⟨h1,h2⟩;rw [list_mkL l d,list_mkL m d,h1];exact mkL_congr λk hk=>h2 k (by omega)
 ·rintro rfl; exact ⟨rfl,λ_ _=>rfl⟩
theorem ints_loop [DecidableEq α] {l m:List α} (d:α) (hl:l.length = m.length) (hb:l.length<=1000000000) (e:α->α->Bool) (he:∀ a b,a ∈ l->b ∈ m->(e a b = true ↔ a = b)) {K:Int->Option (Int ⊕ (Unit ⊕ Bool))}
  (h:∀ i,i < l.length->K (i:Int) = some (if e (l.getD i d) (m.getD i d) = true then .inl ((i:Int) + 1) else .inr (.inr false))) :
  (loopO (λs=>bif decide (s < (l.length:Int)) then K s else some (.inr (.inl ()))) 0).bind (Sum.elim (λ(p5:Unit)=>some true) some) = some (decide (l = m)):=by
 refine Ok.eq (ok_elim.2 ?_);refine (loop_up l.length (λi (s:Int)=>s = (i:Int)/\∀ j,j < i->l.getD j d = m.getD j d) (λr=>(r = .inl ()/\∀ j,j < l.length->l.getD j d = m.getD j d)\/(r = .inr false/\∃ j,j < l.length/\l.getD j d ≠ m.getD j d)) ⟨rfl,by simp⟩ ?_).mono ?_
 ·rintro i s hi ⟨rfl,hI⟩;by_cases hlt:i < l.length
  ·have e0:decide ((i:Int) < (l.length:Int)) = true:=by simp <;> omega
   simp only [e0,cond_true];rw [h i hlt];have hm:=he (l.getD i d) (m.getD i d) (getD_mem hlt) (getD_mem (by omega));by_cases c:e (l.getD i d) (m.getD i d) = true
   ·rw [if_pos c,rnd_inl];refine ⟨hlt,by simp,λj hj=>?_⟩;by_cases hji:j < i
    ·exact hI j hji
    ·have:j = i:=by omega
     subst this; exact hm.1 c
   ·rw [if_neg c,rnd_inr];exact .inr ⟨rfl,i,hlt,λh=>c (hm.2 h)⟩
  ·have:i = l.length:=by omega
   subst this;have e0:decide ((l.length:Int) < (l.length:Int)) = false:=by simp
   simp only [e0,cond_false];rw [rnd_inr];exact .inl ⟨rfl,hI⟩
 ·rintro r (⟨rfl,h1⟩ | ⟨rfl,j,hj,hne⟩)
  ·simp only [ok_some]; rw [eq_comm,decide_eq_true_iff]; exact (getD_ext d).1 ⟨hl,h1⟩
  ·simp only; rw [eq_comm,decide_eq_false_iff_not]
   exact λh=>hne (by rw [h])
end
end Go.Tx
end
section
namespace Go.Tx
open Go
abbrev G:=Int × Int × Unit
def g0:G:=(0,0,())
def g1:G:=(1,0,())
def gadd (a b:G):G:=(a.1 + b.1,a.2.1 + b.2.1,())
def gsub (a b:G):G:=(a.1 - b.1,a.2.1 - b.2.1,())
def gmul (a b:G):G:=(a.1 * b.1 - a.2.1 * b.2.1,a.1 * b.2.1 + a.2.1 * b.1,())
def gneg (a:G):G:=(-a.1,-a.2.1,())
def gconj (a:G):G:=(a.1,-a.2.1,())
theorem gext {a b:G} (h1:a.1 = b.1) (h2:a.2.1 = b.2.1):a = b:=by
 obtain ⟨x,y,_⟩:=a; obtain ⟨x',y',_⟩:=b; simp only at h1 h2; rw [h1,h2]
theorem gext_iff {a b:G}:a = b ↔ a.1 = b.1/\a.2.1 = b.2.1:=⟨λh=>by rw [h]; exact ⟨rfl,rfl⟩,λh=>gext h.1 h.2⟩
theorem geta (a:G):(a.1,a.2.1,()) = a:=rfl
def Bd (B:Int) (a:G):Prop:=(-B<=a.1/\a.1<=B)/\(-B<=a.2.1/\a.2.1<=B)
theorem Bd.mono {A B:Int} {a:G} (h:Bd A a) (hAB:A<=B):Bd B a:=by unfold Bd at *; omega
theorem bd_zero {B:Int} (h:0<=B):Bd B g0:=by unfold Bd g0; simp <;> omega
theorem bd_one {B:Int} (h:1<=B):Bd B g1:=by unfold Bd g1; simp <;> omega
theorem Bd.add {A B:Int} {a b:G} (h:Bd A a) (h':Bd B b):Bd (A + B) (gadd a b):=by unfold Bd gadd at *; simp only <;> omega
theorem Bd.sub {A B:Int} {a b:G} (h:Bd A a) (h':Bd B b):Bd (A + B) (gsub a b):=by unfold Bd gsub at *; simp only <;> omega
theorem Bd.neg {A:Int} {a:G} (h:Bd A a):Bd A (gneg a):=by unfold Bd gneg at *; simp only <;> omega
theorem Bd.conj {A:Int} {a:G} (h:Bd A a):Bd A (gconj a):=by unfold Bd gconj at *; simp only <;> omega
theorem Bd.mul {A B:Int} {a b:G} (h:Bd A a) (h':Bd B b):Bd (2 * (A * B)) (gmul a b):=by
 obtain ⟨h1,h2⟩:=h;obtain ⟨h3,h4⟩:=h';have p1:=abs_mul_le h1 h3;have p2:=abs_mul_le h2 h4;have p3:=abs_mul_le h1 h4;have p4:=abs_mul_le h2 h3;unfold Bd gmul;simp only
 generalize A * B = Q at *;omega
theorem w64n {n:Int} (h1 : -9223372036854775808<=n) (h2:n<=9223372036854775807):IntKind.wrap .i64 n = n:=wrap_id h1 h2
theorem mul_w {A B:Int} {a b:G} (h:Bd A a) (h':Bd B b) (hb:2 * (A * B)<=9000000000000000000) :
  ((IntKind.wrap .i64 (IntKind.wrap .i64 (a.1 * b.1) - IntKind.wrap .i64 (a.2.1 * b.2.1)),IntKind.wrap .i64 (IntKind.wrap .i64 (a.1 * b.2.1) + IntKind.wrap .i64 (a.2.1 * b.1)),()):G) = gmul a b:=by
 obtain ⟨h1,h2⟩:=h;obtain ⟨h3,h4⟩:=h';have p1:=abs_mul_le h1 h3;have p2:=abs_mul_le h2 h4;have p3:=abs_mul_le h1 h4;have p4:=abs_mul_le h2 h3;unfold gmul;generalize A * B = Q at *;rw [w64n (n:=a.1 * b.1) (by omega) (by omega),w64n (n:=a.2.1 * b.2.1) (by omega) (by omega),w64n (n:=a.1 * b.2.1) (by omega) (by omega),w64n (n:=a.2.1 * b.1) (by omega) (by omega),w64n (by omega) (by omega),w64n (by omega) (by omega)]
theorem add_w {A B:Int} {a b:G} (h:Bd A a) (h':Bd B b) (hb:A + B<=9000000000000000000) :
  ((IntKind.wrap .i64 (a.1 + b.1),IntKind.wrap .i64 (a.2.1 + b.2.1),()):G) = gadd a b:=by
 unfold Bd at h h';unfold gadd;rw [w64n (by omega) (by omega),w64n (by omega) (by omega)]
theorem sub_w {A B:Int} {a b:G} (h:Bd A a) (h':Bd B b) (hb:A + B<=9000000000000000000) :
  ((IntKind.wrap .i64 (a.1 - b.1),IntKind.wrap .i64 (a.2.1 - b.2.1),()):G) = gsub a b:=by
 unfold Bd at h h';unfold gsub;rw [w64n (by omega) (by omega),w64n (by omega) (by omega)]
theorem gadd_comm (a b:G):gadd a b = gadd b a:=gext (by simp [gadd,Int.add_comm]) (by simp [gadd,Int.add_comm])
theorem gsub_eq (a b:G):gsub a b = gadd a (gneg b):=gext (by simp only [gsub,gadd,gneg]; omega) (by simp only [gsub,gadd,gneg]; omega)
theorem gzero_sub (a:G):gsub g0 a = gneg a:=gext (by simp [gsub,gneg,g0]) (by simp [gsub,gneg,g0])
def sumG:Nat->(Nat->G)->G
 | 0,_=>g0
 | n + 1,f=>gadd (sumG n f) (f n)
theorem Bd.sum {B:Int} {f:Nat->G}:∀ {n:Nat},(∀ k,k < n->Bd B (f k))->Bd (n * B) (sumG n f)
 | 0,_=>bd_zero (by simp)
 | n + 1,h=>by
  have h1:=Bd.sum (n:=n) λk hk=>h k (by omega);have e:((n + 1:Nat):Int) * B = n * B + B:=by rw [Int.natCast_add,Int.add_mul]; simp
  rw [e];exact h1.add (h n (by omega))
theorem sum_loop (n:Nat) (hn:n<=1000) {A:Int} (hA:0<=A) (hAn:n * A<=9000000000000000000) (f:Nat->G) (hf:∀ k,k < n->Bd A (f k)) {K:Int × Int × Int->Option ((Int × Int × Int) ⊕ (Int × Int))}
  (h:∀ k,k < n->∀ a b:Int,Bd (k * A) (a,b,())->K ((k:Int),a,b) = some (.inl (IntKind.wrap .i64 ((k:Int) + 1),(gadd (a,b,()) (f k)).1,(gadd (a,b,()) (f k)).2.1)))
  (he:∀ a b:Int,K ((n:Int),a,b) = some (.inr (a,b))):loopO K (0,0,0) = some ((sumG n f).1,(sumG n f).2.1):=by
 refine Ok.eq (loop_up n (λi (s:Int × Int × Int)=>s = ((i:Int),(sumG i f).1,(sumG i f).2.1)) (λr=>r = ((sumG n f).1,(sumG n f).2.1)) rfl ?_);rintro i s hi rfl;by_cases hlt:i < n
 ·have hb:Bd (i * A) (sumG i f):=Bd.sum λk hk=>hf k (by omega);rw [h i hlt _ _ hb,w64n (by omega) (by omega),rnd_inl];exact ⟨hlt,rfl⟩
 ·have:i = n:=by omega
  subst this;rw [he,rnd_inr]
abbrev Mx:=List (List G)
def mx (n c:Nat) (f:Nat->Nat->G):Mx:=mkL n λi=>mkL c λk=>f i k
def ent (m:Mx) (i k:Nat):G:=(m.getD i []).getD k g0
def Rect (n c:Nat) (m:Mx):Prop:=m.length = n/\∀ r ∈ m,r.length = c
theorem mx_len (n c:Nat) (f:Nat->Nat->G):(mx n c f).length = n:=mkL_len _ _
theorem mx_row {n c i:Nat} (f:Nat->Nat->G) (h:i < n):(mx n c f).getD i [] = mkL c λk=>f i k:=mkL_getD _ _ h
theorem mx_at {n c i:Nat} (f:Nat->Nat->G) (h:i < n):(mx n c f)[i]? = some (mkL c λk=>f i k):=mkL_get _ h
theorem mx_rect (n c:Nat) (f:Nat->Nat->G):Rect n c (mx n c f):=⟨mx_len _ _ _,λr hr=>by obtain ⟨i,hi,rfl⟩:=mkL_mem hr; exact mkL_len _ _⟩
theorem rect_mx {n c:Nat} {m:Mx} (h:Rect n c m):m = mx n c (ent m):=by
 refine mkL_of h.1 λi hi=>?_;rw [at_getD [] (by rw [h.1]; exact hi)];congr 1
 refine mkL_of (h.2 _ (getD_mem (by rw [h.1]; exact hi))) λk hk=>?_;rw [at_getD g0 (by rw [h.2 _ (getD_mem (by rw [h.1]; exact hi))]; exact hk)];rfl
def BdM (B:Int) (m:Mx):Prop:=∀ r ∈ m,∀ z ∈ r,Bd B z
def BdF (B:Int) (n c:Nat) (f:Nat->Nat->G):Prop:=∀ i k,i < n->k < c->Bd B (f i k)
theorem bdM_ent {B:Int} {n c:Nat} {m:Mx} (h:BdM B m) (hr:Rect n c m):BdF B n c (ent m):=λi k hi hk=>by
 have h1:m.getD i [] ∈ m:=getD_mem (by rw [hr.1]; exact hi);exact h _ h1 _ (getD_mem (by rw [hr.2 _ h1]; exact hk))
theorem bdM_mx {B:Int} {n c:Nat} {f:Nat->Nat->G}:BdM B (mx n c f) ↔ BdF B n c f:=by
 constructor
 ·intro h i k hi hk;exact h _ (mem_mkL (f:=λi=>mkL c λk=>f i k) hi) _ (mem_mkL (f:=λk=>f i k) hk)
 ·intro h r hr z hz;obtain ⟨i,hi,rfl⟩:=mkL_mem hr;obtain ⟨k,hk,rfl⟩:=mkL_mem hz;exact h i k hi hk
theorem made_loop (n c:Nat) (hn:n<=1000) (hc:c<=1000) (ask:Int->Int->Option G) (f:Nat->Nat->G) (h:∀ i k,i < n->k < c->ask i k = some (f i k)) :
  ((mkS ([]:List G) (n:Int)).bind λx1 =>
   bif decide ((n:Int) = (n:Int)) then
    (loopO (λ(s3:(Mx × Int)) =>
      bif decide (s3.2 < (x1.length:Int)) then
       (loopO (λ(s5:(Mx × Int)) =>
         bif decide (s5.2 < (c:Int)) then
          (idx s5.1 s3.2).bind λx6 =>
          (ask s3.2 s5.2).bind λx7 =>
          (idx s5.1 s3.2).bind λx8 =>
          (app x8 ([x7])).bind λx9 =>
          (idx s5.1 s3.2).bind λx10 =>
          bif decide (s3.2 = s3.2) then
           let l11:Mx:=List.set s5.1 s3.2.toNat x9
           some (.inl (l11,IntKind.wrap .i64 (s5.2 + 1)))
          else
           none
         else
          some (.inr s5.1)) (s3.1,0)).bind λ(p12:Mx) =>
       some (.inl (p12,IntKind.wrap .i64 (s3.2 + 1)))
      else
       some (.inr s3.1)) (x1,0)).bind λ(p13:Mx) =>
    some p13
   else
    none) = some (mx n c f):=by
 have e1:decide ((n:Int) = (n:Int)) = true:=by simp
 rw [mkS_in (by omega),Option.bind_some,e1,cond_true];have hlen:(List.replicate ((n:Int).toNat) ([]:List G)).length = n:=by simp
 rw [hlen];let row (i:Nat):List G:=mkL c λk=>f i k
 refine Ok.eq ?_;rw [ok_bind];refine (loop_up n (λi (s:Mx × Int)=>s = (mkL n λj=>if j < i then row j else [],(i:Int))) (λr=>r = mx n c f) ?_ ?_).mono (λa ha=>by rw [ha]; exact ok_some.2 rfl)
 ·congr 1
  refine (mkL_of (by simp) λk hk=>?_);simp [hk]
 ·rintro i s hi rfl;by_cases hlt:i < n
  ·have e0:decide ((i:Int) < (n:Int)) = true:=by simp <;> omega
   simp only [e0,cond_true];rw [rnd_bind];refine (loop_up c (λk (s:Mx × Int)=>s = (mkL n λj=>if j < i then row j else if j = i then (row i).take k else [],(k:Int))) (λr=>r = mkL n λj=>if j < i + 1 then row j else []) ?_ ?_).mono ?_
   ·congr 1
    refine mkL_congr λj hj=>?_;by_cases c1:j < i
    ·rw [if_pos c1,if_pos c1]
    ·rw [if_neg c1,if_neg c1]; simp
   ·rintro k s hk rfl;by_cases hlt2:k < c
    ·have e2:decide ((k:Int) < (c:Int)) = true:=by simp <;> omega
     have hat:idx (mkL n λj=>if j < i then row j else if j = i then (row i).take k else []) (i:Int) = some ((row i).take k):=by
      rw [idx_of (mkL_get _ hlt)];simp
     simp only [e2,cond_true,hat,Option.bind_some,h i k hlt hlt2,decide_true,Int.toNat_natCast];have hrl:(row i).length = c:=mkL_len _ _;rw [app_one (by simp [hrl]; omega)];simp only [Option.bind_some];rw [w64n (by omega) (by omega),rnd_inl];refine ⟨hlt2,?_⟩;congr 1
     refine mkL_of (by simp [mkL_len]) λj hj=>?_;rw [List.getElem?_set,mkL_len];by_cases c1:i = j
     ·subst c1;rw [if_pos rfl,if_pos hj];simp only [Nat.lt_irrefl,if_false,if_true];rw [take_next g0 (by rw [hrl]; exact hlt2)];have:(row i).getD k g0 = f i k:=mkL_getD _ _ hlt2;rw [this]
     ·rw [if_neg c1,mkL_get _ hj];have:¬ j = i:=λe=>c1 e.symm;simp [this]
    ·have:k = c:=by omega
     subst this;have e2:decide ((k:Int) < (k:Int)) = false:=by simp
     simp only [e2,cond_false];rw [rnd_inr];refine mkL_congr λj hj=>?_;by_cases c1:j < i
     ·rw [if_pos c1,if_pos (by omega)]
     ·rw [if_neg c1];by_cases c2:j = i
      ·subst c2;rw [if_pos rfl,if_pos (by omega),List.take_of_length_le (by rw [show (row j).length = k from mkL_len _ _]; omega)]
      ·rw [if_neg c2,if_neg (by omega)]
   ·rintro r rfl;rw [w64n (by omega) (by omega),rnd_inl];exact ⟨hlt,rfl⟩
  ·have:i = n:=by omega
   subst this;have e0:decide ((i:Int) < (i:Int)) = false:=by simp
   simp only [e0,cond_false];rw [rnd_inr];exact mkL_congr λj hj=>by rw [if_pos hj]
def skip (r i:Nat):Nat:=if i < r then i else i + 1
def minor (f:Nat->Nat->G) (r c i k:Nat):G:=f (skip r i) (skip c k)
theorem mkL_cut {α:Type} {n c:Nat} (f:Nat->α) (h:c < n):((mkL n f).take c).drop 0 ++ ((mkL n f).take n).drop (c + 1) = mkL (n - 1) λk=>f (skip c k):=by
 refine mkL_of (by simp [mkL_len]; omega) λk hk=>?_;have hl:(mkL n f).length = n:=mkL_len _ _;rw [List.drop_zero,List.take_of_length_le (l:=mkL n f) (i:=n) (by omega)];unfold skip;by_cases c1:k < c
 ·rw [List.getElem?_append_left (by rw [List.length_take]; omega),List.getElem?_take_of_lt c1,mkL_get f (by omega),if_pos c1]
 ·rw [List.getElem?_append_right (by rw [List.length_take]; omega),List.length_take,hl,Nat.min_eq_left (by omega),List.getElem?_drop,if_neg c1];rw [show c + 1 + (k - c) = k + 1 by omega,mkL_get f (by omega)]
def detF:Nat->(Nat->Nat->G)->G
 | 0,_=>g1
 | n + 1,f=>sumG (n + 1) λk=>if k % 2 = 1 then gneg (gmul (f 0 k) (detF n (minor f 0 k))) else gmul (f 0 k) (detF n (minor f 0 k))
theorem minor_bd {B:Int} {n:Nat} {f:Nat->Nat->G} {r c:Nat} (h:BdF B (n + 1) (n + 1) f):BdF B n n (minor f r c):=λi k hi hk=>h _ _ (by unfold skip; split <;> omega) (by unfold skip; split <;> omega)
def dB (B:Int):Nat->Int
 | 0=>1
 | n + 1=>((n + 1:Nat):Int) * (2 * (B * dB B n))
theorem dB_nonneg {B:Int} (h:0<=B):∀ n,0<=dB B n
 | 0=>by simp [dB]
 | n + 1=>by
  simp only [dB];have:=Int.mul_nonneg h (dB_nonneg h n);exact Int.mul_nonneg (by omega) (by omega)
theorem detF_bd {B:Int} (hB:0<=B):∀ (n:Nat) (f:Nat->Nat->G),BdF B n n f->Bd (dB B n) (detF n f)
 | 0,f,_=>bd_one (by simp [dB])
 | n + 1,f,h=>by
  simp only [detF,dB];refine Bd.sum λk hk=>?_;have h1:=(h 0 k (by omega) hk).mul (detF_bd hB n _ (minor_bd (r:=0) (c:=k) h));split
  ·exact h1.neg
  ·exact h1
def prodF (n:Nat) (f h:Nat->Nat->G) (i k:Nat):G:=sumG n λj=>gmul (f i j) (h j k)
end Go.Tx
end
section
set_option maxRecDepth 100000
namespace Go.Proofs.YtbcdgfgacigaoaaGreat
open Go Go.Ab Go.Tx
noncomputable section
@[reducible] def I:Ty:=.int .i64
@[reducible] def w64 (n:Int):Int:=IntKind.wrap .i64 n
def lookJ:List (List Tmp × FuncId × Kind × Join)->List Tmp->FuncId->Kind->Option Join
 | [],_,_,_=>none
 | (c,f,k,j) :: l,c',f',k'=>if f = f' then (if k = k' then (if c = c' then some j else lookJ l c' f' k') else lookJ l c' f' k') else lookJ l c' f' k'
def awakeId:Nat:=12
def mkTH (js:List (List Tmp × FuncId × Kind × Join)) (inl:List (List Tmp × FuncId × Tmp)):TH where
 lib:=λg=>decide (g = awakeId)
 join:=lookJ js
 inl:=λc f d=>inl.any λ(c',f',d')=>decide (f = f') && decide (d = d') && decide (c = c')
def Lb:FuncId->Option (List V->Option V):=λg=>if g = awakeId then some (λargs=>match args with
  | []=>some (.val (.bool true))
  | _=>none) else none
theorem hJ {js:List (List Tmp × FuncId × Kind × Join)} {inl:List (List Tmp × FuncId × Tmp)}:∀ g,(mkTH js inl).lib g = false->Lb g = none:=λg h=>by
 simp only [mkTH,decide_eq_false_iff_not] at h;simp [Lb,h]
def KT (e:Entry) (j:TH) (l:List Entry) (n:Nat):Prop:=∀ x:denP e.ps,fnT Tryz.prog Hn.hints j (tabT l) n e.g (ofPms e.ps x) e.rs = e.F x
abbrev OT (e:Entry):Prop:=EntryOk Tryz.prog Hn.hints Lb e
theorem entK {e:Entry} {j:TH} {l:List Entry} {n:Nat} (h:TOk Tryz.prog Hn.hints Lb (tabT l)) (hj:∀ g,j.lib g = false->Lb g = none) (k:KT e j l n):OT e:=entry_ok h hj n e.g e.ps e.rs e.F k
abbrev gT:Ty:=.pair I (.pair I .unit)
def law04_awake:Option Bool:=some true
def e_law04_awake:Entry:=⟨12,[],[(.bool,0)],λ_=>law04_awake⟩
theorem o_law04_awake:EntryOk Tryz.prog Hn.hints Lb e_law04_awake:=λx y h vs hv=>by
 obtain rfl:true = y:=Option.some.inj h;simp only [e_law04_awake,ofPms,RVL] at hv;subst hv;refine ⟨.val (.bool true),⟨1,λm hm=>?_⟩,by simp [packT,e_law04_awake,ofL,packedT,ofTy,RV,RTy]⟩;obtain ⟨m',rfl⟩:∃ m',m = m' + 1:=⟨m - 1,by omega⟩
 simp [orcN,Lb,awakeId,e_law04_awake]
def law04_fewOf (a0:(List (List (Int × Int × Unit)))) (a1:Int):Option Bool :=
 bif decide ((a0.length:Int) > a1) then
  some false
 else
  (loopO (λ(s2:Int) =>
    bif decide (s2 < (a0.length:Int)) then
     (idx a0 s2).bind λx3 =>
     bif decide ((x3.length:Int) > 5) then
      some (.inr (.inr false))
     else
      some (.inl (w64 (s2 + 1)))
    else
     some (.inr (.inl ()))) 0).bind (Sum.elim (λ(p4:Unit) =>
  some true) some)
def e_law04_fewOf:Entry:=⟨77,[.ty (.sl (.sl gT)),.ty I],[(.bool,0)],λx=>law04_fewOf x.1 x.2⟩
def j_law04_fewOf:TH:=mkTH [([],77,.block 0,{ lv:=[],ps:=[],abn:=true,D:=⟨4193312⟩ }),
 ([],77,.loop 0,{ lv:=[⟨none,5,0⟩],ps:=[(I,0)],D:=⟨4193312⟩ })] []
theorem k_law04_fewOf:KT e_law04_fewOf j_law04_fewOf [] 40:=λx=>by kernel_rfl
theorem o_law04_fewOf:OT e_law04_fewOf:=entK tab_nil hJ k_law04_fewOf
def base_CopyGausses (a0:(List (Int × Int × Unit))):Option (List (Int × Int × Unit)) :=
 (app [] a0).bind λx1 =>
 some x1
def e_base_CopyGausses:Entry:=⟨22,[.ty (.sl gT)],[((.sl gT),1)],λx=>base_CopyGausses x⟩
def j_base_CopyGausses:TH:=mkTH [] []
theorem k_base_CopyGausses:KT e_base_CopyGausses j_base_CopyGausses [] 40:=λx=>by kernel_rfl
theorem o_base_CopyGausses:OT e_base_CopyGausses:=entK tab_nil hJ k_base_CopyGausses
def ref04_CopyMatrix (a0:(List (List (Int × Int × Unit)))):Option (List (List (Int × Int × Unit))) :=
 (loopO (λ(s3:((List (List (Int × Int × Unit))) × Int)) =>
   bif decide (s3.2 < (a0.length:Int)) then
    (idx a0 s3.2).bind λx4 =>
    (base_CopyGausses x4).bind λx5 =>
    (app s3.1 ([x5])).bind λx6 =>
    some (.inl (x6,w64 (s3.2 + 1)))
   else
    some (.inr s3.1)) ([],0)).bind λ(p7:(List (List (Int × Int × Unit)))) =>
 some p7
def e_ref04_CopyMatrix:Entry:=⟨29,[.ty (.sl (.sl gT))],[((.sl (.sl gT)),2)],λx=>ref04_CopyMatrix x⟩
def j_ref04_CopyMatrix:TH:=mkTH [([],29,.block 0,{ lv:=[⟨none,3,0⟩],ps:=[((.sl (.sl gT)),2)],D:=⟨524280⟩ }),
 ([],29,.loop 0,{ lv:=[⟨none,3,0⟩,⟨none,4,0⟩],ps:=[((.sl (.sl gT)),2),(I,0)],D:=⟨524280⟩ })] []
theorem k_ref04_CopyMatrix:KT e_ref04_CopyMatrix j_ref04_CopyMatrix [e_base_CopyGausses] 40:=λx=>by kernel_rfl
theorem o_ref04_CopyMatrix:OT e_ref04_CopyMatrix:=entK (tab_cons o_base_CopyGausses tab_nil) hJ k_ref04_CopyMatrix
def drive_unless (a0:Bool) (a1:Int):Option Int :=
 bif a0 then
  some 0
 else
  some a1
def e_drive_unless:Entry:=⟨80,[.ty .bool,.ty I],[(I,0)],λx=>drive_unless x.1 x.2⟩
def j_drive_unless:TH:=mkTH [] []
theorem k_drive_unless:KT e_drive_unless j_drive_unless [] 40:=λx=>by kernel_rfl
theorem o_drive_unless:OT e_drive_unless:=entK tab_nil hJ k_drive_unless
def drive_first (a0:(List Int)):Option Int :=
 (loopO (λ(s2:Int) =>
   bif decide (s2 < (a0.length:Int)) then
    (idx a0 s2).bind λx3 =>
    bif !(decide (x3 = 0)) then
     some (.inr (.inr x3))
    else
     some (.inl (w64 (s2 + 1)))
   else
    some (.inr (.inl ()))) 0).bind (Sum.elim (λ(p4:Unit) =>
 some 0) some)
def e_drive_first:Entry:=⟨79,[.ty (.sl I)],[(I,0)],λx=>drive_first x⟩
def j_drive_first:TH:=mkTH [([],79,.block 0,{ lv:=[],ps:=[],abn:=true,D:=⟨32656⟩ }),
 ([],79,.loop 0,{ lv:=[⟨none,7,0⟩],ps:=[(I,0)],D:=⟨32656⟩ })] []
theorem k_drive_first:KT e_drive_first j_drive_first [] 40:=λx=>by kernel_rfl
theorem o_drive_first:OT e_drive_first:=entK tab_nil hJ k_drive_first
def drive_within (a0:Int) (a1:Int) (a2:Int):Option Bool :=
 (bif decide (a1<=a0) then
   some (decide (a0<=a2))
  else
   some false).bind λ(p1:Bool) =>
 some p1
def e_drive_within:Entry:=⟨81,[.ty I,.ty I,.ty I],[(.bool,0)],λx=>drive_within x.1 x.2.1 x.2.2⟩
def j_drive_within:TH:=mkTH [([],81,.region 1,{ lv:=[⟨none,6,0⟩],ps:=[(.bool,0)],D:=⟨32704⟩ })] []
theorem k_drive_within:KT e_drive_within j_drive_within [] 40:=λx=>by kernel_rfl
theorem o_drive_within:OT e_drive_within:=entK tab_nil hJ k_drive_within
def drive_isSized (a0:Int) (a1:Int):Option Bool :=
 (drive_within a0 (w64 (0 - a1)) a1).bind λx1 =>
 some x1
def e_drive_isSized:Entry:=⟨152,[.ty I,.ty I],[(.bool,0)],λx=>drive_isSized x.1 x.2⟩
def j_drive_isSized:TH:=mkTH [] []
theorem k_drive_isSized:KT e_drive_isSized j_drive_isSized [e_drive_within] 40:=λx=>by kernel_rfl
theorem o_drive_isSized:OT e_drive_isSized:=entK (tab_cons o_drive_within tab_nil) hJ k_drive_isSized
def drive_whole_isSized (a0:(Int × Int × Unit)) (a1:Int):Option Bool :=
 ((drive_isSized a0.1 a1).bind λx1 =>
  bif x1 then
   (drive_isSized a0.2.1 a1).bind λx2 =>
   some x2
  else
   some false).bind λ(p3:Bool) =>
 some p3
def e_drive_whole_isSized:Entry:=⟨105,[.ty gT,.ty I],[(.bool,0)],λx=>drive_whole_isSized x.1 x.2⟩
def j_drive_whole_isSized:TH:=mkTH [([],105,.region 1,{ lv:=[⟨none,4,0⟩],ps:=[(.bool,0)],D:=⟨32752⟩,rs:=[⟨0,2⟩],Dn:=⟨31696⟩ })] []
theorem k_drive_whole_isSized:KT e_drive_whole_isSized j_drive_whole_isSized [e_drive_isSized] 40:=λx=>by kernel_rfl
theorem o_drive_whole_isSized:OT e_drive_whole_isSized:=entK (tab_cons o_drive_isSized tab_nil) hJ k_drive_whole_isSized
def drive_whole_conj (a0:(Int × Int × Unit)):Option (Int × Int × Unit) :=
 some (a0.1,w64 (0 - a0.2.1),())
def e_drive_whole_conj:Entry:=⟨83,[.ty gT],[(gT,0)],λx=>drive_whole_conj x⟩
def j_drive_whole_conj:TH:=mkTH [] []
theorem k_drive_whole_conj:KT e_drive_whole_conj j_drive_whole_conj [] 40:=λx=>by kernel_rfl
theorem o_drive_whole_conj:OT e_drive_whole_conj:=entK tab_nil hJ k_drive_whole_conj
def drive_whole_times (a0:(Int × Int × Unit)) (a1:(Int × Int × Unit)):Option (Int × Int × Unit) :=
 some (w64 ((w64 (a0.1 * a1.1)) - (w64 (a0.2.1 * a1.2.1))),w64 ((w64 (a0.1 * a1.2.1)) + (w64 (a0.2.1 * a1.1))),())
def e_drive_whole_times:Entry:=⟨82,[.ty gT,.ty gT],[(gT,0)],λx=>drive_whole_times x.1 x.2⟩
def j_drive_whole_times:TH:=mkTH [] []
theorem k_drive_whole_times:KT e_drive_whole_times j_drive_whole_times [] 40:=λx=>by kernel_rfl
theorem o_drive_whole_times:OT e_drive_whole_times:=entK tab_nil hJ k_drive_whole_times
def drive_whole_plus (a0:(Int × Int × Unit)) (a1:(Int × Int × Unit)):Option (Int × Int × Unit) :=
 some (w64 (a0.1 + a1.1),w64 (a0.2.1 + a1.2.1),())
def e_drive_whole_plus:Entry:=⟨154,[.ty gT,.ty gT],[(gT,0)],λx=>drive_whole_plus x.1 x.2⟩
def j_drive_whole_plus:TH:=mkTH [] []
theorem k_drive_whole_plus:KT e_drive_whole_plus j_drive_whole_plus [] 40:=λx=>by kernel_rfl
theorem o_drive_whole_plus:OT e_drive_whole_plus:=entK tab_nil hJ k_drive_whole_plus
def drive_matrix_at (a0:(List (List (Int × Int × Unit)))) (a1:Int) (a2:Int):Option (Int × Int × Unit) :=
 (idx a0 a1).bind λx1 =>
 (idx x1 a2).bind λx2 =>
 some x2
def e_drive_matrix_at:Entry:=⟨87,[.ty (.sl (.sl gT)),.ty I,.ty I],[(gT,0)],λx=>drive_matrix_at x.1 x.2.1 x.2.2⟩
def j_drive_matrix_at:TH:=mkTH [] []
theorem k_drive_matrix_at:KT e_drive_matrix_at j_drive_matrix_at [] 40:=λx=>by kernel_rfl
theorem o_drive_matrix_at:OT e_drive_matrix_at:=entK tab_nil hJ k_drive_matrix_at
def drive_matrix_without (a0:(List (List (Int × Int × Unit)))) (a1:Int) (a2:Int):Option (List (List (Int × Int × Unit))) :=
 (loopO (λ(s2:((List (List (Int × Int × Unit))) × Int)) =>
   bif decide (s2.2 < (a0.length:Int)) then
    (idx a0 s2.2).bind λx3 =>
    (bif !(decide (s2.2 = a1)) then
      (slc x3 0 a2).bind λx4 =>
      bif decide (a2 = a2) then
       (slc x3 (w64 (a2 + 1)) (x3.length:Int)).bind λx5 =>
       (app x4 x5).bind λx6 =>
       (app s2.1 ([x6])).bind λx7 =>
       some x7
      else
       none
     else
      some s2.1).bind λ(p8:(List (List (Int × Int × Unit)))) =>
    some (.inl (p8,w64 (s2.2 + 1)))
   else
    some (.inr s2.1)) ([],0)).bind λ(p9:(List (List (Int × Int × Unit)))) =>
 some p9
def e_drive_matrix_without:Entry:=⟨150,[.ty (.sl (.sl gT)),.ty I,.ty I],[((.sl (.sl gT)),2001)],λx=>drive_matrix_without x.1 x.2.1 x.2.2⟩
def j_drive_matrix_without:TH:=mkTH [([],150,.block 0,{ lv:=[⟨none,7,0⟩],ps:=[((.sl (.sl gT)),2001)],D:=⟨8589931392⟩ }),
 ([],150,.loop 0,{ lv:=[⟨none,7,0⟩,⟨none,12,0⟩],ps:=[((.sl (.sl gT)),2001),(I,0)],D:=⟨8589931392⟩ }),
 ([],150,.cond 19,{ lv:=[⟨none,7,0⟩],ps:=[((.sl (.sl gT)),2001)],D:=⟨4293918848⟩ })] []
theorem k_drive_matrix_without:KT e_drive_matrix_without j_drive_matrix_without [] 40:=λx=>by kernel_rfl
theorem o_drive_matrix_without:OT e_drive_matrix_without:=entK tab_nil hJ k_drive_matrix_without
def drive_whole_minus (a0:(Int × Int × Unit)) (a1:(Int × Int × Unit)):Option (Int × Int × Unit) :=
 some (w64 (a0.1 - a1.1),w64 (a0.2.1 - a1.2.1),())
def e_drive_whole_minus:Entry:=⟨104,[.ty gT,.ty gT],[(gT,0)],λx=>drive_whole_minus x.1 x.2⟩
def j_drive_whole_minus:TH:=mkTH [] []
theorem k_drive_whole_minus:KT e_drive_whole_minus j_drive_whole_minus [] 40:=λx=>by kernel_rfl
theorem o_drive_whole_minus:OT e_drive_whole_minus:=entK tab_nil hJ k_drive_whole_minus
def drive_matrix_determinant_n (n:Nat):(List (List (Int × Int × Unit)))->Option (Int × Int × Unit) :=
 Nat.rec (motive:=λ_=>(List (List (Int × Int × Unit)))->Option (Int × Int × Unit)) (λ_=>none) (λ_ ih a0 =>
 bif decide ((a0.length:Int) = 0) then
  some (1,0,())
 else
  (loopO (λ(s2:(Int × Int × Int)) =>
    bif decide (s2.1 < (a0.length:Int)) then
     (drive_matrix_at a0 (0:Int) s2.1).bind λx3 =>
     (drive_matrix_without a0 (0:Int) s2.1).bind λx4 =>
     (ih x4).bind λx5 =>
     (drive_whole_times x3 x5).bind λx6 =>
     (bif decide (s2.1.tmod 2 = 1) then
       (drive_whole_minus (0,0,()) x6).bind λx7 =>
       some (x7.1,x7.2.1)
      else
       some (x6.1,x6.2.1)).bind λ(p8:(Int × Int)) =>
     (drive_whole_plus (s2.2.1,s2.2.2,()) (p8.1,p8.2,())).bind λx9 =>
     some (.inl (w64 (s2.1 + 1),x9.1,x9.2.1))
    else
     some (.inr (s2.2.1,s2.2.2))) (0,0,0)).bind λ(p10:(Int × Int)) =>
  some (p10.1,p10.2,())) n
def drive_matrix_determinant:(List (List (Int × Int × Unit)))->Option (Int × Int × Unit):=drive_matrix_determinant_n 12
def e_drive_matrix_determinant:Entry:=⟨136,[.ty (.sl (.sl gT))],[(gT,0)],λx=>drive_matrix_determinant x⟩
def j_drive_matrix_determinant:TH:=mkTH [([],136,.block 0,{ lv:=[⟨some 0,3,0⟩,⟨some 0,3,1⟩],ps:=[(I,0),(I,0)],D:=⟨8589930544⟩,wr:=[⟨0,3⟩,⟨0,5⟩] }),
 ([],136,.loop 0,{ lv:=[⟨none,12,0⟩,⟨some 0,3,0⟩,⟨some 0,3,1⟩],ps:=[(I,0),(I,0),(I,0)],D:=⟨8589930544⟩,wr:=[⟨0,3⟩,⟨0,5⟩],rs:=[⟨0,5⟩],Dn:=⟨8589930512⟩ }),
 ([],136,.cond 25,{ lv:=[⟨some 0,5,0⟩,⟨some 0,5,1⟩],ps:=[(I,0),(I,0)],D:=⟨469762048⟩,wr:=[⟨0,5⟩] })] []
def e_drive_matrix_determinant_n (n:Nat):Entry:=⟨136,[.ty (.sl (.sl gT))],[(gT,0)],λx=>drive_matrix_determinant_n n x⟩
theorem k_drive_matrix_determinant (n:Nat) (x:denP (e_drive_matrix_determinant_n (n + 1)).ps):fnT Tryz.prog Hn.hints j_drive_matrix_determinant (tabT [(e_drive_matrix_determinant_n n),e_drive_matrix_at,e_drive_matrix_without,e_drive_whole_minus,e_drive_whole_plus,e_drive_whole_times]) 40 136 (ofPms (e_drive_matrix_determinant_n (n + 1)).ps x) (e_drive_matrix_determinant_n (n + 1)).rs = (e_drive_matrix_determinant_n (n + 1)).F x:=by kernel_rfl
theorem o_drive_matrix_determinant_n:∀ n,EntryOk Tryz.prog Hn.hints Lb (e_drive_matrix_determinant_n n)
 | 0=>λx y h=>by cases (show none = some y from h)
 | n + 1=>entry_ok (tab_cons (o_drive_matrix_determinant_n n) (tab_cons o_drive_matrix_at (tab_cons o_drive_matrix_without (tab_cons o_drive_whole_minus (tab_cons o_drive_whole_plus (tab_cons o_drive_whole_times tab_nil)))))) hJ 40 _ _ _ _ (k_drive_matrix_determinant n)
theorem o_drive_matrix_determinant:EntryOk Tryz.prog Hn.hints Lb e_drive_matrix_determinant:=o_drive_matrix_determinant_n 12
def drive_matrix_inverse_1 (a0:Int) (a1:Int) (a2:(List (List (Int × Int × Unit)))) (a3:(Int × Int × Unit)):Option (Int × Int × Unit) :=
 (drive_matrix_without a2 a1 a0).bind λx1 =>
 (drive_matrix_determinant x1).bind λx2 =>
 (drive_whole_conj a3).bind λx3 =>
 (drive_whole_times x2 x3).bind λx4 =>
 bif decide ((w64 (a0 + a1)).tmod 2 = 1) then
  (drive_whole_minus (0,0,()) x4).bind λx5 =>
  some x5
 else
  some x4
def e_drive_matrix_inverse_1:Entry:=⟨149,[.ty I,.ty I,.ptr (.sl (.sl gT)),.ptr gT],[(gT,0)],λx=>drive_matrix_inverse_1 x.1 x.2.1 x.2.2.1 x.2.2.2⟩
def j_drive_matrix_inverse_1:TH:=mkTH [] []
theorem k_drive_matrix_inverse_1:KT e_drive_matrix_inverse_1 j_drive_matrix_inverse_1 [e_drive_matrix_determinant,e_drive_matrix_without,e_drive_whole_conj,e_drive_whole_minus,e_drive_whole_times] 40:=λx=>by kernel_rfl
theorem o_drive_matrix_inverse_1:OT e_drive_matrix_inverse_1:=entK (tab_cons o_drive_matrix_determinant (tab_cons o_drive_matrix_without (tab_cons o_drive_whole_conj (tab_cons o_drive_whole_minus (tab_cons o_drive_whole_times tab_nil))))) hJ k_drive_matrix_inverse_1
def drive_made_of_drive_matrix_inverse_1 (a0:Int) (a1:Int) (a2:(List (List (Int × Int × Unit)))) (a3:(Int × Int × Unit)):Option (List (List (Int × Int × Unit))) :=
 (mkS ([]:(List (Int × Int × Unit))) a0).bind λx1 =>
 bif decide (a0 = a0) then
  (loopO (λ(s3:((List (List (Int × Int × Unit))) × Int)) =>
    bif decide (s3.2 < (x1.length:Int)) then
     (loopO (λ(s5:((List (List (Int × Int × Unit))) × Int)) =>
       bif decide (s5.2 < a1) then
        (idx s5.1 s3.2).bind λx6 =>
        (drive_matrix_inverse_1 s3.2 s5.2 a2 a3).bind λx7 =>
        (idx s5.1 s3.2).bind λx8 =>
        (app x8 ([x7])).bind λx9 =>
        (idx s5.1 s3.2).bind λx10 =>
        bif decide (s3.2 = s3.2) then
         let l11:(List (List (Int × Int × Unit))):=List.set s5.1 s3.2.toNat x9
         some (.inl (l11,w64 (s5.2 + 1)))
        else
         none
       else
        some (.inr s5.1)) (s3.1,0)).bind λ(p12:(List (List (Int × Int × Unit)))) =>
     some (.inl (p12,w64 (s3.2 + 1)))
    else
     some (.inr s3.1)) (x1,0)).bind λ(p13:(List (List (Int × Int × Unit)))) =>
  some p13
 else
  none
def e_drive_made_of_drive_matrix_inverse_1:Entry:=⟨85,[.ty I,.ty I,.fn 149 [.p (.sl (.sl gT)),.p gT]],[((.sl (.sl gT)),2)],λx=>drive_made_of_drive_matrix_inverse_1 x.1 x.2.1 x.2.2.1 x.2.2.2⟩
def j_drive_made_of_drive_matrix_inverse_1:TH:=mkTH [([],85,.block 0,{ lv:=[⟨none,7,0⟩],ps:=[((.sl (.sl gT)),2)],D:=⟨68719467392⟩ }),
 ([],85,.loop 0,{ lv:=[⟨none,7,0⟩,⟨none,14,0⟩],ps:=[((.sl (.sl gT)),2),(I,0)],D:=⟨68719467392⟩ }),
 ([],85,.block 2,{ lv:=[⟨none,7,0⟩],ps:=[((.sl (.sl gT)),2)],D:=⟨34359476864⟩ }),
 ([],85,.loop 2,{ lv:=[⟨none,7,0⟩,⟨none,18,0⟩],ps:=[((.sl (.sl gT)),2),(I,0)],D:=⟨34359476864⟩ })] []
theorem k_drive_made_of_drive_matrix_inverse_1:KT e_drive_made_of_drive_matrix_inverse_1 j_drive_made_of_drive_matrix_inverse_1 [e_drive_matrix_inverse_1] 40:=λx=>by kernel_rfl
theorem o_drive_made_of_drive_matrix_inverse_1:OT e_drive_made_of_drive_matrix_inverse_1:=entK (tab_cons o_drive_matrix_inverse_1 tab_nil) hJ k_drive_made_of_drive_matrix_inverse_1
def drive_divisor (a0:(List Int)):Option Int :=
 (loopO (λ(s2:(Int × Int)) =>
   bif decide (s2.2 < (a0.length:Int)) then
    (idx a0 s2.2).bind λx3 =>
    (loopO (λ(s5:(Int × Int)) =>
      bif !(decide (s5.2 = 0)) then
       bif decide (s5.2 = 0) then
        none
       else
        some (.inl (s5.2,s5.1.tmod s5.2))
      else
       some (.inr s5.1)) (s2.1,x3)).bind λ(p6:Int) =>
    some (.inl (p6,w64 (s2.2 + 1)))
   else
    some (.inr s2.1)) (0,0)).bind λ(p7:Int) =>
 some (max p7 (w64 (0 - p7)))
def e_drive_divisor:Entry:=⟨151,[.ty (.sl I)],[(I,0)],λx=>drive_divisor x⟩
def j_drive_divisor:TH:=mkTH [([],151,.block 0,{ lv:=[⟨none,3,0⟩],ps:=[(I,0)],D:=⟨524072⟩ }),
 ([],151,.loop 0,{ lv:=[⟨none,3,0⟩,⟨none,8,0⟩],ps:=[(I,0),(I,0)],D:=⟨524072⟩ }),
 ([],151,.block 2,{ lv:=[⟨none,3,0⟩],ps:=[(I,0)],D:=⟨258088⟩ }),
 ([],151,.loop 2,{ lv:=[⟨none,3,0⟩,⟨none,5,0⟩],ps:=[(I,0),(I,0)],D:=⟨258088⟩ })] []
theorem k_drive_divisor:KT e_drive_divisor j_drive_divisor [] 40:=λx=>by kernel_rfl
theorem o_drive_divisor:OT e_drive_divisor:=entK tab_nil hJ k_drive_divisor
def drive_quotient_1 (a0:Int) (a1:Int) (a2:(List (List (Int × Int × Unit)))) (a3:Int):Option (Int × Int × Unit) :=
 (idx a2 a0).bind λx1 =>
 (idx x1 a1).bind λx2 =>
 bif decide (a3 = 0) then
  none
 else
  (idx a2 a0).bind λx3 =>
  (idx x3 a1).bind λx4 =>
  bif decide (a3 = 0) then
   none
  else
   some (w64 (x2.1.tdiv a3),w64 (x4.2.1.tdiv a3),())
def e_drive_quotient_1:Entry:=⟨176,[.ty I,.ty I,.ptr (.sl (.sl gT)),.ptr I],[(gT,0)],λx=>drive_quotient_1 x.1 x.2.1 x.2.2.1 x.2.2.2⟩
def j_drive_quotient_1:TH:=mkTH [] []
theorem k_drive_quotient_1:KT e_drive_quotient_1 j_drive_quotient_1 [] 40:=λx=>by kernel_rfl
theorem o_drive_quotient_1:OT e_drive_quotient_1:=entK tab_nil hJ k_drive_quotient_1
def drive_made_of_drive_quotient_1 (a0:Int) (a1:Int) (a2:(List (List (Int × Int × Unit)))) (a3:Int):Option (List (List (Int × Int × Unit))) :=
 (mkS ([]:(List (Int × Int × Unit))) a0).bind λx1 =>
 bif decide (a0 = a0) then
  (loopO (λ(s3:((List (List (Int × Int × Unit))) × Int)) =>
    bif decide (s3.2 < (x1.length:Int)) then
     (loopO (λ(s5:((List (List (Int × Int × Unit))) × Int)) =>
       bif decide (s5.2 < a1) then
        (idx s5.1 s3.2).bind λx6 =>
        (drive_quotient_1 s3.2 s5.2 a2 a3).bind λx7 =>
        (idx s5.1 s3.2).bind λx8 =>
        (app x8 ([x7])).bind λx9 =>
        (idx s5.1 s3.2).bind λx10 =>
        bif decide (s3.2 = s3.2) then
         let l11:(List (List (Int × Int × Unit))):=List.set s5.1 s3.2.toNat x9
         some (.inl (l11,w64 (s5.2 + 1)))
        else
         none
       else
        some (.inr s5.1)) (s3.1,0)).bind λ(p12:(List (List (Int × Int × Unit)))) =>
     some (.inl (p12,w64 (s3.2 + 1)))
    else
     some (.inr s3.1)) (x1,0)).bind λ(p13:(List (List (Int × Int × Unit)))) =>
  some p13
 else
  none
def e_drive_made_of_drive_quotient_1:Entry:=⟨85,[.ty I,.ty I,.fn 176 [.p (.sl (.sl gT)),.p I]],[((.sl (.sl gT)),2)],λx=>drive_made_of_drive_quotient_1 x.1 x.2.1 x.2.2.1 x.2.2.2⟩
def j_drive_made_of_drive_quotient_1:TH:=mkTH [([],85,.block 0,{ lv:=[⟨none,7,0⟩],ps:=[((.sl (.sl gT)),2)],D:=⟨68719467392⟩ }),
 ([],85,.loop 0,{ lv:=[⟨none,7,0⟩,⟨none,14,0⟩],ps:=[((.sl (.sl gT)),2),(I,0)],D:=⟨68719467392⟩ }),
 ([],85,.block 2,{ lv:=[⟨none,7,0⟩],ps:=[((.sl (.sl gT)),2)],D:=⟨34359476864⟩ }),
 ([],85,.loop 2,{ lv:=[⟨none,7,0⟩,⟨none,18,0⟩],ps:=[((.sl (.sl gT)),2),(I,0)],D:=⟨34359476864⟩ })] []
theorem k_drive_made_of_drive_quotient_1:KT e_drive_made_of_drive_quotient_1 j_drive_made_of_drive_quotient_1 [e_drive_quotient_1] 40:=λx=>by kernel_rfl
theorem o_drive_made_of_drive_quotient_1:OT e_drive_made_of_drive_quotient_1:=entK (tab_cons o_drive_quotient_1 tab_nil) hJ k_drive_made_of_drive_quotient_1
def drive_quotient (a0:(List (List (Int × Int × Unit)))) (a1:Int):Option (Int × (List (List (Int × Int × Unit))) × Unit) :=
 (loopO (λ(s2:(Int × Int)) =>
   bif decide (s2.1 < (a0.length:Int)) then
    (idx a0 s2.1).bind λx3 =>
    (loopO (λ(s5:(Int × Int)) =>
      bif decide (s5.1 < (x3.length:Int)) then
       (idx x3 s5.1).bind λx6 =>
       (drive_divisor ([s5.2,x6.1,x6.2.1])).bind λx7 =>
       some (.inl (w64 (s5.1 + 1),x7))
      else
       some (.inr s5.2)) (0,s2.2)).bind λ(p8:Int) =>
    some (.inl (w64 (s2.1 + 1),p8))
   else
    some (.inr s2.2)) (0,a1)).bind λ(p9:Int) =>
 (idx a0 0).bind λx10 =>
 (drive_made_of_drive_quotient_1 (a0.length:Int) (x10.length:Int) a0 p9).bind λx11 =>
 bif decide (p9 = 0) then
  none
 else
  some (w64 (a1.tdiv p9),x11,())
def e_drive_quotient:Entry:=⟨128,[.ty (.sl (.sl gT)),.ty I],[((.pair I (.pair (.sl (.sl gT)) .unit)),2)],λx=>drive_quotient x.1 x.2⟩
def j_drive_quotient:TH:=mkTH [([],128,.block 0,{ lv:=[⟨some 0,5,0⟩],ps:=[(I,0)],D:=⟨8589919872⟩,wr:=[⟨0,5⟩,⟨0,9⟩] }),
 ([],128,.loop 0,{ lv:=[⟨none,14,0⟩,⟨some 0,5,0⟩],ps:=[(I,0),(I,0)],D:=⟨8589919872⟩,wr:=[⟨0,5⟩,⟨0,9⟩] }),
 ([],128,.block 2,{ lv:=[⟨some 0,5,0⟩],ps:=[(I,0)],D:=⟨4293920384⟩,wr:=[⟨0,5⟩,⟨0,9⟩] }),
 ([],128,.loop 2,{ lv:=[⟨none,20,0⟩,⟨some 0,5,0⟩],ps:=[(I,0),(I,0)],D:=⟨4293920384⟩,wr:=[⟨0,5⟩,⟨0,9⟩],rs:=[⟨0,9⟩],Dn:=⟨4126147712⟩ })] []
theorem k_drive_quotient:KT e_drive_quotient j_drive_quotient [e_drive_divisor,e_drive_made_of_drive_quotient_1] 40:=λx=>by kernel_rfl
theorem o_drive_quotient:OT e_drive_quotient:=entK (tab_cons o_drive_divisor (tab_cons o_drive_made_of_drive_quotient_1 tab_nil)) hJ k_drive_quotient
def drive_matrix_inverse (a0:(List (List (Int × Int × Unit)))) (a1:(Int × Int × Unit)):Option (Int × (List (List (Int × Int × Unit))) × Unit) :=
 (drive_made_of_drive_matrix_inverse_1 (a0.length:Int) (a0.length:Int) a0 a1).bind λx1 =>
 (drive_whole_conj a1).bind λx2 =>
 (drive_whole_times a1 x2).bind λx3 =>
 (drive_quotient x1 x3.1).bind λx4 =>
 some x4
def e_drive_matrix_inverse:Entry:=⟨84,[.ty (.sl (.sl gT)),.ty gT],[((.pair I (.pair (.sl (.sl gT)) .unit)),2)],λx=>drive_matrix_inverse x.1 x.2⟩
def j_drive_matrix_inverse:TH:=mkTH [] []
theorem k_drive_matrix_inverse:KT e_drive_matrix_inverse j_drive_matrix_inverse [e_drive_made_of_drive_matrix_inverse_1,e_drive_quotient,e_drive_whole_conj,e_drive_whole_times] 40:=λx=>by kernel_rfl
theorem o_drive_matrix_inverse:OT e_drive_matrix_inverse:=entK (tab_cons o_drive_made_of_drive_matrix_inverse_1 (tab_cons o_drive_quotient (tab_cons o_drive_whole_conj (tab_cons o_drive_whole_times tab_nil)))) hJ k_drive_matrix_inverse
def base_Within (a0:Int) (a1:Int) (a2:Int):Option Bool :=
 (bif decide (a1<=a0) then
   some (decide (a0<=a2))
  else
   some false).bind λ(p1:Bool) =>
 some p1
def e_base_Within:Entry:=⟨18,[.ty I,.ty I,.ty I],[(.bool,0)],λx=>base_Within x.1 x.2.1 x.2.2⟩
def j_base_Within:TH:=mkTH [([],18,.region 1,{ lv:=[⟨none,6,0⟩],ps:=[(.bool,0)],D:=⟨32704⟩ })] []
theorem k_base_Within:KT e_base_Within j_base_Within [] 40:=λx=>by kernel_rfl
theorem o_base_Within:OT e_base_Within:=entK tab_nil hJ k_base_Within
def ref04_isSized (a0:(Int × Int × Unit)) (a1:Int):Option Bool :=
 ((base_Within a0.1 (w64 (0 - a1)) a1).bind λx1 =>
  bif x1 then
   (base_Within a0.2.1 (w64 (0 - a1)) a1).bind λx2 =>
   some x2
  else
   some false).bind λ(p3:Bool) =>
 some p3
def e_ref04_isSized:Entry:=⟨114,[.ty gT,.ty I],[(.bool,0)],λx=>ref04_isSized x.1 x.2⟩
def j_ref04_isSized:TH:=mkTH [([],114,.region 1,{ lv:=[⟨none,4,0⟩],ps:=[(.bool,0)],D:=⟨524272⟩,rs:=[⟨0,2⟩],Dn:=⟨520144⟩ })] []
theorem k_ref04_isSized:KT e_ref04_isSized j_ref04_isSized [e_base_Within] 40:=λx=>by kernel_rfl
theorem o_ref04_isSized:OT e_ref04_isSized:=entK (tab_cons o_base_Within tab_nil) hJ k_ref04_isSized
def base_GConj (a0:(Int × Int × Unit)):Option (Int × Int × Unit) :=
 some (a0.1,w64 (0 - a0.2.1),())
def e_base_GConj:Entry:=⟨95,[.ty gT],[(gT,0)],λx=>base_GConj x⟩
def j_base_GConj:TH:=mkTH [] []
theorem k_base_GConj:KT e_base_GConj j_base_GConj [] 40:=λx=>by kernel_rfl
theorem o_base_GConj:OT e_base_GConj:=entK tab_nil hJ k_base_GConj
def base_GMul (a0:(Int × Int × Unit)) (a1:(Int × Int × Unit)):Option (Int × Int × Unit) :=
 some (w64 ((w64 (a0.1 * a1.1)) - (w64 (a0.2.1 * a1.2.1))),w64 ((w64 (a0.1 * a1.2.1)) + (w64 (a0.2.1 * a1.1))),())
def e_base_GMul:Entry:=⟨94,[.ty gT,.ty gT],[(gT,0)],λx=>base_GMul x.1 x.2⟩
def j_base_GMul:TH:=mkTH [] []
theorem k_base_GMul:KT e_base_GMul j_base_GMul [] 40:=λx=>by kernel_rfl
theorem o_base_GMul:OT e_base_GMul:=entK tab_nil hJ k_base_GMul
def base_GAdd (a0:(Int × Int × Unit)) (a1:(Int × Int × Unit)):Option (Int × Int × Unit) :=
 some (w64 (a0.1 + a1.1),w64 (a0.2.1 + a1.2.1),())
def e_base_GAdd:Entry:=⟨68,[.ty gT,.ty gT],[(gT,0)],λx=>base_GAdd x.1 x.2⟩
def j_base_GAdd:TH:=mkTH [] []
theorem k_base_GAdd:KT e_base_GAdd j_base_GAdd [] 40:=λx=>by kernel_rfl
theorem o_base_GAdd:OT e_base_GAdd:=entK tab_nil hJ k_base_GAdd
def ref04_without (a0:(List (List (Int × Int × Unit)))) (a1:Int) (a2:Int):Option (List (List (Int × Int × Unit))) :=
 (loopO (λ(s2:((List (List (Int × Int × Unit))) × Int)) =>
   bif decide (s2.2 < (a0.length:Int)) then
    (bif decide (s2.2 = a1) then
      some s2.1
     else
      (loopO (λ(s4:((List (Int × Int × Unit)) × Int)) =>
        bif decide (s4.2 < (a0.length:Int)) then
         (bif !(decide (s4.2 = a2)) then
           (idx a0 s2.2).bind λx5 =>
           (idx x5 s4.2).bind λx6 =>
           (app s4.1 ([x6])).bind λx7 =>
           some x7
          else
           some s4.1).bind λ(p8:(List (Int × Int × Unit))) =>
         some (.inl (p8,w64 (s4.2 + 1)))
        else
         some (.inr s4.1)) ([],0)).bind λ(p9:(List (Int × Int × Unit))) =>
      (app s2.1 ([p9])).bind λx10 =>
      some x10).bind λ(p11:(List (List (Int × Int × Unit)))) =>
    some (.inl (p11,w64 (s2.2 + 1)))
   else
    some (.inr s2.1)) ([],0)).bind λ(p12:(List (List (Int × Int × Unit)))) =>
 some p12
def e_ref04_without:Entry:=⟨138,[.ty (.sl (.sl gT)),.ty I,.ty I],[((.sl (.sl gT)),2)],λx=>ref04_without x.1 x.2.1 x.2.2⟩
def j_ref04_without:TH:=mkTH [([],138,.block 0,{ lv:=[⟨none,7,0⟩],ps:=[((.sl (.sl gT)),2)],D:=⟨8796093022080⟩ }),
 ([],138,.loop 0,{ lv:=[⟨none,7,0⟩,⟨none,8,0⟩],ps:=[((.sl (.sl gT)),2),(I,0)],D:=⟨8796093022080⟩ }),
 ([],138,.block 1,{ lv:=[⟨none,7,0⟩],ps:=[((.sl (.sl gT)),2)],D:=⟨8796092892800⟩ }),
 ([],138,.block 2,{ lv:=[⟨none,9,0⟩],ps:=[((.sl gT),1)],D:=⟨549754766848⟩ }),
 ([],138,.loop 2,{ lv:=[⟨none,9,0⟩,⟨none,10,0⟩],ps:=[((.sl gT),1),(I,0)],D:=⟨549754766848⟩ }),
 ([],138,.cond 28,{ lv:=[⟨none,9,0⟩],ps:=[((.sl gT),1)],D:=⟨549218943488⟩ })] []
theorem k_ref04_without:KT e_ref04_without j_ref04_without [] 40:=λx=>by kernel_rfl
theorem o_ref04_without:OT e_ref04_without:=entK tab_nil hJ k_ref04_without
def base_Mod (a0:Int) (a1:Int):Option Int :=
 bif decide (a1 = 0) then
  none
 else
  (bif decide (a0.tmod a1 < 0) then
    some (w64 ((a0.tmod a1) + a1))
   else
    some (a0.tmod a1)).bind λ(p1:Int) =>
  some p1
def e_base_Mod:Entry:=⟨67,[.ty I,.ty I],[(I,0)],λx=>base_Mod x.1 x.2⟩
def j_base_Mod:TH:=mkTH [([],67,.cond 9,{ lv:=[⟨none,0,0⟩],ps:=[(I,0)],D:=⟨7169⟩ })] []
theorem k_base_Mod:KT e_base_Mod j_base_Mod [] 40:=λx=>by kernel_rfl
theorem o_base_Mod:OT e_base_Mod:=entK tab_nil hJ k_base_Mod
def base_GSub (a0:(Int × Int × Unit)) (a1:(Int × Int × Unit)):Option (Int × Int × Unit) :=
 some (w64 (a0.1 - a1.1),w64 (a0.2.1 - a1.2.1),())
def e_base_GSub:Entry:=⟨41,[.ty gT,.ty gT],[(gT,0)],λx=>base_GSub x.1 x.2⟩
def j_base_GSub:TH:=mkTH [] []
theorem k_base_GSub:KT e_base_GSub j_base_GSub [] 40:=λx=>by kernel_rfl
theorem o_base_GSub:OT e_base_GSub:=entK tab_nil hJ k_base_GSub
def ref04_Determinant_n (n:Nat):(List (List (Int × Int × Unit)))->Option (Int × Int × Unit) :=
 Nat.rec (motive:=λ_=>(List (List (Int × Int × Unit)))->Option (Int × Int × Unit)) (λ_=>none) (λ_ ih a0 =>
 bif decide ((a0.length:Int) = 0) then
  some (1,0,())
 else
  (loopO (λ(s2:(Int × Int × Int)) =>
    bif decide (s2.1 < (a0.length:Int)) then
     (idx a0 0).bind λx3 =>
     (idx x3 s2.1).bind λx4 =>
     (ref04_without a0 (0:Int) s2.1).bind λx5 =>
     (ih x5).bind λx6 =>
     (base_GMul x4 x6).bind λx7 =>
     (base_Mod s2.1 (2:Int)).bind λx8 =>
     (bif decide (x8 = 0) then
       (base_GAdd (s2.2.1,s2.2.2,()) x7).bind λx9 =>
       some (x9.1,x9.2.1)
      else
       (base_GSub (s2.2.1,s2.2.2,()) x7).bind λx10 =>
       some (x10.1,x10.2.1)).bind λ(p11:(Int × Int)) =>
     some (.inl (w64 (s2.1 + 1),p11.1,p11.2))
    else
     some (.inr (s2.2.1,s2.2.2))) (0,0,0)).bind λ(p12:(Int × Int)) =>
  some (p12.1,p12.2,())) n
def ref04_Determinant:(List (List (Int × Int × Unit)))->Option (Int × Int × Unit):=ref04_Determinant_n 12
def e_ref04_Determinant:Entry:=⟨69,[.ty (.sl (.sl gT))],[(gT,0)],λx=>ref04_Determinant x⟩
def j_ref04_Determinant:TH:=mkTH [([],69,.block 0,{ lv:=[⟨some 0,3,0⟩,⟨some 0,3,1⟩],ps:=[(I,0),(I,0)],D:=⟨68719475760⟩,wr:=[⟨0,3⟩,⟨0,5⟩] }),
 ([],69,.loop 0,{ lv:=[⟨none,4,0⟩,⟨some 0,3,0⟩,⟨some 0,3,1⟩],ps:=[(I,0),(I,0),(I,0)],D:=⟨68719475760⟩,wr:=[⟨0,3⟩,⟨0,5⟩],rs:=[⟨0,5⟩],Dn:=⟨68719475728⟩ }),
 ([],69,.cond 29,{ lv:=[⟨some 0,3,0⟩,⟨some 0,3,1⟩],ps:=[(I,0),(I,0)],D:=⟨67645734912⟩,wr:=[⟨0,3⟩] })] []
def e_ref04_Determinant_n (n:Nat):Entry:=⟨69,[.ty (.sl (.sl gT))],[(gT,0)],λx=>ref04_Determinant_n n x⟩
theorem k_ref04_Determinant (n:Nat) (x:denP (e_ref04_Determinant_n (n + 1)).ps):fnT Tryz.prog Hn.hints j_ref04_Determinant (tabT [(e_ref04_Determinant_n n),e_base_GAdd,e_base_GMul,e_base_GSub,e_base_Mod,e_ref04_without]) 40 69 (ofPms (e_ref04_Determinant_n (n + 1)).ps x) (e_ref04_Determinant_n (n + 1)).rs = (e_ref04_Determinant_n (n + 1)).F x:=by kernel_rfl
theorem o_ref04_Determinant_n:∀ n,EntryOk Tryz.prog Hn.hints Lb (e_ref04_Determinant_n n)
 | 0=>λx y h=>by cases (show none = some y from h)
 | n + 1=>entry_ok (tab_cons (o_ref04_Determinant_n n) (tab_cons o_base_GAdd (tab_cons o_base_GMul (tab_cons o_base_GSub (tab_cons o_base_Mod (tab_cons o_ref04_without tab_nil)))))) hJ 40 _ _ _ _ (k_ref04_Determinant n)
theorem o_ref04_Determinant:EntryOk Tryz.prog Hn.hints Lb e_ref04_Determinant:=o_ref04_Determinant_n 12
def base_GNorm (a0:(Int × Int × Unit)):Option Int :=
 some (w64 ((w64 (a0.1 * a0.1)) + (w64 (a0.2.1 * a0.2.1))))
def e_base_GNorm:Entry:=⟨137,[.ty gT],[(I,0)],λx=>base_GNorm x⟩
def j_base_GNorm:TH:=mkTH [] []
theorem k_base_GNorm:KT e_base_GNorm j_base_GNorm [] 40:=λx=>by kernel_rfl
theorem o_base_GNorm:OT e_base_GNorm:=entK tab_nil hJ k_base_GNorm
def ref04_Adjugate (a0:(List (List (Int × Int × Unit)))):Option (List (List (Int × Int × Unit))) :=
 (loopO (λ(s3:((List (List (Int × Int × Unit))) × Int)) =>
   bif decide (s3.2 < (a0.length:Int)) then
    (loopO (λ(s6:((List (Int × Int × Unit)) × Int)) =>
      bif decide (s6.2 < (a0.length:Int)) then
       (ref04_without a0 s6.2 s3.2).bind λx7 =>
       (ref04_Determinant x7).bind λx8 =>
       (base_Mod (w64 (s3.2 + s6.2)) (2:Int)).bind λx9 =>
       (bif decide (x9 = 1) then
         (base_GSub (0,0,()) x8).bind λx10 =>
         some (x10.1,x10.2.1)
        else
         some (x8.1,x8.2.1)).bind λ(p11:(Int × Int)) =>
       (app s6.1 ([(p11.1,p11.2,())])).bind λx12 =>
       some (.inl (x12,w64 (s6.2 + 1)))
      else
       some (.inr s6.1)) ([],0)).bind λ(p13:(List (Int × Int × Unit))) =>
    (app s3.1 ([p13])).bind λx14 =>
    some (.inl (x14,w64 (s3.2 + 1)))
   else
    some (.inr s3.1)) ([],0)).bind λ(p15:(List (List (Int × Int × Unit)))) =>
 some p15
def e_ref04_Adjugate:Entry:=⟨93,[.ty (.sl (.sl gT))],[((.sl (.sl gT)),2)],λx=>ref04_Adjugate x⟩
def j_ref04_Adjugate:TH:=mkTH [([],93,.block 0,{ lv:=[⟨none,3,0⟩],ps:=[((.sl (.sl gT)),2)],D:=⟨2199023255544⟩,wr:=[⟨0,7⟩] }),
 ([],93,.loop 0,{ lv:=[⟨none,3,0⟩,⟨none,4,0⟩],ps:=[((.sl (.sl gT)),2),(I,0)],D:=⟨2199023255544⟩,wr:=[⟨0,7⟩] }),
 ([],93,.block 2,{ lv:=[⟨none,5,0⟩],ps:=[((.sl gT),1)],D:=⟨137438937312⟩,wr:=[⟨0,7⟩] }),
 ([],93,.loop 2,{ lv:=[⟨none,5,0⟩,⟨none,6,0⟩],ps:=[((.sl gT),1),(I,0)],D:=⟨137438937312⟩,wr:=[⟨0,7⟩],rs:=[⟨0,7⟩],Dn:=⟨137438937184⟩ }),
 ([],93,.cond 29,{ lv:=[⟨some 0,7,0⟩,⟨some 0,7,1⟩],ps:=[(I,0),(I,0)],D:=⟨7516192768⟩,wr:=[⟨0,7⟩] })] []
theorem k_ref04_Adjugate:KT e_ref04_Adjugate j_ref04_Adjugate [e_base_GSub,e_base_Mod,e_ref04_Determinant,e_ref04_without] 40:=λx=>by kernel_rfl
theorem o_ref04_Adjugate:OT e_ref04_Adjugate:=entK (tab_cons o_base_GSub (tab_cons o_base_Mod (tab_cons o_ref04_Determinant (tab_cons o_ref04_without tab_nil)))) hJ k_ref04_Adjugate
def base_Size (a0:Int):Option Int :=
 some (max a0 (w64 (0 - a0)))
def e_base_Size:Entry:=⟨42,[.ty I],[(I,0)],λx=>base_Size x⟩
def j_base_Size:TH:=mkTH [] []
theorem k_base_Size:KT e_base_Size j_base_Size [] 40:=λx=>by kernel_rfl
theorem o_base_Size:OT e_base_Size:=entK tab_nil hJ k_base_Size
def base_Gcd (a0:Int) (a1:Int):Option Int :=
 (loopO (λ(s2:(Int × Int)) =>
   bif !(decide (s2.2 = 0)) then
    bif decide (s2.2 = 0) then
     none
    else
     some (.inl (s2.2,s2.1.tmod s2.2))
   else
    some (.inr s2.1)) (a0,a1)).bind λ(p3:Int) =>
 (base_Size p3).bind λx4 =>
 some x4
def e_base_Gcd:Entry:=⟨155,[.ty I,.ty I],[(I,0)],λx=>base_Gcd x.1 x.2⟩
def j_base_Gcd:TH:=mkTH [([],155,.block 0,{ lv:=[⟨none,0,0⟩],ps:=[(I,0)],D:=⟨2019⟩ }),
 ([],155,.loop 0,{ lv:=[⟨none,0,0⟩,⟨none,1,0⟩],ps:=[(I,0),(I,0)],D:=⟨2019⟩ })] []
theorem k_base_Gcd:KT e_base_Gcd j_base_Gcd [e_base_Size] 40:=λx=>by kernel_rfl
theorem o_base_Gcd:OT e_base_Gcd:=entK (tab_cons o_base_Size tab_nil) hJ k_base_Gcd
def law04_few (a0:(List (List (Int × Int × Unit)))):Option Bool :=
 (law04_fewOf a0 (5:Int)).bind λx1 =>
 some x1
def e_law04_few:Entry:=⟨51,[.ty (.sl (.sl gT))],[(.bool,0)],λx=>law04_few x⟩
def j_law04_few:TH:=mkTH [] []
theorem k_law04_few:KT e_law04_few j_law04_few [e_law04_fewOf] 40:=λx=>by kernel_rfl
theorem o_law04_few:OT e_law04_few:=entK (tab_cons o_law04_fewOf tab_nil) hJ k_law04_few
def drive_CheckMatrix_1 (a0:(Int × Int × Unit)):Option Bool :=
 (drive_whole_isSized a0 (20:Int)).bind λx1 =>
 some (!x1)
def e_drive_CheckMatrix_1:Entry:=⟨187,[.ty gT],[(.bool,0)],λx=>drive_CheckMatrix_1 x⟩
def j_drive_CheckMatrix_1:TH:=mkTH [] []
theorem k_drive_CheckMatrix_1:KT e_drive_CheckMatrix_1 j_drive_CheckMatrix_1 [e_drive_whole_isSized] 40:=λx=>by kernel_rfl
theorem o_drive_CheckMatrix_1:OT e_drive_CheckMatrix_1:=entK (tab_cons o_drive_whole_isSized tab_nil) hJ k_drive_CheckMatrix_1
def slices_IndexFunc_Lapi_Gauss_api_Gauss_of_drive_CheckMatrix_1 (a0:(List (Int × Int × Unit))):Option Int :=
 (loopO (λ(s2:Int) =>
   bif decide (s2 < (a0.length:Int)) then
    (idx a0 s2).bind λx3 =>
    (drive_CheckMatrix_1 x3).bind λx4 =>
    bif x4 then
     some (.inr (.inr s2))
    else
     some (.inl (w64 (s2 + 1)))
   else
    some (.inr (.inl ()))) 0).bind (Sum.elim (λ(p5:Unit) =>
 some (-1)) some)
def e_slices_IndexFunc_Lapi_Gauss_api_Gauss_of_drive_CheckMatrix_1:Entry:=⟨183,[.ty (.sl gT),.fn 187 []],[(I,0)],λx=>slices_IndexFunc_Lapi_Gauss_api_Gauss_of_drive_CheckMatrix_1 x.1⟩
def j_slices_IndexFunc_Lapi_Gauss_api_Gauss_of_drive_CheckMatrix_1:TH:=mkTH [([],183,.block 0,{ lv:=[],ps:=[],abn:=true,D:=⟨524064⟩ }),
 ([],183,.loop 0,{ lv:=[⟨none,8,0⟩],ps:=[(I,0)],D:=⟨524064⟩ })] []
theorem k_slices_IndexFunc_Lapi_Gauss_api_Gauss_of_drive_CheckMatrix_1:KT e_slices_IndexFunc_Lapi_Gauss_api_Gauss_of_drive_CheckMatrix_1 j_slices_IndexFunc_Lapi_Gauss_api_Gauss_of_drive_CheckMatrix_1 [e_drive_CheckMatrix_1] 40:=λx=>by kernel_rfl
theorem o_slices_IndexFunc_Lapi_Gauss_api_Gauss_of_drive_CheckMatrix_1:OT e_slices_IndexFunc_Lapi_Gauss_api_Gauss_of_drive_CheckMatrix_1:=entK (tab_cons o_drive_CheckMatrix_1 tab_nil) hJ k_slices_IndexFunc_Lapi_Gauss_api_Gauss_of_drive_CheckMatrix_1
def slices_ContainsFunc_Lapi_Gauss_api_Gauss_of_drive_CheckMatrix_1 (a0:(List (Int × Int × Unit))):Option Bool :=
 (slices_IndexFunc_Lapi_Gauss_api_Gauss_of_drive_CheckMatrix_1 a0).bind λx1 =>
 some (decide (x1>=0))
def e_slices_ContainsFunc_Lapi_Gauss_api_Gauss_of_drive_CheckMatrix_1:Entry:=⟨145,[.ty (.sl gT),.fn 187 []],[(.bool,0)],λx=>slices_ContainsFunc_Lapi_Gauss_api_Gauss_of_drive_CheckMatrix_1 x.1⟩
def j_slices_ContainsFunc_Lapi_Gauss_api_Gauss_of_drive_CheckMatrix_1:TH:=mkTH [] []
theorem k_slices_ContainsFunc_Lapi_Gauss_api_Gauss_of_drive_CheckMatrix_1:KT e_slices_ContainsFunc_Lapi_Gauss_api_Gauss_of_drive_CheckMatrix_1 j_slices_ContainsFunc_Lapi_Gauss_api_Gauss_of_drive_CheckMatrix_1 [e_slices_IndexFunc_Lapi_Gauss_api_Gauss_of_drive_CheckMatrix_1] 40:=λx=>by kernel_rfl
theorem o_slices_ContainsFunc_Lapi_Gauss_api_Gauss_of_drive_CheckMatrix_1:OT e_slices_ContainsFunc_Lapi_Gauss_api_Gauss_of_drive_CheckMatrix_1:=entK (tab_cons o_slices_IndexFunc_Lapi_Gauss_api_Gauss_of_drive_CheckMatrix_1 tab_nil) hJ k_slices_ContainsFunc_Lapi_Gauss_api_Gauss_of_drive_CheckMatrix_1
def drive_CheckMatrix (a0:(List (List (Int × Int × Unit)))):Option (Int × Int) :=
 (drive_unless (decide ((a0.length:Int) > 0)) (10:Int)).bind λx1 =>
 (drive_unless (decide ((a0.length:Int)<=3)) (8:Int)).bind λx2 =>
 (drive_first ([x1,x2])).bind λx3 =>
 bif !(decide (x3 = 0)) then
  some (0,x3)
 else
  (loopO (λ(s5:Int) =>
    bif decide (s5 < (a0.length:Int)) then
     (idx a0 s5).bind λx6 =>
     (slices_ContainsFunc_Lapi_Gauss_api_Gauss_of_drive_CheckMatrix_1 x6).bind λx7 =>
     (drive_unless (decide ((x6.length:Int) = (a0.length:Int))) (10:Int)).bind λx8 =>
     (drive_unless (!x7) (2:Int)).bind λx9 =>
     (drive_first ([x8,x9])).bind λx10 =>
     bif !(decide (x10 = 0)) then
      some (.inr (.inr (s5,x10)))
     else
      some (.inl (w64 (s5 + 1)))
    else
     some (.inr (.inl ()))) 0).bind (Sum.elim (λ(p11:Unit) =>
  some (0,0)) some)
def e_drive_CheckMatrix:Entry:=⟨159,[.ty (.sl (.sl gT))],[(I,0),(I,0)],λx=>drive_CheckMatrix x⟩
def j_drive_CheckMatrix:TH:=mkTH [([],159,.block 0,{ lv:=[],ps:=[],abn:=true,D:=⟨140737471578592⟩ }),
 ([],159,.loop 0,{ lv:=[⟨none,24,0⟩],ps:=[(I,0)],D:=⟨140737471578592⟩ })] []
theorem k_drive_CheckMatrix:KT e_drive_CheckMatrix j_drive_CheckMatrix [e_drive_first,e_drive_unless,e_slices_ContainsFunc_Lapi_Gauss_api_Gauss_of_drive_CheckMatrix_1] 40:=λx=>by kernel_rfl
theorem o_drive_CheckMatrix:OT e_drive_CheckMatrix:=entK (tab_cons o_drive_first (tab_cons o_drive_unless (tab_cons o_slices_ContainsFunc_Lapi_Gauss_api_Gauss_of_drive_CheckMatrix_1 tab_nil))) hJ k_drive_CheckMatrix
def drive_matrixErr (a0:(List (List (Int × Int × Unit)))):Option Int :=
 (drive_CheckMatrix a0).bind λx1 =>
 some x1.2
def e_drive_matrixErr:Entry:=⟨108,[.ty (.sl (.sl gT))],[(I,0)],λx=>drive_matrixErr x⟩
def j_drive_matrixErr:TH:=mkTH [] []
theorem k_drive_matrixErr:KT e_drive_matrixErr j_drive_matrixErr [e_drive_CheckMatrix] 40:=λx=>by kernel_rfl
theorem o_drive_matrixErr:OT e_drive_matrixErr:=entK (tab_cons o_drive_CheckMatrix tab_nil) hJ k_drive_matrixErr
def drive_InverseOf (a0:(List (List (Int × Int × Unit)))):Option ((Int × (List (List (Int × Int × Unit))) × Unit) × Int) :=
 (drive_matrixErr a0).bind λx1 =>
 bif !(decide (x1 = 0)) then
  some ((0,[],()),x1)
 else
  (drive_matrix_determinant a0).bind λx2 =>
  let v3:Bool:=(bif decide (x2.1 = 0) then (bif decide (x2.2.1 = 0) then true else false) else false)
  bif v3 then
   some ((0,[],()),11)
  else
   (drive_matrix_inverse a0 x2).bind λx4 =>
   some (x4,0)
def e_drive_InverseOf:Entry:=⟨59,[.ty (.sl (.sl gT))],[((.pair I (.pair (.sl (.sl gT)) .unit)),2),(I,0)],λx=>drive_InverseOf x⟩
def j_drive_InverseOf:TH:=mkTH [] []
theorem k_drive_InverseOf:KT e_drive_InverseOf j_drive_InverseOf [e_drive_matrixErr,e_drive_matrix_determinant,e_drive_matrix_inverse] 40:=λx=>by kernel_rfl
theorem o_drive_InverseOf:OT e_drive_InverseOf:=entK (tab_cons o_drive_matrixErr (tab_cons o_drive_matrix_determinant (tab_cons o_drive_matrix_inverse tab_nil))) hJ k_drive_InverseOf
def ref04_CheckMatrix (a0:(List (List (Int × Int × Unit)))):Option (Int × Int) :=
 bif decide ((a0.length:Int) = 0) then
  some (0,10)
 else
  bif decide ((a0.length:Int) > 3) then
   some (0,8)
  else
   (loopO (λ(s2:Int) =>
     bif decide (s2 < (a0.length:Int)) then
      (idx a0 s2).bind λx3 =>
      bif !(decide ((x3.length:Int) = (a0.length:Int))) then
       some (.inr (.inr (s2,10)))
      else
       (loopO (λ(s5:Int) =>
         (idx a0 s2).bind λx6 =>
         bif decide (s5 < (x6.length:Int)) then
          (idx a0 s2).bind λx7 =>
          (idx x7 s5).bind λx8 =>
          (ref04_isSized x8 (20:Int)).bind λx9 =>
          bif !x9 then
           some (.inr (.inr (.inr (.inr (s2,2)))))
          else
           some (.inl (w64 (s5 + 1)))
         else
          some (.inr (.inl ()))) 0).bind (Sum.elim (λ(p10:Unit) =>
       some (.inl (w64 (s2 + 1)))) some)
     else
      some (.inr (.inl ()))) 0).bind (Sum.elim (λ(p11:Unit) =>
   some (0,0)) some)
def e_ref04_CheckMatrix:Entry:=⟨113,[.ty (.sl (.sl gT))],[(I,0),(I,0)],λx=>ref04_CheckMatrix x⟩
def j_ref04_CheckMatrix:TH:=mkTH [([],113,.block 0,{ lv:=[],ps:=[],abn:=true,D:=⟨70368744173616⟩ }),
 ([],113,.loop 0,{ lv:=[⟨none,4,0⟩],ps:=[(I,0)],D:=⟨70368744173616⟩ }),
 ([],113,.block 2,{ lv:=[],ps:=[],abn:=true,D:=⟨70368609959968⟩ }),
 ([],113,.loop 2,{ lv:=[⟨none,5,0⟩],ps:=[(I,0)],D:=⟨70368609959968⟩ })] []
theorem k_ref04_CheckMatrix:KT e_ref04_CheckMatrix j_ref04_CheckMatrix [e_ref04_isSized] 40:=λx=>by kernel_rfl
theorem o_ref04_CheckMatrix:OT e_ref04_CheckMatrix:=entK (tab_cons o_ref04_isSized tab_nil) hJ k_ref04_CheckMatrix
def ref04_MatrixErr (a0:(List (List (Int × Int × Unit)))):Option Int :=
 (ref04_CheckMatrix a0).bind λx1 =>
 some x1.2
def e_ref04_MatrixErr:Entry:=⟨33,[.ty (.sl (.sl gT))],[(I,0)],λx=>ref04_MatrixErr x⟩
def j_ref04_MatrixErr:TH:=mkTH [] []
theorem k_ref04_MatrixErr:KT e_ref04_MatrixErr j_ref04_MatrixErr [e_ref04_CheckMatrix] 40:=λx=>by kernel_rfl
theorem o_ref04_MatrixErr:OT e_ref04_MatrixErr:=entK (tab_cons o_ref04_CheckMatrix tab_nil) hJ k_ref04_MatrixErr
def ref04_one (a0:Int) (a1:Int):Option (List (List (Int × Int × Unit))) :=
 (loopO (λ(s3:((List (List (Int × Int × Unit))) × Int)) =>
   bif decide (s3.2 < a0) then
    (mkS (0,0,()) a0).bind λx4 =>
    bif decide (a0 = a0) then
     (idx x4 s3.2).bind λx5 =>
     (idx x4 s3.2).bind λx6 =>
     let l7:(List (Int × Int × Unit)):=List.set x4 s3.2.toNat (a1,0,())
     (app s3.1 ([l7])).bind λx8 =>
     some (.inl (x8,w64 (s3.2 + 1)))
    else
     none
   else
    some (.inr s3.1)) ([],0)).bind λ(p9:(List (List (Int × Int × Unit)))) =>
 some p9
def ref04_InverseErr (a0:(List (List (Int × Int × Unit)))):Option Int :=
 (ref04_MatrixErr a0).bind λx1 =>
 bif !(decide (x1 = 0)) then
  some x1
 else
  (ref04_Determinant a0).bind λx2 =>
  let v3:Bool:=(bif decide (x2.1 = 0) then (bif decide (x2.2.1 = 0) then true else false) else false)
  bif v3 then
   some 11
  else
   some 0
def e_ref04_InverseErr:Entry:=⟨63,[.ty (.sl (.sl gT))],[(I,0)],λx=>ref04_InverseErr x⟩
def j_ref04_InverseErr:TH:=mkTH [] []
theorem k_ref04_InverseErr:KT e_ref04_InverseErr j_ref04_InverseErr [e_ref04_Determinant,e_ref04_MatrixErr] 40:=λx=>by kernel_rfl
theorem o_ref04_InverseErr:OT e_ref04_InverseErr:=entK (tab_cons o_ref04_Determinant (tab_cons o_ref04_MatrixErr tab_nil)) hJ k_ref04_InverseErr
def base_Gausses (a0:(List (Int × Int × Unit))) (a1:(List (Int × Int × Unit))):Option Bool :=
 bif !(decide ((a0.length:Int) = (a1.length:Int))) then
  some false
 else
  (loopO (λ(s2:Int) =>
    bif decide (s2 < (a0.length:Int)) then
     (idx a0 s2).bind λx3 =>
     (idx a1 s2).bind λx4 =>
     let v5:Bool:=!(bif decide (x3.1 = x4.1) then (bif decide (x3.2.1 = x4.2.1) then true else false) else false)
     bif v5 then
      some (.inr (.inr false))
     else
      some (.inl (w64 (s2 + 1)))
    else
     some (.inr (.inl ()))) 0).bind (Sum.elim (λ(p6:Unit) =>
  some true) some)
def e_base_Gausses:Entry:=⟨35,[.ty (.sl gT),.ty (.sl gT)],[(.bool,0)],λx=>base_Gausses x.1 x.2⟩
def j_base_Gausses:TH:=mkTH [([],35,.block 0,{ lv:=[],ps:=[],abn:=true,D:=⟨67106848⟩ }),
 ([],35,.loop 0,{ lv:=[⟨none,5,0⟩],ps:=[(I,0)],D:=⟨67106848⟩ })] []
theorem k_base_Gausses:KT e_base_Gausses j_base_Gausses [] 40:=λx=>by kernel_rfl
theorem o_base_Gausses:OT e_base_Gausses:=entK tab_nil hJ k_base_Gausses
def ref04_SameMatrix (a0:(List (List (Int × Int × Unit)))) (a1:(List (List (Int × Int × Unit)))):Option Bool :=
 bif !(decide ((a0.length:Int) = (a1.length:Int))) then
  some false
 else
  (loopO (λ(s2:Int) =>
    bif decide (s2 < (a0.length:Int)) then
     (idx a0 s2).bind λx3 =>
     (idx a1 s2).bind λx4 =>
     (base_Gausses x3 x4).bind λx5 =>
     bif !x5 then
      some (.inr (.inr false))
     else
      some (.inl (w64 (s2 + 1)))
    else
     some (.inr (.inl ()))) 0).bind (Sum.elim (λ(p6:Unit) =>
  some true) some)
def e_ref04_SameMatrix:Entry:=⟨26,[.ty (.sl (.sl gT)),.ty (.sl (.sl gT))],[(.bool,0)],λx=>ref04_SameMatrix x.1 x.2⟩
def j_ref04_SameMatrix:TH:=mkTH [([],26,.block 0,{ lv:=[],ps:=[],abn:=true,D:=⟨134215712⟩ }),
 ([],26,.loop 0,{ lv:=[⟨none,5,0⟩],ps:=[(I,0)],D:=⟨134215712⟩ })] []
theorem k_ref04_SameMatrix:KT e_ref04_SameMatrix j_ref04_SameMatrix [e_base_Gausses] 40:=λx=>by kernel_rfl
theorem o_ref04_SameMatrix:OT e_ref04_SameMatrix:=entK (tab_cons o_base_Gausses tab_nil) hJ k_ref04_SameMatrix
def ref04_scaled (a0:(List (List (Int × Int × Unit)))) (a1:(Int × Int × Unit)):Option (List (List (Int × Int × Unit))) :=
 (loopO (λ(s3:((List (List (Int × Int × Unit))) × Int)) =>
   bif decide (s3.2 < (a0.length:Int)) then
    (loopO (λ(s6:((List (Int × Int × Unit)) × Int)) =>
      (idx a0 s3.2).bind λx7 =>
      bif decide (s6.2 < (x7.length:Int)) then
       (idx a0 s3.2).bind λx8 =>
       (idx x8 s6.2).bind λx9 =>
       (base_GMul x9 a1).bind λx10 =>
       (app s6.1 ([x10])).bind λx11 =>
       some (.inl (x11,w64 (s6.2 + 1)))
      else
       some (.inr s6.1)) ([],0)).bind λ(p12:(List (Int × Int × Unit))) =>
    (app s3.1 ([p12])).bind λx13 =>
    some (.inl (x13,w64 (s3.2 + 1)))
   else
    some (.inr s3.1)) ([],0)).bind λ(p14:(List (List (Int × Int × Unit)))) =>
 some p14
def e_ref04_scaled:Entry:=⟨133,[.ty (.sl (.sl gT)),.ty gT],[((.sl (.sl gT)),2)],λx=>ref04_scaled x.1 x.2⟩
def j_ref04_scaled:TH:=mkTH [([],133,.block 0,{ lv:=[⟨none,5,0⟩],ps:=[((.sl (.sl gT)),2)],D:=⟨1099511627744⟩ }),
 ([],133,.loop 0,{ lv:=[⟨none,5,0⟩,⟨none,6,0⟩],ps:=[((.sl (.sl gT)),2),(I,0)],D:=⟨1099511627744⟩ }),
 ([],133,.block 2,{ lv:=[⟨none,7,0⟩],ps:=[((.sl gT),1)],D:=⟨68719444352⟩ }),
 ([],133,.loop 2,{ lv:=[⟨none,7,0⟩,⟨none,8,0⟩],ps:=[((.sl gT),1),(I,0)],D:=⟨68719444352⟩ })] []
theorem k_ref04_scaled:KT e_ref04_scaled j_ref04_scaled [e_base_GMul] 40:=λx=>by kernel_rfl
theorem o_ref04_scaled:OT e_ref04_scaled:=entK (tab_cons o_base_GMul tab_nil) hJ k_ref04_scaled
def ref04_lowest (a0:Int) (a1:(List (List (Int × Int × Unit)))):Option (Int × (List (List (Int × Int × Unit))) × Unit) :=
 (loopO (λ(s2:(Int × Int)) =>
   bif decide (s2.2 < (a1.length:Int)) then
    (loopO (λ(s4:(Int × Int)) =>
      (idx a1 s2.2).bind λx5 =>
      bif decide (s4.2 < (x5.length:Int)) then
       (idx a1 s2.2).bind λx6 =>
       (idx x6 s4.2).bind λx7 =>
       (idx a1 s2.2).bind λx8 =>
       (idx x8 s4.2).bind λx9 =>
       (base_Gcd x7.1 x9.2.1).bind λx10 =>
       (base_Gcd s4.1 x10).bind λx11 =>
       some (.inl (x11,w64 (s4.2 + 1)))
      else
       some (.inr s4.1)) (s2.1,0)).bind λ(p12:Int) =>
    some (.inl (p12,w64 (s2.2 + 1)))
   else
    some (.inr s2.1)) (a0,0)).bind λ(p13:Int) =>
 bif decide (p13 = 0) then
  none
 else
  (loopO (λ(s16:(Int × Int × (List (List (Int × Int × Unit))))) =>
    bif decide (s16.1 < (a1.length:Int)) then
     (loopO (λ(s19:((List (Int × Int × Unit)) × Int)) =>
       (idx a1 s16.1).bind λx20 =>
       bif decide (s19.2 < (x20.length:Int)) then
        (idx a1 s16.1).bind λx21 =>
        (idx x21 s19.2).bind λx22 =>
        bif decide (p13 = 0) then
         none
        else
         (idx a1 s16.1).bind λx23 =>
         (idx x23 s19.2).bind λx24 =>
         bif decide (p13 = 0) then
          none
         else
          (app s19.1 ([(w64 (x22.1.tdiv p13),w64 (x24.2.1.tdiv p13),())])).bind λx25 =>
          some (.inl (x25,w64 (s19.2 + 1)))
       else
        some (.inr s19.1)) ([],0)).bind λ(p26:(List (Int × Int × Unit))) =>
     (app s16.2.2 ([p26])).bind λx27 =>
     some (.inl (w64 (s16.1 + 1),s16.2.1,x27))
    else
     some (.inr (s16.2.1,s16.2.2))) (0,w64 (a0.tdiv p13),[])).bind λ(p28:(Int × (List (List (Int × Int × Unit))))) =>
  some (p28.1,p28.2,())
def e_ref04_lowest:Entry:=⟨135,[.ty I,.ty (.sl (.sl gT))],[((.pair I (.pair (.sl (.sl gT)) .unit)),0)],λx=>ref04_lowest x.1 x.2⟩
def j_ref04_lowest:TH:=mkTH [([],135,.block 0,{ lv:=[⟨none,5,0⟩],ps:=[(I,0)],D:=⟨140737488348384⟩ }),
 ([],135,.loop 0,{ lv:=[⟨none,5,0⟩,⟨none,6,0⟩],ps:=[(I,0),(I,0)],D:=⟨140737488348384⟩ }),
 ([],135,.block 2,{ lv:=[⟨none,5,0⟩],ps:=[(I,0)],D:=⟨140737487832224⟩ }),
 ([],135,.loop 2,{ lv:=[⟨none,5,0⟩,⟨none,7,0⟩],ps:=[(I,0),(I,0)],D:=⟨140737487832224⟩ }),
 ([],135,.block 4,{ lv:=[⟨some 0,8,0⟩,⟨some 0,8,1⟩],ps:=[(I,0),((.sl (.sl gT)),2)],D:=⟨79228162514262085793730268672⟩,wr:=[⟨0,8⟩] }),
 ([],135,.loop 4,{ lv:=[⟨none,9,0⟩,⟨some 0,8,0⟩,⟨some 0,8,1⟩],ps:=[(I,0),(I,0),((.sl (.sl gT)),2)],D:=⟨79228162514262085793730268672⟩,wr:=[⟨0,8⟩],rs:=[⟨0,8⟩],Dn:=⟨38376141217844536722059169280⟩ }),
 ([],135,.block 6,{ lv:=[⟨none,10,0⟩],ps:=[((.sl gT),1)],D:=⟨1237940039141265086823271424⟩ }),
 ([],135,.loop 6,{ lv:=[⟨none,10,0⟩,⟨none,11,0⟩],ps:=[((.sl gT),1),(I,0)],D:=⟨1237940039141265086823271424⟩ })] []
theorem k_ref04_lowest:KT e_ref04_lowest j_ref04_lowest [e_base_Gcd] 40:=λx=>by kernel_rfl
theorem o_ref04_lowest:OT e_ref04_lowest:=entK (tab_cons o_base_Gcd tab_nil) hJ k_ref04_lowest
def ref04_Inverse (a0:(List (List (Int × Int × Unit)))):Option (Int × (List (List (Int × Int × Unit))) × Unit) :=
 (ref04_Determinant a0).bind λx1 =>
 (base_GNorm x1).bind λx2 =>
 (ref04_Adjugate a0).bind λx3 =>
 (base_GConj x1).bind λx4 =>
 (ref04_scaled x3 x4).bind λx5 =>
 (ref04_lowest x2 x5).bind λx6 =>
 some x6
def e_ref04_Inverse:Entry:=⟨64,[.ty (.sl (.sl gT))],[((.pair I (.pair (.sl (.sl gT)) .unit)),0)],λx=>ref04_Inverse x⟩
def j_ref04_Inverse:TH:=mkTH [] []
theorem k_ref04_Inverse:KT e_ref04_Inverse j_ref04_Inverse [e_base_GConj,e_base_GNorm,e_ref04_Adjugate,e_ref04_Determinant,e_ref04_lowest,e_ref04_scaled] 40:=λx=>by kernel_rfl
theorem o_ref04_Inverse:OT e_ref04_Inverse:=entK (tab_cons o_base_GConj (tab_cons o_base_GNorm (tab_cons o_ref04_Adjugate (tab_cons o_ref04_Determinant (tab_cons o_ref04_lowest (tab_cons o_ref04_scaled tab_nil)))))) hJ k_ref04_Inverse
def law04_fewRig (a0:((List (List (Int × Int × Unit))) × (List (List (Int × Int × Unit))) × Int × Int × Int × Unit)):Option Bool :=
 ((law04_few a0.1).bind λx1 =>
  bif x1 then
   (law04_few a0.2.1).bind λx2 =>
   some x2
  else
   some false).bind λ(p3:Bool) =>
 some p3
def e_law04_fewRig:Entry:=⟨19,[.ty (.pair (.sl (.sl gT)) (.pair (.sl (.sl gT)) (.pair I gT)))],[(.bool,0)],λx=>law04_fewRig x⟩
def j_law04_fewRig:TH:=mkTH [([],19,.region 1,{ lv:=[⟨none,2,0⟩],ps:=[(.bool,0)],D:=⟨2044⟩,rs:=[⟨0,1⟩],Dn:=⟨1908⟩ })] []
theorem k_law04_fewRig:KT e_law04_fewRig j_law04_fewRig [e_law04_few] 40:=λx=>by kernel_rfl
theorem o_law04_fewRig:OT e_law04_fewRig:=entK (tab_cons o_law04_few tab_nil) hJ k_law04_fewRig
def ref04_CopyRig (a0:((List (List (Int × Int × Unit))) × (List (List (Int × Int × Unit))) × Int × Int × Int × Unit)):Option ((List (List (Int × Int × Unit))) × (List (List (Int × Int × Unit))) × Int × Int × Int × Unit) :=
 (ref04_CopyMatrix a0.1).bind λx1 =>
 (ref04_CopyMatrix a0.2.1).bind λx2 =>
 some (x1,x2,a0.2.2.1,a0.2.2.2.1,a0.2.2.2.2.1,())
def e_ref04_CopyRig:Entry:=⟨21,[.ty (.pair (.sl (.sl gT)) (.pair (.sl (.sl gT)) (.pair I gT)))],[((.pair (.sl (.sl gT)) (.pair (.sl (.sl gT)) (.pair I gT))),0)],λx=>ref04_CopyRig x⟩
def j_ref04_CopyRig:TH:=mkTH [] []
theorem k_ref04_CopyRig:KT e_ref04_CopyRig j_ref04_CopyRig [e_ref04_CopyMatrix] 40:=λx=>by kernel_rfl
theorem o_ref04_CopyRig:OT e_ref04_CopyRig:=entK (tab_cons o_ref04_CopyMatrix tab_nil) hJ k_ref04_CopyRig
def drive_openRig (a0:((List (List (Int × Int × Unit))) × (List (List (Int × Int × Unit))) × Int × Int × Int × Unit)):Option (((List (List (Int × Int × Unit))) × (List (List (Int × Int × Unit))) × Int × Int × Int × Int × (List (List (Int × Int × Unit))) × Unit) × Int) :=
 (drive_matrixErr a0.1).bind λx1 =>
 (drive_matrixErr a0.2.1).bind λx2 =>
 (drive_unless (decide ((a0.1.length:Int) = (a0.2.1.length:Int))) (13:Int)).bind λx3 =>
 (drive_first ([x1,x2,x3])).bind λx4 =>
 bif !(decide (x4 = 0)) then
  some (([],[],0,0,0,0,[],()),x4)
 else
  (drive_InverseOf a0.2.1).bind λx5 =>
  (bif decide (a0.2.2.2.1 > 0) then
    (drive_divisor ([a0.2.2.1,a0.2.2.2.1])).bind λx6 =>
    (drive_unless (decide (x6 = 1)) (3:Int)).bind λx7 =>
    (drive_within a0.2.2.1 (0:Int) a0.2.2.2.1).bind λx8 =>
    bif x8 then
     (drive_unless (decide (a0.2.2.2.1<=100)) (2:Int)).bind λx9 =>
     (drive_within a0.2.2.2.2.1 (0:Int) (1000:Int)).bind λx10 =>
     (drive_unless x10 (2:Int)).bind λx11 =>
     (drive_first ([x5.2,x7,x9,x11])).bind λx12 =>
     some x12
    else
     (drive_unless false (2:Int)).bind λx13 =>
     (drive_within a0.2.2.2.2.1 (0:Int) (1000:Int)).bind λx14 =>
     (drive_unless x14 (2:Int)).bind λx15 =>
     (drive_first ([x5.2,x7,x13,x15])).bind λx16 =>
     some x16
   else
    (drive_unless false (3:Int)).bind λx17 =>
    (drive_within a0.2.2.1 (0:Int) a0.2.2.2.1).bind λx18 =>
    bif x18 then
     (drive_unless (decide (a0.2.2.2.1<=100)) (2:Int)).bind λx19 =>
     (drive_within a0.2.2.2.2.1 (0:Int) (1000:Int)).bind λx20 =>
     (drive_unless x20 (2:Int)).bind λx21 =>
     (drive_first ([x5.2,x17,x19,x21])).bind λx22 =>
     some x22
    else
     (drive_unless false (2:Int)).bind λx23 =>
     (drive_within a0.2.2.2.2.1 (0:Int) (1000:Int)).bind λx24 =>
     (drive_unless x24 (2:Int)).bind λx25 =>
     (drive_first ([x5.2,x17,x23,x25])).bind λx26 =>
     some x26).bind λ(p27:Int) =>
  some ((a0.1,a0.2.1,a0.2.2.1,a0.2.2.2.1,a0.2.2.2.2.1,x5.1.1,x5.1.2.1,()),p27)
def e_drive_openRig:Entry:=⟨111,[.ty (.pair (.sl (.sl gT)) (.pair (.sl (.sl gT)) (.pair I gT)))],[((.pair (.sl (.sl gT)) (.pair (.sl (.sl gT)) (.pair I (.pair I (.pair I (.pair I (.pair (.sl (.sl gT)) .unit))))))),2000),(I,0)],λx=>drive_openRig x⟩
def j_drive_openRig:TH:=mkTH [([],111,.region 6,{ lv:=[⟨none,6,0⟩],ps:=[(I,0)],D:=⟨147573952520956936256⟩,rs:=[⟨0,1⟩,⟨0,7⟩],Dn:=⟨145190411285615870016⟩ })] []
theorem k_drive_openRig:KT e_drive_openRig j_drive_openRig [e_drive_InverseOf,e_drive_divisor,e_drive_first,e_drive_matrixErr,e_drive_unless,e_drive_within] 40:=λx=>by kernel_rfl
theorem o_drive_openRig:OT e_drive_openRig:=entK (tab_cons o_drive_InverseOf (tab_cons o_drive_divisor (tab_cons o_drive_first (tab_cons o_drive_matrixErr (tab_cons o_drive_unless (tab_cons o_drive_within tab_nil)))))) hJ k_drive_openRig
def base_IsLowest (a0:(Int × Int × Unit)):Option Bool :=
 (bif decide (a0.2.1 > 0) then
   (base_Gcd a0.1 a0.2.1).bind λx1 =>
   some (decide (x1 = 1))
  else
   some false).bind λ(p2:Bool) =>
 some p2
def e_base_IsLowest:Entry:=⟨112,[.ty gT],[(.bool,0)],λx=>base_IsLowest x⟩
def j_base_IsLowest:TH:=mkTH [([],112,.region 1,{ lv:=[⟨none,2,0⟩],ps:=[(.bool,0)],D:=⟨16380⟩,rs:=[⟨0,1⟩],Dn:=⟨15732⟩ })] []
theorem k_base_IsLowest:KT e_base_IsLowest j_base_IsLowest [e_base_Gcd] 40:=λx=>by kernel_rfl
theorem o_base_IsLowest:OT e_base_IsLowest:=entK (tab_cons o_base_Gcd tab_nil) hJ k_base_IsLowest
def ref04_RigErr (a0:((List (List (Int × Int × Unit))) × (List (List (Int × Int × Unit))) × Int × Int × Int × Unit)):Option Int :=
 (ref04_MatrixErr a0.1).bind λx1 =>
 bif !(decide (x1 = 0)) then
  some x1
 else
  (ref04_MatrixErr a0.2.1).bind λx2 =>
  bif !(decide (x2 = 0)) then
   some x2
  else
   bif !(decide ((a0.2.1.length:Int) = (a0.1.length:Int))) then
    some 13
   else
    (ref04_InverseErr a0.2.1).bind λx3 =>
    bif !(decide (x3 = 0)) then
     some x3
    else
     (base_IsLowest (a0.2.2.1,a0.2.2.2.1,())).bind λx4 =>
     bif !x4 then
      some 3
     else
      ((base_Within a0.2.2.1 (0:Int) a0.2.2.2.1).bind λx5 =>
       bif !x5 then
        some true
       else
        bif decide (a0.2.2.2.1 > 100) then
         some true
        else
         (base_Within a0.2.2.2.2.1 (0:Int) (1000:Int)).bind λx6 =>
         some (!x6)).bind λ(p7:Bool) =>
      bif p7 then
       some 2
      else
       some 0
def e_ref04_RigErr:Entry:=⟨32,[.ty (.pair (.sl (.sl gT)) (.pair (.sl (.sl gT)) (.pair I gT)))],[(I,0)],λx=>ref04_RigErr x⟩
def j_ref04_RigErr:TH:=mkTH [([],32,.region 14,{ lv:=[⟨none,54,0⟩],ps:=[(.bool,0)],D:=⟨36028762659225600⟩,rs:=[⟨0,1⟩],Dn:=⟨34849158481313792⟩ })] []
theorem k_ref04_RigErr:KT e_ref04_RigErr j_ref04_RigErr [e_base_IsLowest,e_base_Within,e_ref04_InverseErr,e_ref04_MatrixErr] 40:=λx=>by kernel_rfl
theorem o_ref04_RigErr:OT e_ref04_RigErr:=entK (tab_cons o_base_IsLowest (tab_cons o_base_Within (tab_cons o_ref04_InverseErr (tab_cons o_ref04_MatrixErr tab_nil)))) hJ k_ref04_RigErr
def drive_listErr_1 (a0:(Int × Int × Unit)):Option Bool :=
 (drive_whole_isSized a0 (10000:Int)).bind λx1 =>
 some (!x1)
def e_drive_listErr_1:Entry:=⟨160,[.ty gT],[(.bool,0)],λx=>drive_listErr_1 x⟩
def j_drive_listErr_1:TH:=mkTH [] []
theorem k_drive_listErr_1:KT e_drive_listErr_1 j_drive_listErr_1 [e_drive_whole_isSized] 40:=λx=>by kernel_rfl
theorem o_drive_listErr_1:OT e_drive_listErr_1:=entK (tab_cons o_drive_whole_isSized tab_nil) hJ k_drive_listErr_1
def slices_IndexFunc_Lapi_Gauss_api_Gauss_of_drive_listErr_1 (a0:(List (Int × Int × Unit))):Option Int :=
 (loopO (λ(s2:Int) =>
   bif decide (s2 < (a0.length:Int)) then
    (idx a0 s2).bind λx3 =>
    (drive_listErr_1 x3).bind λx4 =>
    bif x4 then
     some (.inr (.inr s2))
    else
     some (.inl (w64 (s2 + 1)))
   else
    some (.inr (.inl ()))) 0).bind (Sum.elim (λ(p5:Unit) =>
 some (-1)) some)
def e_slices_IndexFunc_Lapi_Gauss_api_Gauss_of_drive_listErr_1:Entry:=⟨183,[.ty (.sl gT),.fn 160 []],[(I,0)],λx=>slices_IndexFunc_Lapi_Gauss_api_Gauss_of_drive_listErr_1 x.1⟩
def j_slices_IndexFunc_Lapi_Gauss_api_Gauss_of_drive_listErr_1:TH:=mkTH [([],183,.block 0,{ lv:=[],ps:=[],abn:=true,D:=⟨524064⟩ }),
 ([],183,.loop 0,{ lv:=[⟨none,8,0⟩],ps:=[(I,0)],D:=⟨524064⟩ })] []
theorem k_slices_IndexFunc_Lapi_Gauss_api_Gauss_of_drive_listErr_1:KT e_slices_IndexFunc_Lapi_Gauss_api_Gauss_of_drive_listErr_1 j_slices_IndexFunc_Lapi_Gauss_api_Gauss_of_drive_listErr_1 [e_drive_listErr_1] 40:=λx=>by kernel_rfl
theorem o_slices_IndexFunc_Lapi_Gauss_api_Gauss_of_drive_listErr_1:OT e_slices_IndexFunc_Lapi_Gauss_api_Gauss_of_drive_listErr_1:=entK (tab_cons o_drive_listErr_1 tab_nil) hJ k_slices_IndexFunc_Lapi_Gauss_api_Gauss_of_drive_listErr_1
def slices_ContainsFunc_Lapi_Gauss_api_Gauss_of_drive_listErr_1 (a0:(List (Int × Int × Unit))):Option Bool :=
 (slices_IndexFunc_Lapi_Gauss_api_Gauss_of_drive_listErr_1 a0).bind λx1 =>
 some (decide (x1>=0))
def e_slices_ContainsFunc_Lapi_Gauss_api_Gauss_of_drive_listErr_1:Entry:=⟨145,[.ty (.sl gT),.fn 160 []],[(.bool,0)],λx=>slices_ContainsFunc_Lapi_Gauss_api_Gauss_of_drive_listErr_1 x.1⟩
def j_slices_ContainsFunc_Lapi_Gauss_api_Gauss_of_drive_listErr_1:TH:=mkTH [] []
theorem k_slices_ContainsFunc_Lapi_Gauss_api_Gauss_of_drive_listErr_1:KT e_slices_ContainsFunc_Lapi_Gauss_api_Gauss_of_drive_listErr_1 j_slices_ContainsFunc_Lapi_Gauss_api_Gauss_of_drive_listErr_1 [e_slices_IndexFunc_Lapi_Gauss_api_Gauss_of_drive_listErr_1] 40:=λx=>by kernel_rfl
theorem o_slices_ContainsFunc_Lapi_Gauss_api_Gauss_of_drive_listErr_1:OT e_slices_ContainsFunc_Lapi_Gauss_api_Gauss_of_drive_listErr_1:=entK (tab_cons o_slices_IndexFunc_Lapi_Gauss_api_Gauss_of_drive_listErr_1 tab_nil) hJ k_slices_ContainsFunc_Lapi_Gauss_api_Gauss_of_drive_listErr_1
def drive_listErr (a0:(List (Int × Int × Unit))) (a1:Int):Option Int :=
 (slices_ContainsFunc_Lapi_Gauss_api_Gauss_of_drive_listErr_1 a0).bind λx1 =>
 (drive_unless (decide ((a0.length:Int) = a1)) (10:Int)).bind λx2 =>
 (drive_unless (!x1) (2:Int)).bind λx3 =>
 (drive_first ([x2,x3])).bind λx4 =>
 some x4
def e_drive_listErr:Entry:=⟨109,[.ty (.sl gT),.ty I],[(I,0)],λx=>drive_listErr x.1 x.2⟩
def j_drive_listErr:TH:=mkTH [] []
theorem k_drive_listErr:KT e_drive_listErr j_drive_listErr [e_drive_first,e_drive_unless,e_slices_ContainsFunc_Lapi_Gauss_api_Gauss_of_drive_listErr_1] 40:=λx=>by kernel_rfl
theorem o_drive_listErr:OT e_drive_listErr:=entK (tab_cons o_drive_first (tab_cons o_drive_unless (tab_cons o_slices_ContainsFunc_Lapi_Gauss_api_Gauss_of_drive_listErr_1 tab_nil))) hJ k_drive_listErr
def drive_response (a0:(List (List (Int × Int × Unit)))) (a1:(List (Int × Int × Unit))):Option (List (Int × Int × Unit)) :=
 (loopO (λ(s3:((List (Int × Int × Unit)) × Int)) =>
   bif decide (s3.2 < (a0.length:Int)) then
    (idx a0 s3.2).bind λx4 =>
    (loopO (λ(s6:((Int × Int) × Int)) =>
      bif decide (s6.2 < (x4.length:Int)) then
       (idx x4 s6.2).bind λx7 =>
       (flo x7.1).bind λx8 =>
       (flo x7.2.1).bind λx9 =>
       (idx a1 s6.2).bind λx10 =>
       (flo x10.1).bind λx11 =>
       (idx a1 s6.2).bind λx12 =>
       (flo x12.2.1).bind λx13 =>
       (flo (x8 * x11)).bind λx14 =>
       (flo (x9 * x13)).bind λx15 =>
       (flo (x14 - x15)).bind λx16 =>
       (flo (x8 * x13)).bind λx17 =>
       (flo (x9 * x11)).bind λx18 =>
       (flo (x17 + x18)).bind λx19 =>
       (flo (s6.1.1 + x16)).bind λx20 =>
       (flo (s6.1.2 + x19)).bind λx21 =>
       some (.inl ((x20,x21),w64 (s6.2 + 1)))
      else
       some (.inr s6.1)) ((0,0),0)).bind λ(p22:(Int × Int)) =>
    (flo p22.1).bind λx23 =>
    (flo p22.2).bind λx24 =>
    (app s3.1 ([(x23,x24,())])).bind λx25 =>
    some (.inl (x25,w64 (s3.2 + 1)))
   else
    some (.inr s3.1)) ([],0)).bind λ(p26:(List (Int × Int × Unit))) =>
 some p26
def e_drive_response:Entry:=⟨99,[.ty (.sl (.sl gT)),.ty (.sl gT)],[((.sl gT),1)],λx=>drive_response x.1 x.2⟩
def j_drive_response:TH:=mkTH [([],99,.block 0,{ lv:=[⟨none,5,0⟩],ps:=[((.sl gT),1)],D:=⟨576460752303417248⟩,wr:=[⟨0,10⟩] }),
 ([],99,.loop 0,{ lv:=[⟨none,5,0⟩,⟨none,13,0⟩],ps:=[((.sl gT),1),(I,0)],D:=⟨576460752303417248⟩,wr:=[⟨0,10⟩] }),
 ([],99,.block 2,{ lv:=[⟨none,8,0⟩],ps:=[(.cx,0)],D:=⟨281474976188288⟩,wr:=[⟨0,10⟩] }),
 ([],99,.loop 2,{ lv:=[⟨none,8,0⟩,⟨none,19,0⟩],ps:=[(.cx,0),(I,0)],D:=⟨281474976188288⟩,wr:=[⟨0,10⟩],rs:=[⟨0,10⟩],Dn:=⟨281474674197376⟩ })] []
theorem k_drive_response:KT e_drive_response j_drive_response [] 40:=λx=>by kernel_rfl
theorem o_drive_response:OT e_drive_response:=entK tab_nil hJ k_drive_response
def drive_openRounds (a0:((List (List (Int × Int × Unit))) × (List (List (Int × Int × Unit))) × Int × Int × Int × Unit)) (a1:(List (Int × Int × Unit))) (a2:(List (Int × Int × Unit))):Option (((List (List (Int × Int × Unit))) × (List (List (Int × Int × Unit))) × Int × Int × Int × Int × (List (List (Int × Int × Unit))) × Unit) × Int) :=
 (drive_openRig a0).bind λx1 =>
 (drive_listErr a1 (a0.1.length:Int)).bind λx2 =>
 (drive_listErr a2 (a0.1.length:Int)).bind λx3 =>
 (drive_first ([x1.2,x2,x3])).bind λx4 =>
 some (x1.1,x4)
def e_drive_openRounds:Entry:=⟨97,[.ty (.pair (.sl (.sl gT)) (.pair (.sl (.sl gT)) (.pair I gT))),.ty (.sl gT),.ty (.sl gT)],[((.pair (.sl (.sl gT)) (.pair (.sl (.sl gT)) (.pair I (.pair I (.pair I (.pair I (.pair (.sl (.sl gT)) .unit))))))),0),(I,0)],λx=>drive_openRounds x.1 x.2.1 x.2.2⟩
def j_drive_openRounds:TH:=mkTH [] []
theorem k_drive_openRounds:KT e_drive_openRounds j_drive_openRounds [e_drive_first,e_drive_listErr,e_drive_openRig] 40:=λx=>by kernel_rfl
theorem o_drive_openRounds:OT e_drive_openRounds:=entK (tab_cons o_drive_first (tab_cons o_drive_listErr (tab_cons o_drive_openRig tab_nil))) hJ k_drive_openRounds
def drive_near_n (n:Nat):Int->Int->Option Int :=
 Nat.rec (motive:=λ_=>Int->Int->Option Int) (λ_ _=>none) (λ_ ih a0 a1 =>
 bif decide (a0 < 0) then
  (ih (w64 (0 - a0)) a1).bind λx1 =>
  some (w64 (0 - x1))
 else
  bif decide (a1 = 0) then
   none
  else
   bif decide (a1 = 0) then
    none
   else
    (bif decide (a0.tmod a1 > w64 (a1 - (a0.tmod a1))) then
      some (w64 ((w64 (a0.tdiv a1)) + 1))
     else
      some (w64 (a0.tdiv a1))).bind λ(p2:Int) =>
    some p2) n
def drive_near:Int->Int->Option Int:=drive_near_n 12
def e_drive_near:Entry:=⟨162,[.ty I,.ty I],[(I,0)],λx=>drive_near x.1 x.2⟩
def j_drive_near:TH:=mkTH [([],162,.cond 24,{ lv:=[⟨none,5,0⟩],ps:=[(I,0)],D:=⟨100663328⟩ })] []
def e_drive_near_n (n:Nat):Entry:=⟨162,[.ty I,.ty I],[(I,0)],λx=>drive_near_n n x.1 x.2⟩
theorem k_drive_near (n:Nat) (x:denP (e_drive_near_n (n + 1)).ps):fnT Tryz.prog Hn.hints j_drive_near (tabT [(e_drive_near_n n)]) 40 162 (ofPms (e_drive_near_n (n + 1)).ps x) (e_drive_near_n (n + 1)).rs = (e_drive_near_n (n + 1)).F x:=by kernel_rfl
theorem o_drive_near_n:∀ n,EntryOk Tryz.prog Hn.hints Lb (e_drive_near_n n)
 | 0=>λx y h=>by cases (show none = some y from h)
 | n + 1=>entry_ok (tab_cons (o_drive_near_n n) tab_nil) hJ 40 _ _ _ _ (k_drive_near n)
theorem o_drive_near:EntryOk Tryz.prog Hn.hints Lb e_drive_near:=o_drive_near_n 12
def drive_rig_correction_1 (a0:Int) (a1:((List (List (Int × Int × Unit))) × (List (List (Int × Int × Unit))) × Int × Int × Int × Int × (List (List (Int × Int × Unit))) × Unit)):Option Int :=
 (drive_near (w64 (a0 * a1.2.2.1)) (w64 (a1.2.2.2.2.2.1 * a1.2.2.2.1))).bind λx1 =>
 some (min (max x1 (w64 (0 - a1.2.2.2.2.1))) a1.2.2.2.2.1)
def e_drive_rig_correction_1:Entry:=⟨161,[.ty I,.ptr (.pair (.sl (.sl gT)) (.pair (.sl (.sl gT)) (.pair I (.pair I (.pair I (.pair I (.pair (.sl (.sl gT)) .unit)))))))],[(I,0)],λx=>drive_rig_correction_1 x.1 x.2⟩
def j_drive_rig_correction_1:TH:=mkTH [] []
theorem k_drive_rig_correction_1:KT e_drive_rig_correction_1 j_drive_rig_correction_1 [e_drive_near] 40:=λx=>by kernel_rfl
theorem o_drive_rig_correction_1:OT e_drive_rig_correction_1:=entK (tab_cons o_drive_near tab_nil) hJ k_drive_rig_correction_1
def drive_rig_correction (a0:((List (List (Int × Int × Unit))) × (List (List (Int × Int × Unit))) × Int × Int × Int × Int × (List (List (Int × Int × Unit))) × Unit)) (a1:(List (Int × Int × Unit))) (a2:(List (Int × Int × Unit))):Option (List (Int × Int × Unit)) :=
 (drive_response a0.1 a2).bind λx1 =>
 (loopO (λ(s3:((List (Int × Int × Unit)) × Int)) =>
   bif decide (s3.2 < (a1.length:Int)) then
    (idx a1 s3.2).bind λx4 =>
    (idx s3.1 s3.2).bind λx5 =>
    (drive_whole_minus x4 x5).bind λx6 =>
    (idx s3.1 s3.2).bind λx7 =>
    (idx s3.1 s3.2).bind λx8 =>
    let l9:(List (Int × Int × Unit)):=List.set s3.1 s3.2.toNat x6
    some (.inl (l9,w64 (s3.2 + 1)))
   else
    some (.inr s3.1)) (x1,0)).bind λ(p10:(List (Int × Int × Unit))) =>
 (loopO (λ(s13:((List (Int × Int × Unit)) × Int)) =>
   bif decide (s13.2 < (a0.2.2.2.2.2.2.1.length:Int)) then
    (idx a0.2.2.2.2.2.2.1 s13.2).bind λx14 =>
    (loopO (λ(s16:(Int × Int × Int)) =>
      bif decide (s16.1 < (x14.length:Int)) then
       (idx x14 s16.1).bind λx17 =>
       (idx p10 s16.1).bind λx18 =>
       (drive_whole_times x17 x18).bind λx19 =>
       (drive_whole_plus (s16.2.1,s16.2.2,()) x19).bind λx20 =>
       some (.inl (w64 (s16.1 + 1),x20.1,x20.2.1))
      else
       some (.inr (s16.2.1,s16.2.2))) (0,0,0)).bind λ(p21:(Int × Int)) =>
    (drive_rig_correction_1 p21.1 a0).bind λx22 =>
    (drive_rig_correction_1 p21.2 a0).bind λx23 =>
    (app s13.1 ([(x22,x23,())])).bind λx24 =>
    some (.inl (x24,w64 (s13.2 + 1)))
   else
    some (.inr s13.1)) ([],0)).bind λ(p25:(List (Int × Int × Unit))) =>
 some p25
def e_drive_rig_correction:Entry:=⟨110,[.ty (.pair (.sl (.sl gT)) (.pair (.sl (.sl gT)) (.pair I (.pair I (.pair I (.pair I (.pair (.sl (.sl gT)) .unit))))))),.ty (.sl gT),.ty (.sl gT)],[((.sl gT),1)],λx=>drive_rig_correction x.1 x.2.1 x.2.2⟩
def j_drive_rig_correction:TH:=mkTH [([],110,.block 0,{ lv:=[⟨none,7,0⟩],ps:=[((.sl gT),1)],D:=⟨549741225856⟩,wr:=[⟨0,9⟩] }),
 ([],110,.loop 0,{ lv:=[⟨none,7,0⟩,⟨none,24,0⟩],ps:=[((.sl gT),1),(I,0)],D:=⟨549741225856⟩,wr:=[⟨0,9⟩],rs:=[⟨0,9⟩],Dn:=⟨549741225344⟩ }),
 ([],110,.block 2,{ lv:=[⟨none,10,0⟩],ps:=[((.sl gT),1)],D:=⟨151115727434236460918272⟩,wr:=[⟨0,9⟩,⟨0,14⟩,⟨0,16⟩] }),
 ([],110,.loop 2,{ lv:=[⟨none,10,0⟩,⟨none,44,0⟩],ps:=[((.sl gT),1),(I,0)],D:=⟨151115727434236460918272⟩,wr:=[⟨0,9⟩,⟨0,14⟩,⟨0,16⟩],rs:=[⟨0,3⟩,⟨0,14⟩],Dn:=⟨149234159538718086637056⟩ }),
 ([],110,.block 4,{ lv:=[⟨some 0,14,0⟩,⟨some 0,14,1⟩],ps:=[(I,0),(I,0)],D:=⟨18445618173802816000⟩,wr:=[⟨0,14⟩,⟨0,16⟩] }),
 ([],110,.loop 4,{ lv:=[⟨none,50,0⟩,⟨some 0,14,0⟩,⟨some 0,14,1⟩],ps:=[(I,0),(I,0),(I,0)],D:=⟨18445618173802816000⟩,wr:=[⟨0,14⟩,⟨0,16⟩],rs:=[⟨0,16⟩],Dn:=⟨18445618173802750464⟩ })] []
theorem k_drive_rig_correction:KT e_drive_rig_correction j_drive_rig_correction [e_drive_response,e_drive_rig_correction_1,e_drive_whole_minus,e_drive_whole_plus,e_drive_whole_times] 40:=λx=>by kernel_rfl
theorem o_drive_rig_correction:OT e_drive_rig_correction:=entK (tab_cons o_drive_response (tab_cons o_drive_rig_correction_1 (tab_cons o_drive_whole_minus (tab_cons o_drive_whole_plus (tab_cons o_drive_whole_times tab_nil))))) hJ k_drive_rig_correction
def ref04_ListErr (a0:(List (Int × Int × Unit))) (a1:Int):Option Int :=
 bif !(decide ((a0.length:Int) = a1)) then
  some 10
 else
  (loopO (λ(s2:Int) =>
    bif decide (s2 < (a0.length:Int)) then
     (idx a0 s2).bind λx3 =>
     (ref04_isSized x3 (10000:Int)).bind λx4 =>
     bif !x4 then
      some (.inr (.inr 2))
     else
      some (.inl (w64 (s2 + 1)))
    else
     some (.inr (.inl ()))) 0).bind (Sum.elim (λ(p5:Unit) =>
  some 0) some)
def e_ref04_ListErr:Entry:=⟨34,[.ty (.sl gT),.ty I],[(I,0)],λx=>ref04_ListErr x.1 x.2⟩
def j_ref04_ListErr:TH:=mkTH [([],34,.block 0,{ lv:=[],ps:=[],abn:=true,D:=⟨4193312⟩ }),
 ([],34,.loop 0,{ lv:=[⟨none,5,0⟩],ps:=[(I,0)],D:=⟨4193312⟩ })] []
theorem k_ref04_ListErr:KT e_ref04_ListErr j_ref04_ListErr [e_ref04_isSized] 40:=λx=>by kernel_rfl
theorem o_ref04_ListErr:OT e_ref04_ListErr:=entK (tab_cons o_ref04_isSized tab_nil) hJ k_ref04_ListErr
def ref04_Response (a0:(List (List (Int × Int × Unit)))) (a1:(List (Int × Int × Unit))):Option (List (Int × Int × Unit)) :=
 (loopO (λ(s3:((List (Int × Int × Unit)) × Int)) =>
   bif decide (s3.2 < (a0.length:Int)) then
    (loopO (λ(s5:(Int × Int × Int)) =>
      bif decide (s5.1 < (a1.length:Int)) then
       (idx a0 s3.2).bind λx6 =>
       (idx x6 s5.1).bind λx7 =>
       (idx a1 s5.1).bind λx8 =>
       (base_GMul x7 x8).bind λx9 =>
       (base_GAdd (s5.2.1,s5.2.2,()) x9).bind λx10 =>
       some (.inl (w64 (s5.1 + 1),x10.1,x10.2.1))
      else
       some (.inr (s5.2.1,s5.2.2))) (0,0,0)).bind λ(p11:(Int × Int)) =>
    (app s3.1 ([(p11.1,p11.2,())])).bind λx12 =>
    some (.inl (x12,w64 (s3.2 + 1)))
   else
    some (.inr s3.1)) ([],0)).bind λ(p13:(List (Int × Int × Unit))) =>
 some p13
def e_ref04_Response:Entry:=⟨36,[.ty (.sl (.sl gT)),.ty (.sl gT)],[((.sl gT),1)],λx=>ref04_Response x.1 x.2⟩
def j_ref04_Response:TH:=mkTH [([],36,.block 0,{ lv:=[⟨none,5,0⟩],ps:=[((.sl gT),1)],D:=⟨549755813856⟩,wr:=[⟨0,7⟩] }),
 ([],36,.loop 0,{ lv:=[⟨none,5,0⟩,⟨none,6,0⟩],ps:=[((.sl gT),1),(I,0)],D:=⟨549755813856⟩,wr:=[⟨0,7⟩],rs:=[⟨0,7⟩],Dn:=⟨549755813728⟩ }),
 ([],36,.block 2,{ lv:=[⟨some 0,7,0⟩,⟨some 0,7,1⟩],ps:=[(I,0),(I,0)],D:=⟨34359705856⟩,wr:=[⟨0,7⟩] }),
 ([],36,.loop 2,{ lv:=[⟨none,8,0⟩,⟨some 0,7,0⟩,⟨some 0,7,1⟩],ps:=[(I,0),(I,0),(I,0)],D:=⟨34359705856⟩,wr:=[⟨0,7⟩] })] []
theorem k_ref04_Response:KT e_ref04_Response j_ref04_Response [e_base_GAdd,e_base_GMul] 40:=λx=>by kernel_rfl
theorem o_ref04_Response:OT e_ref04_Response:=entK (tab_cons o_base_GAdd (tab_cons o_base_GMul tab_nil)) hJ k_ref04_Response
def ref04_RoundErr (a0:((List (List (Int × Int × Unit))) × (List (List (Int × Int × Unit))) × Int × Int × Int × Unit)) (a1:(List (Int × Int × Unit))) (a2:(List (Int × Int × Unit))):Option Int :=
 (ref04_RigErr a0).bind λx1 =>
 bif !(decide (x1 = 0)) then
  some x1
 else
  (ref04_ListErr a1 (a0.1.length:Int)).bind λx2 =>
  bif !(decide (x2 = 0)) then
   some x2
  else
   (ref04_ListErr a2 (a0.1.length:Int)).bind λx3 =>
   some x3
def e_ref04_RoundErr:Entry:=⟨24,[.ty (.pair (.sl (.sl gT)) (.pair (.sl (.sl gT)) (.pair I gT))),.ty (.sl gT),.ty (.sl gT)],[(I,0)],λx=>ref04_RoundErr x.1 x.2.1 x.2.2⟩
def j_ref04_RoundErr:TH:=mkTH [] []
theorem k_ref04_RoundErr:KT e_ref04_RoundErr j_ref04_RoundErr [e_ref04_ListErr,e_ref04_RigErr] 40:=λx=>by kernel_rfl
theorem o_ref04_RoundErr:OT e_ref04_RoundErr:=entK (tab_cons o_ref04_ListErr (tab_cons o_ref04_RigErr tab_nil)) hJ k_ref04_RoundErr
def ref04_Left (a0:((List (List (Int × Int × Unit))) × (List (List (Int × Int × Unit))) × Int × Int × Int × Unit)) (a1:(List (Int × Int × Unit))) (a2:(List (Int × Int × Unit))):Option (List (Int × Int × Unit)) :=
 (ref04_Response a0.1 a2).bind λx1 =>
 (loopO (λ(s4:((List (Int × Int × Unit)) × Int)) =>
   bif decide (s4.2 < (a1.length:Int)) then
    (idx a1 s4.2).bind λx5 =>
    (idx x1 s4.2).bind λx6 =>
    (base_GSub x5 x6).bind λx7 =>
    (app s4.1 ([x7])).bind λx8 =>
    some (.inl (x8,w64 (s4.2 + 1)))
   else
    some (.inr s4.1)) ([],0)).bind λ(p9:(List (Int × Int × Unit))) =>
 some p9
def e_ref04_Left:Entry:=⟨44,[.ty (.pair (.sl (.sl gT)) (.pair (.sl (.sl gT)) (.pair I gT))),.ty (.sl gT),.ty (.sl gT)],[((.sl gT),1)],λx=>ref04_Left x.1 x.2.1 x.2.2⟩
def j_ref04_Left:TH:=mkTH [([],44,.block 0,{ lv:=[⟨none,8,0⟩],ps:=[((.sl gT),1)],D:=⟨4294951680⟩ }),
 ([],44,.loop 0,{ lv:=[⟨none,8,0⟩,⟨none,9,0⟩],ps:=[((.sl gT),1),(I,0)],D:=⟨4294951680⟩ })] []
theorem k_ref04_Left:KT e_ref04_Left j_ref04_Left [e_base_GSub,e_ref04_Response] 40:=λx=>by kernel_rfl
theorem o_ref04_Left:OT e_ref04_Left:=entK (tab_cons o_base_GSub (tab_cons o_ref04_Response tab_nil)) hJ k_ref04_Left
def base_Floor (a0:Int) (a1:Int):Option Int :=
 bif decide (a1 = 0) then
  none
 else
  bif decide (a1 = 0) then
   none
  else
   (bif decide (a0.tmod a1 < 0) then
     some (w64 ((w64 (a0.tdiv a1)) - 1))
    else
     some (w64 (a0.tdiv a1))).bind λ(p1:Int) =>
   some p1
def e_base_Floor:Entry:=⟨194,[.ty I,.ty I],[(I,0)],λx=>base_Floor x.1 x.2⟩
def j_base_Floor:TH:=mkTH [([],194,.cond 12,{ lv:=[⟨none,5,0⟩],ps:=[(I,0)],D:=⟨24608⟩ })] []
theorem k_base_Floor:KT e_base_Floor j_base_Floor [] 40:=λx=>by kernel_rfl
theorem o_base_Floor:OT e_base_Floor:=entK tab_nil hJ k_base_Floor
def base_Ceil (a0:Int) (a1:Int):Option Int :=
 (base_Floor (w64 (0 - a0)) a1).bind λx1 =>
 some (w64 (0 - x1))
def e_base_Ceil:Entry:=⟨188,[.ty I,.ty I],[(I,0)],λx=>base_Ceil x.1 x.2⟩
def j_base_Ceil:TH:=mkTH [] []
theorem k_base_Ceil:KT e_base_Ceil j_base_Ceil [e_base_Floor] 40:=λx=>by kernel_rfl
theorem o_base_Ceil:OT e_base_Ceil:=entK (tab_cons o_base_Floor tab_nil) hJ k_base_Ceil
def ref04_rounded (a0:Int) (a1:Int):Option Int :=
 (base_Size a0).bind λx1 =>
 (base_Ceil (w64 ((w64 (2 * x1)) - a1)) (w64 (2 * a1))).bind λx2 =>
 bif decide (a0 < 0) then
  some (w64 (0 - x2))
 else
  some x2
def e_ref04_rounded:Entry:=⟨163,[.ty I,.ty I],[(I,0)],λx=>ref04_rounded x.1 x.2⟩
def j_ref04_rounded:TH:=mkTH [] []
theorem k_ref04_rounded:KT e_ref04_rounded j_ref04_rounded [e_base_Ceil,e_base_Size] 40:=λx=>by kernel_rfl
theorem o_ref04_rounded:OT e_ref04_rounded:=entK (tab_cons o_base_Ceil (tab_cons o_base_Size tab_nil)) hJ k_ref04_rounded
def ref04_Raw (a0:((List (List (Int × Int × Unit))) × (List (List (Int × Int × Unit))) × Int × Int × Int × Unit)) (a1:(List (Int × Int × Unit))) (a2:(List (Int × Int × Unit))):Option (List (Int × Int × Unit)) :=
 (ref04_Inverse a0.2.1).bind λx1 =>
 (ref04_Left a0 a1 a2).bind λx2 =>
 (ref04_Response x1.2.1 x2).bind λx3 =>
 (loopO (λ(s6:((List (Int × Int × Unit)) × Int)) =>
   bif decide (s6.2 < (x3.length:Int)) then
    (idx x3 s6.2).bind λx7 =>
    (ref04_rounded (w64 (x7.1 * a0.2.2.1)) (w64 (x1.1 * a0.2.2.2.1))).bind λx8 =>
    (idx x3 s6.2).bind λx9 =>
    (ref04_rounded (w64 (x9.2.1 * a0.2.2.1)) (w64 (x1.1 * a0.2.2.2.1))).bind λx10 =>
    (app s6.1 ([(x8,x10,())])).bind λx11 =>
    some (.inl (x11,w64 (s6.2 + 1)))
   else
    some (.inr s6.1)) ([],0)).bind λ(p12:(List (Int × Int × Unit))) =>
 some p12
def e_ref04_Raw:Entry:=⟨115,[.ty (.pair (.sl (.sl gT)) (.pair (.sl (.sl gT)) (.pair I gT))),.ty (.sl gT),.ty (.sl gT)],[((.sl gT),1)],λx=>ref04_Raw x.1 x.2.1 x.2.2⟩
def j_ref04_Raw:TH:=mkTH [([],115,.block 0,{ lv:=[⟨none,9,0⟩],ps:=[((.sl gT),1)],D:=⟨1152921504602656256⟩ }),
 ([],115,.loop 0,{ lv:=[⟨none,9,0⟩,⟨none,10,0⟩],ps:=[((.sl gT),1),(I,0)],D:=⟨1152921504602656256⟩,rs:=[⟨0,3⟩,⟨0,7⟩],Dn:=⟨1146162803137056256⟩ })] []
theorem k_ref04_Raw:KT e_ref04_Raw j_ref04_Raw [e_ref04_Inverse,e_ref04_Left,e_ref04_Response,e_ref04_rounded] 40:=λx=>by kernel_rfl
theorem o_ref04_Raw:OT e_ref04_Raw:=entK (tab_cons o_ref04_Inverse (tab_cons o_ref04_Left (tab_cons o_ref04_Response (tab_cons o_ref04_rounded tab_nil)))) hJ k_ref04_Raw
def ref04_Correction (a0:((List (List (Int × Int × Unit))) × (List (List (Int × Int × Unit))) × Int × Int × Int × Unit)) (a1:(List (Int × Int × Unit))) (a2:(List (Int × Int × Unit))):Option (List (Int × Int × Unit)) :=
 (ref04_Raw a0 a1 a2).bind λx1 =>
 (loopO (λ(s4:((List (Int × Int × Unit)) × Int)) =>
   bif decide (s4.2 < (x1.length:Int)) then
    (idx x1 s4.2).bind λx5 =>
    (idx x1 s4.2).bind λx6 =>
    (app s4.1 ([(max (w64 (0 - a0.2.2.2.2.1)) (min a0.2.2.2.2.1 x5.1),max (w64 (0 - a0.2.2.2.2.1)) (min a0.2.2.2.2.1 x6.2.1),())])).bind λx7 =>
    some (.inl (x7,w64 (s4.2 + 1)))
   else
    some (.inr s4.1)) ([],0)).bind λ(p8:(List (Int × Int × Unit))) =>
 some p8
def e_ref04_Correction:Entry:=⟨37,[.ty (.pair (.sl (.sl gT)) (.pair (.sl (.sl gT)) (.pair I gT))),.ty (.sl gT),.ty (.sl gT)],[((.sl gT),1)],λx=>ref04_Correction x.1 x.2.1 x.2.2⟩
def j_ref04_Correction:TH:=mkTH [([],37,.block 0,{ lv:=[⟨none,8,0⟩],ps:=[((.sl gT),1)],D:=⟨281474976695040⟩ }),
 ([],37,.loop 0,{ lv:=[⟨none,8,0⟩,⟨none,9,0⟩],ps:=[((.sl gT),1),(I,0)],D:=⟨281474976695040⟩,rs:=[⟨0,3⟩],Dn:=⟨281397648409344⟩ })] []
theorem k_ref04_Correction:KT e_ref04_Correction j_ref04_Correction [e_ref04_Raw] 40:=λx=>by kernel_rfl
theorem o_ref04_Correction:OT e_ref04_Correction:=entK (tab_cons o_ref04_Raw tab_nil) hJ k_ref04_Correction
def drive_rig_round (a0:((List (List (Int × Int × Unit))) × (List (List (Int × Int × Unit))) × Int × Int × Int × Int × (List (List (Int × Int × Unit))) × Unit)) (a1:(List (Int × Int × Unit))) (a2:(List (Int × Int × Unit))):Option ((List (Int × Int × Unit)) × Int) :=
 (drive_rig_correction a0 a1 a2).bind λx1 =>
 (loopO (λ(s3:((List (Int × Int × Unit)) × Int)) =>
   bif decide (s3.2 < (a2.length:Int)) then
    (idx a2 s3.2).bind λx4 =>
    (idx s3.1 s3.2).bind λx5 =>
    (drive_whole_plus x5 x4).bind λx6 =>
    (idx s3.1 s3.2).bind λx7 =>
    (idx s3.1 s3.2).bind λx8 =>
    let l9:(List (Int × Int × Unit)):=List.set s3.1 s3.2.toNat x6
    some (.inl (l9,w64 (s3.2 + 1)))
   else
    some (.inr s3.1)) (x1,0)).bind λ(p10:(List (Int × Int × Unit))) =>
 (drive_listErr p10 (p10.length:Int)).bind λx11 =>
 bif !(decide (x11 = 0)) then
  some ([],22)
 else
  some (p10,0)
def e_drive_rig_round:Entry:=⟨98,[.ty (.pair (.sl (.sl gT)) (.pair (.sl (.sl gT)) (.pair I (.pair I (.pair I (.pair I (.pair (.sl (.sl gT)) .unit))))))),.ty (.sl gT),.ty (.sl gT)],[((.sl gT),1),(I,0)],λx=>drive_rig_round x.1 x.2.1 x.2.2⟩
def j_drive_rig_round:TH:=mkTH [([],98,.block 0,{ lv:=[⟨none,8,0⟩],ps:=[((.sl gT),1)],D:=⟨4294854400⟩,wr:=[⟨0,10⟩] }),
 ([],98,.loop 0,{ lv:=[⟨none,8,0⟩,⟨none,17,0⟩],ps:=[((.sl gT),1),(I,0)],D:=⟨4294854400⟩,wr:=[⟨0,10⟩],rs:=[⟨0,10⟩],Dn:=⟨4294853376⟩ })] []
theorem k_drive_rig_round:KT e_drive_rig_round j_drive_rig_round [e_drive_listErr,e_drive_rig_correction,e_drive_whole_plus] 40:=λx=>by kernel_rfl
theorem o_drive_rig_round:OT e_drive_rig_round:=entK (tab_cons o_drive_listErr (tab_cons o_drive_rig_correction (tab_cons o_drive_whole_plus tab_nil))) hJ k_drive_rig_round
def drive_RoundsOf (a0:((List (List (Int × Int × Unit))) × (List (List (Int × Int × Unit))) × Int × Int × Int × Unit)) (a1:(List (Int × Int × Unit))) (a2:(List (Int × Int × Unit))) (a3:Int):Option ((List (List (Int × Int × Unit))) × Int) :=
 (drive_openRounds (a0.1,a0.2.1,a0.2.2.1,a0.2.2.2.1,a0.2.2.2.2.1,()) a1 a2).bind λx1 =>
 (drive_within a3 (0:Int) (20:Int)).bind λx2 =>
 (drive_unless x2 (2:Int)).bind λx3 =>
 (drive_first ([x1.2,x3])).bind λx4 =>
 bif !(decide (x4 = 0)) then
  some ([],x4)
 else
  (loopO (λ(s7:((List (Int × Int × Unit)) × (List (List (Int × Int × Unit))) × Int)) =>
    bif decide (s7.2.2 < a3) then
     (drive_rig_round x1.1 a1 s7.1).bind λx8 =>
     bif !(decide (x8.2 = 0)) then
      some (.inr (.inr ([],x8.2)))
     else
      (app s7.2.1 ([x8.1])).bind λx9 =>
      some (.inl (x8.1,x9,w64 (s7.2.2 + 1)))
    else
     some (.inr (.inl s7.2.1))) (a2,[],0)).bind (Sum.elim (λ(p10:(List (List (Int × Int × Unit)))) =>
  some (p10,0)) some)
def e_drive_RoundsOf:Entry:=⟨20,[.ty (.pair (.sl (.sl gT)) (.pair (.sl (.sl gT)) (.pair I gT))),.ty (.sl gT),.ty (.sl gT),.ty I],[((.sl (.sl gT)),1),(I,0)],λx=>drive_RoundsOf x.1 x.2.1 x.2.2.1 x.2.2.2⟩
def j_drive_RoundsOf:TH:=mkTH [([],20,.block 0,{ lv:=[⟨none,12,0⟩],ps:=[((.sl (.sl gT)),1)],abn:=true,D:=⟨140736414619652⟩ }),
 ([],20,.loop 0,{ lv:=[⟨none,2,0⟩,⟨none,12,0⟩,⟨none,30,0⟩],ps:=[((.sl gT),2000),((.sl (.sl gT)),1),(I,0)],D:=⟨140736414619652⟩ })] []
theorem k_drive_RoundsOf:KT e_drive_RoundsOf j_drive_RoundsOf [e_drive_first,e_drive_openRounds,e_drive_rig_round,e_drive_unless,e_drive_within] 40:=λx=>by kernel_rfl
theorem o_drive_RoundsOf:OT e_drive_RoundsOf:=entK (tab_cons o_drive_first (tab_cons o_drive_openRounds (tab_cons o_drive_rig_round (tab_cons o_drive_unless (tab_cons o_drive_within tab_nil))))) hJ k_drive_RoundsOf
def slices_Collect_2_drive_whole_of_drive_pairs_1 (a0:(List (Int × Int × Unit))) (a1:(List (Int × Int × Unit))):Option (List (Int × Int × Int × Int × Unit)) :=
 (loopO (λ(s2:(Int × (List (Int × Int × Int × Int × Unit)))) =>
   bif decide (s2.1 < (a0.length:Int)) then
    (idx a0 s2.1).bind λx3 =>
    (idx a1 s2.1).bind λx4 =>
    (app s2.2 ([(x3.1,x3.2.1,x4.1,x4.2.1,())])).bind λx5 =>
    some (.inl (w64 (s2.1 + 1),x5))
   else
    some (.inr s2.2)) (0,[])).bind λ(p6:(List (Int × Int × Int × Int × Unit))) =>
 some p6
def e_slices_Collect_2_drive_whole_of_drive_pairs_1:Entry:=⟨101,[.fn 158 [.p (.sl gT),.p (.sl gT)]],[((.sl (.pair I (.pair I gT))),1)],λx=>slices_Collect_2_drive_whole_of_drive_pairs_1 x.1 x.2⟩
def j_slices_Collect_2_drive_whole_of_drive_pairs_1:TH:=mkTH [([7,4],158,.block 0,{ lv:=[⟨some 0,2,0⟩],ps:=[((.sl (.pair I (.pair I gT))),1)],D:=⟨8388400⟩,wr:=[⟨0,2⟩,⟨1,5⟩] }),
 ([7,4],158,.loop 0,{ lv:=[⟨none,8,0⟩,⟨some 0,2,0⟩],ps:=[(I,0),((.sl (.pair I (.pair I gT))),1)],D:=⟨8388400⟩,wr:=[⟨0,2⟩,⟨1,5⟩],rs:=[⟨0,7⟩,⟨1,5⟩],Dn:=⟨8380176⟩ })] [([],101,4)]
theorem k_slices_Collect_2_drive_whole_of_drive_pairs_1:KT e_slices_Collect_2_drive_whole_of_drive_pairs_1 j_slices_Collect_2_drive_whole_of_drive_pairs_1 [] 40:=λx=>by kernel_rfl
theorem o_slices_Collect_2_drive_whole_of_drive_pairs_1:OT e_slices_Collect_2_drive_whole_of_drive_pairs_1:=entK tab_nil hJ k_slices_Collect_2_drive_whole_of_drive_pairs_1
def drive_ReachedIn (a0:((List (List (Int × Int × Unit))) × (List (List (Int × Int × Unit))) × Int × Int × Int × Unit)) (a1:(List (Int × Int × Unit))) (a2:(List (Int × Int × Unit))) (a3:Int):Option (Int × Int) :=
 (drive_openRounds a0 a1 a2).bind λx1 =>
 (drive_within a3 (0:Int) (10000:Int)).bind λx2 =>
 (drive_unless x2 (2:Int)).bind λx3 =>
 (drive_first ([x1.2,x3])).bind λx4 =>
 bif !(decide (x4 = 0)) then
  some (0,x4)
 else
  (loopO (λ(s7:((List (Int × Int × Unit)) × Int)) =>
    (drive_response a0.1 s7.1).bind λx8 =>
    (slices_Collect_2_drive_whole_of_drive_pairs_1 a1 x8).bind λx9 =>
    ((loopO (λ(s11:Int) =>
       bif decide (s11 < (x9.length:Int)) then
        (idx x9 s11).bind λx12 =>
        (drive_whole_minus (x12.1,x12.2.1,()) (x12.2.2.1,x12.2.2.2.1,())).bind λx13 =>
        (drive_whole_isSized x13 a3).bind λx14 =>
        bif !x14 then
         some (.inr (.inr s11))
        else
         some (.inl (w64 (s11 + 1)))
       else
        some (.inr (.inl ()))) 0).bind (Sum.elim (λ(p15:Unit) =>
     some (-1)) some)).bind λ(p16:Int) =>
    bif !(decide (p16>=0)) then
     some (.inr (.inr (s7.2,0)))
    else
     bif decide (s7.2 = 20) then
      some (.inr (.inr (0,12)))
     else
      (drive_rig_round x1.1 a1 s7.1).bind λx17 =>
      bif !(decide (x17.2 = 0)) then
       some (.inr (.inr (0,x17.2)))
      else
       some (.inl (x17.1,w64 (s7.2 + 1)))) (a2,0)).bind (Sum.elim (λ(p18:Unit) =>
  some (0,0)) some)
def e_drive_ReachedIn:Entry:=⟨23,[.ty (.pair (.sl (.sl gT)) (.pair (.sl (.sl gT)) (.pair I gT))),.ty (.sl gT),.ty (.sl gT),.ty I],[(I,0),(I,0)],λx=>drive_ReachedIn x.1 x.2.1 x.2.2.1 x.2.2.2⟩
def j_drive_ReachedIn:TH:=mkTH [([],23,.block 0,{ lv:=[],ps:=[],abn:=true,D:=⟨0⟩ }),
 ([],23,.loop 0,{ lv:=[⟨none,2,0⟩,⟨none,12,0⟩],ps:=[((.sl gT),2000),(I,0)],D:=⟨1152921502459394052⟩,rs:=[⟨0,4⟩,⟨0,7⟩],Dn:=⟨1152919294846203908⟩ }),
 ([7,42],156,.inl 0,{ lv:=[⟨none,4,0⟩],ps:=[(I,0)],D:=⟨524272⟩,rs:=[⟨0,7⟩],Dn:=⟨522224⟩ }),
 ([7,42],156,.block 0,{ lv:=[],ps:=[],abn:=true,D:=⟨524064⟩ }),
 ([7,42],156,.loop 0,{ lv:=[⟨none,8,0⟩],ps:=[(I,0)],D:=⟨524064⟩,rs:=[⟨0,7⟩],Dn:=⟨522016⟩ })] [([],23,39)]
theorem k_drive_ReachedIn:KT e_drive_ReachedIn j_drive_ReachedIn [e_drive_first,e_drive_openRounds,e_drive_response,e_drive_rig_round,e_drive_unless,e_drive_whole_isSized,e_drive_whole_minus,e_drive_within,e_slices_Collect_2_drive_whole_of_drive_pairs_1] 40:=λx=>by kernel_rfl
theorem o_drive_ReachedIn:OT e_drive_ReachedIn:=entK (tab_cons o_drive_first (tab_cons o_drive_openRounds (tab_cons o_drive_response (tab_cons o_drive_rig_round (tab_cons o_drive_unless (tab_cons o_drive_whole_isSized (tab_cons o_drive_whole_minus (tab_cons o_drive_within (tab_cons o_slices_Collect_2_drive_whole_of_drive_pairs_1 tab_nil))))))))) hJ k_drive_ReachedIn
def ref04_Next (a0:((List (List (Int × Int × Unit))) × (List (List (Int × Int × Unit))) × Int × Int × Int × Unit)) (a1:(List (Int × Int × Unit))) (a2:(List (Int × Int × Unit))):Option ((List (Int × Int × Unit)) × Bool) :=
 (ref04_Correction a0 a1 a2).bind λx1 =>
 (loopO (λ(s4:((List (Int × Int × Unit)) × Int)) =>
   bif decide (s4.2 < (a2.length:Int)) then
    (idx a2 s4.2).bind λx5 =>
    (idx x1 s4.2).bind λx6 =>
    (base_GAdd x5 x6).bind λx7 =>
    (app s4.1 ([x7])).bind λx8 =>
    some (.inl (x8,w64 (s4.2 + 1)))
   else
    some (.inr s4.1)) ([],0)).bind λ(p9:(List (Int × Int × Unit))) =>
 (ref04_ListErr p9 (a2.length:Int)).bind λx10 =>
 some (p9,decide (x10 = 0))
def e_ref04_Next:Entry:=⟨106,[.ty (.pair (.sl (.sl gT)) (.pair (.sl (.sl gT)) (.pair I gT))),.ty (.sl gT),.ty (.sl gT)],[((.sl gT),0),(.bool,0)],λx=>ref04_Next x.1 x.2.1 x.2.2⟩
def j_ref04_Next:TH:=mkTH [([],106,.block 0,{ lv:=[⟨none,9,0⟩],ps:=[((.sl gT),1)],D:=⟨8589903360⟩ }),
 ([],106,.loop 0,{ lv:=[⟨none,9,0⟩,⟨none,10,0⟩],ps:=[((.sl gT),1),(I,0)],D:=⟨8589903360⟩ })] []
theorem k_ref04_Next:KT e_ref04_Next j_ref04_Next [e_base_GAdd,e_ref04_Correction,e_ref04_ListErr] 40:=λx=>by kernel_rfl
theorem o_ref04_Next:OT e_ref04_Next:=entK (tab_cons o_base_GAdd (tab_cons o_ref04_Correction (tab_cons o_ref04_ListErr tab_nil))) hJ k_ref04_Next
def ref04_Rounds (a0:((List (List (Int × Int × Unit))) × (List (List (Int × Int × Unit))) × Int × Int × Int × Unit)) (a1:(List (Int × Int × Unit))) (a2:(List (Int × Int × Unit))) (a3:Int):Option ((List (List (Int × Int × Unit))) × Bool) :=
 (loopO (λ(s3:((List (Int × Int × Unit)) × (List (List (Int × Int × Unit))) × Int)) =>
   bif decide (s3.2.2 < a3) then
    (ref04_Next a0 a1 s3.1).bind λx4 =>
    bif !x4.2 then
     some (.inr (.inr ([],false)))
    else
     (app s3.2.1 ([x4.1])).bind λx5 =>
     some (.inl (x4.1,x5,w64 (s3.2.2 + 1)))
   else
    some (.inr (.inl s3.2.1))) (a2,[],0)).bind (Sum.elim (λ(p6:(List (List (Int × Int × Unit)))) =>
 some (p6,true)) some)
def e_ref04_Rounds:Entry:=⟨25,[.ty (.pair (.sl (.sl gT)) (.pair (.sl (.sl gT)) (.pair I gT))),.ty (.sl gT),.ty (.sl gT),.ty I],[((.sl (.sl gT)),1),(.bool,0)],λx=>ref04_Rounds x.1 x.2.1 x.2.2.1 x.2.2.2⟩
def j_ref04_Rounds:TH:=mkTH [([],25,.block 0,{ lv:=[⟨none,10,0⟩],ps:=[((.sl (.sl gT)),1)],abn:=true,D:=⟨8589933572⟩ }),
 ([],25,.loop 0,{ lv:=[⟨none,2,0⟩,⟨none,10,0⟩,⟨none,11,0⟩],ps:=[((.sl gT),0),((.sl (.sl gT)),1),(I,0)],D:=⟨8589933572⟩ })] []
theorem k_ref04_Rounds:KT e_ref04_Rounds j_ref04_Rounds [e_ref04_Next] 40:=λx=>by kernel_rfl
theorem o_ref04_Rounds:OT e_ref04_Rounds:=entK (tab_cons o_ref04_Next tab_nil) hJ k_ref04_Rounds
def ref04_IsWithin (a0:((List (List (Int × Int × Unit))) × (List (List (Int × Int × Unit))) × Int × Int × Int × Unit)) (a1:(List (Int × Int × Unit))) (a2:(List (Int × Int × Unit))) (a3:Int):Option Bool :=
 (ref04_Left a0 a1 a2).bind λx1 =>
 (loopO (λ(s3:Int) =>
   bif decide (s3 < (x1.length:Int)) then
    (idx x1 s3).bind λx4 =>
    (ref04_isSized x4 a3).bind λx5 =>
    bif !x5 then
     some (.inr (.inr false))
    else
     some (.inl (w64 (s3 + 1)))
   else
    some (.inr (.inl ()))) 0).bind (Sum.elim (λ(p6:Unit) =>
 some true) some)
def e_ref04_IsWithin:Entry:=⟨107,[.ty (.pair (.sl (.sl gT)) (.pair (.sl (.sl gT)) (.pair I gT))),.ty (.sl gT),.ty (.sl gT),.ty I],[(.bool,0)],λx=>ref04_IsWithin x.1 x.2.1 x.2.2.1 x.2.2.2⟩
def j_ref04_IsWithin:TH:=mkTH [([],107,.block 0,{ lv:=[],ps:=[],abn:=true,D:=⟨268403712⟩ }),
 ([],107,.loop 0,{ lv:=[⟨none,10,0⟩],ps:=[(I,0)],D:=⟨268403712⟩ })] []
theorem k_ref04_IsWithin:KT e_ref04_IsWithin j_ref04_IsWithin [e_ref04_Left,e_ref04_isSized] 40:=λx=>by kernel_rfl
theorem o_ref04_IsWithin:OT e_ref04_IsWithin:=entK (tab_cons o_ref04_Left (tab_cons o_ref04_isSized tab_nil)) hJ k_ref04_IsWithin
def ref04_Reached (a0:((List (List (Int × Int × Unit))) × (List (List (Int × Int × Unit))) × Int × Int × Int × Unit)) (a1:(List (Int × Int × Unit))) (a2:(List (Int × Int × Unit))) (a3:Int):Option (Int × Int) :=
 (ref04_IsWithin a0 a1 a2 a3).bind λx1 =>
 bif x1 then
  some (0,0)
 else
  (ref04_Next a0 a1 a2).bind λx2 =>
  bif !x2.2 then
   some (0,22)
  else
   (ref04_IsWithin a0 a1 x2.1 a3).bind λx3 =>
   bif x3 then
    some (1,0)
   else
    (ref04_Next a0 a1 x2.1).bind λx4 =>
    bif !x4.2 then
     some (0,22)
    else
     (ref04_IsWithin a0 a1 x4.1 a3).bind λx5 =>
     bif x5 then
      some (2,0)
     else
      (ref04_Next a0 a1 x4.1).bind λx6 =>
      bif !x6.2 then
       some (0,22)
      else
       (ref04_IsWithin a0 a1 x6.1 a3).bind λx7 =>
       bif x7 then
        some (3,0)
       else
        (ref04_Next a0 a1 x6.1).bind λx8 =>
        bif !x8.2 then
         some (0,22)
        else
         (ref04_IsWithin a0 a1 x8.1 a3).bind λx9 =>
         bif x9 then
          some (4,0)
         else
          (ref04_Next a0 a1 x8.1).bind λx10 =>
          bif !x10.2 then
           some (0,22)
          else
           (ref04_IsWithin a0 a1 x10.1 a3).bind λx11 =>
           bif x11 then
            some (5,0)
           else
            (ref04_Next a0 a1 x10.1).bind λx12 =>
            bif !x12.2 then
             some (0,22)
            else
             (ref04_IsWithin a0 a1 x12.1 a3).bind λx13 =>
             bif x13 then
              some (6,0)
             else
              (ref04_Next a0 a1 x12.1).bind λx14 =>
              bif !x14.2 then
               some (0,22)
              else
               (ref04_IsWithin a0 a1 x14.1 a3).bind λx15 =>
               bif x15 then
                some (7,0)
               else
                (ref04_Next a0 a1 x14.1).bind λx16 =>
                bif !x16.2 then
                 some (0,22)
                else
                 (ref04_IsWithin a0 a1 x16.1 a3).bind λx17 =>
                 bif x17 then
                  some (8,0)
                 else
                  (ref04_Next a0 a1 x16.1).bind λx18 =>
                  bif !x18.2 then
                   some (0,22)
                  else
                   (ref04_IsWithin a0 a1 x18.1 a3).bind λx19 =>
                   bif x19 then
                    some (9,0)
                   else
                    (ref04_Next a0 a1 x18.1).bind λx20 =>
                    bif !x20.2 then
                     some (0,22)
                    else
                     (ref04_IsWithin a0 a1 x20.1 a3).bind λx21 =>
                     bif x21 then
                      some (10,0)
                     else
                      (ref04_Next a0 a1 x20.1).bind λx22 =>
                      bif !x22.2 then
                       some (0,22)
                      else
                       (ref04_IsWithin a0 a1 x22.1 a3).bind λx23 =>
                       bif x23 then
                        some (11,0)
                       else
                        (ref04_Next a0 a1 x22.1).bind λx24 =>
                        bif !x24.2 then
                         some (0,22)
                        else
                         (ref04_IsWithin a0 a1 x24.1 a3).bind λx25 =>
                         bif x25 then
                          some (12,0)
                         else
                          (ref04_Next a0 a1 x24.1).bind λx26 =>
                          bif !x26.2 then
                           some (0,22)
                          else
                           (ref04_IsWithin a0 a1 x26.1 a3).bind λx27 =>
                           bif x27 then
                            some (13,0)
                           else
                            (ref04_Next a0 a1 x26.1).bind λx28 =>
                            bif !x28.2 then
                             some (0,22)
                            else
                             (ref04_IsWithin a0 a1 x28.1 a3).bind λx29 =>
                             bif x29 then
                              some (14,0)
                             else
                              (ref04_Next a0 a1 x28.1).bind λx30 =>
                              bif !x30.2 then
                               some (0,22)
                              else
                               (ref04_IsWithin a0 a1 x30.1 a3).bind λx31 =>
                               bif x31 then
                                some (15,0)
                               else
                                (ref04_Next a0 a1 x30.1).bind λx32 =>
                                bif !x32.2 then
                                 some (0,22)
                                else
                                 (ref04_IsWithin a0 a1 x32.1 a3).bind λx33 =>
                                 bif x33 then
                                  some (16,0)
                                 else
                                  (ref04_Next a0 a1 x32.1).bind λx34 =>
                                  bif !x34.2 then
                                   some (0,22)
                                  else
                                   (ref04_IsWithin a0 a1 x34.1 a3).bind λx35 =>
                                   bif x35 then
                                    some (17,0)
                                   else
                                    (ref04_Next a0 a1 x34.1).bind λx36 =>
                                    bif !x36.2 then
                                     some (0,22)
                                    else
                                     (ref04_IsWithin a0 a1 x36.1 a3).bind λx37 =>
                                     bif x37 then
                                      some (18,0)
                                     else
                                      (ref04_Next a0 a1 x36.1).bind λx38 =>
                                      bif !x38.2 then
                                       some (0,22)
                                      else
                                       (ref04_IsWithin a0 a1 x38.1 a3).bind λx39 =>
                                       bif x39 then
                                        some (19,0)
                                       else
                                        (ref04_Next a0 a1 x38.1).bind λx40 =>
                                        bif !x40.2 then
                                         some (0,22)
                                        else
                                         (ref04_IsWithin a0 a1 x40.1 a3).bind λx41 =>
                                         bif x41 then
                                          some (20,0)
                                         else
                                          some (0,12)
def e_ref04_Reached:Entry:=⟨27,[.ty (.pair (.sl (.sl gT)) (.pair (.sl (.sl gT)) (.pair I gT))),.ty (.sl gT),.ty (.sl gT),.ty I],[(I,0),(I,0)],λx=>ref04_Reached x.1 x.2.1 x.2.2.1 x.2.2.2⟩
def j_ref04_Reached:TH:=mkTH [] []
theorem k_ref04_Reached:KT e_ref04_Reached j_ref04_Reached [e_ref04_IsWithin,e_ref04_Next] 40:=λx=>by kernel_rfl
theorem o_ref04_Reached:OT e_ref04_Reached:=entK (tab_cons o_ref04_IsWithin (tab_cons o_ref04_Next tab_nil)) hJ k_ref04_Reached
def law04_DriveRounds (a0:((List (List (Int × Int × Unit))) × (List (List (Int × Int × Unit))) × Int × Int × Int × Unit)) (a1:((List (Int × Int × Unit)) × (List (Int × Int × Unit)) × Unit)) (a2:(Int × Int × Unit)):Option Bool :=
 (law04_awake).bind λx1 =>
 bif !x1 then
  some false
 else
  ((law04_fewRig a0).bind λx2 =>
   bif !x2 then
    some true
   else
    bif decide ((a1.1.length:Int) > 5) then
     some true
    else
     some (decide ((a1.2.1.length:Int) > 5))).bind λ(p3:Bool) =>
  bif p3 then
   some true
  else
   (ref04_CopyRig a0).bind λx4 =>
   (base_CopyGausses a1.1).bind λx5 =>
   (base_CopyGausses a1.2.1).bind λx6 =>
   (drive_RoundsOf x4 x5 x6 a2.1).bind λx7 =>
   (ref04_CopyRig a0).bind λx8 =>
   (base_CopyGausses a1.1).bind λx9 =>
   (base_CopyGausses a1.2.1).bind λx10 =>
   (drive_ReachedIn x8 x9 x10 a2.2.1).bind λx11 =>
   (ref04_RoundErr a0 a1.1 a1.2.1).bind λx12 =>
   bif !(decide (x12 = 0)) then
    (bif decide (x7.2 = x12) then
      bif decide (x11.2 = x12) then
       bif decide ((x7.1.length:Int) = 0) then
        some (decide (x11.1 = 0))
       else
        some false
      else
       some false
     else
      some false).bind λ(p13:Bool) =>
    some p13
   else
    (base_Within a2.1 (0:Int) (20:Int)).bind λx14 =>
    (bif !x14 then
      (bif !(decide (x7.2 = 2)) then
        some true
       else
        some (!(decide ((x7.1.length:Int) = 0)))).bind λ(p15:Bool) =>
      bif p15 then
       some (.inr false)
      else
       some (.inl ())
     else
      (ref04_Rounds a0 a1.1 a1.2.1 a2.1).bind λx16 =>
      (bif x16.2 then
        bif !(decide (x7.2 = 0)) then
         some true
        else
         (ref04_SameMatrix x7.1 x16.1).bind λx17 =>
         bif !x17 then
          some true
         else
          bif !x16.2 then
           bif !(decide (x7.2 = 22)) then
            some true
           else
            some (!(decide ((x7.1.length:Int) = 0)))
          else
           some false
       else
        bif !x16.2 then
         bif !(decide (x7.2 = 22)) then
          some true
         else
          some (!(decide ((x7.1.length:Int) = 0)))
        else
         some false).bind λ(p18:Bool) =>
      bif p18 then
       some (.inr false)
      else
       some (.inl ())).bind (Sum.elim (λ(p19:Unit) =>
    (base_Within a2.2.1 (0:Int) (10000:Int)).bind λx20 =>
    bif !x20 then
     (bif decide (x11.2 = 2) then
       some (decide (x11.1 = 0))
      else
       some false).bind λ(p21:Bool) =>
     some p21
    else
     (ref04_Reached a0 a1.1 a1.2.1 a2.2.1).bind λx22 =>
     (bif decide (x11.2 = x22.2) then
       some (decide (x11.1 = x22.1))
      else
       some false).bind λ(p23:Bool) =>
     some p23) some)
def e_law04_DriveRounds:Entry:=⟨4,[.ty (.pair (.sl (.sl gT)) (.pair (.sl (.sl gT)) (.pair I gT))),.ty (.pair (.sl gT) (.pair (.sl gT) .unit)),.ty gT],[(.bool,0)],λx=>law04_DriveRounds x.1 x.2.1 x.2.2⟩
def j_law04_DriveRounds:TH:=mkTH [([],4,.region 4,{ lv:=[⟨none,36,0⟩],ps:=[(.bool,0)],D:=⟨137422176256⟩ }),
 ([],4,.region 10,{ lv:=[⟨none,6,0⟩],ps:=[(.bool,0)],D:=⟨19342665539881477118886464⟩ }),
 ([],4,.cond 87,{ lv:=[],ps:=[],abn:=true,D:=⟨340282366920628978453553262363043480064⟩,rs:=[⟨0,5⟩],Dn:=⟨340282366286803678339438561614691877376⟩ }),
 ([],4,.region 12,{ lv:=[⟨none,94,0⟩],ps:=[(.bool,0)],D:=⟨39304596247310823728047194624⟩ }),
 ([],4,.region 15,{ lv:=[⟨none,127,0⟩],ps:=[(.bool,0)],D:=⟨340282346638528859811704183484516941824⟩ }),
 ([],4,.region 18,{ lv:=[⟨none,6,0⟩],ps:=[(.bool,0)],D:=⟨343004625856305971171081604291222357147712⟩ }),
 ([],4,.region 20,{ lv:=[⟨none,6,0⟩],ps:=[(.bool,0)],D:=⟨45493520205002471208732865276202657472200048704⟩ })] []
theorem k_law04_DriveRounds:KT e_law04_DriveRounds j_law04_DriveRounds [e_base_CopyGausses,e_base_Within,e_drive_ReachedIn,e_drive_RoundsOf,e_law04_awake,e_law04_fewRig,e_ref04_CopyRig,e_ref04_Reached,e_ref04_RoundErr,e_ref04_Rounds,e_ref04_SameMatrix] 40:=λx=>by kernel_rfl
theorem o_law04_DriveRounds:OT e_law04_DriveRounds:=entK (tab_cons o_base_CopyGausses (tab_cons o_base_Within (tab_cons o_drive_ReachedIn (tab_cons o_drive_RoundsOf (tab_cons o_law04_awake (tab_cons o_law04_fewRig (tab_cons o_ref04_CopyRig (tab_cons o_ref04_Reached (tab_cons o_ref04_RoundErr (tab_cons o_ref04_Rounds (tab_cons o_ref04_SameMatrix tab_nil))))))))))) hJ k_law04_DriveRounds
end
end Go.Proofs.YtbcdgfgacigaoaaGreat
end
section
namespace Go.Proofs.YtbcdgfgacigaoaaGreat.Mat
open Go Go.Ab Go.Tx Go.Proofs.YtbcdgfgacigaoaaGreat
theorem wid {n:Int} (h1 : -9223372036854775808<=n) (h2:n<=9223372036854775807):w64 n = n:=wrap_id h1 h2
theorem Within_ok (a b c:Int):base_Within a b c = some (decide (b<=a/\a<=c)):=by
 unfold base_Within;by_cases h:b<=a <;> simp [h]
theorem within_ok (a b c:Int):drive_within a b c = some (decide (b<=a/\a<=c)):=by
 unfold drive_within;by_cases h:b<=a <;> simp [h]
theorem isSized_ok (a k:Int) (h0:0<=k) (h1:k<=4611686018427387904):drive_isSized a k = some (decide (-k<=a/\a<=k)):=by
 unfold drive_isSized;rw [within_ok,wid (by omega) (by omega)];simp
theorem unless_eq (b:Bool) (e:Int):drive_unless b e = some (if b then 0 else e):=by cases b <;> rfl
theorem first_eq (l:List Int) (h:l.length<=1000000000):drive_first l = some (fst0 l):=by
 unfold drive_first;rw [for_first l h]
instance (B:Int) (z:G):Decidable (Bd B z):=inferInstanceAs (Decidable (_/\_))
theorem whole_isSized_ok (z:G) (k:Int) (h0:0<=k) (h1:k<=4611686018427387904):drive_whole_isSized z k = some (decide (Bd k z)):=by
 unfold drive_whole_isSized;rw [isSized_ok _ _ h0 h1,isSized_ok _ _ h0 h1];unfold Bd;by_cases c : -k<=z.1/\z.1<=k <;> simp [c]
theorem refIsSized_ok (z:G) (k:Int) (h0:0<=k) (h1:k<=4611686018427387904):ref04_isSized z k = some (decide (Bd k z)):=by
 unfold ref04_isSized;rw [wid (by omega) (by omega),Within_ok,Within_ok];unfold Bd;have e:(0:Int) - k = -k:=by omega
 rw [e];by_cases c : -k<=z.1/\z.1<=k <;> simp [c]
def badZ (B:Int) (z:G):Bool:=!(decide (Bd B z))
def rowE (n:Nat) (i:Nat) (r:List G):Option (Int × Int):=if r.length = n then (if r.any (badZ 20) then some ((i:Int),2) else none) else some ((i:Int),10)
def chkM (m:Mx):Int × Int:=if m.length = 0 then (0,10) else if 3 < m.length then (0,8) else (findI (rowE m.length) 0 m).getD (0,0)
def matE (m:Mx):Int:=(chkM m).2
theorem contains_ok (r:List G) (h:r.length<=1000000000):slices_ContainsFunc_Lapi_Gauss_api_Gauss_of_drive_CheckMatrix_1 r = some (r.any (badZ 20)):=by
 unfold slices_ContainsFunc_Lapi_Gauss_api_Gauss_of_drive_CheckMatrix_1 slices_IndexFunc_Lapi_Gauss_api_Gauss_of_drive_CheckMatrix_1;refine for_any r drive_CheckMatrix_1 (badZ 20) (λx _=>?_) h;unfold drive_CheckMatrix_1;rw [whole_isSized_ok _ _ (by omega) (by omega)]; rfl
theorem CheckMatrix_ok {m:Mx} (h:m.length<=1000000000) (hr:∀ r ∈ m,r.length<=1000000000):drive_CheckMatrix m = some (chkM m):=by
 unfold drive_CheckMatrix chkM;simp only [unless_eq,Option.bind_some];rw [first_eq _ (by simp)];simp only [Option.bind_some];by_cases h0:m.length = 0
 ·have h0':¬ ((m.length:Int) > 0):=by omega
  simp [h0,fst0]
 ·have h0':(m.length:Int) > 0:=by omega
  by_cases h4:3 < m.length
  ·have h4':¬ ((m.length:Int)<=3):=by omega
   simp [h0,h0',h4,h4',fst0]
  ·have h4':(m.length:Int)<=3:=by omega
   simp only [h0,h0',h4,h4',decide_true,if_true,if_false,fst0,Bool.not_true,cond_false];rw [for_find m _ (rowE m.length) (λi r hi=>?_),elim_toSum]
   ·cases findI (rowE m.length) 0 m <;> rfl
   ·have hlt:=len_lt hi;rw [idx_of hi];simp only [Option.bind_some];rw [contains_ok r (hr r (List.mem_of_getElem? hi))];simp only [Option.bind_some];rw [first_eq _ (by simp),wid (by omega) (by omega)];simp only [Option.bind_some];unfold rowE;by_cases c:r.length = m.length
    ·have c':(r.length:Int) = (m.length:Int):=by omega
     cases hb:r.any (badZ 20)
     ·simp [c,c',hb,fst0,stp]
     ·simp [c,c',hb,fst0,stp]
    ·have c':¬ (r.length:Int) = (m.length:Int):=by omega
     simp [c,c',fst0,stp]
theorem refCheckMatrix_ok {m:Mx} (h:m.length<=1000000000) (hr:∀ r ∈ m,r.length<=1000000000):ref04_CheckMatrix m = some (chkM m):=by
 unfold ref04_CheckMatrix chkM;by_cases h0:m.length = 0
 ·simp [h0]
 have h0':¬ ((m.length:Int) = 0):=by omega
 by_cases h4:3 < m.length
 ·have h4':(m.length:Int) > 3:=by omega
  simp [h0,h0',h4,h4']
 have h4':¬ ((m.length:Int) > 3):=by omega
 simp only [h0,h0',h4,h4',decide_false,cond_false,if_false];rw [for_find m _ (rowE m.length) (λi r hi=>?_),elim_toSum]
 ·cases findI (rowE m.length) 0 m <;> rfl
 ·have hlt:=len_lt hi;have hrl:=hr r (List.mem_of_getElem? hi);rw [idx_of hi];simp only [Option.bind_some];unfold rowE;by_cases c:r.length = m.length
  case neg =>
   have c':¬ (r.length:Int) = (m.length:Int):=by omega
   simp [c,c',stp]
  have c':decide ((r.length:Int) = (m.length:Int)) = true:=decide_eq_true (by omega);simp only [c',Bool.not_true,cond_false];rw [if_pos c];rw [for_find r _ (λ_ z=>if badZ 20 z then some (Sum.inr (Sum.inr ((i:Int),(2:Int))):Int ⊕ (Unit ⊕ (Int × Int))) else none) (λk z hk=>?_),elim_toSum]
  ·cases hf:findI (λ_ z=>if badZ 20 z then some (Sum.inr (Sum.inr ((i:Int),(2:Int))):Int ⊕ (Unit ⊕ (Int × Int))) else none) 0 r with
   | none =>
    rw [findI_none] at hf;have hb:r.any (badZ 20) = false:=by
     rw [List.any_eq_false];intro x hx;obtain ⟨k,hk⟩:=List.mem_iff_getElem?.1 hx;have:=hf k x hk;simpa using this
    simp only [hb,Bool.false_eq_true,if_false,stp];rw [wid (by omega) (by omega)]
   | some q =>
    obtain ⟨k,z,h1,h2,_⟩:=findI_some hf;have hp:badZ 20 z = true:=by
     cases hp:badZ 20 z
     ·simp [hp] at h2
     ·rfl
    have hb:r.any (badZ 20) = true:=List.any_eq_true.2 ⟨z,List.mem_of_getElem? h1,hp⟩;simp only [hp,if_true,Option.some.injEq] at h2;simp only [hb,if_true,stp,<- h2]
  ·have hlk:=len_lt hk;simp only [Option.bind_some,idx_of hk];rw [refIsSized_ok _ _ (by omega) (by omega)];simp only [Option.bind_some];rw [wid (by omega) (by omega)];unfold badZ;by_cases d:Bd 20 z <;> simp [d,stp]
theorem matrixErr_ok {m:Mx} (h:m.length<=1000000000) (hr:∀ r ∈ m,r.length<=1000000000):drive_matrixErr m = some (matE m):=by
 unfold drive_matrixErr; rw [CheckMatrix_ok h hr]; rfl
theorem MatrixErr_ok {m:Mx} (h:m.length<=1000000000) (hr:∀ r ∈ m,r.length<=1000000000):ref04_MatrixErr m = some (matE m):=by
 unfold ref04_MatrixErr; rw [refCheckMatrix_ok h hr]; rfl
theorem mat_ok {m:Mx} (h:matE m = 0):1<=m.length/\m.length<=3/\Rect m.length m.length m/\BdM 20 m:=by
 unfold matE chkM at h;split at h
 ·cases h
 ·rename_i h1;split at h
  ·cases h
  ·rename_i h2;have hn:findI (rowE m.length) 0 m = none:=by
    cases hf:findI (rowE m.length) 0 m with
    | none=>rfl
    | some r =>
     exfalso
     rw [hf] at h;obtain ⟨i,a,_,h3,_⟩:=findI_some hf;unfold rowE at h3;split at h3
     ·split at h3
      ·cases h3; cases h
      ·cases h3
     ·cases h3; cases h
   rw [findI_none] at hn;have key:∀ r ∈ m,r.length = m.length/\r.any (badZ 20) = false:=λr hr=>by
    obtain ⟨i,hi⟩:=List.mem_iff_getElem?.1 hr;have:=hn i r hi;unfold rowE at this;split at this
    ·rename_i c;split at this
     ·cases this
     ·rename_i d; exact ⟨c,by simpa using d⟩
    ·cases this
   refine ⟨by omega,by omega,⟨rfl,λr hr=>(key r hr).1⟩,λr hr z hz=>?_⟩;have:=List.any_eq_false.1 (key r hr).2 z hz;unfold badZ at this;simpa using this
theorem at_ok {n c i k:Nat} (f:Nat->Nat->G) (hi:i < n) (hk:k < c):drive_matrix_at (mx n c f) (i:Int) (k:Int) = some (f i k):=by
 unfold drive_matrix_at;rw [idx_of (mx_at f hi),Option.bind_some,idx_of (mkL_get (λk=>f i k) hk)]; rfl
theorem times_ok' {A B:Int} {a b:G} (h:Bd A a) (h':Bd B b) (hb:2 * (A * B)<=9000000000000000000):drive_whole_times a b = some (gmul a b):=congrArg some (mul_w h h' hb)
theorem plus_ok {A B:Int} {a b:G} (h:Bd A a) (h':Bd B b) (hb:A + B<=9000000000000000000):drive_whole_plus a b = some (gadd a b):=congrArg some (add_w h h' hb)
theorem GMul_ok {A B:Int} {a b:G} (h:Bd A a) (h':Bd B b) (hb:2 * (A * B)<=9000000000000000000):base_GMul a b = some (gmul a b):=congrArg some (mul_w h h' hb)
theorem GAdd_ok {A B:Int} {a b:G} (h:Bd A a) (h':Bd B b) (hb:A + B<=9000000000000000000):base_GAdd a b = some (gadd a b):=congrArg some (add_w h h' hb)
theorem le_next {i n:Nat} {A:Int} (hA:0<=A) (h:i < n) (hb:(n:Int) * A<=9000000000000000000):(i:Int) * A + A<=9000000000000000000:=by
 have:((i + 1:Nat):Int) * A<=(n:Int) * A:=Int.mul_le_mul_of_nonneg_right (by omega) hA;have e:((i + 1:Nat):Int) * A = (i:Int) * A + A:=by rw [Int.natCast_add,Int.add_mul]; simp
 omega
theorem without_ok {n c:Nat} (hn:n<=1000) (f:Nat->Nat->G) (hc:c < n + 1):drive_matrix_without (mx (n + 1) (n + 1) f) 0 (c:Int) = some (mx n n (minor f 0 c)):=by
 unfold drive_matrix_without;rw [mx_len];refine Ok.eq ?_;rw [ok_bind];refine (loop_up (n + 1) (λi (s:Mx × Int)=>s = (mkL (i - 1) (λj=>mkL n λk=>minor f 0 c j k),(i:Int))) (λr=>r = mx n n (minor f 0 c)) rfl ?_).mono (λa ha=>by rw [ha]; exact ok_some.2 rfl);rintro i s hi rfl;by_cases hlt:i < n + 1
 ·have e0:decide ((i:Int) < ((n + 1:Nat):Int)) = true:=decide_eq_true (by omega);simp only [e0,cond_true];rw [idx_of (mx_at f hlt)];simp only [Option.bind_some];by_cases hz:i = 0
  ·subst hz;simp only [Int.ofNat_eq_natCast,Int.natCast_zero,decide_true,Bool.not_true,cond_false,Option.bind_some];rw [wid (by omega) (by omega),rnd_inl];exact ⟨by omega,rfl⟩
  ·have e1:decide ((i:Int) = 0) = false:=decide_eq_false (by omega);simp only [e1,Bool.not_false,cond_true];rw [slc_in (by rw [mkL_len]; omega)];simp only [Option.bind_some,decide_true,cond_true];rw [wid (n:=(c:Int) + 1) (by omega) (by omega),slc_in (by rw [mkL_len]; omega)];simp only [Option.bind_some,mkL_len];have e2:((c:Int) + 1).toNat = c + 1:=by omega
   have e3:((n + 1:Nat):Int).toNat = n + 1:=by omega
   have e4:(0:Int).toNat = 0:=rfl;rw [e2,e3,e4,Int.toNat_natCast,app_in (by simp [mkL_len]; omega)];simp only [Option.bind_some];rw [mkL_cut (λk=>f i k) hc,app_one (by rw [mkL_len]; omega)];simp only [Option.bind_some];rw [wid (by omega) (by omega),rnd_inl];refine ⟨hlt,?_⟩;have e5:i + 1 - 1 = (i - 1) + 1:=by omega
   rw [e5,mkL_succ];congr 1
   congr 2
   refine mkL_congr λk hk=>?_;unfold minor;congr 1
   all_goals (unfold skip; rw [if_neg (by omega)]; omega)
 ·have:i = n + 1:=by omega
  subst this;have e0:decide (((n + 1:Nat):Int) < ((n + 1:Nat):Int)) = false:=by simp
  simp only [e0,cond_false];rw [rnd_inr];rfl
theorem refWithout_ok {n c:Nat} (hn:n<=1000) (f:Nat->Nat->G) (hc:c < n + 1):ref04_without (mx (n + 1) (n + 1) f) 0 (c:Int) = some (mx n n (minor f 0 c)):=by
 unfold ref04_without;rw [mx_len];refine Ok.eq ?_;rw [ok_bind];refine (loop_up (n + 1) (λi (s:Mx × Int)=>s = (mkL (i - 1) (λj=>mkL n λk=>minor f 0 c j k),(i:Int))) (λr=>r = mx n n (minor f 0 c)) rfl ?_).mono (λa ha=>by rw [ha]; exact ok_some.2 rfl);rintro i s hi rfl;by_cases hlt:i < n + 1
 ·have e0:decide ((i:Int) < ((n + 1:Nat):Int)) = true:=decide_eq_true (by omega);simp only [e0,cond_true];by_cases hz:i = 0
  ·subst hz;simp only [Int.ofNat_eq_natCast,Int.natCast_zero,decide_true,cond_true,Option.bind_some];rw [wid (by omega) (by omega),rnd_inl];exact ⟨by omega,rfl⟩
  ·have e1:decide ((i:Int) = 0) = false:=decide_eq_false (by omega);simp only [e1,cond_false];rw [rnd_bind,ok_bind];refine (loop_up (n + 1) (λk (s:List G × Int)=>s = (mkL (if k<=c then k else k - 1) (λk=>f i (skip c k)),(k:Int))) (λr=>r = mkL n λk=>f i (skip c k)) ?_ ?_).mono ?_
   ·simp [mkL_zero]
   ·rintro k s hk rfl;by_cases hlt2:k < n + 1
    ·have e2:decide ((k:Int) < ((n + 1:Nat):Int)) = true:=decide_eq_true (by omega);simp only [e2,cond_true];by_cases hkc:k = c
     ·subst hkc;simp only [decide_true,Bool.not_true,cond_false,Option.bind_some];rw [wid (by omega) (by omega),rnd_inl];refine ⟨hlt2,?_⟩;rw [if_pos (by omega),if_neg (by omega)];rfl
     ·have e3:decide ((k:Int) = (c:Int)) = false:=decide_eq_false (by omega);simp only [e3,Bool.not_false,cond_true];rw [idx_of (mx_at f hlt)];simp only [Option.bind_some];rw [idx_of (mkL_get (λk=>f i k) hlt2)];simp only [Option.bind_some];rw [app_one (by rw [mkL_len]; split <;> omega)];simp only [Option.bind_some];rw [wid (by omega) (by omega),rnd_inl];refine ⟨hlt2,?_⟩;congr 1
      by_cases hkl:k < c
      ·rw [if_pos (by omega),if_pos (by omega),mkL_succ];congr 3
       unfold skip; rw [if_pos hkl]
      ·rw [if_neg (by omega),if_neg (by omega)];have e5:k + 1 - 1 = (k - 1) + 1:=by omega
       rw [e5,mkL_succ];congr 3
       unfold skip; rw [if_neg (by omega)]; omega
    ·have:k = n + 1:=by omega
     subst this;have e2:decide (((n + 1:Nat):Int) < ((n + 1:Nat):Int)) = false:=by simp
     simp only [e2,cond_false];rw [rnd_inr,if_neg (by omega)];rfl
   ·rintro r rfl;rw [app_one (by rw [mkL_len]; omega)];simp only [Option.bind_some];rw [ok_some,wid (by omega) (by omega),rnd_inl];refine ⟨hlt,?_⟩;have e5:i + 1 - 1 = (i - 1) + 1:=by omega
    rw [e5,mkL_succ];congr 1
    congr 2
    refine mkL_congr λk hk=>?_;unfold minor;congr 1
    all_goals (unfold skip; rw [if_neg (by omega)]; omega)
 ·have:i = n + 1:=by omega
  subst this;have e0:decide (((n + 1:Nat):Int) < ((n + 1:Nat):Int)) = false:=by simp
  simp only [e0,cond_false];rw [rnd_inr];rfl
theorem dB_mono {B:Int} (hB:1<=B) (n:Nat):dB B n<=dB B (n + 1):=by
 have e:dB B (n + 1) = ((n + 1:Nat):Int) * (2 * (B * dB B n)):=rfl;rw [e];have h0:=dB_nonneg (show 0<=B by omega) n;have h1:dB B n<=B * dB B n:=by
  have:=Int.mul_le_mul_of_nonneg_right hB h0; omega
 have h2:(1:Int) * (2 * (B * dB B n))<=((n + 1:Nat):Int) * (2 * (B * dB B n)):=Int.mul_le_mul_of_nonneg_right (by omega) (by omega);omega
theorem det_ok {B:Int} (hB:1<=B):∀ (k n:Nat) (f:Nat->Nat->G),n<=100->n < k->BdF B n n f->dB B n<=9000000000000000000->drive_matrix_determinant_n k (mx n n f) = some (detF n f)
 | 0,n,f,_,h,_,_=>by omega
 | k + 1,0,f,_,_,_,_=>rfl
 | k + 1,n + 1,f,hn,hk,hf,hb=>by
  have hB0:0<=B:=by omega
  have hD0:=dB_nonneg hB0 n;have h0:0<=2 * (B * dB B n):=by have:=Int.mul_nonneg hB0 hD0; omega
  have hDn:dB B n<=9000000000000000000:=by have:=dB_mono hB n; omega
  have hb1:2 * (B * dB B n)<=9000000000000000000:=by
   have h9:(1:Int) * (2 * (B * dB B n))<=((n + 1:Nat):Int) * (2 * (B * dB B n)):=Int.mul_le_mul_of_nonneg_right (by omega) h0;simp only [dB] at hb;omega
  have hunf:drive_matrix_determinant_n (k + 1) (mx (n + 1) (n + 1) f) = (bif decide (((mx (n + 1) (n + 1) f).length:Int) = 0) then some (1,0,()) else
   (loopO (λ(s2:(Int × Int × Int)) =>
    bif decide (s2.1 < ((mx (n + 1) (n + 1) f).length:Int)) then
     (drive_matrix_at (mx (n + 1) (n + 1) f) (0:Int) s2.1).bind λx3 =>
     (drive_matrix_without (mx (n + 1) (n + 1) f) (0:Int) s2.1).bind λx4 =>
     (drive_matrix_determinant_n k x4).bind λx5 =>
     (drive_whole_times x3 x5).bind λx6 =>
     (bif decide (s2.1.tmod 2 = 1) then
       (drive_whole_minus (0,0,()) x6).bind λx7 =>
       some (x7.1,x7.2.1)
      else
       some (x6.1,x6.2.1)).bind λ(p8:(Int × Int)) =>
     (drive_whole_plus (s2.2.1,s2.2.2,()) (p8.1,p8.2,())).bind λx9 =>
     some (.inl (w64 (s2.1 + 1),x9.1,x9.2.1))
    else
     some (.inr (s2.2.1,s2.2.2))) (0,0,0)).bind λ(p10:(Int × Int)) =>
   some (p10.1,p10.2,())):=rfl
  rw [hunf,mx_len];have e0:decide (((n + 1:Nat):Int) = 0) = false:=decide_eq_false (by omega);rw [e0,cond_false];have htb:∀ j,j < n + 1->Bd (2 * (B * dB B n)) (gmul (f 0 j) (detF n (minor f 0 j))):=λj hj=>(hf 0 j (by omega) hj).mul (detF_bd hB0 n _ (minor_bd hf));rw [sum_loop (n + 1) (by omega) h0 hb (λj=>if j % 2 = 1 then gneg (gmul (f 0 j) (detF n (minor f 0 j))) else gmul (f 0 j) (detF n (minor f 0 j)))
   (λj hj=>by
           split; · exact (htb j hj).neg
           ·exact htb j hj) (λj hj x y hxy=>?_) (λx y=>?_)]
  ·rfl
  ·have e1:decide ((j:Int) < ((n + 1:Nat):Int)) = true:=decide_eq_true (by omega);simp only [e1,cond_true];have hat:=at_ok (n:=n + 1) (c:=n + 1) f (i:=0) (k:=j) (by omega) hj;simp only [Int.natCast_zero] at hat;rw [hat];simp only [Option.bind_some];rw [without_ok (by omega) f hj];simp only [Option.bind_some];rw [det_ok hB k n _ (by omega) (by omega) (minor_bd hf) hDn];simp only [Option.bind_some];rw [times_ok' (hf 0 j (by omega) hj) (detF_bd hB0 n _ (minor_bd (r:=0) (c:=j) hf)) hb1];simp only [Option.bind_some];have htm:(j:Int).tmod 2 = ((j % 2:Nat):Int):=by rw [Int.tmod_eq_emod_of_nonneg (by omega)]; omega
   rw [htm];by_cases hp:j % 2 = 1
   ·have e2:decide (((j % 2:Nat):Int) = 1) = true:=decide_eq_true (by omega);rw [e2,cond_true,if_pos hp];have hm:drive_whole_minus (0,0,()) (gmul (f 0 j) (detF n (minor f 0 j))) = some (gneg (gmul (f 0 j) (detF n (minor f 0 j)))):=by
     have:=sub_w (a:=g0) (bd_zero (B:=0) (by omega)) (htb j hj) (by omega);rw [gzero_sub] at this;exact congrArg some this
    rw [hm];simp only [Option.bind_some,geta];rw [plus_ok hxy (htb j hj).neg (le_next h0 hj hb)];rfl
   ·have e2:decide (((j % 2:Nat):Int) = 1) = false:=decide_eq_false (by omega);rw [e2,cond_false,if_neg hp];simp only [Option.bind_some,geta];rw [plus_ok hxy (htb j hj) (le_next h0 hj hb)];rfl
  ·have e1:decide (((n + 1:Nat):Int) < ((n + 1:Nat):Int)) = false:=by simp
   simp only [e1,cond_false]
theorem Mod2_ok (n:Nat) (h:n<=1000000000):base_Mod (n:Int) 2 = some ((n % 2:Nat):Int):=by
 unfold base_Mod;have e:((n:Int).tmod 2) = ((n % 2:Nat):Int):=by rw [Int.tmod_eq_emod_of_nonneg (by omega)]; omega
 rw [e];have e1:decide ((2:Int) = 0) = false:=by decide
 have e2:decide (((n % 2:Nat):Int) < 0) = false:=decide_eq_false (by omega);simp only [e1,e2,cond_false,Option.bind_some]
theorem refDet_ok {B:Int} (hB:1<=B):∀ (k n:Nat) (f:Nat->Nat->G),n<=100->n < k->BdF B n n f->dB B n<=9000000000000000000->ref04_Determinant_n k (mx n n f) = some (detF n f)
 | 0,n,f,_,h,_,_=>by omega
 | k + 1,0,f,_,_,_,_=>rfl
 | k + 1,n + 1,f,hn,hk,hf,hb=>by
  have hB0:0<=B:=by omega
  have hD0:=dB_nonneg hB0 n;have h0:0<=2 * (B * dB B n):=by have:=Int.mul_nonneg hB0 hD0; omega
  have hDn:dB B n<=9000000000000000000:=by have:=dB_mono hB n; omega
  have hb1:2 * (B * dB B n)<=9000000000000000000:=by
   have h9:(1:Int) * (2 * (B * dB B n))<=((n + 1:Nat):Int) * (2 * (B * dB B n)):=Int.mul_le_mul_of_nonneg_right (by omega) h0;simp only [dB] at hb;omega
  have hunf:ref04_Determinant_n (k + 1) (mx (n + 1) (n + 1) f) = (bif decide (((mx (n + 1) (n + 1) f).length:Int) = 0) then some (1,0,()) else
   (loopO (λ(s2:(Int × Int × Int)) =>
    bif decide (s2.1 < ((mx (n + 1) (n + 1) f).length:Int)) then
     (idx (mx (n + 1) (n + 1) f) 0).bind λx3 =>
     (idx x3 s2.1).bind λx4 =>
     (ref04_without (mx (n + 1) (n + 1) f) (0:Int) s2.1).bind λx5 =>
     (ref04_Determinant_n k x5).bind λx6 =>
     (base_GMul x4 x6).bind λx7 =>
     (base_Mod s2.1 (2:Int)).bind λx8 =>
     (bif decide (x8 = 0) then
       (base_GAdd (s2.2.1,s2.2.2,()) x7).bind λx9 =>
       some (x9.1,x9.2.1)
      else
       (base_GSub (s2.2.1,s2.2.2,()) x7).bind λx10 =>
       some (x10.1,x10.2.1)).bind λ(p11:(Int × Int)) =>
     some (.inl (w64 (s2.1 + 1),p11.1,p11.2))
    else
     some (.inr (s2.2.1,s2.2.2))) (0,0,0)).bind λ(p12:(Int × Int)) =>
   some (p12.1,p12.2,())):=rfl
  rw [hunf,mx_len];have e0:decide (((n + 1:Nat):Int) = 0) = false:=decide_eq_false (by omega);rw [e0,cond_false];have htb:∀ j,j < n + 1->Bd (2 * (B * dB B n)) (gmul (f 0 j) (detF n (minor f 0 j))):=λj hj=>(hf 0 j (by omega) hj).mul (detF_bd hB0 n _ (minor_bd hf));rw [sum_loop (n + 1) (by omega) h0 hb (λj=>if j % 2 = 1 then gneg (gmul (f 0 j) (detF n (minor f 0 j))) else gmul (f 0 j) (detF n (minor f 0 j)))
   (λj hj=>by
           split; · exact (htb j hj).neg
           ·exact htb j hj) (λj hj x y hxy=>?_) (λx y=>?_)]
  ·rfl
  ·have e1:decide ((j:Int) < ((n + 1:Nat):Int)) = true:=decide_eq_true (by omega);simp only [e1,cond_true];rw [idx_zero,mx_at f (by omega)];simp only [Option.bind_some];rw [idx_of (mkL_get (λk=>f 0 k) hj)];simp only [Option.bind_some];rw [refWithout_ok (by omega) f hj];simp only [Option.bind_some];rw [refDet_ok hB k n _ (by omega) (by omega) (minor_bd hf) hDn];simp only [Option.bind_some];rw [GMul_ok (hf 0 j (by omega) hj) (detF_bd hB0 n _ (minor_bd (r:=0) (c:=j) hf)) hb1];simp only [Option.bind_some];rw [Mod2_ok j (by omega)];simp only [Option.bind_some];by_cases hp:j % 2 = 1
   ·have e2:decide (((j % 2:Nat):Int) = 0) = false:=decide_eq_false (by omega);rw [e2,cond_false,if_pos hp];have hm:base_GSub (x,y,()) (gmul (f 0 j) (detF n (minor f 0 j))) = some (gadd (x,y,()) (gneg (gmul (f 0 j) (detF n (minor f 0 j))))):=by
     have:=sub_w hxy (htb j hj) (le_next h0 hj hb);rw [gsub_eq] at this;exact congrArg some this
    rw [hm];rfl
   ·have e2:decide (((j % 2:Nat):Int) = 0) = true:=decide_eq_true (by omega);rw [e2,cond_true,if_neg hp];rw [GAdd_ok hxy (htb j hj) (le_next h0 hj hb)];rfl
  ·have e1:decide (((n + 1:Nat):Int) < ((n + 1:Nat):Int)) = false:=by simp
   simp only [e1,cond_false]
end Go.Proofs.YtbcdgfgacigaoaaGreat.Mat
end
section
namespace Go.Proofs.YtbcdgfgacigaoaaGreat.Mat
open Go Go.Ab Go.Tx Go.Proofs.YtbcdgfgacigaoaaGreat
theorem CopyGausses_ok {l:List G} (h:l.length<=1000000000):base_CopyGausses l = some l:=by
 unfold base_CopyGausses; rw [app_nil (by omega)]; rfl
theorem CopyMatrix_ok {m:Mx} (h:m.length<=1000000000) (hr:∀ r ∈ m,r.length<=1000000000):ref04_CopyMatrix m = some m:=by
 unfold ref04_CopyMatrix;rw [for_map m (λr=>r) (λi a out hi ho=>?_) (λout ho=>?_)]
 ·simp
 ·have hlt:=len_lt hi;have e0:decide ((i:Int) < (m.length:Int)) = true:=decide_eq_true (by omega);simp only [e0,cond_true,idx_of hi,Option.bind_some];rw [CopyGausses_ok (hr a (List.mem_of_getElem? hi))];simp only [Option.bind_some];rw [app_one (by omega)];simp only [Option.bind_some];rw [wid (by omega) (by omega)]
 ·have e0:decide ((m.length:Int) < (m.length:Int)) = false:=by simp
  simp only [e0,cond_false]
theorem geq_dec (a b:G):(bif decide (a.1 = b.1) then (bif decide (a.2.1 = b.2.1) then true else false) else false) = decide (a = b):=by
 rw [Bool.eq_iff_iff];rw [decide_eq_true_iff,gext_iff];by_cases h1:a.1 = b.1 <;> by_cases h2:a.2.1 = b.2.1 <;> simp [h1,h2]
theorem Gausses_ok {l m:List G} (hl:l.length<=1000000000):base_Gausses l m = some (decide (l = m)):=by
 unfold base_Gausses;by_cases h:l.length = m.length
 case neg =>
  have d:decide ((l.length:Int) = (m.length:Int)) = false:=decide_eq_false (by omega);rw [d];have:decide (l = m) = false:=decide_eq_false (λe=>h (by rw [e]));rw [this]; rfl
 have d:decide ((l.length:Int) = (m.length:Int)) = true:=decide_eq_true (by omega);rw [d];simp only [Bool.not_true,cond_false];refine ints_loop g0 h hl (λa b=>decide (a = b)) (λa b _ _=>by simp) (K:=_) (λi hi=>?_);rw [idx_in g0 (by omega) (by omega),idx_in g0 (l:=m) (by omega) (by omega)];simp only [Option.bind_some,Int.toNat_natCast];rw [geq_dec,wid (by omega) (by omega)];by_cases c:l.getD i g0 = m.getD i g0
 ·simp only [c,decide_true,Bool.not_true,cond_false,if_true]
 ·simp only [c,decide_false,Bool.not_false,cond_true,Bool.false_eq_true,if_false]
theorem SameMatrix_ok {l m:Mx} (hl:l.length<=1000000000) (hr:∀ r ∈ l,r.length<=1000000000):ref04_SameMatrix l m = some (decide (l = m)):=by
 unfold ref04_SameMatrix;by_cases h:l.length = m.length
 case neg =>
  have d:decide ((l.length:Int) = (m.length:Int)) = false:=decide_eq_false (by omega);rw [d];have:decide (l = m) = false:=decide_eq_false (λe=>h (by rw [e]));rw [this]; rfl
 have d:decide ((l.length:Int) = (m.length:Int)) = true:=decide_eq_true (by omega);rw [d];simp only [Bool.not_true,cond_false];refine ints_loop [] h hl (λa b=>decide (a = b)) (λa b _ _=>by simp) (K:=_) (λi hi=>?_);rw [idx_in [] (by omega) (by omega),idx_in [] (l:=m) (by omega) (by omega)];simp only [Option.bind_some,Int.toNat_natCast];rw [Gausses_ok (hr _ (getD_mem hi)),wid (by omega) (by omega)];simp only [Option.bind_some];by_cases c:l.getD i [] = m.getD i []
 ·simp only [c,decide_true,Bool.not_true,cond_false,if_true]
 ·simp only [c,decide_false,Bool.not_false,cond_true,Bool.false_eq_true,if_false]
def FewM (m:Mx) (rows:Nat):Prop:=m.length<=rows/\∀ r ∈ m,r.length<=5
theorem fewOf_ok (m:Mx) (rows:Nat) (h:rows<=1000):Ok (law04_fewOf m (rows:Int)) λb=>b = true->FewM m rows:=by
 unfold law04_fewOf;by_cases hl:m.length<=rows
 case neg =>
  have d:decide ((m.length:Int) > (rows:Int)) = true:=decide_eq_true (by omega);rw [d,cond_true]; exact ok_some.2 (by simp)
 have d:decide ((m.length:Int) > (rows:Int)) = false:=decide_eq_false (by omega);rw [d,cond_false,for_find m _ (λ_ r=>if r.length<=5 then none else some false) (λi a hi=>?_),elim_toSum]
 ·cases hf:findI (λ_ (r:List G)=>if r.length<=5 then none else some false) 0 m with
  | none =>
   rw [findI_none] at hf;refine ok_some.2 λ_=>⟨hl,λr hr=>?_⟩
   obtain ⟨i,hi⟩:=List.mem_iff_getElem?.1 hr;have:=hf i r hi;simpa using this
  | some r =>
   obtain ⟨i,a,_,h2,_⟩:=findI_some hf;refine ok_some.2 λh3=>?_;subst h3;split at h2 <;> cases h2
 ·have hlt:=len_lt hi;rw [idx_of hi,wid (by omega) (by omega)];simp only [Option.bind_some];by_cases c:a.length<=5
  ·have d:decide ((a.length:Int) > 5) = false:=decide_eq_false (by omega);simp only [d,cond_false,c,if_true,stp]
  ·have d:decide ((a.length:Int) > 5) = true:=decide_eq_true (by omega);simp only [d,cond_true,c,if_false,stp]
theorem few_ok (m:Mx):Ok (law04_few m) λb=>b = true->FewM m 5:=by
 unfold law04_few;exact Ok.bind (fewOf_ok m 5 (by omega)) λb hb=>ok_some.2 hb
end Go.Proofs.YtbcdgfgacigaoaaGreat.Mat
end
section
set_option maxRecDepth 1000000
namespace Go.Tx
open Go
def dd (a b c d e f g h i:G):G:=gadd (gsub (gmul a (gsub (gmul e i) (gmul f h))) (gmul b (gsub (gmul d i) (gmul f g)))) (gmul c (gsub (gmul d h) (gmul e g)))
theorem det1_eq (f:Nat->Nat->G):detF 1 f = f 0 0:=by
 simp only [detF,sumG];exact gext (by simp [gmul,g1,g0,gadd]) (by simp [gmul,g1,g0,gadd])
end Go.Tx
end
section
namespace Go.Proofs.YtbcdgfgacigaoaaGreat.Mat
open Go Go.Ab Go.Tx Go.Proofs.YtbcdgfgacigaoaaGreat
theorem Size_ok {n:Int} (h : -9223372036854775807<=n/\n<=9223372036854775807):base_Size n = some (n.natAbs:Int):=by
 unfold base_Size;rw [wid (by omega) (by omega)];congr 1; omega
theorem Gcd_ok {a b:Int} (ha:a.natAbs<=4611686018427387904) (hb:b.natAbs<=4611686018427387904):base_Gcd a b = some (Int.gcd a b:Int):=by
 unfold base_Gcd;refine Ok.eq ?_;rw [ok_bind];refine (Gcd_loop a b ha hb).mono λr hr=>?_;have:=gcd_le ha hb;rw [Size_ok (by omega),Option.bind_some,ok_some,hr]
theorem divisor_ok (l:List Int) (hl:l.length<=1000000000) (hb:∀ x ∈ l,x.natAbs<=4611686018427387904):drive_divisor l = some (gcdL l:Int):=by
 unfold drive_divisor; exact divisor_loop l hl hb
theorem without_any {n r c:Nat} (hn:n<=1000) (f:Nat->Nat->G) (hr:r < n + 1) (hc:c < n + 1):drive_matrix_without (mx (n + 1) (n + 1) f) (r:Int) (c:Int) = some (mx n n (minor f r c)):=by
 unfold drive_matrix_without;rw [mx_len];refine Ok.eq ?_;rw [ok_bind];refine (loop_up (n + 1) (λi (s:Mx × Int)=>s = (mkL (if i<=r then i else i - 1) (λj=>mkL n λk=>minor f r c j k),(i:Int))) (λq=>q = mx n n (minor f r c)) (by simp [mkL_zero]) ?_).mono (λa ha=>by rw [ha]; exact ok_some.2 rfl);rintro i s hi rfl;by_cases hlt:i < n + 1
 ·have e0:decide ((i:Int) < ((n + 1:Nat):Int)) = true:=decide_eq_true (by omega);simp only [e0,cond_true];rw [idx_of (mx_at f hlt)];simp only [Option.bind_some];by_cases hz:i = r
  ·subst hz;simp only [decide_true,Bool.not_true,cond_false,Option.bind_some];rw [wid (by omega) (by omega),rnd_inl];refine ⟨hlt,?_⟩;rw [if_pos (Nat.le_refl _),if_neg (by omega)]; rfl
  ·have e1:decide ((i:Int) = (r:Int)) = false:=decide_eq_false (by omega);simp only [e1,Bool.not_false,cond_true];rw [slc_in (by rw [mkL_len]; omega)];simp only [Option.bind_some,decide_true,cond_true];rw [wid (n:=(c:Int) + 1) (by omega) (by omega),slc_in (by rw [mkL_len]; omega)];simp only [Option.bind_some,mkL_len];have e2:((c:Int) + 1).toNat = c + 1:=by omega
   have e3:((n + 1:Nat):Int).toNat = n + 1:=by omega
   have e4:(0:Int).toNat = 0:=rfl;rw [e2,e3,e4,Int.toNat_natCast,app_in (by simp [mkL_len]; omega)];simp only [Option.bind_some];rw [mkL_cut (λk=>f i k) hc,app_one (by rw [mkL_len]; split <;> omega)];simp only [Option.bind_some];rw [wid (by omega) (by omega),rnd_inl];refine ⟨hlt,?_⟩;congr 1
   by_cases hir:i < r
   ·rw [if_pos (by omega),if_pos (by omega),mkL_succ];congr 2
    refine mkL_congr λk hk=>?_;unfold minor;rw [show skip r i = i by unfold skip; rw [if_pos hir]]
   ·rw [if_neg (by omega),if_neg (by omega)];have e5:i + 1 - 1 = (i - 1) + 1:=by omega
    rw [e5,mkL_succ];congr 2
    refine mkL_congr λk hk=>?_;unfold minor;rw [show skip r (i - 1) = i by unfold skip; rw [if_neg (by omega)]; omega]
 ·have:i = n + 1:=by omega
  subst this;have e0:decide (((n + 1:Nat):Int) < ((n + 1:Nat):Int)) = false:=by simp
  simp only [e0,cond_false];rw [rnd_inr,if_neg (by omega)];rfl
theorem refWithout_any {n r c:Nat} (hn:n<=1000) (f:Nat->Nat->G) (hr:r < n + 1) (hc:c < n + 1):ref04_without (mx (n + 1) (n + 1) f) (r:Int) (c:Int) = some (mx n n (minor f r c)):=by
 unfold ref04_without;rw [mx_len];refine Ok.eq ?_;rw [ok_bind];refine (loop_up (n + 1) (λi (s:Mx × Int)=>s = (mkL (if i<=r then i else i - 1) (λj=>mkL n λk=>minor f r c j k),(i:Int))) (λq=>q = mx n n (minor f r c)) (by simp [mkL_zero]) ?_).mono (λa ha=>by rw [ha]; exact ok_some.2 rfl);rintro i s hi rfl;by_cases hlt:i < n + 1
 ·have e0:decide ((i:Int) < ((n + 1:Nat):Int)) = true:=decide_eq_true (by omega);simp only [e0,cond_true];by_cases hz:i = r
  ·subst hz;simp only [decide_true,cond_true,Option.bind_some];rw [wid (by omega) (by omega),rnd_inl];refine ⟨hlt,?_⟩;rw [if_pos (Nat.le_refl _),if_neg (by omega)]; rfl
  ·have e1:decide ((i:Int) = (r:Int)) = false:=decide_eq_false (by omega);simp only [e1,cond_false];rw [rnd_bind,ok_bind];refine (loop_up (n + 1) (λk (s:List G × Int)=>s = (mkL (if k<=c then k else k - 1) (λk=>f i (skip c k)),(k:Int))) (λq=>q = mkL n λk=>f i (skip c k)) (by simp [mkL_zero]) ?_).mono ?_
   ·rintro k s hk rfl;by_cases hlt2:k < n + 1
    ·have e2:decide ((k:Int) < ((n + 1:Nat):Int)) = true:=decide_eq_true (by omega);simp only [e2,cond_true];by_cases hkc:k = c
     ·subst hkc;simp only [decide_true,Bool.not_true,cond_false,Option.bind_some];rw [wid (by omega) (by omega),rnd_inl];refine ⟨hlt2,?_⟩;rw [if_pos (Nat.le_refl _),if_neg (by omega)];rfl
     ·have e3:decide ((k:Int) = (c:Int)) = false:=decide_eq_false (by omega);simp only [e3,Bool.not_false,cond_true];rw [idx_of (mx_at f hlt)];simp only [Option.bind_some];rw [idx_of (mkL_get (λk=>f i k) hlt2)];simp only [Option.bind_some];rw [app_one (by rw [mkL_len]; split <;> omega)];simp only [Option.bind_some];rw [wid (by omega) (by omega),rnd_inl];refine ⟨hlt2,?_⟩;congr 1
      by_cases hkl:k < c
      ·rw [if_pos (by omega),if_pos (by omega),mkL_succ];congr 3
       unfold skip; rw [if_pos hkl]
      ·rw [if_neg (by omega),if_neg (by omega)];have e5:k + 1 - 1 = (k - 1) + 1:=by omega
       rw [e5,mkL_succ];congr 3
       unfold skip; rw [if_neg (by omega)]; omega
    ·have:k = n + 1:=by omega
     subst this;have e2:decide (((n + 1:Nat):Int) < ((n + 1:Nat):Int)) = false:=by simp
     simp only [e2,cond_false];rw [rnd_inr,if_neg (by omega)];rfl
   ·rintro q rfl;rw [app_one (by rw [mkL_len]; split <;> omega)];simp only [Option.bind_some];rw [ok_some,wid (by omega) (by omega),rnd_inl];refine ⟨hlt,?_⟩;congr 1
    by_cases hir:i < r
    ·rw [if_pos (by omega),if_pos (by omega),mkL_succ];congr 2
     refine mkL_congr λk hk=>?_;unfold minor;rw [show skip r i = i by unfold skip; rw [if_pos hir]]
    ·rw [if_neg (by omega),if_neg (by omega)];have e5:i + 1 - 1 = (i - 1) + 1:=by omega
     rw [e5,mkL_succ];congr 2
     refine mkL_congr λk hk=>?_;unfold minor;rw [show skip r (i - 1) = i by unfold skip; rw [if_neg (by omega)]; omega]
 ·have:i = n + 1:=by omega
  subst this;have e0:decide (((n + 1:Nat):Int) < ((n + 1:Nat):Int)) = false:=by simp
  simp only [e0,cond_false];rw [rnd_inr,if_neg (by omega)];rfl
def parts (l:List G):List Int:=l.flatMap λz=>[z.1,z.2.1]
def partsM (m:Mx):List Int:=m.flatMap parts
theorem parts_app (l:List G) (z:G):parts (l ++ [z]) = parts l ++ [z.1] ++ [z.2.1]:=by simp [parts]
theorem partsM_app (m:Mx) (r:List G):partsM (m ++ [r]) = partsM m ++ parts r:=by simp [partsM]
theorem gcdF_app:∀ (l m:List Int) (g:Nat),gcdF g (l ++ m) = gcdF (gcdF g l) m
 | [],m,g=>rfl
 | x :: l,m,g=>by simp only [List.cons_append,gcdF]; exact gcdF_app l m _
def qg (den:Int) (m:Mx):Nat:=gcdF den.natAbs (partsM m)
def quotF (g:Int) (f:Nat->Nat->G) (i k:Nat):G:=((f i k).1.tdiv g,(f i k).2.1.tdiv g,())
theorem parts_bd {B:Int} {l:List G} (h:∀ z ∈ l,Bd B z) {x:Int} (hx:x ∈ parts l) : -B<=x/\x<=B:=by
 unfold parts at hx;obtain ⟨z,hz,hx⟩:=List.mem_flatMap.1 hx;have:=h z hz;unfold Bd at this;simp only [List.mem_cons,List.not_mem_nil,or_false] at hx;rcases hx with rfl | rfl <;> omega
theorem partsM_bd {B:Int} {m:Mx} (h:BdM B m) {x:Int} (hx:x ∈ partsM m) : -B<=x/\x<=B:=by
 unfold partsM at hx;obtain ⟨r,hr,hx⟩:=List.mem_flatMap.1 hx;exact parts_bd (h r hr) hx
theorem qg_le {B:Int} {den:Int} {m:Mx} (h0:0<=den) (hd:den<=B) (h:BdM B m):(qg den m:Int)<=B:=by
 have:qg den m<=B.toNat:=gcdF_le (by omega) λx hx=>by have:=partsM_bd h hx; omega
 omega
theorem qg_pos {den:Int} {m:Mx} (h:den ≠ 0):0 < qg den m:=by
 rcases Nat.eq_zero_or_pos (qg den m) with h0 | h0
 ·have:=(gcdF_zero.1 h0).1; omega
 ·exact h0
theorem row_gcd {B:Int} (hB:B<=4611686018427387904) {r:List G} (hl:r.length<=1000000) (h:∀ z ∈ r,Bd B z) {g:Nat} (hg:(g:Int)<=B) {K:Nat × Int->Prop} :
  Ok (loopO (λ(s5:(Int × Int)) =>
      bif decide (s5.1 < (r.length:Int)) then
       (idx r s5.1).bind λx6 =>
       (drive_divisor ([s5.2,x6.1,x6.2.1])).bind λx7 =>
       some (.inl (w64 (s5.1 + 1),x7))
      else
       some (.inr s5.2)) (0,(g:Int))) λx=>x = (gcdF g (parts r):Int):=by
 refine loop_up r.length (λi (s:Int × Int)=>s = ((i:Int),(gcdF g (parts (r.take i)):Int))) _ rfl ?_;rintro i s hi rfl;by_cases hlt:i < r.length
 ·have e0:decide ((i:Int) < (r.length:Int)) = true:=decide_eq_true (by omega);have hz:r[i]? = some (r.getD i g0):=at_getD _ hlt;have hb:=h _ (getD_mem (d:=g0) hlt);have hgb:gcdF g (parts (r.take i))<=B.toNat:=gcdF_le (by omega) λx hx=>by
   have:=parts_bd (λz hz=>h z (List.mem_of_mem_take hz)) hx; omega
  unfold Bd at hb;simp only [e0,cond_true];rw [idx_of hz];simp only [Option.bind_some];rw [divisor_ok _ (by simp) (by
   intro x hx;simp only [List.mem_cons,List.not_mem_nil,or_false] at hx;rcases hx with rfl | rfl | rfl <;> omega)]
  simp only [Option.bind_some];rw [wid (by omega) (by omega),rnd_inl];refine ⟨hlt,?_⟩;congr 2
  rw [take_next g0 hlt,parts_app,gcdF_snoc,gcdF_snoc,gcdL_three];rfl
 ·have:i = r.length:=by omega
  subst this;have e0:decide ((r.length:Int) < (r.length:Int)) = false:=by simp
  simp only [e0,cond_false];rw [rnd_inr,List.take_length]
theorem all_gcd {B den:Int} (hB:B<=4611686018427387904) {m:Mx} (hl:m.length<=1000000) (hr:∀ r ∈ m,r.length<=1000000) (h:BdM B m) (h0:0<=den) (hd:den<=B) :
  loopO (λ(s2:(Int × Int)) =>
   bif decide (s2.1 < (m.length:Int)) then
    (idx m s2.1).bind λx3 =>
    (loopO (λ(s5:(Int × Int)) =>
      bif decide (s5.1 < (x3.length:Int)) then
       (idx x3 s5.1).bind λx6 =>
       (drive_divisor ([s5.2,x6.1,x6.2.1])).bind λx7 =>
       some (.inl (w64 (s5.1 + 1),x7))
      else
       some (.inr s5.2)) (0,s2.2)).bind λ(p8:Int) =>
    some (.inl (w64 (s2.1 + 1),p8))
   else
    some (.inr s2.2)) (0,den) = some (qg den m:Int):=by
 refine Ok.eq (loop_up m.length (λi (s:Int × Int)=>s = ((i:Int),(qg den (m.take i):Int))) _ (by
  have:((qg den (m.take 0):Nat):Int) = den:=by simp [qg,partsM,gcdF] <;> omega
  rw [this]; rfl) ?_)
 rintro i s hi rfl;by_cases hlt:i < m.length
 ·have e0:decide ((i:Int) < (m.length:Int)) = true:=decide_eq_true (by omega);have hz:m[i]? = some (m.getD i []):=at_getD _ hlt;have hmem:=getD_mem (d:=([]:List G)) hlt;simp only [e0,cond_true];rw [idx_of hz];simp only [Option.bind_some];rw [rnd_bind];refine (row_gcd hB (hr _ hmem) (h _ hmem) (qg_le h0 hd (λr hr=>h r (List.mem_of_mem_take hr))) (K:=λ_=>True)).mono ?_;rintro x rfl;rw [wid (by omega) (by omega),rnd_inl];refine ⟨hlt,?_⟩;congr 2
  rw [take_next [] hlt];unfold qg;rw [partsM_app,gcdF_app]
 ·have:i = m.length:=by omega
  subst this;have e0:decide ((m.length:Int) < (m.length:Int)) = false:=by simp
  simp only [e0,cond_false];rw [rnd_inr,List.take_length]
theorem tdiv_bd {x g B:Int} (h : -B<=x/\x<=B) : -B<=x.tdiv g/\x.tdiv g<=B:=by
 have h1:(x.tdiv g).natAbs<=x.natAbs:=by rw [Int.natAbs_tdiv]; exact Nat.div_le_self _ _
 omega
def quotQ (n c:Nat) (f:Nat->Nat->G) (den:Int):Int × Mx × Unit:=(den.tdiv (qg den (mx n c f)),mx n c (quotF (qg den (mx n c f)) f),())
theorem made_q {n c:Nat} (hn:n<=1000) (hc:c<=1000) (m:Mx) (g:Int) (f:Nat->Nat->G) (h:∀ i k:Nat,i < n->k < c->drive_quotient_1 i k m g = some (f i k)):drive_made_of_drive_quotient_1 (n:Int) (c:Int) m g = some (mx n c f):=by
 unfold drive_made_of_drive_quotient_1;exact made_loop n c hn hc (λi k=>drive_quotient_1 i k m g) f h
theorem quotient_ok {n c:Nat} {B den:Int} {f:Nat->Nat->G} (hB:B<=4611686018427387904) (hn:1<=n) (hn2:n<=1000) (hc:c<=1000) (h:BdF B n c f) (h0:0 < den) (hd:den<=B) :
  drive_quotient (mx n c f) den = some (quotQ n c f den):=by
 unfold drive_quotient;rw [all_gcd hB (by rw [mx_len]; omega) (λr hr=>by rw [(mx_rect n c f).2 r hr]; omega) (bdM_mx.2 h) (by omega) hd];simp only [Option.bind_some];rw [idx_zero,mx_at f (by omega),Option.bind_some,mkL_len,mx_len];have hg:0 < qg den (mx n c f):=qg_pos (by omega);have hgne:decide ((qg den (mx n c f):Int) = 0) = false:=decide_eq_false (by omega);have hm:=made_q hn2 hc (mx n c f) (qg den (mx n c f)) (quotF (qg den (mx n c f)) f) (λi k hi hk=>by
  unfold drive_quotient_1;rw [idx_of (mx_at f hi)];simp only [Option.bind_some];rw [idx_of (mkL_get (λk=>f i k) hk)];simp only [Option.bind_some,hgne,cond_false];have hb:=h i k hi hk;unfold Bd at hb;have t1:=tdiv_bd (g:=(qg den (mx n c f):Int)) hb.1;have t2:=tdiv_bd (g:=(qg den (mx n c f):Int)) hb.2;rw [wid (by omega) (by omega),wid (by omega) (by omega)];rfl)
 rw [hm];simp only [Option.bind_some,hgne,cond_false];have t3:=tdiv_bd (g:=(qg den (mx n c f):Int)) (B:=B) (x:=den) (by omega);rw [wid (by omega) (by omega)];rfl
theorem gcd_two (g:Nat) (a b:Int):Int.gcd (g:Int) ((Int.gcd a b:Nat):Int) = Nat.gcd (Nat.gcd g a.natAbs) b.natAbs:=by
 simp only [Int.gcd,Int.natAbs_natCast];exact (Nat.gcd_assoc g a.natAbs b.natAbs).symm
theorem lowest_ok {n c:Nat} {B den:Int} {f:Nat->Nat->G} (hB:B<=4611686018427387904) (hn2:n<=1000) (hc:c<=1000) (h:BdF B n c f) (h0:0 < den) (hd:den<=B) :
  ref04_lowest den (mx n c f) = some (quotQ n c f den):=by
 unfold ref04_lowest;rw [mx_len];have hM:=bdM_mx.2 h;have hgcd:loopO (λ(s2:(Int × Int)) =>
   bif decide (s2.2 < (n:Int)) then
    (loopO (λ(s4:(Int × Int)) =>
      (idx (mx n c f) s2.2).bind λx5 =>
      bif decide (s4.2 < (x5.length:Int)) then
       (idx (mx n c f) s2.2).bind λx6 =>
       (idx x6 s4.2).bind λx7 =>
       (idx (mx n c f) s2.2).bind λx8 =>
       (idx x8 s4.2).bind λx9 =>
       (base_Gcd x7.1 x9.2.1).bind λx10 =>
       (base_Gcd s4.1 x10).bind λx11 =>
       some (.inl (x11,w64 (s4.2 + 1)))
      else
       some (.inr s4.1)) (s2.1,0)).bind λ(p12:Int) =>
    some (.inl (p12,w64 (s2.2 + 1)))
   else
    some (.inr s2.1)) (den,0) = some (qg den (mx n c f):Int):=by
  refine Ok.eq (loop_up n (λi (s:Int × Int)=>s = ((qg den ((mx n c f).take i):Int),(i:Int))) _ (by
   have:((qg den ((mx n c f).take 0):Nat):Int) = den:=by simp [qg,partsM,gcdF] <;> omega
   rw [this]; rfl) ?_)
  rintro i s hi rfl;by_cases hlt:i < n
  ·have e0:decide ((i:Int) < (n:Int)) = true:=decide_eq_true (by omega);simp only [e0,cond_true];rw [rnd_bind];have hq:=qg_le (m:=(mx n c f).take i) (by omega:0<=den) hd (λr hr=>hM r (List.mem_of_mem_take hr));refine (loop_up c (λk (s:Int × Int)=>s = ((gcdF (qg den ((mx n c f).take i)) (parts ((mkL c λk=>f i k).take k)):Int),(k:Int))) (λq=>q = (gcdF (qg den ((mx n c f).take i)) (parts (mkL c λk=>f i k)):Int)) rfl ?_).mono ?_
   ·rintro k s hk rfl;rw [idx_of (mx_at f hlt)];simp only [Option.bind_some,mkL_len];by_cases hlt2:k < c
    ·have e1:decide ((k:Int) < (c:Int)) = true:=decide_eq_true (by omega);simp only [e1,cond_true];rw [idx_of (mkL_get (λk=>f i k) hlt2)];simp only [Option.bind_some];have hb:=h i k hlt hlt2;have hgb:gcdF (qg den ((mx n c f).take i)) (parts ((mkL c λk=>f i k).take k))<=B.toNat:=gcdF_le (by omega) λx hx=>by
      have:=parts_bd (B:=B) (λz hz=>by
       obtain ⟨j,hj,rfl⟩:=mkL_mem (List.mem_of_mem_take hz);exact h i j hlt hj) hx
      omega
     unfold Bd at hb;rw [Gcd_ok (by omega) (by omega)];simp only [Option.bind_some];have hg2:Int.gcd (f i k).1 (f i k).2.1<=B.toNat:=gcd_le (by omega) (by omega);rw [Gcd_ok (by omega) (by omega)];simp only [Option.bind_some];rw [wid (by omega) (by omega),rnd_inl];refine ⟨hlt2,?_⟩;congr 2
     rw [take_next g0 (by rw [mkL_len]; exact hlt2),parts_app,gcdF_snoc,gcdF_snoc,mkL_getD _ _ hlt2,gcd_two]
    ·have:k = c:=by omega
     subst this;have e1:decide ((k:Int) < (k:Int)) = false:=by simp
     simp only [e1,cond_false];rw [rnd_inr,show (mkL k λk=>f i k).take k = mkL k λk=>f i k from List.take_of_length_le (by rw [mkL_len]; omega)]
   ·rintro q rfl;rw [wid (by omega) (by omega),rnd_inl];refine ⟨hlt,?_⟩;congr 2
    rw [take_next [] (by rw [mx_len]; exact hlt),mx_row f hlt];unfold qg;rw [partsM_app,gcdF_app]
  ·have:i = n:=by omega
   subst this;have e0:decide ((i:Int) < (i:Int)) = false:=by simp
   simp only [e0,cond_false];rw [rnd_inr,List.take_of_length_le (by rw [mx_len]; omega)]
 rw [hgcd];simp only [Option.bind_some];have hg:0 < qg den (mx n c f):=qg_pos (by omega);have hgne:decide ((qg den (mx n c f):Int) = 0) = false:=decide_eq_false (by omega);rw [hgne,cond_false];have t3:=tdiv_bd (g:=(qg den (mx n c f):Int)) (B:=B) (x:=den) (by omega);rw [wid (n:=den.tdiv (qg den (mx n c f))) (by omega) (by omega)];refine Ok.eq ?_;rw [ok_bind];refine (loop_up n (λi (s:Int × Int × Mx)=>s = ((i:Int),den.tdiv (qg den (mx n c f)),mkL i λi=>mkL c λk=>quotF (qg den (mx n c f)) f i k)) (λq=>q = (den.tdiv (qg den (mx n c f)),mx n c (quotF (qg den (mx n c f)) f))) rfl ?_).mono (λa ha=>by rw [ha]; exact ok_some.2 rfl);rintro i s hi rfl;by_cases hlt:i < n
 ·have e0:decide ((i:Int) < (n:Int)) = true:=decide_eq_true (by omega);simp only [e0,cond_true];rw [for_mk c (λk=>quotF (qg den (mx n c f)) f i k) (λk hk=>?_) ?_]
  ·simp only [Option.bind_some];rw [app_one (by rw [mkL_len]; omega)];simp only [Option.bind_some];rw [wid (by omega) (by omega),rnd_inl];refine ⟨hlt,?_⟩;rw [mkL_succ]; rfl
  ·have e1:decide ((c:Int) < (c:Int)) = false:=by simp
   rw [idx_of (mx_at f hlt)];simp only [Option.bind_some,mkL_len,e1,cond_false]
  ·have e1:decide ((k:Int) < (c:Int)) = true:=decide_eq_true (by omega);rw [idx_of (mx_at f hlt)];simp only [Option.bind_some,mkL_len,e1,cond_true];rw [idx_of (mkL_get (λk=>f i k) hk)];simp only [Option.bind_some,hgne,cond_false];have hb:=h i k hlt hk;unfold Bd at hb;have t1:=tdiv_bd (g:=(qg den (mx n c f):Int)) hb.1;have t2:=tdiv_bd (g:=(qg den (mx n c f):Int)) hb.2;rw [wid (n:=(f i k).1.tdiv _) (by omega) (by omega),wid (n:=(f i k).2.1.tdiv _) (by omega) (by omega),app_one (by rw [mkL_len]; omega)];simp only [Option.bind_some];rw [wid (by omega) (by omega)];rfl
 ·have:i = n:=by omega
  subst this;have e0:decide ((i:Int) < (i:Int)) = false:=by simp
  simp only [e0,cond_false];rw [rnd_inr];rfl
end Go.Proofs.YtbcdgfgacigaoaaGreat.Mat
end
section
namespace Go.Proofs.YtbcdgfgacigaoaaGreat.Mat
open Go Go.Ab Go.Tx Go.Proofs.YtbcdgfgacigaoaaGreat
def dC (B:Int):Nat->Int
 | 0=>1
 | 1=>B
 | n + 2=>((n + 2:Nat):Int) * (2 * (B * dC B (n + 1)))
theorem detF_bdC {B:Int} (hB:0<=B):∀ (n:Nat) (f:Nat->Nat->G),BdF B n n f->Bd (dC B n) (detF n f)
 | 0,f,_=>bd_one (by simp [dC])
 | 1,f,h=>by rw [det1_eq]; exact h 0 0 (by omega) (by omega)
 | n + 2,f,h=>by
  simp only [detF,dC];refine Bd.sum λk hk=>?_;have h1:=(h 0 k (by omega) hk).mul (detF_bdC hB (n + 1) _ (minor_bd (r:=0) (c:=k) h));split
  ·exact h1.neg
  ·exact h1
def cofF (n:Nat) (f:Nat->Nat->G) (i k:Nat):G:=detF n (minor f k i)
def adjF (n:Nat) (f:Nat->Nat->G) (i k:Nat):G:=if (i + k) % 2 = 1 then gneg (cofF n f i k) else cofF n f i k
def invT (n:Nat) (f:Nat->Nat->G) (d:G) (i k:Nat):G:=gmul (adjF n f i k) (gconj d)
def norm (d:G):Int:=d.1 * d.1 + d.2.1 * d.2.1
theorem norm_mul (d:G):gmul d (gconj d) = (norm d,0,()):=gext (by simp only [gmul,gconj,norm]; grind) (by simp only [gmul,gconj]; grind)
theorem norm_pos {d:G} (h:d ≠ g0):0 < norm d:=by
 unfold norm;have h1:=sq_nonneg d.1;have h2:=sq_nonneg d.2.1;rcases Int.lt_or_le 0 (d.1 * d.1 + d.2.1 * d.2.1) with h3 | h3
 ·exact h3
 ·exfalso
  have e1:=sq_zero (show d.1 * d.1 = 0 by omega);have e2:=sq_zero (show d.2.1 * d.2.1 = 0 by omega);exact h (gext e1 e2)
theorem conj_ok {B:Int} {d:G} (h:Bd B d) (hB:B<=9000000000000000000):drive_whole_conj d = some (gconj d):=by
 unfold drive_whole_conj gconj;unfold Bd at h;rw [wid (by omega) (by omega)];have e:(0:Int) - d.2.1 = -d.2.1:=by omega
 rw [e]
theorem GConj_ok {B:Int} {d:G} (h:Bd B d) (hB:B<=9000000000000000000):base_GConj d = some (gconj d):=by
 unfold base_GConj gconj;unfold Bd at h;rw [wid (by omega) (by omega)];have e:(0:Int) - d.2.1 = -d.2.1:=by omega
 rw [e]
theorem neg_mul (a b:G):gmul (gneg a) b = gneg (gmul a b):=gext (by simp only [gmul,gneg]; grind) (by simp only [gmul,gneg]; grind)
theorem minus0_ok {B:Int} {a:G} (h:Bd B a) (hB:B<=9000000000000000000):drive_whole_minus (0,0,()) a = some (gneg a):=by
 have:=sub_w (a:=g0) (bd_zero (B:=0) (by omega)) h (by omega);rw [gzero_sub] at this;exact congrArg some this
theorem GSub0_ok {B:Int} {a:G} (h:Bd B a) (hB:B<=9000000000000000000):base_GSub (0,0,()) a = some (gneg a):=by
 have:=sub_w (a:=g0) (bd_zero (B:=0) (by omega)) h (by omega);rw [gzero_sub] at this;exact congrArg some this
theorem tmod2 (j:Nat):(j:Int).tmod 2 = ((j % 2:Nat):Int):=by rw [Int.tmod_eq_emod_of_nonneg (by omega)]; omega
theorem made_inv {n c:Nat} (hn:n<=1000) (hc:c<=1000) (m:Mx) (d:G) (f:Nat->Nat->G) (h:∀ i k:Nat,i < n->k < c->drive_matrix_inverse_1 i k m d = some (f i k)):drive_made_of_drive_matrix_inverse_1 (n:Int) (c:Int) m d = some (mx n c f):=by
 unfold drive_made_of_drive_matrix_inverse_1;exact made_loop n c hn hc (λi k=>drive_matrix_inverse_1 i k m d) f h
structure InvB (n:Nat) (f:Nat->Nat->G) (d:G) (B M D Q:Int):Prop where
 hB:1<=B
 hf:BdF B (n + 1) (n + 1) f
 crude:dB B n<=9000000000000000000
 minor:∀ i k,i < n + 1->k < n + 1->Bd M (cofF n f i k)
 hd:Bd D d
 md:2 * (M * D)<=Q
 dd:2 * (D * D)<=9000000000000000000
 hQ:Q<=4611686018427387904
 M0:M<=9000000000000000000
 D0:D<=9000000000000000000
 nq:norm d<=Q
 nz:d ≠ g0
theorem InvB.adj {n:Nat} {f:Nat->Nat->G} {d:G} {B M D Q:Int} (h:InvB n f d B M D Q) {i k:Nat} (hi:i < n + 1) (hk:k < n + 1):Bd M (adjF n f i k):=by
 unfold adjF;split
 ·exact (h.minor i k hi hk).neg
 ·exact h.minor i k hi hk
theorem InvB.t {n:Nat} {f:Nat->Nat->G} {d:G} {B M D Q:Int} (h:InvB n f d B M D Q):BdF Q (n + 1) (n + 1) (invT n f d):=λi k hi hk=>((h.adj hi hk).mul h.hd.conj).mono h.md
theorem det12 {n:Nat} {f:Nat->Nat->G} {B:Int} (hB:1<=B) (hn:n<=10) (hf:BdF B n n f) (hb:dB B n<=9000000000000000000):drive_matrix_determinant (mx n n f) = some (detF n f):=by
 unfold drive_matrix_determinant; exact det_ok hB 12 n f (by omega) (by omega) hf hb
theorem refDet12 {n:Nat} {f:Nat->Nat->G} {B:Int} (hB:1<=B) (hn:n<=10) (hf:BdF B n n f) (hb:dB B n<=9000000000000000000):ref04_Determinant (mx n n f) = some (detF n f):=by
 unfold ref04_Determinant; exact refDet_ok hB 12 n f (by omega) (by omega) hf hb
theorem inverse_ok {n:Nat} {f:Nat->Nat->G} {d:G} {B M D Q:Int} (hn:n<=5) (h:InvB n f d B M D Q) :
  drive_matrix_inverse (mx (n + 1) (n + 1) f) d = some (quotQ (n + 1) (n + 1) (invT n f d) (norm d)):=by
 unfold drive_matrix_inverse;rw [mx_len];have h2Q:2 * (M * D)<=9000000000000000000:=by have:=h.md; have:=h.hQ; omega
 rw [made_inv (by omega) (by omega) _ d (invT n f d) (λi k hi hk=>by
  unfold drive_matrix_inverse_1;rw [without_any (by omega) f hk hi];simp only [Option.bind_some];rw [det12 h.hB (by omega) (minor_bd h.hf) h.crude];simp only [Option.bind_some];rw [conj_ok h.hd h.D0];simp only [Option.bind_some];have hb:=h.minor i k hi hk;unfold cofF at hb;rw [times_ok' hb h.hd.conj h2Q];simp only [Option.bind_some];rw [wid (by omega) (by omega)];have e0:((i:Int) + (k:Int)) = ((i + k:Nat):Int):=by omega
  rw [e0,tmod2];unfold invT adjF cofF;by_cases hp:(i + k) % 2 = 1
  ·have e2:decide ((((i + k) % 2:Nat):Int) = 1) = true:=decide_eq_true (by omega);rw [e2,cond_true,if_pos hp,minus0_ok (hb.mul h.hd.conj) h2Q,neg_mul]; rfl
  ·have e2:decide ((((i + k) % 2:Nat):Int) = 1) = false:=decide_eq_false (by omega);rw [e2,cond_false,if_neg hp])]
 simp only [Option.bind_some];rw [conj_ok h.hd h.D0];simp only [Option.bind_some];rw [times_ok' h.hd h.hd.conj h.dd,norm_mul];simp only [Option.bind_some];rw [quotient_ok h.hQ (by omega) (by omega) (by omega) h.t (norm_pos h.nz) h.nq];rfl
theorem refInverse_ok {n:Nat} {f:Nat->Nat->G} {B M D Q:Int} (hn:n<=5) (h:InvB n f (detF (n + 1) f) B M D Q) (hcr:dB B (n + 1)<=9000000000000000000) :
  ref04_Inverse (mx (n + 1) (n + 1) f) = some (quotQ (n + 1) (n + 1) (invT n f (detF (n + 1) f)) (norm (detF (n + 1) f))):=by
 unfold ref04_Inverse;rw [refDet12 h.hB (by omega) h.hf hcr];simp only [Option.bind_some];generalize hd:detF (n + 1) f = d at *;have h2Q:2 * (M * D)<=9000000000000000000:=by have:=h.md; have:=h.hQ; omega
 have hdd:=h.hd;have hD2:=h.dd;have hD:=h.D0;have hsq:Bd (2 * (D * D)) (gmul d (gconj d)):=hdd.mul hdd.conj;have hn1:base_GNorm d = some (norm d):=by
  unfold base_GNorm norm;have p1:=abs_mul_le hdd.1 hdd.1;have p2:=abs_mul_le hdd.2 hdd.2;rw [wid (n:=d.1 * d.1) (by omega) (by omega),wid (n:=d.2.1 * d.2.1) (by omega) (by omega),wid (by omega) (by omega)]
 rw [hn1];simp only [Option.bind_some];have hadj:ref04_Adjugate (mx (n + 1) (n + 1) f) = some (mx (n + 1) (n + 1) (adjF n f)):=by
  unfold ref04_Adjugate;rw [mx_len];rw [for_mk (n + 1) (λi=>mkL (n + 1) λk=>adjF n f i k) (λi hi=>?_) ?_]
  ·rfl
  ·have e0:decide (((n + 1:Nat):Int) < ((n + 1:Nat):Int)) = false:=by simp
   simp only [e0,cond_false]
  ·have e0:decide ((i:Int) < ((n + 1:Nat):Int)) = true:=decide_eq_true (by omega);simp only [e0,cond_true];rw [for_mk (n + 1) (λk=>adjF n f i k) (λk hk=>?_) ?_]
   ·simp only [Option.bind_some];rw [app_one (by rw [mkL_len]; omega)];simp only [Option.bind_some];rw [wid (by omega) (by omega)]
   ·have e1:decide (((n + 1:Nat):Int) < ((n + 1:Nat):Int)) = false:=by simp
    simp only [e1,cond_false]
   ·have e1:decide ((k:Int) < ((n + 1:Nat):Int)) = true:=decide_eq_true (by omega);simp only [e1,cond_true];rw [refWithout_any (by omega) f hk hi];simp only [Option.bind_some];rw [refDet12 h.hB (by omega) (minor_bd h.hf) h.crude];simp only [Option.bind_some];rw [wid (by omega) (by omega)];have e2:((i:Int) + (k:Int)) = ((i + k:Nat):Int):=by omega
    rw [e2,Mod2_ok _ (by omega)];simp only [Option.bind_some];have hb:=h.minor i k hi hk;unfold adjF;unfold cofF at hb ⊢;by_cases hp:(i + k) % 2 = 1
    ·have e2:decide ((((i + k) % 2:Nat):Int) = 1) = true:=decide_eq_true (by omega);rw [e2,cond_true,if_pos hp,GSub0_ok hb h.M0];simp only [Option.bind_some,geta];rw [app_one (by rw [mkL_len]; omega)];simp only [Option.bind_some];rw [wid (by omega) (by omega)]
    ·have e2:decide ((((i + k) % 2:Nat):Int) = 1) = false:=decide_eq_false (by omega);rw [e2,cond_false,if_neg hp];simp only [Option.bind_some,geta];rw [app_one (by rw [mkL_len]; omega)];simp only [Option.bind_some];rw [wid (by omega) (by omega)]
 rw [hadj];simp only [Option.bind_some];rw [GConj_ok hdd hD];simp only [Option.bind_some];have hsc:ref04_scaled (mx (n + 1) (n + 1) (adjF n f)) (gconj d) = some (mx (n + 1) (n + 1) (invT n f d)):=by
  unfold ref04_scaled;rw [mx_len];rw [for_mk (n + 1) (λi=>mkL (n + 1) λk=>invT n f d i k) (λi hi=>?_) ?_]
  ·rfl
  ·have e0:decide (((n + 1:Nat):Int) < ((n + 1:Nat):Int)) = false:=by simp
   simp only [e0,cond_false]
  ·have e0:decide ((i:Int) < ((n + 1:Nat):Int)) = true:=decide_eq_true (by omega);simp only [e0,cond_true];rw [for_mk (n + 1) (λk=>invT n f d i k) (λk hk=>?_) ?_]
   ·simp only [Option.bind_some];rw [app_one (by rw [mkL_len]; omega)];simp only [Option.bind_some];rw [wid (by omega) (by omega)]
   ·have e1:decide (((n + 1:Nat):Int) < ((n + 1:Nat):Int)) = false:=by simp
    rw [idx_of (mx_at _ hi)];simp only [Option.bind_some,mkL_len,e1,cond_false]
   ·have e1:decide ((k:Int) < ((n + 1:Nat):Int)) = true:=decide_eq_true (by omega);rw [idx_of (mx_at _ hi)];simp only [Option.bind_some,mkL_len,e1,cond_true];rw [idx_of (mkL_get (λk=>adjF n f i k) hk)];simp only [Option.bind_some];rw [GMul_ok (h.adj hi hk) hdd.conj h2Q];simp only [Option.bind_some];rw [app_one (by rw [mkL_len]; omega)];simp only [Option.bind_some];rw [wid (by omega) (by omega)];rfl
 rw [hsc];simp only [Option.bind_some];rw [lowest_ok h.hQ (by omega) (by omega) h.t (norm_pos h.nz) h.nq];rfl
def gsize (z:G):Int:=(z.1.natAbs:Int) + (z.2.1.natAbs:Int)
def sumZ:Nat->(Nat->Int)->Int
 | 0,_=>0
 | n + 1,f=>sumZ n f + f n
def maxZ:Nat->(Nat->Int)->Int
 | 0,_=>0
 | n + 1,f=>max (maxZ n f) (f n)
def rsum (n c:Nat) (f:Nat->Nat->G):Int:=maxZ n λi=>sumZ c λk=>gsize (f i k)
theorem gsize_bd {B:Int} {z:G} (h:Bd B z):0<=gsize z/\gsize z<=2 * B:=by unfold gsize; unfold Bd at h; omega
theorem sumZ_bd {B:Int} {f:Nat->Int}:∀ {n:Nat},(∀ k,k < n->0<=f k/\f k<=B)->0<=sumZ n f/\sumZ n f<=n * B
 | 0,_=>by simp [sumZ]
 | n + 1,h=>by
  have h1:=sumZ_bd (n:=n) λk hk=>h k (by omega);have h2:=h n (by omega);have e:((n + 1:Nat):Int) * B = n * B + B:=by rw [Int.natCast_add,Int.add_mul]; simp
  simp only [sumZ] <;> omega
theorem maxZ_bd {B:Int} (hB:0<=B) {f:Nat->Int}:∀ {n:Nat},(∀ k,k < n->f k<=B)->0<=maxZ n f/\maxZ n f<=B
 | 0,_=>by simp [maxZ,hB]
 | n + 1,h=>by
  have h1:=maxZ_bd hB (n:=n) λk hk=>h k (by omega);have h2:=h n (by omega);simp only [maxZ] <;> omega
def diagF (s:Int) (i k:Nat):G:=if i = k then (s,0,()) else g0
theorem diag_bd {s B:Int} (h0:0<=B) (h : -B<=s/\s<=B) (n c:Nat):BdF B n c (diagF s):=λi k _ _=>by
 unfold diagF;split
 ·unfold Bd; simp only <;> omega
 ·exact bd_zero h0
theorem one_ok {n:Nat} {s:Int} (hn:n<=1000):ref04_one (n:Int) s = some (mx n n (diagF s)):=by
 unfold ref04_one;rw [for_mk n (λi=>mkL n λk=>diagF s i k) (λi hi=>?_) ?_]
 ·rfl
 ·have e0:decide ((n:Int) < (n:Int)) = false:=by simp
  simp only [e0,cond_false]
 ·have e0:decide ((i:Int) < (n:Int)) = true:=decide_eq_true (by omega);simp only [e0,cond_true];rw [mkS_in (by omega)];simp only [Option.bind_some,decide_true,cond_true];have hl:(List.replicate ((n:Int).toNat) ((0,0,()):G)).length = n:=by simp
  rw [idx_in g0 (by omega) (by rw [hl]; omega)];simp only [Option.bind_some,Int.toNat_natCast];have hrow:(List.replicate n ((0,0,()):G)).set i (s,0,()) = mkL n λk=>diagF s i k:=by
   refine mkL_of (by simp) λk hk=>?_;rw [List.getElem?_set,List.getElem?_replicate,List.length_replicate];unfold diagF;by_cases h:i = k
   ·rw [if_pos h,if_pos h,if_pos (by omega)]
   ·rw [if_neg h,if_neg h,if_pos hk]; rfl
  rw [hrow,app_one (by rw [mkL_len]; omega)];simp only [Option.bind_some];rw [wid (by omega) (by omega)]
end Go.Proofs.YtbcdgfgacigaoaaGreat.Mat
end
section
namespace Go.Proofs.YtbcdgfgacigaoaaGreat.Mat
open Go Go.Ab Go.Tx Go.Proofs.YtbcdgfgacigaoaaGreat
abbrev Qt:=Int × Mx × Unit
instance (B:Int) (m:Mx):Decidable (BdM B m):=inferInstanceAs (Decidable (∀ r ∈ m,∀ z ∈ r,Bd B z))
theorem first2 (a b:Int):drive_first [a,b] = some (if a = 0 then b else a):=by
 rw [first_eq _ (by simp)];by_cases h:a = 0 <;> by_cases h2:b = 0 <;> simp [fst0,h,h2]
end Go.Proofs.YtbcdgfgacigaoaaGreat.Mat
end
section
namespace Go.Proofs.YtbcdgfgacigaoaaGreat.Mat
open Go Go.Ab Go.Tx Go.Proofs.YtbcdgfgacigaoaaGreat
theorem dC_le {B:Int} (hB:0<=B) (h20:B<=20):∀ n,n<=3->dC B n<=192000/\(n<=2->dC B n<=1600):=λn hn=>by
 have h1:B * B<=20 * 20:=Int.mul_le_mul h20 h20 hB (by omega);have h2:B * (2 * (2 * (B * B)))<=20 * (2 * (2 * (20 * 20))):=Int.mul_le_mul h20 (by omega) (by have:=Int.mul_nonneg hB hB; omega) (by omega)
 match n,hn with
 | 0,_=>simp [dC]
 | 1,_=>simp only [dC] <;> omega
 | 2,_=>simp only [dC] <;> omega
 | 3,_ =>
  have e:dC B 3 = 3 * (2 * (B * (2 * (2 * (B * B))))):=rfl;rw [e]; omega
theorem dB20:∀ n,n<=3->dB 20 n<=9000000000000000000:=λn hn=>by
 match n,hn with
 | 0,_=>decide
 | 1,_=>decide
 | 2,_=>decide
 | 3,_=>decide
def detM (m:Mx):G:=detF m.length (ent m)
theorem det20 {n:Nat} {f:Nat->Nat->G} (hn:n<=3) (h:BdF 20 n n f):Bd 192000 (detF n f):=(detF_bdC (by omega) n f h).mono (dC_le (by omega) (by omega) n hn).1
theorem norm_le {D:Int} {d:G} (h:Bd D d):norm d<=2 * (D * D):=by
 have:=(abs_mul_le h.1 h.1).2;have:=(abs_mul_le h.2 h.2).2;unfold norm; omega
theorem invB20 {n:Nat} {f:Nat->Nat->G} (hn:n + 1<=3) (h:BdF 20 (n + 1) (n + 1) f) (hz:detF (n + 1) f ≠ g0):InvB n f (detF (n + 1) f) 20 1600 192000 73728000000 where
 hB:=by omega
 hf:=h
 crude:=dB20 n (by omega)
 minor:=λi k hi hk=>(detF_bdC (by omega) n _ (minor_bd h)).mono ((dC_le (by omega) (by omega) n (by omega)).2 (by omega))
 hd:=det20 hn h
 md:=by omega
 dd:=by omega
 hQ:=by omega
 M0:=by omega
 D0:=by omega
 nq:=norm_le (det20 hn h)
 nz:=hz
def invM (m:Mx):Qt:=quotQ m.length m.length (invT (m.length - 1) (ent m) (detM m)) (norm (detM m))
def invE (m:Mx):Int:=if matE m ≠ 0 then matE m else if detM m = g0 then 11 else 0
def noQ:Qt:=(0,[],())
theorem mat_shape {m:Mx} (h:matE m = 0):∃ n,m.length = n + 1/\n + 1<=3/\m = mx (n + 1) (n + 1) (ent m)/\BdF 20 (n + 1) (n + 1) (ent m):=by
 obtain ⟨h1,h3,hR,hB⟩:=mat_ok h;refine ⟨m.length - 1,by omega,by omega,?_,?_⟩
 ·have e:m.length - 1 + 1 = m.length:=by omega
  rw [e]; exact rect_mx hR
 ·have e:m.length - 1 + 1 = m.length:=by omega
  rw [e]; exact bdM_ent hB hR
theorem detM_ok {m:Mx} (h:matE m = 0):drive_matrix_determinant m = some (detM m):=by
 obtain ⟨n,hl,h3,hm,hB⟩:=mat_shape h;unfold detM;rw [hl];conv=>lhs; rw [hm]
 exact det12 (by omega) (by omega) hB (dB20 _ h3)
theorem refDetM_ok {m:Mx} (h:matE m = 0):ref04_Determinant m = some (detM m):=by
 obtain ⟨n,hl,h3,hm,hB⟩:=mat_shape h;unfold detM;rw [hl];conv=>lhs; rw [hm]
 exact refDet12 (by omega) (by omega) hB (dB20 _ h3)
theorem InverseOf_ok {m:Mx} (h:m.length<=1000000000) (hr:∀ r ∈ m,r.length<=1000000000):drive_InverseOf m = some (if invE m = 0 then invM m else noQ,invE m):=by
 unfold drive_InverseOf;rw [matrixErr_ok h hr];simp only [Option.bind_some];unfold invE;by_cases hE:matE m = 0
 case neg =>
  rw [if_pos hE,decide_eq_false hE,Bool.not_false,cond_true,if_neg hE]; rfl
 rw [if_neg (show ¬ matE m ≠ 0 from λhh=>hh hE),decide_eq_true hE,Bool.not_true,cond_false,detM_ok hE];simp only [Option.bind_some];have hgz:(bif decide ((detM m).1 = 0) then (bif decide ((detM m).2.1 = 0) then true else false) else false) = decide (detM m = g0):=geq_dec (detM m) g0;rw [hgz];by_cases hz:detM m = g0
 ·rw [decide_eq_true hz,cond_true,if_pos hz]; rfl
 ·rw [decide_eq_false hz,cond_false,if_neg hz,if_pos rfl];obtain ⟨n,hl,h3,hm,hB⟩:=mat_shape hE;have hd:detM m = detF (n + 1) (ent m):=by unfold detM; rw [hl]
  have hz':detF (n + 1) (ent m) ≠ g0:=by rw [<- hd]; exact hz
  have:=inverse_ok (by omega) (invB20 h3 hB hz');rw [<- hm,<- hd] at this;rw [this];unfold invM;rw [hl,show n + 1 - 1 = n by omega];rfl
theorem InverseErr_ok {m:Mx} (h:m.length<=1000000000) (hr:∀ r ∈ m,r.length<=1000000000):ref04_InverseErr m = some (invE m):=by
 unfold ref04_InverseErr;rw [MatrixErr_ok h hr];simp only [Option.bind_some];unfold invE;by_cases hE:matE m = 0
 case neg =>
  rw [if_pos hE,decide_eq_false hE,Bool.not_false,cond_true]
 rw [if_neg (show ¬ matE m ≠ 0 from λhh=>hh hE),decide_eq_true hE,Bool.not_true,cond_false,refDetM_ok hE];simp only [Option.bind_some];have hgz:(bif decide ((detM m).1 = 0) then (bif decide ((detM m).2.1 = 0) then true else false) else false) = decide (detM m = g0):=geq_dec (detM m) g0;rw [hgz];by_cases hz:detM m = g0
 ·rw [decide_eq_true hz,cond_true,if_pos hz]
 ·rw [decide_eq_false hz,cond_false,if_neg hz]
theorem inv_ok {m:Mx} (h:invE m = 0):matE m = 0/\detM m ≠ g0:=by
 unfold invE at h;by_cases hE:matE m = 0
 ·rw [if_neg (show ¬ matE m ≠ 0 from λhh=>hh hE)] at h;by_cases hz:detM m = g0
  ·rw [if_pos hz] at h; cases h
  ·exact ⟨hE,hz⟩
 ·rw [if_pos hE] at h; exact absurd h hE
theorem Inverse_ok {m:Mx} (h:invE m = 0):ref04_Inverse m = some (invM m):=by
 obtain ⟨hE,hz⟩:=inv_ok h;obtain ⟨n,hl,h3,hm,hB⟩:=mat_shape hE;have hd:detM m = detF (n + 1) (ent m):=by unfold detM; rw [hl]
 have hz':detF (n + 1) (ent m) ≠ g0:=by rw [<- hd]; exact hz
 have:=refInverse_ok (by omega) (invB20 h3 hB hz') (dB20 _ h3);rw [<- hm,<- hd] at this;rw [this];unfold invM;rw [hl,show n + 1 - 1 = n by omega]
def invF (m:Mx):Nat->Nat->G:=quotF (qg (norm (detM m)) (mx m.length m.length (invT (m.length - 1) (ent m) (detM m)))) (invT (m.length - 1) (ent m) (detM m))
def invD (m:Mx):Int:=(norm (detM m)).tdiv (qg (norm (detM m)) (mx m.length m.length (invT (m.length - 1) (ent m) (detM m))))
theorem invM_eq (m:Mx):invM m = (invD m,mx m.length m.length (invF m),()):=rfl
theorem invT_bd {m:Mx} (h:invE m = 0):BdF 614400000 m.length m.length (invT (m.length - 1) (ent m) (detM m)):=by
 obtain ⟨hE,hz⟩:=inv_ok h;obtain ⟨n,hl,h3,hm,hB⟩:=mat_shape hE;have hd:detM m = detF (n + 1) (ent m):=by unfold detM; rw [hl]
 have hz':detF (n + 1) (ent m) ≠ g0:=by rw [<- hd]; exact hz
 rw [hd,hl,show n + 1 - 1 = n by omega];have hI:=invB20 h3 hB hz';intro i k hi hk;exact ((hI.adj hi hk).mul hI.hd.conj).mono (by omega)
theorem invF_bd {m:Mx} (h:invE m = 0):BdF 614400000 m.length m.length (invF m):=λi k hi hk=>by
 have hb:=invT_bd h i k hi hk;exact ⟨tdiv_bd hb.1,tdiv_bd hb.2⟩
theorem invD_bd {m:Mx} (h:invE m = 0):0<=invD m/\invD m<=73728000000:=by
 obtain ⟨hE,hz⟩:=inv_ok h;obtain ⟨n,hl,h3,hm,hB⟩:=mat_shape hE;have hd:detM m = detF (n + 1) (ent m):=by unfold detM; rw [hl]
 have hn:=norm_pos hz;have hb:=norm_le (det20 h3 hB);rw [<- hd] at hb;unfold invD;have:=tdiv_bd (x:=norm (detM m)) (g:=(qg (norm (detM m)) (mx m.length m.length (invT (m.length - 1) (ent m) (detM m))):Int)) (B:=73728000000) (by omega);exact ⟨Int.tdiv_nonneg (by omega) (Int.natCast_nonneg _),this.2⟩
end Go.Proofs.YtbcdgfgacigaoaaGreat.Mat
namespace Go.Proofs.YtbcdgfgacigaoaaGreat
open Go Go.Ab Go.Tx
end Go.Proofs.YtbcdgfgacigaoaaGreat
end
section
namespace Go.Proofs.YtbcdgfgacigaoaaGreat.Mat
open Go Go.Ab Go.Tx Go.Proofs.YtbcdgfgacigaoaaGreat
def invG (m:Mx):Nat:=qg (norm (detM m)) (mx m.length m.length (invT (m.length - 1) (ent m) (detM m)))
theorem invG_norm (m:Mx):(invG m:Int) ∣ norm (detM m):=by
 have h:=gcdF_dvd_start (partsM (mx m.length m.length (invT (m.length - 1) (ent m) (detM m)))) (norm (detM m)).natAbs;exact Int.ofNat_dvd_left.2 h
theorem invD_mul (m:Mx):invD m * (invG m:Int) = norm (detM m):=Int.tdiv_mul_cancel (invG_norm m)
theorem invD_pos {m:Mx} (h:invE m = 0):1<=invD m:=by
 have h1:=norm_pos (inv_ok h).2;have h2:=invD_mul m;have h3:=(invD_bd h).1;false_or_by_contra
 have:invD m = 0:=by omega
 rw [this,Int.zero_mul] at h2;omega
end Go.Proofs.YtbcdgfgacigaoaaGreat.Mat
end
section
namespace Go.Proofs.YtbcdgfgacigaoaaGreat.Mat
open Go Go.Ab Go.Tx Go.Proofs.YtbcdgfgacigaoaaGreat
abbrev Rg:=Mx × Mx × Int × Int × Int × Unit
theorem first3 (a b c:Int):drive_first [a,b,c] = some (if a = 0 then if b = 0 then c else b else a):=by
 rw [first_eq _ (by simp)];by_cases h:a = 0 <;> by_cases h2:b = 0 <;> by_cases h3:c = 0 <;> simp [fst0,h,h2,h3]
theorem first4 (a b c d:Int):drive_first [a,b,c,d] = some (if a = 0 then if b = 0 then if c = 0 then d else c else b else a):=by
 rw [first_eq _ (by simp)];by_cases h:a = 0 <;> by_cases h2:b = 0 <;> by_cases h3:c = 0 <;> by_cases h4:d = 0 <;> simp [fst0,h,h2,h3,h4]
theorem divisor_gen (l:List Int) (hl:l.length<=1000000000) (hb:gcdL l<=9223372036854775807):drive_divisor l = some (gcdL l:Int):=by
 unfold drive_divisor;refine Ok.eq ?_;rw [ok_bind];refine (loop_up l.length (λi (s:Int × Int)=>s.2 = (i:Int)/\s.1.natAbs = gcdL (l.take i)) (λr:Int=>r.natAbs = gcdL l) ⟨rfl,rfl⟩ ?_).mono ?_
 ·rintro i ⟨g,s⟩ hi ⟨h1,h2⟩;simp only at h1 h2;subst h1;by_cases hlt:i < l.length
  ·have e0:decide ((i:Int) < (l.length:Int)) = true:=decide_eq_true (by omega);simp only [e0,cond_true];rw [idx_in 0 (by omega) (by omega)];simp only [Option.bind_some,Int.toNat_natCast];obtain ⟨r,h3,h4⟩:=euclid_loop (f:=λ(s5:(Int × Int))=>bif !(decide (s5.2 = 0)) then bif decide (s5.2 = 0) then none else some (.inl (s5.2,s5.1.tmod s5.2)) else some (.inr s5.1)) (λs=>by
    by_cases h:s.2 = 0 <;> simp [h]) (l.getD i 0).natAbs g (l.getD i 0) (Nat.le_refl _)
   rw [h3];simp only [Option.bind_some];rw [wid (by omega) (by omega),rnd_inl];refine ⟨hlt,by simp,?_⟩;rw [h4,take_next 0 hlt];unfold gcdL at h2 ⊢;rw [gcdF_snoc,<- h2];rfl
  ·have:i = l.length:=by omega
   subst this;have e0:decide ((l.length:Int) < (l.length:Int)) = false:=by simp
   simp only [e0,cond_false];rw [rnd_inr];simpa using h2
 ·intro r hr;rw [wid (by omega) (by omega),ok_some];omega
theorem gcd_pos_le {a b:Int} (h0:0 < b):(Int.gcd a b:Int)<=b/\1<=Int.gcd a b:=by
 have h1:Nat.gcd a.natAbs b.natAbs ∣ b.natAbs:=Nat.gcd_dvd_right _ _;have h2:=Nat.le_of_dvd (by omega) h1;have h3:0 < Nat.gcd a.natAbs b.natAbs:=Nat.pos_of_dvd_of_pos h1 (by omega);have e:Int.gcd a b = Nat.gcd a.natAbs b.natAbs:=rfl;rw [e]; omega
theorem divisor2_ok {a b:Int} (h0:0 < b) (h1:b<=9223372036854775807):drive_divisor [a,b] = some (Int.gcd a b:Int):=by
 have h:=(gcd_pos_le (a:=a) h0).1;rw [divisor_gen _ (by simp) (by rw [gcdL_two]; omega),gcdL_two]
theorem Gcd_gen {a b:Int} (h0:0 < b) (h1:b<=9223372036854775807):base_Gcd a b = some (Int.gcd a b:Int):=by
 unfold base_Gcd;refine Ok.eq ?_;rw [ok_bind];obtain ⟨r,h3,h4⟩:=euclid_loop (f:=λ(s2:(Int × Int))=>bif !(decide (s2.2 = 0)) then bif decide (s2.2 = 0) then none else some (.inl (s2.2,s2.1.tmod s2.2)) else some (.inr s2.1)) (λs=>by
  by_cases h:s.2 = 0 <;> simp [h]) b.natAbs a b (Nat.le_refl _)
 refine ⟨r,h3,?_⟩;have h:=(gcd_pos_le (a:=a) h0).1;show Ok ((base_Size r).bind λx4=>some x4) _;rw [Size_ok (by omega),Option.bind_some,ok_some,h4]
def low (num den:Int):Prop:=0 < den/\Int.gcd num den = 1
instance (num den:Int):Decidable (low num den):=inferInstanceAs (Decidable (_/\_))
def rigE (r:Rg):Int :=
 if matE r.1 ≠ 0 then matE r.1 else if matE r.2.1 ≠ 0 then matE r.2.1 else if r.1.length ≠ r.2.1.length then 13 else if invE r.2.1 ≠ 0 then invE r.2.1
 else if ¬ low r.2.2.1 r.2.2.2.1 then 3 else if ¬ (0<=r.2.2.1/\r.2.2.1<=r.2.2.2.1) then 2 else if ¬ r.2.2.2.1<=100 then 2 else if ¬ (0<=r.2.2.2.2.1/\r.2.2.2.2.1<=1000) then 2 else 0
theorem IsLowest_ok {num den:Int} (h1:den<=9223372036854775807):base_IsLowest (num,den,()) = some (decide (low num den)):=by
 unfold base_IsLowest;by_cases h0:0 < den
 ·rw [decide_eq_true (show den > 0 from h0),cond_true,Gcd_gen h0 h1];simp only [Option.bind_some];congr 1
  unfold low;simp [h0] <;> omega
 ·rw [decide_eq_false (show ¬ den > 0 from h0),cond_false,decide_eq_false (show ¬ low num den from λh=>h0 h.1)]; rfl
theorem RigErr_ok {r:Rg} (hp:r.1.length<=1000000000) (hpr:∀ x ∈ r.1,x.length<=1000000000) (hm:r.2.1.length<=1000000000) (hmr:∀ x ∈ r.2.1,x.length<=1000000000) (hd:r.2.2.2.1<=9223372036854775807):ref04_RigErr r = some (rigE r):=by
 obtain ⟨p,m,num,den,lag,_⟩:=r;simp only at hp hpr hm hmr hd;unfold ref04_RigErr rigE;simp only
 rw [MatrixErr_ok hp hpr,Option.bind_some];by_cases e1:matE p = 0
 case neg=>rw [decide_eq_false e1,Bool.not_false,cond_true,if_pos e1]
 rw [decide_eq_true e1,Bool.not_true,cond_false,if_neg (show ¬ (matE p ≠ 0) from λhh=>hh e1),MatrixErr_ok hm hmr,Option.bind_some];by_cases e2:matE m = 0
 case neg=>rw [decide_eq_false e2,Bool.not_false,cond_true,if_pos e2]
 rw [decide_eq_true e2,Bool.not_true,cond_false,if_neg (show ¬ (matE m ≠ 0) from λhh=>hh e2)];by_cases e3:p.length = m.length
 case neg=>rw [decide_eq_false (show ¬ (m.length:Int) = (p.length:Int) by omega),Bool.not_false,cond_true,if_pos e3]
 rw [decide_eq_true (show (m.length:Int) = (p.length:Int) by omega),Bool.not_true,cond_false,if_neg (show ¬ (p.length ≠ m.length) from λhh=>hh e3),InverseErr_ok hm hmr,Option.bind_some];by_cases e4:invE m = 0
 case neg=>rw [decide_eq_false e4,Bool.not_false,cond_true,if_pos e4]
 rw [decide_eq_true e4,Bool.not_true,cond_false,if_neg (show ¬ (invE m ≠ 0) from λhh=>hh e4),IsLowest_ok hd,Option.bind_some];by_cases e5:low num den
 case neg=>rw [decide_eq_false e5,Bool.not_false,cond_true,if_pos e5]
 rw [decide_eq_true e5,Bool.not_true,cond_false,if_neg (show ¬ (¬ low num den) from λhh=>hh e5),Within_ok,Option.bind_some];by_cases e6:0<=num/\num<=den
 case neg=>rw [decide_eq_false e6,Bool.not_false,cond_true,if_pos e6]; rfl
 rw [decide_eq_true e6,Bool.not_true,cond_false,if_neg (show ¬ (¬ (0<=num/\num<=den)) from λhh=>hh e6)];by_cases e7:den<=100
 case neg=>rw [decide_eq_true (show den > 100 by omega),cond_true,if_pos e7]; rfl
 rw [decide_eq_false (show ¬ den > 100 by omega),cond_false,if_neg (show ¬ (¬ den<=100) from λhh=>hh e7),Within_ok];by_cases e8:0<=lag/\lag<=1000
 case neg=>rw [decide_eq_false e8,if_pos e8]; rfl
 rw [decide_eq_true e8,if_neg (show ¬ (¬ (0<=lag/\lag<=1000)) from λhh=>hh e8)]; rfl
theorem openRig_ok {r:Rg} (hp:r.1.length<=1000000000) (hpr:∀ x ∈ r.1,x.length<=1000000000) (hm:r.2.1.length<=1000000000) (hmr:∀ x ∈ r.2.1,x.length<=1000000000) (hd:r.2.2.2.1<=9223372036854775807) :
  ∃ y,drive_openRig r = some (y,rigE r)/\(rigE r = 0->y = (r.1,r.2.1,r.2.2.1,r.2.2.2.1,r.2.2.2.2.1,invD r.2.1,mx r.2.1.length r.2.1.length (invF r.2.1),())):=by
 obtain ⟨p,m,num,den,lag,_⟩:=r;simp only at hp hpr hm hmr hd;unfold drive_openRig;simp only
 rw [matrixErr_ok hp hpr,Option.bind_some,matrixErr_ok hm hmr,Option.bind_some,unless_eq,Option.bind_some,first3,Option.bind_some];unfold rigE;simp only
 by_cases e1:matE p = 0
 case neg =>
  rw [if_neg e1,decide_eq_false e1,Bool.not_false,cond_true,if_pos e1];exact ⟨_,rfl,λh=>absurd h e1⟩
 rw [if_pos e1,if_neg (show ¬ (matE p ≠ 0) from λhh=>hh e1)];by_cases e2:matE m = 0
 case neg =>
  rw [if_neg e2,decide_eq_false e2,Bool.not_false,cond_true,if_pos e2];exact ⟨_,rfl,λh=>absurd h e2⟩
 rw [if_pos e2,if_neg (show ¬ (matE m ≠ 0) from λhh=>hh e2)];by_cases e3:p.length = m.length
 case neg =>
  rw [decide_eq_false (show ¬ (p.length:Int) = (m.length:Int) by omega),if_neg (by simp),decide_eq_false (show ¬ (13:Int) = 0 by omega),Bool.not_false,cond_true,if_pos e3];exact ⟨_,rfl,λh=>by cases h⟩
 rw [decide_eq_true (show (p.length:Int) = (m.length:Int) by omega),if_pos rfl,decide_eq_true (show (0:Int) = 0 from rfl),Bool.not_true,cond_false,if_neg (show ¬ (p.length ≠ m.length) from λhh=>hh e3),InverseOf_ok hm hmr,Option.bind_some];have hmid:∀ b1 b2 b3:Bool,∀ x:Int,drive_first [x,if b1 = true then (0:Int) else 3,if b2 = true then (0:Int) else 2,if b3 = true then (0:Int) else 2] = some (if x = 0 then if b1 = true then if b2 = true then if b3 = true then 0 else 2 else 2 else 3 else x):=λb1 b2 b3 x=>by
  rw [first4];cases b1 <;> cases b2 <;> cases b3 <;> simp
 have hinner:(bif decide (den > 0) then
    (drive_divisor ([num,den])).bind λx6 =>
    (drive_unless (decide (x6 = 1)) (3:Int)).bind λx7 =>
    (drive_within num (0:Int) den).bind λx8 =>
    bif x8 then
     (drive_unless (decide (den<=100)) (2:Int)).bind λx9 =>
     (drive_within lag (0:Int) (1000:Int)).bind λx10 =>
     (drive_unless x10 (2:Int)).bind λx11 =>
     (drive_first ([invE m,x7,x9,x11])).bind λx12 =>
     some x12
    else
     (drive_unless false (2:Int)).bind λx13 =>
     (drive_within lag (0:Int) (1000:Int)).bind λx14 =>
     (drive_unless x14 (2:Int)).bind λx15 =>
     (drive_first ([invE m,x7,x13,x15])).bind λx16 =>
     some x16
   else
    (drive_unless false (3:Int)).bind λx17 =>
    (drive_within num (0:Int) den).bind λx18 =>
    bif x18 then
     (drive_unless (decide (den<=100)) (2:Int)).bind λx19 =>
     (drive_within lag (0:Int) (1000:Int)).bind λx20 =>
     (drive_unless x20 (2:Int)).bind λx21 =>
     (drive_first ([invE m,x17,x19,x21])).bind λx22 =>
     some x22
    else
     (drive_unless false (2:Int)).bind λx23 =>
     (drive_within lag (0:Int) (1000:Int)).bind λx24 =>
     (drive_unless x24 (2:Int)).bind λx25 =>
     (drive_first ([invE m,x17,x23,x25])).bind λx26 =>
     some x26) = some (if invE m ≠ 0 then invE m
 else if ¬ low num den then 3 else if ¬ (0<=num/\num<=den) then 2 else if ¬ den<=100 then 2 else if ¬ (0<=lag/\lag<=1000) then 2 else 0):=by
  simp only [within_ok,unless_eq,Option.bind_some,hmid];by_cases h0:0 < den
  ·rw [decide_eq_true (show den > 0 from h0),cond_true,divisor2_ok h0 hd];simp only [Option.bind_some,hmid];have hl:low num den ↔ ((Int.gcd num den:Nat):Int) = 1:=by unfold low; constructor <;> intro h <;> omega
   by_cases e4:invE m = 0 <;> by_cases e5:((Int.gcd num den:Nat):Int) = 1 <;> by_cases e6:0<=num/\num<=den <;> by_cases e7:den<=100 <;> by_cases e8:0<=lag/\lag<=1000 <;> (try clear h0 hd hp hpr hm hmr) <;> simp [hl,e4,e5,e6,e7,e8]
  ·have hl:¬ low num den:=λh=>h0 h.1;rw [decide_eq_false (show ¬ den > 0 from h0),cond_false];by_cases e4:invE m = 0 <;> by_cases e6:0<=num/\num<=den <;> by_cases e7:den<=100 <;> by_cases e8:0<=lag/\lag<=1000 <;> (try clear h0 hd hp hpr hm hmr) <;> simp [hl,e4,e6,e7,e8]
 rw [hinner,Option.bind_some];refine ⟨_,rfl,λh=>?_⟩;have e4:invE m = 0:=by
  false_or_by_contra
  rename_i h9;rw [if_pos h9] at h;exact h9 h
 rw [if_pos e4,invM_eq]
theorem rig_ok {r:Rg} (h:rigE r = 0):matE r.1 = 0/\invE r.2.1 = 0/\r.1.length = r.2.1.length/\0 < r.2.2.2.1/\0<=r.2.2.1/\r.2.2.1<=r.2.2.2.1/\r.2.2.2.1<=100:=by
 unfold rigE at h;by_cases e1:matE r.1 = 0
 case neg=>rw [if_pos e1] at h; exact absurd h e1
 rw [if_neg (show ¬ (matE r.1 ≠ 0) from λhh=>hh e1)] at h;by_cases e2:matE r.2.1 = 0
 case neg=>rw [if_pos e2] at h; exact absurd h e2
 rw [if_neg (show ¬ (matE r.2.1 ≠ 0) from λhh=>hh e2)] at h;by_cases e3:r.1.length = r.2.1.length
 case neg=>rw [if_pos e3] at h; cases h
 rw [if_neg (show ¬ (r.1.length ≠ r.2.1.length) from λhh=>hh e3)] at h;by_cases e4:invE r.2.1 = 0
 case neg=>rw [if_pos e4] at h; exact absurd h e4
 rw [if_neg (show ¬ (invE r.2.1 ≠ 0) from λhh=>hh e4)] at h;by_cases e5:low r.2.2.1 r.2.2.2.1
 case neg=>rw [if_pos e5] at h; cases h
 rw [if_neg (show ¬ ¬ _ from λhh=>hh e5)] at h;by_cases e6:0<=r.2.2.1/\r.2.2.1<=r.2.2.2.1
 case neg=>rw [if_pos e6] at h; cases h
 rw [if_neg (show ¬ ¬ (0<=r.2.2.1/\r.2.2.1<=r.2.2.2.1) from λhh=>hh e6)] at h;by_cases e7:r.2.2.2.1<=100
 case neg=>rw [if_pos e7] at h; cases h
 exact ⟨e1,e4,e3,e5.1,e6.1,e6.2,e7⟩
def conF (r:Rg) (i k:Nat):G:=gsub (diagF (r.2.2.2.1 * invD r.2.1) i k) (gmul (prodF r.2.1.length (ent r.1) (invF r.2.1) i k) (r.2.2.1,0,()))
def conR (r:Rg):Int:=rsum r.2.1.length r.2.1.length (conF r)
def conQ (r:Rg):Int:=r.2.2.2.1 * invD r.2.1
theorem minus_ok {A B:Int} {a b:G} (h:Bd A a) (h':Bd B b) (hb:A + B<=9000000000000000000):drive_whole_minus a b = some (gsub a b):=congrArg some (sub_w h h' hb)
theorem GSub_ok {A B:Int} {a b:G} (h:Bd A a) (h':Bd B b) (hb:A + B<=9000000000000000000):base_GSub a b = some (gsub a b):=congrArg some (sub_w h h' hb)
structure ConB (r:Rg):Prop where
 pB:BdF 73728000000 r.2.1.length r.2.1.length (prodF r.2.1.length (ent r.1) (invF r.2.1))
 sB:BdF 14745600000000 r.2.1.length r.2.1.length (λi k=>gmul (prodF r.2.1.length (ent r.1) (invF r.2.1) i k) (r.2.2.1,0,()))
 qB:1<=conQ r/\conQ r<=7372800000000
 cB:BdF 22118400000000 r.2.1.length r.2.1.length (conF r)
 rB:0<=conR r/\conR r<=132710400000000
 n1:1<=r.2.1.length
 n3:r.2.1.length<=3
theorem conB {r:Rg} (h:rigE r = 0):ConB r:=by
 obtain ⟨hE,hI,hl,h0,h1,h2,h3⟩:=rig_ok h;obtain ⟨m1,m3,mR,mB⟩:=mat_ok hE;have hX:=invF_bd hI;have hD:=invD_bd hI;have hD1:=invD_pos hI;have hA:=bdM_ent mB mR;rw [hl] at hA;have hq2:conQ r<=100 * 73728000000:=Int.mul_le_mul h3 hD.2 hD.1 (by omega);have hq1:1 * 1<=conQ r:=Int.mul_le_mul (by omega) hD1 (by omega) (by omega);have hp:BdF 73728000000 r.2.1.length r.2.1.length (prodF r.2.1.length (ent r.1) (invF r.2.1)):=λi k hi hk=>by
  have:=Bd.sum (n:=r.2.1.length) (f:=λj=>gmul (ent r.1 i j) (invF r.2.1 j k)) (B:=2 * (20 * 614400000)) λj hj=>(hA i j hi hj).mul (hX j k hj hk);refine this.mono ?_;have h4:(r.2.1.length:Int) * (2 * (20 * 614400000))<=3 * (2 * (20 * 614400000)):=Int.mul_le_mul_of_nonneg_right (by omega) (by omega);omega
 have hs:BdF 14745600000000 r.2.1.length r.2.1.length (λi k=>gmul (prodF r.2.1.length (ent r.1) (invF r.2.1) i k) (r.2.2.1,0,())):=λi k hi hk=>by
  have h5:Bd 100 ((r.2.2.1,0,()):G):=by unfold Bd; simp only <;> omega
  exact ((hp i k hi hk).mul h5).mono (by omega)
 have hc:BdF 22118400000000 r.2.1.length r.2.1.length (conF r):=λi k hi hk=>by
  have hdg:=diag_bd (s:=conQ r) (B:=7372800000000) (by omega) (by omega) r.2.1.length r.2.1.length i k hi hk;exact (hdg.sub (hs i k hi hk)).mono (by omega)
 refine ⟨hp,hs,by omega,hc,?_,by omega,by omega⟩;unfold conR rsum;refine maxZ_bd (by omega) λi hi=>?_;have:=(sumZ_bd (n:=r.2.1.length) (f:=λk=>gsize (conF r i k)) λk hk=>gsize_bd (hc i k hi hk)).2;have h4:(r.2.1.length:Int) * (2 * 22118400000000)<=3 * (2 * 22118400000000):=Int.mul_le_mul_of_nonneg_right (by omega) (by omega);omega
def smallC (c:G):Prop:=(-1000000000<=c.1/\c.1<=1000000000)/\c.2.1<=1000000000
instance (c:G):Decidable (smallC c):=inferInstanceAs (Decidable (_/\_))
theorem fewRig_ok (r:Rg):Ok (law04_fewRig r) λb=>b = true->FewM r.1 5/\FewM r.2.1 5:=by
 unfold law04_fewRig;refine Ok.bind (P:=λb:Bool=>b = true->FewM r.1 5/\FewM r.2.1 5) ?_ λb hb=>ok_some.2 hb;refine Ok.bind (few_ok r.1) λx hx=>?_;cases x with
 | false=>exact ok_some.2 (by simp)
 | true =>
  rw [cond_true];exact Ok.bind (few_ok r.2.1) λy hy=>ok_some.2 λh=>⟨hx rfl,hy h⟩
theorem CopyRig_ok {r:Rg} (hp:r.1.length<=1000000000) (hpr:∀ x ∈ r.1,x.length<=1000000000) (hm:r.2.1.length<=1000000000) (hmr:∀ x ∈ r.2.1,x.length<=1000000000):ref04_CopyRig r = some r:=by
 unfold ref04_CopyRig;rw [CopyMatrix_ok hp hpr,Option.bind_some,CopyMatrix_ok hm hmr,Option.bind_some]
end Go.Proofs.YtbcdgfgacigaoaaGreat.Mat
namespace Go.Proofs.YtbcdgfgacigaoaaGreat
open Go Go.Ab Go.Tx
end Go.Proofs.YtbcdgfgacigaoaaGreat
end
