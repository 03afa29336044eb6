/- The table of the functions. -/
import Derived.Test.YtdhgdpokdhjanaaGreatIr0
import Derived.Test.YtdhgdpokdhjanaaGreatIr1
import Derived.Test.YtdhgdpokdhjanaaGreatIr2
namespace Go.Proofs.YtdhgdpokdhjanaaGreat.Abs
open Go
def rows : List (List (Option AFunc)) := [
  [none, none, none, none, none, none, none, none, none, none, none, none, none, none, none, none],
  [none, none, none, none, none, none, none, none, none, none, none, none, none, none, none, none],
  [none, none, none, none, none, none, none, none, none, none, none, none, none, none, none, none],
  [none, none, none, none, some f52, some f53, none, some f55, some f56, some f57, some f58, none, none, none, none, none],
  [none, none, none, none, none, none, none, some f71, some f72, some f73, some f74, some f75, some f76, some f77, some f78, some f79],
  [some f80, some f81, some f82, some f83, some f84, some f85, some f86, some f87, some f88, some f89, some f90, some f91, some f92, some f93, some f94, some f95],
  [some f96, some f97, some f98, none, none, none, none, none, none, none, none, none, none, none, none, none],
  [none, none, none, some f115, some f116, some f117, some f118, none, some f120, some f121, none, none, none, none, none, none],
  [none, none, none, none, none, none, none, none, none, none, none, none, none, none, some f142, some f143],
  [some f144, some f145, none, some f147, none, none, some f150, some f151, some f152, none, some f154, some f155, some f156, some f157, none, none],
  [none, some f161, none, some f163, some f164, none, some f166, none, some f168, none, some f170, some f171, some f172, some f173, some f174, some f175],
  [none, none, some f178, some f179, some f180, some f181, some f182, some f183, some f184, none, none, some f187, some f188, some f189, some f190, some f191],
  [some f192, some f193, some f194, some f195, some f196, some f197, some f198, some f199, some f200, some f201, some f202, some f203, some f204, some f205, some f206, some f207],
  [some f208, some f209, some f210, some f211, some f212, some f213, some f214, some f215, some f216, some f217, some f218, some f219, some f220, some f221, some f222, some f223],
  [some f224, some f225, some f226, some f227, some f228, some f229, some f230, some f231, some f232, some f233, some f234, some f235, some f236, some f237, none, none],
  [none, none, none, none, none, none, none, none, none, none, none, none, none, none, none, none],
  [none, none, none, none, none, none, none, none, none, none, none, none, none, none, none, none],
  [none, none, none, none, none, none, none, none, none, none, none, none, none, none, none, none],
  [none, none, none, none, none, none, some f294, some f295, some f296, some f297, none, none, none, some f301, none, some f303],
  [some f304, some f305, none, none, none, none, none, none, none, none, none, none, none, none, none, none],
  [none, none, none, none, none, none, none, none, none, none, none, none, none, none, none, none],
  [none, none, some f338, some f339, some f340, some f341, some f342, some f343, some f344, some f345, some f346, some f347, none, none, none, none],
  [none, none, none, none, none, none, none, none, some f360, none, none, none, none, none, none, some f367],
  [some f368, none, some f370, some f371, some f372, some f373, some f374, some f375, some f376, some f377, some f378, some f379, some f380, some f381, some f382, none],
  [some f384, some f385, some f386, some f387, some f388, some f389, none, none, none, none, some f394, none, none, none, none, none],
  [none, none, none, none, none, none, none, none, none, none, none, none, none, none, none, some f415],
  [none, none, none, none, none, none, some f422, some f423, some f424, none, none, none, none, none, none, none],
  [none, none, none, none, none, none, none, some f439, some f440, none, none, none, none, none, some f446, some f447],
  [none, none, none, none, none, none, none, none, none, none, none, none, none, none, none, none],
  [none, none, none, none, none, none, none, none, none, none, none, none, none, none, none, some f479],
  [none, none, none, some f483, none, some f485, none, none, none, none, none, none, none, none, none, none]]
def table (i : Nat) : Option AFunc := ((rows[i / 16]?).getD [])[i % 16]?.getD none
end Go.Proofs.YtdhgdpokdhjanaaGreat.Abs
