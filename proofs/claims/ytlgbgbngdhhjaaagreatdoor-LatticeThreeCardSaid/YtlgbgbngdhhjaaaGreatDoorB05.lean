/- That these are the program's functions; pieces of code; memory told anew. No condition. -/
import Derived.Test.YtlgbgbngdhhjaaaGreatDoorProg
import Derived.Test.YtlgbgbngdhhjaaaGreatDoorB04
import Derived.KernelRfl
import Derived.Test.YtlgbgbngdhhjaaaGreatDoorB02
set_option maxRecDepth 100000
namespace Go.Proofs.YtlgbgbngdhhjaaaGreatDoor
namespace K
open Go AM

theorem ok3 : FuncOk Tryz.prog tbl Tryz.f3 a3 := ⟨by decide, rfl, ⟨_, rfl, by kernel_rfl⟩, by kernel_rfl⟩
theorem ok4 : FuncOk Tryz.prog tbl Tryz.f4 a4 := ⟨by decide, rfl, ⟨_, rfl, by kernel_rfl⟩, by kernel_rfl⟩
theorem ok5 : FuncOk Tryz.prog tbl Tryz.f5 a5 := ⟨by decide, rfl, ⟨_, rfl, by kernel_rfl⟩, by kernel_rfl⟩
theorem ok6 : FuncOk Tryz.prog tbl Tryz.f6 a6 := ⟨by decide, rfl, ⟨_, rfl, by kernel_rfl⟩, by kernel_rfl⟩
theorem ok7 : FuncOk Tryz.prog tbl Tryz.f7 a7 := ⟨by decide, rfl, ⟨_, rfl, by kernel_rfl⟩, by kernel_rfl⟩
theorem ok8 : FuncOk Tryz.prog tbl Tryz.f8 a8 := ⟨by decide, rfl, ⟨_, rfl, by kernel_rfl⟩, by kernel_rfl⟩
theorem ok9 : FuncOk Tryz.prog tbl Tryz.f9 a9 := ⟨by decide, rfl, ⟨_, rfl, by kernel_rfl⟩, by kernel_rfl⟩
theorem ok10 : FuncOk Tryz.prog tbl Tryz.f10 a10 := ⟨by decide, rfl, ⟨_, rfl, by kernel_rfl⟩, by kernel_rfl⟩
theorem ok11 : FuncOk Tryz.prog tbl Tryz.f11 a11 := ⟨by decide, rfl, ⟨_, rfl, by kernel_rfl⟩, by kernel_rfl⟩
theorem ok12 : FuncOk Tryz.prog tbl Tryz.f12 a12 := ⟨by decide, rfl, ⟨_, rfl, by kernel_rfl⟩, by kernel_rfl⟩
theorem ok13 : FuncOk Tryz.prog tbl Tryz.f13 a13 := ⟨by decide, rfl, ⟨_, rfl, by kernel_rfl⟩, by kernel_rfl⟩
theorem ok14 : FuncOk Tryz.prog tbl Tryz.f14 a14 := ⟨by decide, rfl, ⟨_, rfl, by kernel_rfl⟩, by kernel_rfl⟩
theorem ok15 : FuncOk Tryz.prog tbl Tryz.f15 a15 := ⟨by decide, rfl, ⟨_, rfl, by kernel_rfl⟩, by kernel_rfl⟩
theorem ok16 : FuncOk Tryz.prog tbl Tryz.f16 a16 := ⟨by decide, rfl, ⟨_, rfl, by kernel_rfl⟩, by kernel_rfl⟩
theorem ok17 : FuncOk Tryz.prog tbl Tryz.f17 a17 := ⟨by decide, rfl, ⟨_, rfl, by kernel_rfl⟩, by kernel_rfl⟩
theorem ok18 : FuncOk Tryz.prog tbl Tryz.f18 a18 := ⟨by decide, rfl, ⟨_, rfl, by kernel_rfl⟩, by kernel_rfl⟩
theorem ok19 : FuncOk Tryz.prog tbl Tryz.f19 a19 := ⟨by decide, rfl, ⟨_, rfl, by kernel_rfl⟩, by kernel_rfl⟩
theorem ok20 : FuncOk Tryz.prog tbl Tryz.f20 a20 := ⟨by decide, rfl, ⟨_, rfl, by kernel_rfl⟩, by kernel_rfl⟩
theorem ok21 : FuncOk Tryz.prog tbl Tryz.f21 a21 := ⟨by decide, rfl, ⟨_, rfl, by kernel_rfl⟩, by kernel_rfl⟩
theorem ok22 : FuncOk Tryz.prog tbl Tryz.f22 a22 := ⟨by decide, rfl, ⟨_, rfl, by kernel_rfl⟩, by kernel_rfl⟩
theorem ok23 : FuncOk Tryz.prog tbl Tryz.f23 a23 := ⟨by decide, rfl, ⟨_, rfl, by kernel_rfl⟩, by kernel_rfl⟩
theorem ok24 : FuncOk Tryz.prog tbl Tryz.f24 a24 := ⟨by decide, rfl, ⟨_, rfl, by kernel_rfl⟩, by kernel_rfl⟩
theorem ok25 : FuncOk Tryz.prog tbl Tryz.f25 a25 := ⟨by decide, rfl, ⟨_, rfl, by kernel_rfl⟩, by kernel_rfl⟩
theorem ok26 : FuncOk Tryz.prog tbl Tryz.f26 a26 := ⟨by decide, rfl, ⟨_, rfl, by kernel_rfl⟩, by kernel_rfl⟩
theorem ok27 : FuncOk Tryz.prog tbl Tryz.f27 a27 := ⟨by decide, rfl, ⟨_, rfl, by kernel_rfl⟩, by kernel_rfl⟩
theorem ok28 : FuncOk Tryz.prog tbl Tryz.f28 a28 := ⟨by decide, rfl, ⟨_, rfl, by kernel_rfl⟩, by kernel_rfl⟩
theorem ok29 : FuncOk Tryz.prog tbl Tryz.f29 a29 := ⟨by decide, rfl, ⟨_, rfl, by kernel_rfl⟩, by kernel_rfl⟩
theorem ok30 : FuncOk Tryz.prog tbl Tryz.f30 a30 := ⟨by decide, rfl, ⟨_, rfl, by kernel_rfl⟩, by kernel_rfl⟩
theorem ok31 : FuncOk Tryz.prog tbl Tryz.f31 a31 := ⟨by decide, rfl, ⟨_, rfl, by kernel_rfl⟩, by kernel_rfl⟩
theorem ok32 : FuncOk Tryz.prog tbl Tryz.f32 a32 := ⟨by decide, rfl, ⟨_, rfl, by kernel_rfl⟩, by kernel_rfl⟩
theorem ok33 : FuncOk Tryz.prog tbl Tryz.f33 a33 := ⟨by decide, rfl, ⟨_, rfl, by kernel_rfl⟩, by kernel_rfl⟩
theorem ok34 : FuncOk Tryz.prog tbl Tryz.f34 a34 := ⟨by decide, rfl, ⟨_, rfl, by kernel_rfl⟩, by kernel_rfl⟩
theorem ok35 : FuncOk Tryz.prog tbl Tryz.f35 a35 := ⟨by decide, rfl, ⟨_, rfl, by kernel_rfl⟩, by kernel_rfl⟩
theorem ok36 : FuncOk Tryz.prog tbl Tryz.f36 a36 := ⟨by decide, rfl, ⟨_, rfl, by kernel_rfl⟩, by kernel_rfl⟩
theorem ok37 : FuncOk Tryz.prog tbl Tryz.f37 a37 := ⟨by decide, rfl, ⟨_, rfl, by kernel_rfl⟩, by kernel_rfl⟩
theorem ok38 : FuncOk Tryz.prog tbl Tryz.f38 a38 := ⟨by decide, rfl, ⟨_, rfl, by kernel_rfl⟩, by kernel_rfl⟩
theorem ok39 : FuncOk Tryz.prog tbl Tryz.f39 a39 := ⟨by decide, rfl, ⟨_, rfl, by kernel_rfl⟩, by kernel_rfl⟩
theorem ok40 : FuncOk Tryz.prog tbl Tryz.f40 a40 := ⟨by decide, rfl, ⟨_, rfl, by kernel_rfl⟩, by kernel_rfl⟩
theorem ok41 : FuncOk Tryz.prog tbl Tryz.f41 a41 := ⟨by decide, rfl, ⟨_, rfl, by kernel_rfl⟩, by kernel_rfl⟩
theorem ok42 : FuncOk Tryz.prog tbl Tryz.f42 a42 := ⟨by decide, rfl, ⟨_, rfl, by kernel_rfl⟩, by kernel_rfl⟩
theorem ok43 : FuncOk Tryz.prog tbl Tryz.f43 a43 := ⟨by decide, rfl, ⟨_, rfl, by kernel_rfl⟩, by kernel_rfl⟩
theorem ok44 : FuncOk Tryz.prog tbl Tryz.f44 a44 := ⟨by decide, rfl, ⟨_, rfl, by kernel_rfl⟩, by kernel_rfl⟩

end K
end Go.Proofs.YtlgbgbngdhhjaaaGreatDoor

set_option maxRecDepth 100000
namespace Go.Proofs.YtlgbgbngdhhjaaaGreatDoor
namespace K
open Go AM

theorem ok45 : FuncOk Tryz.prog tbl Tryz.f45 a45 := ⟨by decide, rfl, ⟨_, rfl, by kernel_rfl⟩, by kernel_rfl⟩
theorem ok46 : FuncOk Tryz.prog tbl Tryz.f46 a46 := ⟨by decide, rfl, ⟨_, rfl, by kernel_rfl⟩, by kernel_rfl⟩
theorem ok47 : FuncOk Tryz.prog tbl Tryz.f47 a47 := ⟨by decide, rfl, ⟨_, rfl, by kernel_rfl⟩, by kernel_rfl⟩
theorem ok48 : FuncOk Tryz.prog tbl Tryz.f48 a48 := ⟨by decide, rfl, ⟨_, rfl, by kernel_rfl⟩, by kernel_rfl⟩
theorem ok49 : FuncOk Tryz.prog tbl Tryz.f49 a49 := ⟨by decide, rfl, ⟨_, rfl, by kernel_rfl⟩, by kernel_rfl⟩
theorem ok50 : FuncOk Tryz.prog tbl Tryz.f50 a50 := ⟨by decide, rfl, ⟨_, rfl, by kernel_rfl⟩, by kernel_rfl⟩
theorem ok51 : FuncOk Tryz.prog tbl Tryz.f51 a51 := ⟨by decide, rfl, ⟨_, rfl, by kernel_rfl⟩, by kernel_rfl⟩
theorem ok53 : FuncOk Tryz.prog tbl Tryz.f53 a53 := ⟨by decide, rfl, ⟨_, rfl, by kernel_rfl⟩, by kernel_rfl⟩
theorem ok54 : FuncOk Tryz.prog tbl Tryz.f54 a54 := ⟨by decide, rfl, ⟨_, rfl, by kernel_rfl⟩, by kernel_rfl⟩
theorem ok55 : FuncOk Tryz.prog tbl Tryz.f55 a55 := ⟨by decide, rfl, ⟨_, rfl, by kernel_rfl⟩, by kernel_rfl⟩
theorem ok56 : FuncOk Tryz.prog tbl Tryz.f56 a56 := ⟨by decide, rfl, ⟨_, rfl, by kernel_rfl⟩, by kernel_rfl⟩
theorem ok57 : FuncOk Tryz.prog tbl Tryz.f57 a57 := ⟨by decide, rfl, ⟨_, rfl, by kernel_rfl⟩, by kernel_rfl⟩
theorem ok58 : FuncOk Tryz.prog tbl Tryz.f58 a58 := ⟨by decide, rfl, ⟨_, rfl, by kernel_rfl⟩, by kernel_rfl⟩
theorem ok59 : FuncOk Tryz.prog tbl Tryz.f59 a59 := ⟨by decide, rfl, ⟨_, rfl, by kernel_rfl⟩, by kernel_rfl⟩
theorem ok60 : FuncOk Tryz.prog tbl Tryz.f60 a60 := ⟨by decide, rfl, ⟨_, rfl, by kernel_rfl⟩, by kernel_rfl⟩
theorem ok61 : FuncOk Tryz.prog tbl Tryz.f61 a61 := ⟨by decide, rfl, ⟨_, rfl, by kernel_rfl⟩, by kernel_rfl⟩
theorem ok62 : FuncOk Tryz.prog tbl Tryz.f62 a62 := ⟨by decide, rfl, ⟨_, rfl, by kernel_rfl⟩, by kernel_rfl⟩
theorem ok63 : FuncOk Tryz.prog tbl Tryz.f63 a63 := ⟨by decide, rfl, ⟨_, rfl, by kernel_rfl⟩, by kernel_rfl⟩
theorem ok64 : FuncOk Tryz.prog tbl Tryz.f64 a64 := ⟨by decide, rfl, ⟨_, rfl, by kernel_rfl⟩, by kernel_rfl⟩
theorem ok65 : FuncOk Tryz.prog tbl Tryz.f65 a65 := ⟨by decide, rfl, ⟨_, rfl, by kernel_rfl⟩, by kernel_rfl⟩
theorem ok66 : FuncOk Tryz.prog tbl Tryz.f66 a66 := ⟨by decide, rfl, ⟨_, rfl, by kernel_rfl⟩, by kernel_rfl⟩
theorem ok67 : FuncOk Tryz.prog tbl Tryz.f67 a67 := ⟨by decide, rfl, ⟨_, rfl, by kernel_rfl⟩, by kernel_rfl⟩
theorem ok68 : FuncOk Tryz.prog tbl Tryz.f68 a68 := ⟨by decide, rfl, ⟨_, rfl, by kernel_rfl⟩, by kernel_rfl⟩
theorem ok69 : FuncOk Tryz.prog tbl Tryz.f69 a69 := ⟨by decide, rfl, ⟨_, rfl, by kernel_rfl⟩, by kernel_rfl⟩
theorem ok70 : FuncOk Tryz.prog tbl Tryz.f70 a70 := ⟨by decide, rfl, ⟨_, rfl, by kernel_rfl⟩, by kernel_rfl⟩
theorem ok71 : FuncOk Tryz.prog tbl Tryz.f71 a71 := ⟨by decide, rfl, ⟨_, rfl, by kernel_rfl⟩, by kernel_rfl⟩
theorem ok72 : FuncOk Tryz.prog tbl Tryz.f72 a72 := ⟨by decide, rfl, ⟨_, rfl, by kernel_rfl⟩, by kernel_rfl⟩
theorem ok73 : FuncOk Tryz.prog tbl Tryz.f73 a73 := ⟨by decide, rfl, ⟨_, rfl, by kernel_rfl⟩, by kernel_rfl⟩
theorem ok74 : FuncOk Tryz.prog tbl Tryz.f74 a74 := ⟨by decide, rfl, ⟨_, rfl, by kernel_rfl⟩, by kernel_rfl⟩
theorem ok75 : FuncOk Tryz.prog tbl Tryz.f75 a75 := ⟨by decide, rfl, ⟨_, rfl, by kernel_rfl⟩, by kernel_rfl⟩
theorem ok76 : FuncOk Tryz.prog tbl Tryz.f76 a76 := ⟨by decide, rfl, ⟨_, rfl, by kernel_rfl⟩, by kernel_rfl⟩
theorem ok77 : FuncOk Tryz.prog tbl Tryz.f77 a77 := ⟨by decide, rfl, ⟨_, rfl, by kernel_rfl⟩, by kernel_rfl⟩
theorem ok78 : FuncOk Tryz.prog tbl Tryz.f78 a78 := ⟨by decide, rfl, ⟨_, rfl, by kernel_rfl⟩, by kernel_rfl⟩
theorem ok80 : FuncOk Tryz.prog tbl Tryz.f80 a80 := ⟨by decide, rfl, ⟨_, rfl, by kernel_rfl⟩, by kernel_rfl⟩
theorem ok82 : FuncOk Tryz.prog tbl Tryz.f82 a82 := ⟨by decide, rfl, ⟨_, rfl, by kernel_rfl⟩, by kernel_rfl⟩
theorem ok83 : FuncOk Tryz.prog tbl Tryz.f83 a83 := ⟨by decide, rfl, ⟨_, rfl, by kernel_rfl⟩, by kernel_rfl⟩
theorem ok84 : FuncOk Tryz.prog tbl Tryz.f84 a84 := ⟨by decide, rfl, ⟨_, rfl, by kernel_rfl⟩, by kernel_rfl⟩
theorem ok86 : FuncOk Tryz.prog tbl Tryz.f86 a86 := ⟨by decide, rfl, ⟨_, rfl, by kernel_rfl⟩, by kernel_rfl⟩
theorem ok87 : FuncOk Tryz.prog tbl Tryz.f87 a87 := ⟨by decide, rfl, ⟨_, rfl, by kernel_rfl⟩, by kernel_rfl⟩
theorem ok88 : FuncOk Tryz.prog tbl Tryz.f88 a88 := ⟨by decide, rfl, ⟨_, rfl, by kernel_rfl⟩, by kernel_rfl⟩
theorem ok89 : FuncOk Tryz.prog tbl Tryz.f89 a89 := ⟨by decide, rfl, ⟨_, rfl, by kernel_rfl⟩, by kernel_rfl⟩
theorem ok90 : FuncOk Tryz.prog tbl Tryz.f90 a90 := ⟨by decide, rfl, ⟨_, rfl, by kernel_rfl⟩, by kernel_rfl⟩

end K
end Go.Proofs.YtlgbgbngdhhjaaaGreatDoor

set_option maxRecDepth 100000
namespace Go.Proofs.YtlgbgbngdhhjaaaGreatDoor
namespace K
open Go AM

theorem ok91 : FuncOk Tryz.prog tbl Tryz.f91 a91 := ⟨by decide, rfl, ⟨_, rfl, by kernel_rfl⟩, by kernel_rfl⟩
theorem ok92 : FuncOk Tryz.prog tbl Tryz.f92 a92 := ⟨by decide, rfl, ⟨_, rfl, by kernel_rfl⟩, by kernel_rfl⟩
theorem ok93 : FuncOk Tryz.prog tbl Tryz.f93 a93 := ⟨by decide, rfl, ⟨_, rfl, by kernel_rfl⟩, by kernel_rfl⟩
theorem ok94 : FuncOk Tryz.prog tbl Tryz.f94 a94 := ⟨by decide, rfl, ⟨_, rfl, by kernel_rfl⟩, by kernel_rfl⟩
theorem ok95 : FuncOk Tryz.prog tbl Tryz.f95 a95 := ⟨by decide, rfl, ⟨_, rfl, by kernel_rfl⟩, by kernel_rfl⟩
theorem ok96 : FuncOk Tryz.prog tbl Tryz.f96 a96 := ⟨by decide, rfl, ⟨_, rfl, by kernel_rfl⟩, by kernel_rfl⟩
theorem ok97 : FuncOk Tryz.prog tbl Tryz.f97 a97 := ⟨by decide, rfl, ⟨_, rfl, by kernel_rfl⟩, by kernel_rfl⟩
theorem ok98 : FuncOk Tryz.prog tbl Tryz.f98 a98 := ⟨by decide, rfl, ⟨_, rfl, by kernel_rfl⟩, by kernel_rfl⟩
theorem ok99 : FuncOk Tryz.prog tbl Tryz.f99 a99 := ⟨by decide, rfl, ⟨_, rfl, by kernel_rfl⟩, by kernel_rfl⟩
theorem ok100 : FuncOk Tryz.prog tbl Tryz.f100 a100 := ⟨by decide, rfl, ⟨_, rfl, by kernel_rfl⟩, by kernel_rfl⟩
theorem ok101 : FuncOk Tryz.prog tbl Tryz.f101 a101 := ⟨by decide, rfl, ⟨_, rfl, by kernel_rfl⟩, by kernel_rfl⟩
theorem ok102 : FuncOk Tryz.prog tbl Tryz.f102 a102 := ⟨by decide, rfl, ⟨_, rfl, by kernel_rfl⟩, by kernel_rfl⟩
theorem ok103 : FuncOk Tryz.prog tbl Tryz.f103 a103 := ⟨by decide, rfl, ⟨_, rfl, by kernel_rfl⟩, by kernel_rfl⟩
theorem ok104 : FuncOk Tryz.prog tbl Tryz.f104 a104 := ⟨by decide, rfl, ⟨_, rfl, by kernel_rfl⟩, by kernel_rfl⟩
theorem ok105 : FuncOk Tryz.prog tbl Tryz.f105 a105 := ⟨by decide, rfl, ⟨_, rfl, by kernel_rfl⟩, by kernel_rfl⟩
theorem ok106 : FuncOk Tryz.prog tbl Tryz.f106 a106 := ⟨by decide, rfl, ⟨_, rfl, by kernel_rfl⟩, by kernel_rfl⟩
theorem ok107 : FuncOk Tryz.prog tbl Tryz.f107 a107 := ⟨by decide, rfl, ⟨_, rfl, by kernel_rfl⟩, by kernel_rfl⟩
theorem ok108 : FuncOk Tryz.prog tbl Tryz.f108 a108 := ⟨by decide, rfl, ⟨_, rfl, by kernel_rfl⟩, by kernel_rfl⟩
theorem ok109 : FuncOk Tryz.prog tbl Tryz.f109 a109 := ⟨by decide, rfl, ⟨_, rfl, by kernel_rfl⟩, by kernel_rfl⟩
theorem ok111 : FuncOk Tryz.prog tbl Tryz.f111 a111 := ⟨by decide, rfl, ⟨_, rfl, by kernel_rfl⟩, by kernel_rfl⟩
theorem ok112 : FuncOk Tryz.prog tbl Tryz.f112 a112 := ⟨by decide, rfl, ⟨_, rfl, by kernel_rfl⟩, by kernel_rfl⟩
theorem ok113 : FuncOk Tryz.prog tbl Tryz.f113 a113 := ⟨by decide, rfl, ⟨_, rfl, by kernel_rfl⟩, by kernel_rfl⟩
theorem ok114 : FuncOk Tryz.prog tbl Tryz.f114 a114 := ⟨by decide, rfl, ⟨_, rfl, by kernel_rfl⟩, by kernel_rfl⟩
theorem ok115 : FuncOk Tryz.prog tbl Tryz.f115 a115 := ⟨by decide, rfl, ⟨_, rfl, by kernel_rfl⟩, by kernel_rfl⟩
theorem ok116 : FuncOk Tryz.prog tbl Tryz.f116 a116 := ⟨by decide, rfl, ⟨_, rfl, by kernel_rfl⟩, by kernel_rfl⟩
theorem ok117 : FuncOk Tryz.prog tbl Tryz.f117 a117 := ⟨by decide, rfl, ⟨_, rfl, by kernel_rfl⟩, by kernel_rfl⟩
theorem ok118 : FuncOk Tryz.prog tbl Tryz.f118 a118 := ⟨by decide, rfl, ⟨_, rfl, by kernel_rfl⟩, by kernel_rfl⟩
theorem ok119 : FuncOk Tryz.prog tbl Tryz.f119 a119 := ⟨by decide, rfl, ⟨_, rfl, by kernel_rfl⟩, by kernel_rfl⟩
theorem ok120 : FuncOk Tryz.prog tbl Tryz.f120 a120 := ⟨by decide, rfl, ⟨_, rfl, by kernel_rfl⟩, by kernel_rfl⟩
theorem ok121 : FuncOk Tryz.prog tbl Tryz.f121 a121 := ⟨by decide, rfl, ⟨_, rfl, by kernel_rfl⟩, by kernel_rfl⟩
theorem ok122 : FuncOk Tryz.prog tbl Tryz.f122 a122 := ⟨by decide, rfl, ⟨_, rfl, by kernel_rfl⟩, by kernel_rfl⟩
theorem ok123 : FuncOk Tryz.prog tbl Tryz.f123 a123 := ⟨by decide, rfl, ⟨_, rfl, by kernel_rfl⟩, by kernel_rfl⟩
theorem ok124 : FuncOk Tryz.prog tbl Tryz.f124 a124 := ⟨by decide, rfl, ⟨_, rfl, by kernel_rfl⟩, by kernel_rfl⟩
theorem ok125 : FuncOk Tryz.prog tbl Tryz.f125 a125 := ⟨by decide, rfl, ⟨_, rfl, by kernel_rfl⟩, by kernel_rfl⟩
theorem ok126 : FuncOk Tryz.prog tbl Tryz.f126 a126 := ⟨by decide, rfl, ⟨_, rfl, by kernel_rfl⟩, by kernel_rfl⟩
theorem ok127 : FuncOk Tryz.prog tbl Tryz.f127 a127 := ⟨by decide, rfl, ⟨_, rfl, by kernel_rfl⟩, by kernel_rfl⟩
theorem ok128 : FuncOk Tryz.prog tbl Tryz.f128 a128 := ⟨by decide, rfl, ⟨_, rfl, by kernel_rfl⟩, by kernel_rfl⟩
theorem ok129 : FuncOk Tryz.prog tbl Tryz.f129 a129 := ⟨by decide, rfl, ⟨_, rfl, by kernel_rfl⟩, by kernel_rfl⟩
theorem ok130 : FuncOk Tryz.prog tbl Tryz.f130 a130 := ⟨by decide, rfl, ⟨_, rfl, by kernel_rfl⟩, by kernel_rfl⟩
theorem ok131 : FuncOk Tryz.prog tbl Tryz.f131 a131 := ⟨by decide, rfl, ⟨_, rfl, by kernel_rfl⟩, by kernel_rfl⟩
theorem ok132 : FuncOk Tryz.prog tbl Tryz.f132 a132 := ⟨by decide, rfl, ⟨_, rfl, by kernel_rfl⟩, by kernel_rfl⟩
theorem ok133 : FuncOk Tryz.prog tbl Tryz.f133 a133 := ⟨by decide, rfl, ⟨_, rfl, by kernel_rfl⟩, by kernel_rfl⟩

end K
end Go.Proofs.YtlgbgbngdhhjaaaGreatDoor

set_option maxRecDepth 100000
namespace Go.Proofs.YtlgbgbngdhhjaaaGreatDoor
namespace K
open Go AM

theorem ok134 : FuncOk Tryz.prog tbl Tryz.f134 a134 := ⟨by decide, rfl, ⟨_, rfl, by kernel_rfl⟩, by kernel_rfl⟩
theorem ok135 : FuncOk Tryz.prog tbl Tryz.f135 a135 := ⟨by decide, rfl, ⟨_, rfl, by kernel_rfl⟩, by kernel_rfl⟩
theorem ok137 : FuncOk Tryz.prog tbl Tryz.f137 a137 := ⟨by decide, rfl, ⟨_, rfl, by kernel_rfl⟩, by kernel_rfl⟩
theorem ok138 : FuncOk Tryz.prog tbl Tryz.f138 a138 := ⟨by decide, rfl, ⟨_, rfl, by kernel_rfl⟩, by kernel_rfl⟩
theorem ok139 : FuncOk Tryz.prog tbl Tryz.f139 a139 := ⟨by decide, rfl, ⟨_, rfl, by kernel_rfl⟩, by kernel_rfl⟩
theorem ok140 : FuncOk Tryz.prog tbl Tryz.f140 a140 := ⟨by decide, rfl, ⟨_, rfl, by kernel_rfl⟩, by kernel_rfl⟩
theorem ok141 : FuncOk Tryz.prog tbl Tryz.f141 a141 := ⟨by decide, rfl, ⟨_, rfl, by kernel_rfl⟩, by kernel_rfl⟩
theorem ok142 : FuncOk Tryz.prog tbl Tryz.f142 a142 := ⟨by decide, rfl, ⟨_, rfl, by kernel_rfl⟩, by kernel_rfl⟩
theorem ok143 : FuncOk Tryz.prog tbl Tryz.f143 a143 := ⟨by decide, rfl, ⟨_, rfl, by kernel_rfl⟩, by kernel_rfl⟩
theorem ok144 : FuncOk Tryz.prog tbl Tryz.f144 a144 := ⟨by decide, rfl, ⟨_, rfl, by kernel_rfl⟩, by kernel_rfl⟩
theorem ok145 : FuncOk Tryz.prog tbl Tryz.f145 a145 := ⟨by decide, rfl, ⟨_, rfl, by kernel_rfl⟩, by kernel_rfl⟩
theorem ok146 : FuncOk Tryz.prog tbl Tryz.f146 a146 := ⟨by decide, rfl, ⟨_, rfl, by kernel_rfl⟩, by kernel_rfl⟩
theorem ok147 : FuncOk Tryz.prog tbl Tryz.f147 a147 := ⟨by decide, rfl, ⟨_, rfl, by kernel_rfl⟩, by kernel_rfl⟩
theorem ok148 : FuncOk Tryz.prog tbl Tryz.f148 a148 := ⟨by decide, rfl, ⟨_, rfl, by kernel_rfl⟩, by kernel_rfl⟩
theorem ok149 : FuncOk Tryz.prog tbl Tryz.f149 a149 := ⟨by decide, rfl, ⟨_, rfl, by kernel_rfl⟩, by kernel_rfl⟩
theorem ok150 : FuncOk Tryz.prog tbl Tryz.f150 a150 := ⟨by decide, rfl, ⟨_, rfl, by kernel_rfl⟩, by kernel_rfl⟩
theorem ok151 : FuncOk Tryz.prog tbl Tryz.f151 a151 := ⟨by decide, rfl, ⟨_, rfl, by kernel_rfl⟩, by kernel_rfl⟩
theorem ok155 : FuncOk Tryz.prog tbl Tryz.f155 a155 := ⟨by decide, rfl, ⟨_, rfl, by kernel_rfl⟩, by kernel_rfl⟩
theorem ok156 : FuncOk Tryz.prog tbl Tryz.f156 a156 := ⟨by decide, rfl, ⟨_, rfl, by kernel_rfl⟩, by kernel_rfl⟩
theorem ok168 : FuncOk Tryz.prog tbl Tryz.f168 a168 := ⟨by decide, rfl, ⟨_, rfl, by kernel_rfl⟩, by kernel_rfl⟩
theorem ok169 : FuncOk Tryz.prog tbl Tryz.f169 a169 := ⟨by decide, rfl, ⟨_, rfl, by kernel_rfl⟩, by kernel_rfl⟩
theorem ok170 : FuncOk Tryz.prog tbl Tryz.f170 a170 := ⟨by decide, rfl, ⟨_, rfl, by kernel_rfl⟩, by kernel_rfl⟩
theorem ok171 : FuncOk Tryz.prog tbl Tryz.f171 a171 := ⟨by decide, rfl, ⟨_, rfl, by kernel_rfl⟩, by kernel_rfl⟩
theorem ok172 : FuncOk Tryz.prog tbl Tryz.f172 a172 := ⟨by decide, rfl, ⟨_, rfl, by kernel_rfl⟩, by kernel_rfl⟩
theorem ok173 : FuncOk Tryz.prog tbl Tryz.f173 a173 := ⟨by decide, rfl, ⟨_, rfl, by kernel_rfl⟩, by kernel_rfl⟩
theorem ok174 : FuncOk Tryz.prog tbl Tryz.f174 a174 := ⟨by decide, rfl, ⟨_, rfl, by kernel_rfl⟩, by kernel_rfl⟩
theorem ok175 : FuncOk Tryz.prog tbl Tryz.f175 a175 := ⟨by decide, rfl, ⟨_, rfl, by kernel_rfl⟩, by kernel_rfl⟩
theorem ok176 : FuncOk Tryz.prog tbl Tryz.f176 a176 := ⟨by decide, rfl, ⟨_, rfl, by kernel_rfl⟩, by kernel_rfl⟩
theorem ok177 : FuncOk Tryz.prog tbl Tryz.f177 a177 := ⟨by decide, rfl, ⟨_, rfl, by kernel_rfl⟩, by kernel_rfl⟩
theorem ok178 : FuncOk Tryz.prog tbl Tryz.f178 a178 := ⟨by decide, rfl, ⟨_, rfl, by kernel_rfl⟩, by kernel_rfl⟩
theorem ok179 : FuncOk Tryz.prog tbl Tryz.f179 a179 := ⟨by decide, rfl, ⟨_, rfl, by kernel_rfl⟩, by kernel_rfl⟩
theorem ok180 : FuncOk Tryz.prog tbl Tryz.f180 a180 := ⟨by decide, rfl, ⟨_, rfl, by kernel_rfl⟩, by kernel_rfl⟩
theorem ok185 : FuncOk Tryz.prog tbl Tryz.f185 a185 := ⟨by decide, rfl, ⟨_, rfl, by kernel_rfl⟩, by kernel_rfl⟩
theorem ok193 : FuncOk Tryz.prog tbl Tryz.f193 a193 := ⟨by decide, rfl, ⟨_, rfl, by kernel_rfl⟩, by kernel_rfl⟩
theorem ok194 : FuncOk Tryz.prog tbl Tryz.f194 a194 := ⟨by decide, rfl, ⟨_, rfl, by kernel_rfl⟩, by kernel_rfl⟩
theorem ok198 : FuncOk Tryz.prog tbl Tryz.f198 a198 := ⟨by decide, rfl, ⟨_, rfl, by kernel_rfl⟩, by kernel_rfl⟩
theorem ok217 : FuncOk Tryz.prog tbl Tryz.f217 a217 := ⟨by decide, rfl, ⟨_, rfl, by kernel_rfl⟩, by kernel_rfl⟩
theorem ok218 : FuncOk Tryz.prog tbl Tryz.f218 a218 := ⟨by decide, rfl, ⟨_, rfl, by kernel_rfl⟩, by kernel_rfl⟩
theorem ok219 : FuncOk Tryz.prog tbl Tryz.f219 a219 := ⟨by decide, rfl, ⟨_, rfl, by kernel_rfl⟩, by kernel_rfl⟩

end K
end Go.Proofs.YtlgbgbngdhhjaaaGreatDoor

set_option maxRecDepth 100000
namespace Go.Proofs.YtlgbgbngdhhjaaaGreatDoor
namespace K
open Go AM

def Good (f : Nat) (a : AFunc) : Prop := ∃ fn, Tryz.prog.funcs[f]? = some fn ∧ FuncOk Tryz.prog tbl fn a

theorem br {f : Nat} {x y : Option AFunc} {c : Bool} (hx : ∀ a, x = some a → Good f a) (hy : ∀ a, y = some a → Good f a) : ∀ a, cond c x y = some a → Good f a := by
  intro a h
  cases c with
  | true => exact hx a h
  | false => exact hy a h

theorem lf {f n : Nat} {b : AFunc} (h : Good n b) : ∀ a, cond (Nat.beq f n) (some b) none = some a → Good f a := by
  intro a ha
  cases hb : Nat.beq f n with
  | false => rw [hb] at ha; simp at ha
  | true =>
    rw [hb] at ha
    simp only [cond_true, Option.some.injEq] at ha
    rw [Nat.eq_of_beq_eq_true hb, ← ha]
    exact h

theorem tabOk : TabOk Tryz.prog tbl tab := fun _ =>
  (br (br (br (br (br (br (br (lf ⟨_, Tryz.func3, ok3⟩) (lf ⟨_, Tryz.func4, ok4⟩)) (br (lf ⟨_, Tryz.func5, ok5⟩) (br (lf ⟨_, Tryz.func6, ok6⟩) (lf ⟨_, Tryz.func7, ok7⟩)))) (br (br (lf ⟨_, Tryz.func8, ok8⟩) (lf ⟨_, Tryz.func9, ok9⟩)) (br (lf ⟨_, Tryz.func10, ok10⟩) (br (lf ⟨_, Tryz.func11, ok11⟩) (lf ⟨_, Tryz.func12, ok12⟩))))) (br (br (br (lf ⟨_, Tryz.func13, ok13⟩) (lf ⟨_, Tryz.func14, ok14⟩)) (br (lf ⟨_, Tryz.func15, ok15⟩) (br (lf ⟨_, Tryz.func16, ok16⟩) (lf ⟨_, Tryz.func17, ok17⟩)))) (br (br (lf ⟨_, Tryz.func18, ok18⟩) (lf ⟨_, Tryz.func19, ok19⟩)) (br (lf ⟨_, Tryz.func20, ok20⟩) (br (lf ⟨_, Tryz.func21, ok21⟩) (lf ⟨_, Tryz.func22, ok22⟩)))))) (br (br (br (br (lf ⟨_, Tryz.func23, ok23⟩) (lf ⟨_, Tryz.func24, ok24⟩)) (br (lf ⟨_, Tryz.func25, ok25⟩) (br (lf ⟨_, Tryz.func26, ok26⟩) (lf ⟨_, Tryz.func27, ok27⟩)))) (br (br (lf ⟨_, Tryz.func28, ok28⟩) (lf ⟨_, Tryz.func29, ok29⟩)) (br (lf ⟨_, Tryz.func30, ok30⟩) (br (lf ⟨_, Tryz.func31, ok31⟩) (lf ⟨_, Tryz.func32, ok32⟩))))) (br (br (br (lf ⟨_, Tryz.func33, ok33⟩) (lf ⟨_, Tryz.func34, ok34⟩)) (br (lf ⟨_, Tryz.func35, ok35⟩) (br (lf ⟨_, Tryz.func36, ok36⟩) (lf ⟨_, Tryz.func37, ok37⟩)))) (br (br (lf ⟨_, Tryz.func38, ok38⟩) (br (lf ⟨_, Tryz.func39, ok39⟩) (lf ⟨_, Tryz.func40, ok40⟩))) (br (lf ⟨_, Tryz.func41, ok41⟩) (br (lf ⟨_, Tryz.func42, ok42⟩) (lf ⟨_, Tryz.func43, ok43⟩))))))) (br (br (br (br (br (lf ⟨_, Tryz.func44, ok44⟩) (lf ⟨_, Tryz.func45, ok45⟩)) (br (lf ⟨_, Tryz.func46, ok46⟩) (br (lf ⟨_, Tryz.func47, ok47⟩) (lf ⟨_, Tryz.func48, ok48⟩)))) (br (br (lf ⟨_, Tryz.func49, ok49⟩) (lf ⟨_, Tryz.func50, ok50⟩)) (br (lf ⟨_, Tryz.func51, ok51⟩) (br (lf ⟨_, Tryz.func53, ok53⟩) (lf ⟨_, Tryz.func54, ok54⟩))))) (br (br (br (lf ⟨_, Tryz.func55, ok55⟩) (lf ⟨_, Tryz.func56, ok56⟩)) (br (lf ⟨_, Tryz.func57, ok57⟩) (br (lf ⟨_, Tryz.func58, ok58⟩) (lf ⟨_, Tryz.func59, ok59⟩)))) (br (br (lf ⟨_, Tryz.func60, ok60⟩) (lf ⟨_, Tryz.func61, ok61⟩)) (br (lf ⟨_, Tryz.func62, ok62⟩) (br (lf ⟨_, Tryz.func63, ok63⟩) (lf ⟨_, Tryz.func64, ok64⟩)))))) (br (br (br (br (lf ⟨_, Tryz.func65, ok65⟩) (lf ⟨_, Tryz.func66, ok66⟩)) (br (lf ⟨_, Tryz.func67, ok67⟩) (br (lf ⟨_, Tryz.func68, ok68⟩) (lf ⟨_, Tryz.func69, ok69⟩)))) (br (br (lf ⟨_, Tryz.func70, ok70⟩) (lf ⟨_, Tryz.func71, ok71⟩)) (br (lf ⟨_, Tryz.func72, ok72⟩) (br (lf ⟨_, Tryz.func73, ok73⟩) (lf ⟨_, Tryz.func74, ok74⟩))))) (br (br (br (lf ⟨_, Tryz.func75, ok75⟩) (lf ⟨_, Tryz.func76, ok76⟩)) (br (lf ⟨_, Tryz.func77, ok77⟩) (br (lf ⟨_, Tryz.func78, ok78⟩) (lf ⟨_, Tryz.func80, ok80⟩)))) (br (br (lf ⟨_, Tryz.func82, ok82⟩) (br (lf ⟨_, Tryz.func83, ok83⟩) (lf ⟨_, Tryz.func84, ok84⟩))) (br (lf ⟨_, Tryz.func86, ok86⟩) (br (lf ⟨_, Tryz.func87, ok87⟩) (lf ⟨_, Tryz.func88, ok88⟩)))))))) (br (br (br (br (br (br (lf ⟨_, Tryz.func89, ok89⟩) (lf ⟨_, Tryz.func90, ok90⟩)) (br (lf ⟨_, Tryz.func91, ok91⟩) (br (lf ⟨_, Tryz.func92, ok92⟩) (lf ⟨_, Tryz.func93, ok93⟩)))) (br (br (lf ⟨_, Tryz.func94, ok94⟩) (lf ⟨_, Tryz.func95, ok95⟩)) (br (lf ⟨_, Tryz.func96, ok96⟩) (br (lf ⟨_, Tryz.func97, ok97⟩) (lf ⟨_, Tryz.func98, ok98⟩))))) (br (br (br (lf ⟨_, Tryz.func99, ok99⟩) (lf ⟨_, Tryz.func100, ok100⟩)) (br (lf ⟨_, Tryz.func101, ok101⟩) (br (lf ⟨_, Tryz.func102, ok102⟩) (lf ⟨_, Tryz.func103, ok103⟩)))) (br (br (lf ⟨_, Tryz.func104, ok104⟩) (lf ⟨_, Tryz.func105, ok105⟩)) (br (lf ⟨_, Tryz.func106, ok106⟩) (br (lf ⟨_, Tryz.func107, ok107⟩) (lf ⟨_, Tryz.func108, ok108⟩)))))) (br (br (br (br (lf ⟨_, Tryz.func109, ok109⟩) (lf ⟨_, Tryz.func111, ok111⟩)) (br (lf ⟨_, Tryz.func112, ok112⟩) (br (lf ⟨_, Tryz.func113, ok113⟩) (lf ⟨_, Tryz.func114, ok114⟩)))) (br (br (lf ⟨_, Tryz.func115, ok115⟩) (lf ⟨_, Tryz.func116, ok116⟩)) (br (lf ⟨_, Tryz.func117, ok117⟩) (br (lf ⟨_, Tryz.func118, ok118⟩) (lf ⟨_, Tryz.func119, ok119⟩))))) (br (br (br (lf ⟨_, Tryz.func120, ok120⟩) (lf ⟨_, Tryz.func121, ok121⟩)) (br (lf ⟨_, Tryz.func122, ok122⟩) (br (lf ⟨_, Tryz.func123, ok123⟩) (lf ⟨_, Tryz.func124, ok124⟩)))) (br (br (lf ⟨_, Tryz.func125, ok125⟩) (br (lf ⟨_, Tryz.func126, ok126⟩) (lf ⟨_, Tryz.func127, ok127⟩))) (br (lf ⟨_, Tryz.func128, ok128⟩) (br (lf ⟨_, Tryz.func129, ok129⟩) (lf ⟨_, Tryz.func130, ok130⟩))))))) (br (br (br (br (br (lf ⟨_, Tryz.func131, ok131⟩) (lf ⟨_, Tryz.func132, ok132⟩)) (br (lf ⟨_, Tryz.func133, ok133⟩) (br (lf ⟨_, Tryz.func134, ok134⟩) (lf ⟨_, Tryz.func135, ok135⟩)))) (br (br (lf ⟨_, Tryz.func137, ok137⟩) (lf ⟨_, Tryz.func138, ok138⟩)) (br (lf ⟨_, Tryz.func139, ok139⟩) (br (lf ⟨_, Tryz.func140, ok140⟩) (lf ⟨_, Tryz.func141, ok141⟩))))) (br (br (br (lf ⟨_, Tryz.func142, ok142⟩) (lf ⟨_, Tryz.func143, ok143⟩)) (br (lf ⟨_, Tryz.func144, ok144⟩) (br (lf ⟨_, Tryz.func145, ok145⟩) (lf ⟨_, Tryz.func146, ok146⟩)))) (br (br (lf ⟨_, Tryz.func147, ok147⟩) (br (lf ⟨_, Tryz.func148, ok148⟩) (lf ⟨_, Tryz.func149, ok149⟩))) (br (lf ⟨_, Tryz.func150, ok150⟩) (br (lf ⟨_, Tryz.func151, ok151⟩) (lf ⟨_, Tryz.func155, ok155⟩)))))) (br (br (br (br (lf ⟨_, Tryz.func156, ok156⟩) (lf ⟨_, Tryz.func168, ok168⟩)) (br (lf ⟨_, Tryz.func169, ok169⟩) (br (lf ⟨_, Tryz.func170, ok170⟩) (lf ⟨_, Tryz.func171, ok171⟩)))) (br (br (lf ⟨_, Tryz.func172, ok172⟩) (lf ⟨_, Tryz.func173, ok173⟩)) (br (lf ⟨_, Tryz.func174, ok174⟩) (br (lf ⟨_, Tryz.func175, ok175⟩) (lf ⟨_, Tryz.func176, ok176⟩))))) (br (br (br (lf ⟨_, Tryz.func177, ok177⟩) (lf ⟨_, Tryz.func178, ok178⟩)) (br (lf ⟨_, Tryz.func179, ok179⟩) (br (lf ⟨_, Tryz.func180, ok180⟩) (lf ⟨_, Tryz.func185, ok185⟩)))) (br (br (lf ⟨_, Tryz.func193, ok193⟩) (br (lf ⟨_, Tryz.func194, ok194⟩) (lf ⟨_, Tryz.func198, ok198⟩))) (br (lf ⟨_, Tryz.func217, ok217⟩) (br (lf ⟨_, Tryz.func218, ok218⟩) (lf ⟨_, Tryz.func219, ok219⟩)))))))))

end K
end Go.Proofs.YtlgbgbngdhhjaaaGreatDoor

set_option linter.unusedSimpArgs false
set_option linter.unusedVariables false
namespace Go.Proofs.YtlgbgbngdhhjaaaGreatDoor
namespace AM
noncomputable section
open Go

/-- Less is known. -/
structure Sub (s s' : St) : Prop where
  nx : s.H.nx = s'.H.nx
  D : s.D = s'.D
  T : ∀ k v, s.T.get k = some v → s'.T.get k = some v
  H : ∀ i o, s.H.get i = some o → s'.H.get i = some o

theorem WRel.sub {K : Kept} {θ : Th} {H H' : Heap} {w : World} (h : WRel K θ H' w) (hn : H.nx = H'.nx) (hs : ∀ i o, H.get i = some o → H'.get i = some o) : WRel K θ H w := by
  refine ⟨h.os, h.tape, h.output, h.good, h.kept, fun i hi => ?_, fun i l hi => ?_, fun i l o hi ho hown => ?_⟩
  · obtain ⟨h1, h2⟩ := h.fresh i (by omega)
    refine ⟨h1, ?_⟩
    cases hg : H.get i with
    | none => rfl
    | some o => rw [hs i o hg] at h2; cases h2
  · obtain ⟨h1, h2⟩ := h.obj i l hi
    exact ⟨h1, fun o ho => h2 o (hs i o ho)⟩
  · obtain ⟨h1, h2⟩ := h.own i l o hi (hs i o ho) hown
    exact ⟨h1, fun j l' o' hj ho' => h2 j l' o' hj (hs j o' ho')⟩

theorem SRel.sub {K : Kept} {θ : Th} {N : Nat} {s s' : St} {a : Act} {w : World} (h : SRel K θ N s' a w) (hs : Sub s s') : SRel K θ N s a w :=
  ⟨h.W.sub hs.nx hs.H, ⟨h.A.1, fun t v ht => h.A.2 t v (hs.T t v ht)⟩, by rw [hs.D]; exact h.D⟩

/-- A piece of compiled code leads from one state to another. -/
def Tri (P : Program) (tbl : String → List (TypeId × FuncId)) (N : Nat) (ac : ACode) (s : St) (ex : AEx) (s' : St) : Prop :=
  ∀ c, cCode P tbl N c = some ac.erase → ∀ (K : Kept) (θ : Th) (a : Act) (w : World) (Q : Exit → Act → World → Prop), SRel K θ N s a w →
    (∀ θ' a' w', θ.Up s.H.nx θ' → s.H.nx ≤ s'.H.nx → SRel K θ' N s' a' w' → Q ex.to a' w') → c.wp P Q a w

section
variable {P : Program} {tbl : String → List (TypeId × FuncId)} {N : Nat}

theorem Tri.eval {call : CallF} (hok : CallOk P call) (hm : P.follows .mixedOrders = true) (m : Bool) (n : Nat) {ac : ACode} {s s' s'' : St} {ex : AEx} (h : evalC call m n ac s = some (ex, s'')) (hs : Sub s' s'') : Tri P tbl N ac s ex s' := by
  intro c hc K θ a w Q hr hQ
  exact evalC_sound hok hm m n ac c hc hr h fun θ' a' w' h1 h2 h3 => hQ θ' a' w' h1 (by rw [hs.nx]; exact h2) (h3.sub hs)

theorem cCode_seq {c : Code} {x y : ACode} (h : cCode P tbl N c = some (.seq x y)) : ∃ cx cy, c = .seq cx cy ∧ cCode P tbl N cx = some x ∧ cCode P tbl N cy = some y := by
  cases c <;> (try simp only [cCode, Option.some.injEq, reduceCtorEq, Option.map_eq_some_iff, and_false, exists_false] at h)
  · rename_i id ops' draw
    cases draw <;> simp only [cCode] at h <;> split at h <;> simp at h
  · rename_i cx cy
    split at h <;> (try simp only [Option.some.injEq, reduceCtorEq, ACode.seq.injEq] at h)
    rename_i hx hy
    obtain ⟨rfl, rfl⟩ := h
    exact ⟨cx, cy, rfl, hx, hy⟩
  · split at h <;> simp at h
  · split at h <;> simp at h
  · split at h <;> simp at h

theorem Tri.seq {x y : ACode} {s s1 s2 : St} {ex : AEx} (h1 : Tri P tbl N x s .normal s1) (h2 : Tri P tbl N y s1 ex s2) : Tri P tbl N (.seq x y) s ex s2 := by
  intro c hc K θ a w Q hr hQ
  obtain ⟨cx, cy, rfl, hcx, hcy⟩ := cCode_seq hc
  refine wp_seq ?_
  refine h1 cx hcx K θ a w _ hr fun θ' a' w' k1 k2 k3 => ?_
  exact h2 cy hcy K θ' a' w' Q k3 fun θ'' a'' w'' j1 j2 j3 => hQ θ'' a'' w'' (k1.trans k2 j1) (Nat.le_trans k2 j2) j3

theorem Tri.mask {l : List Nat} {x : ACode} {s s2 : St} {ex : AEx} (h : Tri P tbl N x s ex s2) : Tri P tbl N (.mask l x) s ex s2 := fun c hc => h c hc

/-- A whole function by its body. -/
theorem Tri.calls {f : FuncId} {fn : Func} (hf : P.funcs[f]? = some fn) {a : AFunc} (hfn : FuncOk P tbl fn a) {args : List AVal} {H : Heap} (hlen : args.length ≤ a.N) {ex : AEx} {s : St} (h : Tri P tbl a.N a.body ⟨putArgs args 0 .e, H, []⟩ ex s)
    (hex : ex = .normal ∨ ex = .ret) (hD : s.D = []) {vs : List AVal} (hr : evalRess s.T s.H a.res = some vs) : CallsA P f args H (oneOf vs) s.H := by
  obtain ⟨hname, hN, ⟨c, hb, hc⟩, hres⟩ := hfn
  intro K θ w us hw hus
  have hwp : c.wp P (bodyPost P fn fun e w' => ∃ θ' u, e = .returned u ∧ θ.Up H.nx θ' ∧ VRel θ' (oneOf vs) u ∧ WRel K θ' s.H w') { tmps := us ++ Array.replicate (fn.ntmps - us.size) undef, defers := [] } w := by
    have hs0 : SRel K θ a.N ⟨putArgs args 0 .e, H, []⟩ { tmps := us ++ Array.replicate (fn.ntmps - us.size) undef, defers := [] } w := ⟨hw, by rw [hN]; exact enter_rel hus hlen, rfl⟩
    refine h c hc K θ _ w _ hs0 fun θ' a' w' j1 j2 j3 => ?_
    have hdef : a'.defers = [] := by
      have := j3.D
      rw [hD] at this
      exact this
    obtain ⟨u, hu1, hu2⟩ := results_sound j3.A j3.W hres hr
    rcases hex with rfl | rfl
    · exact ⟨hdef, u, hu1, θ', u, rfl, j1, hu2, j3.W⟩
    · exact ⟨hdef, u, hu1, θ', u, rfl, j1, hu2, j3.W⟩
  exact calls_of_wp hf hb hwp

end

/-! ### States that are written out -/
def ofL {α : Type} (l : List (Nat × α)) : Tr α := l.foldl (fun t p => t.put p.1 p.2) .e

theorem ofL_get {α : Type} {l : List (Nat × α)} {k : Nat} {v : α} (h : (ofL l).get k = some v) : (k, v) ∈ l := by
  unfold ofL at h
  suffices ∀ (l : List (Nat × α)) (z : Tr α), (l.foldl (fun t p => t.put p.1 p.2) z).get k = some v → (k, v) ∈ l ∨ z.get k = some v by
    rcases this l .e h with q | q
    · exact q
    · cases q
  intro l
  induction l with
  | nil => intro z h; exact .inr h
  | cons p l ih =>
    intro z h
    simp only [List.foldl_cons] at h
    rcases ih _ h with q | q
    · exact .inl (List.mem_cons_of_mem _ q)
    · rw [Tr.get_put] at q
      split at q
      · rename_i hk
        obtain rfl := Option.some.inj q
        exact .inl (by rw [hk]; exact List.mem_cons_self)
      · exact .inr q

def St.ofL (tl : List (Nat × AVal)) (n : Nat) (hl : List (Nat × AObj)) : St := ⟨AM.ofL tl, ⟨n, AM.ofL hl⟩, []⟩

def subT (T : Tm) : List (Nat × AVal) → Bool
  | [] => true
  | p :: l => match T.get p.1 with
    | some v => AVal.same v p.2 && subT T l
    | none => false

def subH (H : Heap) : List (Nat × AObj) → Bool
  | [] => true
  | p :: l => osame (H.get p.1) (some p.2) && subH H l

theorem subT_spec {T : Tm} : ∀ {l : List (Nat × AVal)}, subT T l = true → ∀ k v, (k, v) ∈ l → T.get k = some v
  | [], _, k, v, h => by simp at h
  | p :: l, hs, k, v, h => by
    simp only [subT] at hs
    split at hs <;> (try simp only [Bool.and_eq_true, Bool.false_eq_true] at hs)
    rename_i u hu
    rcases List.mem_cons.1 h with rfl | h
    · rw [hu, AVal.same_eq _ _ hs.1]
    · exact subT_spec hs.2 k v h

theorem subH_spec {H : Heap} : ∀ {l : List (Nat × AObj)}, subH H l = true → ∀ k v, (k, v) ∈ l → H.get k = some v
  | [], _, k, v, h => by simp at h
  | p :: l, hs, k, v, h => by
    simp only [subH, Bool.and_eq_true] at hs
    rcases List.mem_cons.1 h with rfl | h
    · exact osame_eq hs.1
    · exact subH_spec hs.2 k v h

def exSame : AEx → AEx → Bool
  | .normal, .normal => true
  | .ret, .ret => true
  | .exit i, .exit j => Nat.beq i j
  | _, _ => false

/-- Does this computation lead there? -/
def leads (r : Option (AEx × St)) (ex : AEx) (tl : List (Nat × AVal)) (n : Nat) (hl : List (Nat × AObj)) : Bool :=
  match r with
  | some (e, s) => exSame e ex && Nat.beq s.H.nx n && s.D.isEmpty && subT s.T tl && subH s.H hl
  | none => false

theorem leads_spec {r : Option (AEx × St)} {ex : AEx} {tl : List (Nat × AVal)} {n : Nat} {hl : List (Nat × AObj)} (h : leads r ex tl n hl = true) : ∃ s', r = some (ex, s') ∧ Sub (St.ofL tl n hl) s' := by
  unfold leads at h
  split at h <;> (try simp only [Bool.false_eq_true] at h)
  rename_i e s
  simp only [Bool.and_eq_true] at h
  obtain ⟨⟨⟨⟨h1, h2⟩, h3⟩, h4⟩, h5⟩ := h
  have he : e = ex := by
    cases e <;> cases ex <;> simp_all [exSame]
  subst he
  refine ⟨s, rfl, ?_, ?_, fun k v hk => subT_spec h4 k v (ofL_get hk), fun i o hi => subH_spec h5 i o (ofL_get hi)⟩
  · exact (Nat.eq_of_beq_eq_true h2).symm
  · show [] = s.D
    cases hd : s.D with
    | nil => rfl
    | cons x xs => rw [hd] at h3; simp at h3

theorem Tri.leads {P : Program} {tbl : String → List (TypeId × FuncId)} {N : Nat} {call : CallF} (hok : CallOk P call) (hm : P.follows .mixedOrders = true) {m : Bool} {n : Nat} {ac : ACode} {s : St} {ex : AEx} {tl : List (Nat × AVal)} {nx : Nat} {hl : List (Nat × AObj)} (h : AM.leads (evalC call m n ac s) ex tl nx hl = true) : Tri P tbl N ac s ex (St.ofL tl nx hl) := by
  obtain ⟨s', h1, h2⟩ := leads_spec h
  exact Tri.eval hok hm m n h1 h2

/-! ### Out of an empty memory -/
def Heap.none : Heap := ⟨0, .e⟩

/-- Nothing is handed over but what has no place; a yes or a no comes back: in any memory the same. -/
theorem CallsA.closed {P : Program} {f : FuncId} {x : Bool} {H1 : Heap} (h : CallsA P f [] Heap.none (.b x) H1) (H : Heap) : CallsA P f [] H (.b x) H := by
  intro K θ w us hw hus
  have hgood : KOk ⟨fun b => w.heap[b]?, w.os, w.tape, w.output⟩ := by
    obtain ⟨e, fr, hk⟩ := hw.good
    exact ⟨e, fr, hw.kept _ _ hk⟩
  have h0 : WRel ⟨fun b => w.heap[b]?, w.os, w.tape, w.output⟩ (fun _ => Option.none) Heap.none w :=
    ⟨rfl, rfl, rfl, hgood, fun b o hb => hb, fun i _ => ⟨rfl, rfl⟩, (fun i l hi => nomatch hi), (fun i l o hi => nomatch hi)⟩
  have hus0 : VRels (fun _ => Option.none) [] us.toList := by
    simpa [VRels] using hus
  refine (h _ _ w us h0 hus0).mono ?_
  rintro e w' ⟨θ', u, rfl, _, h2, h3⟩
  refine ⟨θ, u, rfl, Th.Up.refl _ _, by rw [VRel.bool] at h2 ⊢; exact h2, ?_⟩
  have hk : ∀ b o, w.heap[b]? = some o → w'.heap[b]? = some o := h3.kept
  refine ⟨h3.os.trans hw.os, h3.tape.trans hw.tape, h3.output.trans hw.output, hw.good, fun b o hb => hk b o (hw.kept b o hb), hw.fresh, fun i l hi => ?_, hw.own⟩
  obtain ⟨h4, h5⟩ := hw.obj i l hi
  refine ⟨?_, fun o ho => ?_⟩
  · have := hk l.b (w.heap[l.b]) (by simp [h4])
    exact (Array.getElem?_eq_some_iff.1 this).1
  · obtain ⟨c, h6, h7⟩ := h5 o ho
    exact ⟨c, hk _ _ h6, h7⟩

end
end AM
end Go.Proofs.YtlgbgbngdhhjaaaGreatDoor

set_option linter.unusedSimpArgs false
set_option linter.unusedVariables false
namespace Go.Proofs.YtlgbgbngdhhjaaaGreatDoor
namespace AM
noncomputable section
open Go

mutual
def ren (ρ : Nat → Nat) : AVal → AVal
  | .p i o => .p (ρ i) o
  | .sl i o n k e => .sl (ρ i) o n k e
  | .m i => .m (ρ i)
  | .f f cs => .f f (rens ρ cs)
  | .ifc t v => .ifc t (ren ρ v)
  | .agg cs => .agg (rens ρ cs)
  | .tup vs => .tup (rens ρ vs)
  | .b x => .b x
  | .i k n => .i k n
  | .s l => .s l
  | .np => .np
  | .nsl => .nsl
  | .nm => .nm
  | .nf => .nf
  | .ni => .ni
def rens (ρ : Nat → Nat) : List AVal → List AVal
  | [] => []
  | v :: vs => ren ρ v :: rens ρ vs
end

mutual
theorem ren_rel {θ : Th} {ρ : Nat → Nat} : ∀ (v : AVal) (u : Value), VRel θ (ren ρ v) u → VRel (fun i => θ (ρ i)) v u
  | .p i o, u, h => by simpa [ren, VRel] using h
  | .sl i o n k e, u, h => by simpa [ren, VRel] using h
  | .m i, u, h => by simpa [ren, VRel] using h
  | .f f cs, u, h => by
    simp only [ren, VRel] at h ⊢
    obtain ⟨c, h1, h2⟩ := h
    exact ⟨c, h1, rens_rel cs _ h2⟩
  | .ifc t v, u, h => by
    simp only [ren, VRel] at h ⊢
    obtain ⟨c, h1, h2⟩ := h
    exact ⟨c, h1, ren_rel v _ h2⟩
  | .agg cs, u, h => by
    simp only [ren, VRel] at h ⊢
    obtain ⟨c, h1, h2, h3⟩ := h
    exact ⟨c, h1, rens_rel cs _ h2, h3⟩
  | .tup vs, u, h => by
    simp only [ren, VRel] at h ⊢
    obtain ⟨c, h1, h2⟩ := h
    exact ⟨c, h1, rens_rel vs _ h2⟩
  | .b x, u, h => by simpa [ren, VRel] using h
  | .i k n, u, h => by simpa [ren, VRel] using h
  | .s l, u, h => by simpa [ren, VRel] using h
  | .np, u, h => by simpa [ren, VRel] using h
  | .nsl, u, h => by simpa [ren, VRel] using h
  | .nm, u, h => by simpa [ren, VRel] using h
  | .nf, u, h => by simpa [ren, VRel] using h
  | .ni, u, h => by simpa [ren, VRel] using h
theorem rens_rel {θ : Th} {ρ : Nat → Nat} : ∀ (v : List AVal) (u : List Value), VRels θ (rens ρ v) u → VRels (fun i => θ (ρ i)) v u
  | [], u, h => by simpa [rens, VRels] using h
  | v :: vs, u, h => by
    simp only [rens, VRels] at h ⊢
    obtain ⟨x, r, h1, h2, h3⟩ := h
    exact ⟨x, r, h1, ren_rel v _ h2, rens_rel vs _ h3⟩
end

theorem rens_eq (ρ : Nat → Nat) : ∀ l, rens ρ l = l.map (ren ρ)
  | [] => rfl
  | v :: vs => by simp [rens, rens_eq ρ vs]

def renE (ρ : Nat → Nat) : List (AVal × AVal) → List (AVal × AVal)
  | [] => []
  | x :: xs => (ren ρ x.1, ren ρ x.2) :: renE ρ xs

theorem renE_rel {θ : Th} {ρ : Nat → Nat} : ∀ (es : List (AVal × AVal)) (ms : List MapEntry), ERels θ (renE ρ es) ms → ERels (fun i => θ (ρ i)) es ms
  | [], ms, h => by simpa [renE, ERels] using h
  | x :: xs, ms, h => by
    simp only [renE, ERels] at h ⊢
    obtain ⟨u, us, h1, h2, h3, h4⟩ := h
    exact ⟨u, us, h1, ren_rel _ _ h2, ren_rel _ _ h3, renE_rel xs _ h4⟩

def renO (ρ : Nat → Nat) : AObj → AObj
  | .row cs own => .row (rens ρ cs) own
  | .map es => .map (renE ρ es)
  | .dead => .dead

theorem renO_rel {θ : Th} {ρ : Nat → Nat} {l : Loc} {o : AObj} {c : Obj} (h : ObjRel θ l (renO ρ o) c) : ObjRel (fun i => θ (ρ i)) l o c := by
  cases o with
  | row cs own =>
    obtain ⟨c', e, fr, h1, h2, h3, h4, h5⟩ := h
    rw [rens_eq] at h3 h4
    refine ⟨c', e, fr, h1, h2, by simpa using h3, fun j x hx => ?_, h5⟩
    obtain ⟨u, g1, g2, g3⟩ := h4 j (ren ρ x) (by simp [hx])
    exact ⟨u, g1, ren_rel _ _ g2, g3⟩
  | map es =>
    obtain ⟨ms, clk, h1, h2⟩ := h
    exact ⟨ms, clk, h1, renE_rel _ _ h2⟩
  | dead => trivial

theorem renO_own (ρ : Nat → Nat) (o : AObj) : (renO ρ o).isOwn = o.isOwn := by cases o <;> rfl
theorem renO_alive (ρ : Nat → Nat) (o : AObj) : (renO ρ o).alive = o.alive := by cases o <;> rfl

mutual
/-- What stood for something ahead stands for it behind, under the places of ahead. -/
theorem vrel_back {θ θ1 : Th} (hle : θ.Le θ1) : ∀ (x : AVal) (u u' : Value), VRel θ x u → VRel θ1 x u' → VRel θ x u'
  | .b _, _, _, _, h => h
  | .i _ _, _, _, _, h => h
  | .s _, _, _, _, h => h
  | .np, _, _, _, h => h
  | .nsl, _, _, _, h => h
  | .nm, _, _, _, h => h
  | .nf, _, _, _, h => h
  | .ni, _, _, _, h => h
  | .p i o, u, u', h, h' => by
    simp only [VRel] at h h' ⊢
    obtain ⟨l, h1, _⟩ := h
    obtain ⟨l', h2, h3⟩ := h'
    rw [hle _ _ h1] at h2
    obtain rfl := Option.some.inj h2
    exact ⟨l, h1, h3⟩
  | .sl i o n k e, u, u', h, h' => by
    simp only [VRel] at h h' ⊢
    obtain ⟨l, _, _, h1, _⟩ := h
    obtain ⟨l', a, c, h2, h3⟩ := h'
    rw [hle _ _ h1] at h2
    obtain rfl := Option.some.inj h2
    exact ⟨l, a, c, h1, h3⟩
  | .m i, u, u', h, h' => by
    simp only [VRel] at h h' ⊢
    obtain ⟨l, h1, _⟩ := h
    obtain ⟨l', h2, h3⟩ := h'
    rw [hle _ _ h1] at h2
    obtain rfl := Option.some.inj h2
    exact ⟨l, h1, h3⟩
  | .f fn cs, u, u', h, h' => by
    simp only [VRel] at h h' ⊢
    obtain ⟨c, _, h1⟩ := h
    obtain ⟨c', h2, h3⟩ := h'
    exact ⟨c', h2, vrels_back hle cs _ _ h1 h3⟩
  | .ifc t v, u, u', h, h' => by
    simp only [VRel] at h h' ⊢
    obtain ⟨c, _, h1⟩ := h
    obtain ⟨c', h2, h3⟩ := h'
    exact ⟨c', h2, vrel_back hle v _ _ h1 h3⟩
  | .agg cs, u, u', h, h' => by
    simp only [VRel] at h h' ⊢
    obtain ⟨c, _, h1, _⟩ := h
    obtain ⟨c', h2, h3, h4⟩ := h'
    exact ⟨c', h2, vrels_back hle cs _ _ h1 h3, h4⟩
  | .tup vs, u, u', h, h' => by
    simp only [VRel] at h h' ⊢
    obtain ⟨c, _, h1⟩ := h
    obtain ⟨c', h2, h3⟩ := h'
    exact ⟨c', h2, vrels_back hle vs _ _ h1 h3⟩
theorem vrels_back {θ θ1 : Th} (hle : θ.Le θ1) : ∀ (x : List AVal) (u u' : List Value), VRels θ x u → VRels θ1 x u' → VRels θ x u'
  | [], _, _, _, h => h
  | v :: vs, u, u', h, h' => by
    simp only [VRels] at h h' ⊢
    obtain ⟨a, r, _, h1, h2⟩ := h
    obtain ⟨a', r', h3, h4, h5⟩ := h'
    exact ⟨a', r', h3, vrel_back hle v _ _ h1 h4, vrels_back hle vs _ _ h2 h5⟩
end

theorem erels_back {θ θ1 : Th} (hle : θ.Le θ1) : ∀ (x : List (AVal × AVal)) (u u' : List MapEntry), ERels θ x u → ERels θ1 x u' → ERels θ x u'
  | [], _, _, _, h => h
  | v :: vs, u, u', h, h' => by
    simp only [ERels] at h h' ⊢
    obtain ⟨a, r, _, h1, h1b, h2⟩ := h
    obtain ⟨a', r', h3, h4, h4b, h5⟩ := h'
    exact ⟨a', r', h3, vrel_back hle _ _ _ h1 h4, vrel_back hle _ _ _ h1b h4b, erels_back hle vs _ _ h2 h5⟩

theorem objrel_back {θ θ1 : Th} (hle : θ.Le θ1) {l : Loc} {o : AObj} {c c' : Obj} (h : ObjRel θ l o c) (h' : ObjRel θ1 l o c') : ObjRel θ l o c' := by
  cases o with
  | row cs own =>
    obtain ⟨_, _, _, _, _, _, g4, _⟩ := h
    obtain ⟨c1, e, fr, h1, h2, h3, h4, h5⟩ := h'
    refine ⟨c1, e, fr, h1, h2, h3, fun j x hx => ?_, h5⟩
    obtain ⟨u, g5, g6, g7⟩ := h4 j x hx
    obtain ⟨u0, _, k6, _⟩ := g4 j x hx
    exact ⟨u, g5, vrel_back hle _ _ _ k6 g6, g7⟩
  | map es =>
    obtain ⟨_, _, _, g2⟩ := h
    obtain ⟨ms, clk, h1, h2⟩ := h'
    exact ⟨ms, clk, h1, erels_back hle _ _ _ g2 h2⟩
  | dead => trivial

/-- The same memory, under other numbers, as far as it is told: an object is as it was, or it is told anew. -/
structure Told (H H1 H' : Heap) (ρ : Nat → Nat) : Prop where
  nx : H.nx ≤ H'.nx
  old : ∀ i, i < H.nx → ρ i = i
  out : ∀ i, H'.nx ≤ i → H1.nx ≤ ρ i
  inj : ∀ i j, ρ i = ρ j → i = j
  obj : ∀ i o, H'.get i = some o → i < H'.nx ∧ ((i < H.nx ∧ H.get i = some o ∧ H1.get i = some o) ∨ H1.get (ρ i) = some (renO ρ o))

theorem WRel.told {K : Kept} {θ θ1 : Th} {H H1 H' : Heap} {ρ : Nat → Nat} {w w' : World} (h0 : WRel K θ H w) (hup : θ.Up H.nx θ1) (h : WRel K θ1 H1 w') (ht : Told H H1 H' ρ) : WRel K (fun i => θ1 (ρ i)) H' w' := by
  have hle : θ.Le (fun i => θ1 (ρ i)) := by
    intro i l hi
    have hlt : i < H.nx := by
      by_cases hc : i < H.nx
      · exact hc
      · rw [(h0.fresh i (by omega)).1] at hi; cases hi
    show θ1 (ρ i) = some l
    rw [ht.old i hlt]
    exact hup.1 i l hi
  have key : ∀ i o, H'.get i = some o → ∃ o1, H1.get (ρ i) = some o1 ∧ o1.isOwn = o.isOwn ∧ o1.alive = o.alive := by
    intro i o ho
    rcases (ht.obj i o ho).2 with ⟨q1, q2, q3⟩ | q
    · exact ⟨o, by rw [ht.old i q1]; exact q3, rfl, rfl⟩
    · exact ⟨_, q, renO_own _ _, renO_alive _ _⟩
  refine ⟨h.os, h.tape, h.output, h.good, h.kept, fun i hi => ⟨(h.fresh _ (ht.out i hi)).1, ?_⟩, fun i l hi => ?_, fun i l o hi ho hown => ?_⟩
  · cases hg : H'.get i with
    | none => rfl
    | some o => have := (ht.obj i o hg).1; omega
  · obtain ⟨h1, h2⟩ := h.obj (ρ i) l hi
    refine ⟨h1, fun o ho => ?_⟩
    rcases (ht.obj i o ho).2 with ⟨q1, q2, q3⟩ | q
    · rw [ht.old i q1] at h2 hi
      obtain ⟨c, h3, h4⟩ := h2 _ q3
      have hi' : θ i = some l := by rw [← hup.2 i q1]; exact hi
      obtain ⟨c0, _, h5⟩ := (h0.obj i l hi').2 o q2
      exact ⟨c, h3, (objrel_back hup.1 h5 h4).mono hle⟩
    · obtain ⟨c, h3, h4⟩ := h2 _ q
      exact ⟨c, h3, renO_rel h4⟩
  · obtain ⟨o1, k1, k2, _⟩ := key i o ho
    obtain ⟨h1, h2⟩ := h.own (ρ i) l _ hi k1 (by rw [k2]; exact hown)
    refine ⟨h1, fun j l' o' hj ho' ha hb => ?_⟩
    obtain ⟨o2, k4, _, k5⟩ := key j o' ho'
    exact ht.inj _ _ (h2 (ρ j) l' _ hj k4 (by rw [k5]; exact ha) hb)

theorem CallsA.told {P : Program} {f : FuncId} {args : List AVal} {H H1 H' : Heap} {v v' : AVal} (h : CallsA P f args H v H1) {ρ : Nat → Nat} (ht : Told H H1 H' ρ) (hv : v = ren ρ v') : CallsA P f args H v' H' := by
  intro K θ w us hw hus
  refine (h K θ w us hw hus).mono ?_
  rintro e w' ⟨θ1, u, rfl, h1, h2, h3⟩
  subst hv
  refine ⟨fun i => θ1 (ρ i), u, rfl, ⟨fun i l hi => ?_, fun j hj => ?_⟩, ren_rel _ _ h2, hw.told h1 h3 ht⟩
  · have hlt : i < H.nx := by
      by_cases hc : i < H.nx
      · exact hc
      · rw [(hw.fresh i (by omega)).1] at hi; cases hi
    show θ1 (ρ i) = some l
    rw [ht.old i hlt]
    exact h1.1 i l hi
  · show θ1 (ρ j) = θ j
    rw [ht.old j hj]
    exact h1.2 j hj

/-! ### What is new and does not count -/
/-- The old numbers as they are; those beyond, beyond what was made. -/
def ρ0 (n n1 : Nat) (i : Nat) : Nat := if i < n then i else n1 + i

mutual
/-- Are all places below a bound? -/
def inB (n : Nat) : AVal → Bool
  | .p i _ => Nat.blt i n
  | .sl i _ _ _ _ => Nat.blt i n
  | .m i => Nat.blt i n
  | .f _ cs => insB n cs
  | .ifc _ v => inB n v
  | .agg cs => insB n cs
  | .tup vs => insB n vs
  | _ => true
def insB (n : Nat) : List AVal → Bool
  | [] => true
  | v :: vs => inB n v && insB n vs
end

mutual
theorem ren_inB {ρ : Nat → Nat} {n : Nat} (h : ∀ i, i < n → ρ i = i) : ∀ (v : AVal), inB n v = true → ren ρ v = v
  | .p i o, hv => by simp only [inB, Nat.blt_eq] at hv; simp [ren, h i hv]
  | .sl i o m k e, hv => by simp only [inB, Nat.blt_eq] at hv; simp [ren, h i hv]
  | .m i, hv => by simp only [inB, Nat.blt_eq] at hv; simp [ren, h i hv]
  | .f f cs, hv => by simp only [inB] at hv; simp [ren, rens_inB h cs hv]
  | .ifc t v, hv => by simp only [inB] at hv; simp [ren, ren_inB h v hv]
  | .agg cs, hv => by simp only [inB] at hv; simp [ren, rens_inB h cs hv]
  | .tup vs, hv => by simp only [inB] at hv; simp [ren, rens_inB h vs hv]
  | .b x, hv => rfl
  | .i k n, hv => rfl
  | .s l, hv => rfl
  | .np, hv => rfl
  | .nsl, hv => rfl
  | .nm, hv => rfl
  | .nf, hv => rfl
  | .ni, hv => rfl
theorem rens_inB {ρ : Nat → Nat} {n : Nat} (h : ∀ i, i < n → ρ i = i) : ∀ (v : List AVal), insB n v = true → rens ρ v = v
  | [], hv => rfl
  | v :: vs, hv => by
    simp only [insB, Bool.and_eq_true] at hv
    simp [rens, ren_inB h v hv.1, rens_inB h vs hv.2]
end

/-- A memory in which something lies beyond what was made stands for nothing. -/
theorem CallsA.ofFresh {P : Program} {f : FuncId} {args : List AVal} {H H' : Heap} {v : AVal} (h : (∀ i o, H.get i = some o → i < H.nx) → CallsA P f args H v H') : CallsA P f args H v H' := by
  intro K θ w us hw hus
  refine h (fun i o ho => ?_) K θ w us hw hus
  by_cases hc : i < H.nx
  · exact hc
  · rw [(hw.fresh i (by omega)).2] at ho; cases ho

/-- What was laid and does not count is forgotten. -/
theorem CallsA.forget {P : Program} {f : FuncId} {args : List AVal} {H H1 : Heap} {v : AVal} (h : CallsA P f args H v H1) (hn : H.nx ≤ H1.nx) (hsub : ∀ i o, H.get i = some o → H1.get i = some o) (hv : inB H.nx v = true) : CallsA P f args H v H := by
  refine CallsA.ofFresh fun hf => ?_
  have hold : ∀ i, i < H.nx → ρ0 H.nx H1.nx i = i := fun i hi => by simp [ρ0, hi]
  refine h.told (ρ := ρ0 H.nx H1.nx) ⟨Nat.le_refl _, hold, fun i hi => ?_, fun i j hij => ?_, fun i o ho => ⟨hf i o ho, .inl ⟨hf i o ho, ho, hsub i o ho⟩⟩⟩ (ren_inB hold v hv).symm
  · simp only [ρ0]
    rw [if_neg (by omega)]; omega
  · simp only [ρ0] at hij
    split at hij <;> split at hij <;> omega

end
end AM
end Go.Proofs.YtlgbgbngdhhjaaaGreatDoor

set_option linter.unusedSimpArgs false
set_option linter.unusedVariables false
namespace Go.Proofs.YtlgbgbngdhhjaaaGreatDoor
namespace AM
noncomputable section
open Go

section
variable {P : Program} {tbl : String → List (TypeId × FuncId)} {N : Nat}

theorem cCode_loop {c : Code} {x : ACode} (h : cCode P tbl N c = some (.loop x)) : ∃ cx, c = .loop cx ∧ cCode P tbl N cx = some x := by
  cases c <;> (try simp only [cCode, Option.some.injEq, reduceCtorEq, Option.map_eq_some_iff, and_false, exists_false] at h)
  · rename_i id ops' draw
    cases draw <;> simp only [cCode] at h <;> split at h <;> simp at h
  · split at h <;> simp at h
  · split at h <;> simp at h
  · split at h <;> simp at h
  · rename_i cx
    split at h <;> (try simp only [Option.some.injEq, reduceCtorEq, ACode.loop.injEq] at h)
    rename_i y hy
    subst h
    exact ⟨cx, rfl, hy⟩

/-- A loop by its rounds. -/
theorem Tri.loop {x : ACode} {ex : AEx} {s2 : St} (hex : ex ≠ .normal) : ∀ (m : Nat) (S : Nat → St), (∀ j, j < m → Tri P tbl N x (S j) .normal (S (j + 1))) → Tri P tbl N x (S m) ex s2 → Tri P tbl N (.loop x) (S 0) ex s2 := by
  intro m S hstep hend c hc K θ a w Q hr hQ
  obtain ⟨cx, rfl, hcx⟩ := cCode_loop hc
  refine wp_loop_rounds (m + 1) ?_
  suffices ∀ (m : Nat) (S : Nat → St), (∀ j, j < m → Tri P tbl N x (S j) .normal (S (j + 1))) → Tri P tbl N x (S m) ex s2 → ∀ (θ : Th) (a : Act) (w : World), SRel K θ N (S 0) a w →
      (∀ θ' a' w', θ.Up (S 0).H.nx θ' → (S 0).H.nx ≤ s2.H.nx → SRel K θ' N s2 a' w' → Q ex.to a' w') → Code.rounds P cx Q (m + 1) a w from this m S hstep hend θ a w hr hQ
  intro m
  induction m with
  | zero =>
    intro S hstep hend θ a w hr hQ
    rw [rounds_succ]
    refine hend cx hcx K θ a w _ hr fun θ' a' w' h1 h2 h3 => ?_
    have := hQ θ' a' w' h1 h2 h3
    cases ex with
    | normal => exact absurd rfl hex
    | exit id => exact this
    | ret => exact this
  | succ m ih =>
    intro S hstep hend θ a w hr hQ
    rw [rounds_succ]
    refine hstep 0 (by omega) cx hcx K θ a w _ hr fun θ' a' w' h1 h2 h3 => ?_
    exact ih (fun j => S (j + 1)) (fun j hj => hstep (j + 1) (by omega)) hend θ' a' w' h3 fun θ'' a'' w'' k1 k2 k3 => hQ θ'' a'' w'' (h1.trans h2 k1) (Nat.le_trans h2 k2) k3

theorem cCode_cond {c : Code} {b : AOpd} {x y : ACode} (h : cCode P tbl N c = some (.cond b x y)) : ∃ cb cx cy, c = .cond cb cx cy ∧ cOpd cb = some b ∧ cCode P tbl N cx = some x ∧ cCode P tbl N cy = some y := by
  cases c <;> (try simp only [cCode, Option.some.injEq, reduceCtorEq, Option.map_eq_some_iff, and_false, exists_false] at h)
  · rename_i id ops' draw
    cases draw <;> simp only [cCode] at h <;> split at h <;> simp at h
  · split at h <;> simp at h
  · rename_i cb cx cy
    split at h <;> (try simp only [Option.some.injEq, reduceCtorEq, ACode.cond.injEq] at h)
    rename_i h1 h2 h3
    obtain ⟨rfl, rfl, rfl⟩ := h
    exact ⟨cb, cx, cy, rfl, h1, h2, h3⟩
  · split at h <;> simp at h
  · split at h <;> simp at h

theorem Tri.cond {b : AOpd} {x y : ACode} {s s2 : St} {ex : AEx} (t : Bool) (hb : ev s.T b = some (.b t)) (h : Tri P tbl N (bif t then x else y) s ex s2) : Tri P tbl N (.cond b x y) s ex s2 := by
  intro c hc K θ a w Q hr hQ
  obtain ⟨cb, cx, cy, rfl, h1, h2, h3⟩ := cCode_cond hc
  have := hr.A.ev h1 hb
  rw [VRel.bool] at this
  cases t with
  | true => exact wp_cond_true this (h cx h2 K θ a w Q hr hQ)
  | false => exact wp_cond_false this (h cy h3 K θ a w Q hr hQ)

theorem cCode_block {c : Code} {id : Nat} {x : ACode} (h : cCode P tbl N c = some (.block id x)) : ∃ cx, c = .block id cx ∧ cCode P tbl N cx = some x := by
  cases c <;> (try simp only [cCode, Option.some.injEq, reduceCtorEq, Option.map_eq_some_iff, and_false, exists_false] at h)
  · rename_i id' ops' draw
    cases draw <;> simp only [cCode] at h <;> split at h <;> simp at h
  · split at h <;> simp at h
  · split at h <;> simp at h
  · rename_i id' cx
    split at h <;> (try simp only [Option.some.injEq, reduceCtorEq, ACode.block.injEq] at h)
    rename_i y hy
    obtain ⟨rfl, rfl⟩ := h
    exact ⟨cx, rfl, hy⟩
  · split at h <;> simp at h

def AEx.leave (id : Nat) : AEx → AEx
  | .exit j => if j = id then .normal else .exit j
  | e => e

theorem Tri.block {id : Nat} {x : ACode} {s s2 : St} {ex : AEx} (h : Tri P tbl N x s ex s2) : Tri P tbl N (.block id x) s (ex.leave id) s2 := by
  intro c hc K θ a w Q hr hQ
  obtain ⟨cx, rfl, hcx⟩ := cCode_block hc
  refine wp_block ?_
  refine h cx hcx K θ a w _ hr fun θ' a' w' h1 h2 h3 => ?_
  have := hQ θ' a' w' h1 h2 h3
  cases ex with
  | normal => exact this
  | ret => exact this
  | exit j =>
    simp only [AEx.leave] at this
    simp only [AEx.to, Exit.inBlock]
    split
    · rename_i hj
      rw [if_pos hj] at this
      exact this
    · rename_i hj
      rw [if_neg hj] at this
      exact this

/-- What comes behind is passed over. -/
theorem Tri.seq_out {x y : ACode} {s s2 : St} {ex : AEx} (hex : ex ≠ .normal) (h : Tri P tbl N x s ex s2) : Tri P tbl N (.seq x y) s ex s2 := by
  intro c hc K θ a w Q hr hQ
  obtain ⟨cx, cy, rfl, hcx, hcy⟩ := cCode_seq hc
  refine wp_seq ?_
  refine h cx hcx K θ a w _ hr fun θ' a' w' h1 h2 h3 => ?_
  have := hQ θ' a' w' h1 h2 h3
  cases ex with
  | normal => exact absurd rfl hex
  | exit id => exact this
  | ret => exact this

/-- One known call. -/
def pt (f : FuncId) (args : List AVal) (H : Heap) (v : AVal) (H' : Heap) : CallF := by
  classical
  exact fun g bs h => if g = f ∧ bs = args ∧ h = H then some (v, H') else none

theorem pt_ok {f : FuncId} {args : List AVal} {H H' : Heap} {v : AVal} (h1 : FnOk P f) (h2 : H.nx ≤ H'.nx) (h3 : CallsA P f args H v H') : CallOk P (pt f args H v H') := by
  intro g bs h v' h' hh
  unfold pt at hh
  split at hh <;> simp only [Option.some.injEq, reduceCtorEq, Prod.mk.injEq] at hh
  rename_i hc
  obtain ⟨rfl, rfl, rfl⟩ := hc
  obtain ⟨rfl, rfl⟩ := hh
  exact ⟨h1, h2, h3⟩

theorem pt_at (f : FuncId) (args : List AVal) (H : Heap) (v : AVal) (H' : Heap) : pt f args H v H' f args H = some (v, H') := by simp [pt]

theorem no_ok : CallOk P (fun _ _ _ => none) := fun f args H v H' h => nomatch h

end

end
end AM
end Go.Proofs.YtlgbgbngdhhjaaaGreatDoor
