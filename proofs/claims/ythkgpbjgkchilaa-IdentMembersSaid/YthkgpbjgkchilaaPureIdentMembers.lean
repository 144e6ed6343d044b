/- The pure law IdentMembers. Conditions: none. -/
import Derived.Test.YthkgpbjgkchilaaPd
